/-
  Parts of the proof, merged by a program of the prover's own; no condition.
-/
import Derived.Test.YtfkhfkjcidamaaaGreatDoorKMC2
import Derived.Deep.Draws
import Derived.KernelRfl
import Derived.Laws.RangeString
import Derived.Lib.IndexMore
import Derived.Lib.ItoaNum
import Derived.Lib.Join
import Derived.Lib.LaidTab
import Derived.Lib.LaidU8
import Derived.Lib.LastIndexLaws
import Derived.Lib.RuneCount
import Derived.Lib.TrailingZeros
import Derived.Lib.ValidU
import Derived.Sort.Grow
import Derived.Test.YtfkhfkjcidamaaaGreatDoorProg
open List renaming length->a8,getD->b9,flatten->c9,replicate->j0,isEmpty->j8,getD_eq_getElem?_getD->o0,drop_of_length_le->o5,isPrefixOf->o7,map->o9,getElem?_eq_getElem->p5,drop_zero->v7,all->w6,getD_cons_zero->w8,length_singleton->x5,isPrefixOf_iff_prefix->x7,take->x9,length_append->y7,take_of_length_le->aa0,drop_append_of_le_length->aa2,set->aa3,isSuffixOf->aa5,length_map->aa6,length_pos_iff->aa7,count_eq_zero->aa9,cons_append->ab2,getElem_mem->ab3,length_cons->ab4,prefix_iff_eq_take->ab5,suffix_iff_eq_drop->ab6,dropLast_eq_take->ac1,mem_of_mem_drop->ac5,drop->ac7,getD_cons_succ->ac9,mem_cons->ad0,count_cons->ae7,length_nil->ae8,map_append->ae9
open Int renaming toNat->b8,toNat_natCast->j4,eq_ofNat_of_zero_le->k9,tmod->x4,tdiv->y9,natCast_mul->ae6
open Eq renaming trans->j1
open Option renaming isSome->j2,isSome_some->p4,getD_some->p9
open Go.Lib renaming decDigits->j5,cut->v8,index->x8,decDigits_one->ab0,decodeL->ac3,join->ac4,occAt->ad4,index_spec->af1
open Bool renaming not_true->j6,not_false->j7,and_eq_true->w9,false_eq_true->aa8,eq_iff_iff->ab9,and_true->af5
open UInt8 renaming ofNat->j9,le_iff_toNat_le->aa1,toNat->ah9
open Go.IntKind renaming wrap->o6,bits->p6,signed->z7
open Nat renaming mod_eq_of_lt->o8,ble->p7,pow_succ->y5,le_refl->aa4,beq->ab1,le_mul_of_pos_right->ab7,le_trans->ab8,min_eq_left->ac0,one_mul->ac6,lt_of_le_of_lt->ad1,lt_of_lt_of_le->ad2,or_lt_two_pow->ad3,pow_pos->ae5,div_le_self->af0,mul_le_mul->af2,add_comm->ah2,blt->ah3,mul_comm->ah4,zero_add->ah5
open BitVec renaming ofInt->x3,ofInt_natCast->ac2
open Option.some renaming injEq->x6
open Go.Fn renaming func->y8
open Go.Proofs.Tryz renaming f128->ac8,f112->ad5,f139->ad6,f153->ad7,f173->ad8,f177->ad9,f209->ae0,f215->ae1,f219->ae2,f250->ae3,f254->ae4,f65->af3,f97->af4,f111->af7,f116->af8,f127->af9,f130->ag0,f132->ag1,f167->ag2,f172->ag3,f200->ag4,f204->ag5,f205->ag6,f208->ag7,f210->ag8,f233->ag9,f240->ah0,f255->ah1,f76->ah8
open Prod.mk renaming injEq->af6
open BEq renaming comm->ah6
open Go.Fence renaming wide->ai0
namespace Go.Proofs.YtfkhfkjcidamaaaGreatDoor.E
set_option linter.all false
section
open Go
section
variable {Z R : Type} {C : Cfg} {L : F8} {Y : Yh Z} {c a b : Code} {Q : St Z} {k : Out -> St Z -> Option R} {id : Nat}
theorem A0{b:Bool}{x y d e:Option R}(f:x=d)(g:y=e):cond b x y=cond b d e:=by rw[f,g]
end
def Cs4{α:Type}(z:α)(f:Nat->α->α):Nat->α
 | 0=>z
 | n+1=>f n (Cs4 z f n)
def A2{b:Type}:List (Nat × b)->Nat->Option b
 | [],_=>none
 | (a,l)::r,n=>cond (ab1 n a) (some l) (A2 r n)
def bds(n:Nat):List PV:=j0 n .bad
def tps(n:Nat):List PV:=j0 n (.tup [])
def gp:List (Nat × PV)->Nat->List PV
 | [],n=>bds n
 | (m,v)::r,n=>bds m++v::gp r n
abbrev LL:=List (List SV)
abbrev By:=List UInt8
def A1(n:Int):Int:=o6 .i64 n
def Dw8(n:Int):Int:=o6 .u64 n
def DD(n:Int):Int:=o6 .u32 n
def Dt(n:Int):Int:=o6 .u16 n
def wu8(n:Int):Int:=o6 .u8 n
def Ay4(k:IntKind)(a b:Int):Int:=k.wrap (x3 k.bits a &&& x3 k.bits b).toNat
def bOr(k:IntKind)(a b:Int):Int:=k.wrap (x3 k.bits a ||| x3 k.bits b).toNat
def Sf(k:IntKind)(a b:Int):Int:=k.wrap (a*2 ^ min b.toNat k.bits)
def Om(k:IntKind)(a b:Int):Int:=a.fdiv (2 ^ min b.toNat k.bits)
def inR(n:Int)(m:Nat):Bool:=decide (0<=n)&&decide (n<m)
def Lm:TI:=⟨true,false,[.int .i64]⟩
def Nq:TI:=⟨true,false,[.str]⟩
def okE(t:TI)(l:LL)(i o:Nat):Bool:=decide (i<l.length)&&okS t (l.getD i []) o
def gC(l:LL)(i j:Nat):SV:=(l.getD i []).getD j .nilp
def gE(l:LL)(i j:Nat):Int:=(gC l i j).gI
def gX(l:LL)(i j:Nat):By:=(gC l i j).gS
def bAt(s:By)(n:Int):Int:=((s.getD n.toNat 0).toNat:Int)
def I6(l h:Int)(n:Nat):Bool:=decide (0<=l)&&decide (l<=h)&&decide (h<=n)
def cut{a:Type}(s:List a)(l h:Int):List a:=(s.take h.toNat).drop l.toNat
def D43:Code->Bool | .rangeFunc _ _ _ _=>true|_=>false
def rgX:Code->Operand | .rangeFunc x _ _ _=>x|_=>.tmp 0
def rgP:Code->Array Tmp | .rangeFunc _ p _ _=>p|_=>#[]
theorem WY:∀(p:List Nat),cd p .skip = .skip
 | []=>rfl
 | 0::_=>rfl
 | 1::_=>rfl
 | (_+2)::_=>rfl
theorem Gv:∀(p q:List Nat) (c:Code),cd (p++q) c=cd q (cd p c)
 | [],q,c=>rfl
 | i::p,q,c=>by
  rw[ab2]
  match i,c with
  | 0,.seq a b=>exact Gv p q a
  | 1,.seq a b=>exact Gv p q b
  | 0,.cond _ a b=>exact Gv p q a
  | 1,.cond _ a b=>exact Gv p q b
  | 0,.block _ a=>exact Gv p q a
  | 0,.loop a=>exact Gv p q a
  | 0,.scope a=>exact Gv p q a
  | 0,.rangeFunc _ _ a b=>exact Gv p q a
  | 1,.rangeFunc _ _ a b=>exact Gv p q b
  | 0,.skip|0,.region _ _ _|0,.exit _|0,.label _|0,.goto _|0,.ret|0,.refuse _=>exact(WY q).symm
  | 1,.skip|1,.region _ _ _|1,.exit _|1,.scope _|1,.label _|1,.goto _|1,.ret|1,.refuse _|1,.block _ _|1,.loop _=>exact(WY q).symm
  | _+2,.skip|_+2,.region _ _ _|_+2,.exit _|_+2,.scope _|_+2,.label _|_+2,.goto _|_+2,.ret|_+2,.refuse _|_+2,.block _ _|_+2,.loop _|_+2,.seq _ _|_+2,.cond _ _ _|_+2,.rangeFunc _ _ _ _=>exact(WY q).symm
section
variable {Z R : Type} {C : Cfg} {L : F8} {Y : Yh Z} {B : Code} {Q : St Z} {k : Out -> St Z -> Option R}
theorem D13(p:List Nat)(h:D43 (cd p B)=true):A9 C L Y (cd p B) Q k=Uv C L (opnd C Q.sl (rgX (cd p B))) Q (λa=>Ka (rgP (cd p B)) a (bd C L Y (cd (p++[0]) B)) (bd C L Y (cd (p++[1]) B))) (λa=>Ax (rgP (cd p B)) a (bd C L Y (cd (p++[0]) B)) (bd C L Y (cd (p++[1]) B))) k:=by rw[Gv,Gv];cases b:cd p B<;>rw[b] at h<;>first|rfl|cases h
theorem A71{c:Bool}{x y:Option R}(h:x=y):need c x=cond c y none:=by rw[h];rfl
end
abbrev pS(l:List UInt8):PV:=.s (.str l)
abbrev pB(b:Bool):PV:=.s (.bool b)
abbrev pI(n:Int):PV:=.s (.int .i64 n)
abbrev p8(n:Int):PV:=.s (.int .u8 n)
abbrev p16(n:Int):PV:=.s (.int .u16 n)
abbrev p32(n:Int):PV:=.s (.int .u32 n)
abbrev p64(n:Int):PV:=.s (.int .u64 n)
abbrev vl{a b:Type}(e:a)(f:a->b):b:=f e
theorem A4{a R:Type}{e:a}{f g:a->Option R}(h:∀x,f x=g x):vl e f=vl e g:=h e
def E7(m n:Nat):Bool:=decide (m+n<4611686018427387904)
theorem fx1{A R:Type}{f g:A->R}(b:∀a,f a=g a):f=g:=funext b
theorem fx2{A B R:Type}{f g:A->B->R}(c:∀a b,f a b=g a b):f=g:=funext λa=>fx1 (c a)
theorem fx3{A B C R:Type}{f g:A->B->C->R}(d:∀a b c,f a b c=g a b c):f=g:=funext λa=>fx2 (d a)
theorem fx4{A B C D R:Type}{f g:A->B->C->D->R}(e:∀a b c d,f a b c d=g a b c d):f=g:=funext λa=>fx3 (e a)
theorem fx5{A B C D E R:Type}{f g:A->B->C->D->E->R}(h:∀a b c d e,f a b c d e=g a b c d e):f=g:=funext λa=>fx4 (h a)
theorem fx6{A B C D E H R:Type}{f g:A->B->C->D->E->H->R}(i:∀a b c d e h,f a b c d e h=g a b c d e h):f=g:=funext λa=>fx5 (i a)
theorem fx7{A B C D E H I R:Type}{f g:A->B->C->D->E->H->I->R}(j:∀a b c d e h i,f a b c d e h i=g a b c d e h i):f=g:=funext λa=>fx6 (j a)
theorem fx8{A B C D E H I J R:Type}{f g:A->B->C->D->E->H->I->J->R}(k:∀a b c d e h i j,f a b c d e h i j=g a b c d e h i j):f=g:=funext λa=>fx7 (k a)
theorem fx9{A B C D E H I J K R:Type}{f g:A->B->C->D->E->H->I->J->K->R}(l:∀a b c d e h i j k,f a b c d e h i j k=g a b c d e h i j k):f=g:=funext λa=>fx8 (l a)
theorem C90{A B C D E H I J K L R:Type}{f g:A->B->C->D->E->H->I->J->K->L->R}(m:∀a b c d e h i j k l,f a b c d e h i j k l=g a b c d e h i j k l):f=g:=funext λa=>fx9 (m a)
def D23{α a:Type}(z:α)(f:a->List a->α->α):List a->α
 | []=>z
 | x::xs=>f x xs (D23 z f xs)
def Sc(n:Nat):PV->PV
 | .s (.sl z t k a)=>if n=0 then .s (.sl z t k a) else if k=n then .s (.sl z t k a) else .s (.sl z t (cond z n k) a)
 | v=>v
def Po:List Nat->List PV->List PV
 | n::r,v::l=>Sc n v::Po r l
 | _,l=>l
def Dt0(a:List Nat):PV->PV
 | .agg l=>.agg (Po a l)
 | v=>Sc (a.headD 0) v
def B8:List (List Nat)->List PV->List PV
 | s::r,v::l=>Dt0 s v::B8 r l
 | _,l=>l
section
variable {L : Ctx} {sh : Nat -> Option Shp} {w : World}
theorem FP{n:Nat}{v:PV}{V:Value}(h:VP L sh w v V):VP L sh w (Sc n v) V:=by
 unfold Sc;split
 ·rename_i z t k a;split
  ·exact h
  ·split
   ·exact h
   ·cases z with
    | false=>exact h
    | true=>
     have b:=h.inv_s;cases b with
     | nil=>exact .s _ _ (.nil _ _)
 ·exact h
theorem Wt:∀(a:List Nat) (l:List PV),(Po a l).length=l.length
 | [],_=>rfl
 | _::_,[]=>rfl
 | n::r,v::l=>by simp[Po,Wt r l]
theorem KN:∀(a:List Nat) (l:List PV) (j:Nat) (h:j<l.length) (b:j<(Po a l).length),∃n,(Po a l)[j]=Sc n l[j]
 | [],l,j,h,b=>⟨0,by
  have e:Po [] l=l:=by cases l<;>rfl
  simp only[e];unfold Sc;split
  ·rename_i c;rw[c];simp
  ·rfl⟩
 | n::r,v::l,0,h,b=>⟨n,rfl⟩
 | n::r,v::l,j+1,h,b=>by
  obtain⟨m,e⟩:=KN r l j (by simpa using h) (by simpa[Po] using b);exact⟨m,by simpa[Po] using e⟩
theorem C86{b:List Nat}{v:PV}{V:Value}(h:VP L sh w v V):VP L sh w (Dt0 b v) V:=by
 unfold Dt0;split
 ·rename_i l;obtain⟨A,rfl,hA,f⟩:=h.inv_agg;refine VP.mk_agg (by rw[Wt];exact hA) λj c=>?_
  have a:j<l.length:=by rw[Wt] at c;exact c
  obtain⟨U,e,k⟩:=f j a;obtain⟨m,d⟩:=KN b l j a c;exact⟨U,e,by rw[d];exact FP k⟩
 ·exact FP h
theorem Ag6:∀(a:List (List Nat)) (l:List PV),(B8 a l).length=l.length
 | [],_=>rfl
 | _::_,[]=>rfl
 | n::r,v::l=>by simp[B8,Ag6 r l]
theorem C87:∀(a:List (List Nat)) (l:List PV) (V:Array Value),CR L sh w l V->CR L sh w (B8 a l) V:=by
 intro a l V h;refine⟨by rw[Ag6];exact h.1,?_⟩;have key:∀(a:List (List Nat)) (l:List PV) (b:Nat->Option Value),(∀j (h:j<l.length),∃U,b j=some U/\VP L sh w (l[j]) U)->∀j (h:j<(B8 a l).length),∃U,b j=some U/\VP L sh w ((B8 a l)[j]) U:=by
  intro a
  induction a with
  | nil=>intro l b d j c;exact d j (by cases l<;>exact c)
  | cons s r f=>
   intro l b d j c;cases l with
   | nil=>simp[B8] at c
   | cons v l=>
    cases j with
    | zero=>
     obtain⟨U,e,k⟩:=d 0 (by simp);exact⟨U,e,C86 k⟩
    | succ j=>
     have:=f l (λj=>b (j+1)) (λj h=>d (j+1) (by simpa using h)) j (by simpa[B8] using c);simpa[B8] using this
 exact key a l (λj=>V[j]?) h.2
end
theorem B3.fix{P:Program}{G:GT}{g:Nat}{pf:List PV->Tr}(szs:List (List Nat))(h:B3 P G g pf):B3 P G g (λargs=>pf (B8 szs args)):=
 λargs ret Hc hpf C hP hGe Γ w Vs hnm hH hG hc=>h (B8 szs args) ret Hc hpf C hP hGe Γ w Vs hnm hH hG (C87 szs args Vs hc)
theorem J3{v:PV}{H:List Blk}{ret:PV}{a:List Blk}(h:L9 (.ret v H)=some (ret,a)):ret=v/\a=H:=by simp only[L9,Ht,x6,af6] at h;grind
theorem C1{c:Bool}{t:Tr}{ret:PV}{a:List Blk}(h:L9 (.need c t)=some (ret,a)):c=true/\L9 t=some (ret,a):=by
 cases c with
 | true=>exact⟨rfl,h⟩
 | false=>cases h
theorem Cy9{c:Bool}{a b:Tr}{ret:PV}{d:List Blk}(h:L9 (.split c a b)=some (ret,d)):(c=true/\L9 a=some (ret,d))\/(c=false/\L9 b=some (ret,d)):=by
 cases c with
 | true=>exact .inl ⟨rfl,h⟩
 | false=>exact .inr ⟨rfl,h⟩
theorem Dp3:∃n:Nat,100000000000000000000<=n:=⟨_,aa4 _⟩
noncomputable def LF:Nat:=Classical.choose Dp3
theorem C2:100000000000000000000<=LF:=Classical.choose_spec Dp3
attribute [irreducible] LF
theorem B10(b:UInt8):Mg (E2 b)=b:=by simp[Mg,E2,SV.gI]
theorem Y0(l:List UInt8):(l.map E2).map Mg=l:=by
 rw[List.map_map];have:Mg ∘ E2=id:=by funext b;exact B10 b
 rw[this,List.map_id]
theorem B30(b:UInt8):Ol (E2 b)=true:=by have:=b.toNat_lt;simp only[Ol,E2,w9,decide_eq_true_eq];omega
theorem X3(l:List UInt8):(l.map E2).all Ol=true:=by rw[List.all_map];simp[Function.comp_def,B30]
theorem Dw7(n:Nat):o6 .u8 (n:Int)=((n % 256:Nat):Int):=by simp[o6,p6,z7]
theorem By1(n:Nat):o6 .u16 (n:Int)=((n % 65536:Nat):Int):=by simp[o6,p6,z7]
theorem Dl1(n:Nat):o6 .u32 (n:Int)=((n % 4294967296:Nat):Int):=by simp[o6,p6,z7]
theorem Dl2(n:Nat):o6 .u64 (n:Int)=((n % 18446744073709551616:Nat):Int):=by simp[o6,p6,z7]
theorem Dl0(n:Int)(a:-9223372036854775808<=n)(b:n<9223372036854775808):o6 .i64 n=n:=by simp[o6,p6,z7];split<;>omega
theorem Cm0(n m:Nat):Int.fdiv (n:Int) (m:Int)=((n / m:Nat):Int):=by rw[Int.fdiv_eq_ediv_of_nonneg _ (by omega)];rfl
theorem L8(n m:Nat):y9 (n:Int) (m:Int)=((n / m:Nat):Int):=by rw[Int.tdiv_eq_ediv_of_nonneg (by omega)];rfl
theorem Cl(n m:Nat):x4 (n:Int) (m:Int)=((n % m:Nat):Int):=by rw[Int.tmod_eq_emod_of_nonneg (by omega)];rfl
theorem Ds3(w a b:Nat)(c:a<2 ^ w)(d:b<2 ^ w):(x3 w (a:Int) ||| x3 w (b:Int)).toNat=a ||| b:=by simp[ac2,o8 c,o8 d]
theorem Dq4(w a b:Nat)(c:a<2 ^ w)(d:b<2 ^ w):(x3 w (a:Int) &&& x3 w (b:Int)).toNat=a &&& b:=by simp[ac2,o8 c,o8 d]
theorem Du0(a b i:Nat)(h:a<2 ^ i):a ||| (b*2 ^ i)=a+b*2 ^ i:=by rw[ah4 b,Nat.or_comm,ah2];exact(Nat.two_pow_add_eq_or_of_lt h b).symm
theorem Bk9(n:Nat):E2 (j9 n)=[SV.int .u8 ((n % 256:Nat):Int)]:=by simp[E2]
end
section
open Go Go.ChangeShapes Go.RowKit Go.Sort Go.WideShapes
theorem Ss{P:Program}{f:Nat}{fn:Func}{d:Array Value}{w:World}{R:Value->World->Prop}(m:P.funcs[f]? = some fn)(j:fn.body.isSome=true)(p:(fn.name == "runtime.NumGoroutine")=false)
  (h:Calls P f d w λe w'=>∃V,e = .returned V/\R V w'):T2 P ((callFunc f d).run P w) R:=by
 obtain⟨c,j⟩:=Option.isSome_iff_exists.1 j;intro q n o a next Q b
 have g:(callFunc f d).run P w = .ok (.enter f d) w:=by
  have k:¬ fn.name = "runtime.NumGoroutine":=by simpa using p
  simp[callFunc,m,j,k,Result.andThen]
 rw[g];simp only[Oper.uponIn_enter];refine⟨λh=>(by simp[I2,ai0] at h),?_⟩;have key:CallsIn ai0 (n-1) P f d w λe w'=>∃V,e = .returned V/\R V w':=callsIn_wide.2 h
 have i:CallsIn (I2 q) (n-1) P f d w λe w'=>∃V,e = .returned V/\R V w':=key
 refine i.mono ?_;rintro e w' ⟨V,rfl,l⟩;exact b V w' l
theorem Cl2{C:Cfg}{d:Ctx}{w w':World}{ret:PV}{V:Value}(a:∀b,d.nm b=none)(f:HR d [] w)(c:Below w.heap.size w w')(j:VP d (A5 []) w' ret V)(i:ret.nms=[]):Eb C I0 d [] w noΦ ret [] () V w':=by
 refine⟨d,noΦ,⟨c.os,c.tape,c.output,c.size,λ_ h=>h,λ_ h=>.inl h,λb g h=>(by rw[a] at h;cases h),λ_ h=>h.elim,λg e _ _=>c.block g e,rfl,aa4 _,λb h=>(by simp at h)⟩,
  ⟨λb k g h=>(by rw[a] at h;cases h),λb g h=>(by rw[a] at h;cases h),λg e=>ad2 (f.stlt g e) c.size,λb h=>(by simp at h),λb h=>(by simp at h)⟩,j,by rw[i];simp,λ_ h=>h,λb g h=>(by rw[a] at h;cases h)⟩
theorem Ph(w:World)(n:Nat):Below w.heap.size w (w.drewN n):=⟨rfl,rfl,rfl,aa4 _,λ_ _=>rfl⟩
theorem JI(w:World)(os:Array Obj):Below w.heap.size w (grow w os):=by refine⟨rfl,rfl,rfl,by simp[grow],λk a=>?_⟩;simp only[grow];grind
theorem Ay6(w:World)(s:ByteArray)(pos:Nat):Below w.heap.size w (w.iter s pos):=(Below.refl _ w).alloc (aa4 _) _
section
variable {Γ : Ctx} {sh : Nat -> Option Shp} {w : World}
theorem CR.arr1{a:PV}{A:Array Value}(h:CR Γ sh w [a] A):∃U,A = #[U]/\VP Γ sh w a U:=by obtain⟨U,e,k⟩:=h.2 0 (by simp);refine⟨U,?_,k⟩;have hs:A.size=1:=h.1;grind
theorem CR.arr2{a b:PV}{A:Array Value}(h:CR Γ sh w [a,b] A):∃U V,A = #[U,V]/\VP Γ sh w a U/\VP Γ sh w b V:=by obtain⟨U,e,k⟩:=h.2 0 (by simp);obtain⟨V,e',k'⟩:=h.2 1 (by simp);refine⟨U,V,?_,k,k'⟩;have hs:A.size=2:=h.1;grind
theorem CR.arr3{a b c:PV}{A:Array Value}(h:CR Γ sh w [a,b,c] A):∃U V W,A = #[U,V,W]/\VP Γ sh w a U/\VP Γ sh w b V/\VP Γ sh w c W:=by obtain⟨U,e,k⟩:=h.2 0 (by simp);obtain⟨V,e',k'⟩:=h.2 1 (by simp);obtain⟨W,e'',k''⟩:=h.2 2 (by simp);refine⟨U,V,W,?_,k,k',k''⟩;have hs:A.size=3:=h.1;grind
theorem VP.mk_str(l:List UInt8):VP Γ sh w (.s (.str l)) (.string ⟨l.toArray⟩):=by have:=VP.s (Γ:=Γ) (sh:=sh) (w:=w) _ _ (VS.str (St:=Γ.St) (w:=w) ⟨l.toArray⟩);omega
theorem VP.mk_int(k:IntKind)(n:Int):VP Γ sh w (.s (.int k n)) (.int k n):=.s _ _ (.int k n)
theorem VP.mk_bool(b:Bool):VP Γ sh w (.s (.bool b)) (.bool b):=.s _ _ (.bool b)
theorem VP.mk_tup3{a b c:PV}{U V W:Value}(h:VP Γ sh w a U)(k:VP Γ sh w b V)(l:VP Γ sh w c W):VP Γ sh w (.tup [a,b,c]) (.tuple #[U,V,W]):=
 VP.mk_tup rfl λj hj=>by grind
end
theorem G9{P:Program}{G:GT}{g:Nat}{fn:Func}{k:List PV->Tr}(q:P.funcs[g]? = some fn)(d:fn.body.isSome=true)(t:(fn.name == "runtime.NumGoroutine")=false)
  (h:∀args ret b,L9 (k args)=some (ret,b)->b=[]/\ret.nms=[]/\∀C:Cfg,C.P=P->C.G=G->∀a w c,GOK C a.St w->(∀g,a.St g->g<w.heap.size)->CR a (A5 []) w args c->
   Calls P g c w λe w'=>∃V,e = .returned V/\Below w.heap.size w w'/\VP a (A5 []) w' ret V):B3 P G g k:=by
 intro args ret b i C n m a w c f j r o;obtain⟨rfl,u,l⟩:=h args ret b i;exact Ss q d t ((l C n m a w c r j.stlt o).mono λe w' ⟨V,p,d,v⟩=>⟨V,p,Cl2 f j d v u⟩)
def PV.stab(szs:List Nat)(H:List Blk):PV->PV
 | .tup l=>.tup (Po szs (M3 H l))
 | v=>Sc (szs.headD 0) (v.snap H)
theorem VP.stab{Γ:Ctx}{H:List Blk}{w:World}(szs:List Nat)(hH:HR Γ H w){v:PV}{V:Value}(h:VP Γ (A5 H) w v V):VP Γ.all (A5 H) w (v.stab szs H) V:=by
 by_cases ht:∃l,v = .tup l
 ·obtain⟨l,rfl⟩:=ht;obtain⟨A,rfl,hA,hc⟩:=h.inv_tup;simp only[PV.stab];have hl:(Po szs (M3 H l)).length=l.length:=by rw[Wt,Ia,aa6]
  refine VP.mk_tup (by rw[hl];exact hA) λj hj=>?_
  obtain⟨U,e,k⟩:=hc j (by omega);refine⟨U,e,?_⟩;have hj':j<(M3 H l).length:=by rw[Ia,aa6];omega
  obtain⟨n,en⟩:=KN szs (M3 H l) j hj' hj;rw[en];have e2:(M3 H l)[j]=(l[j]'(by omega)).snap H:=by
   simp only[Ia,List.getElem_map]
  rw[e2];exact FP (k.snap hH)
 ·have e:v.stab szs H=Sc (szs.headD 0) (v.snap H):=by
   cases v with
   | tup l=>exact absurd ⟨l,rfl⟩ ht
   | _=>rfl
  rw[e];exact FP (h.snap hH)
theorem J2(n:List Nat){C₀:Cfg}{g:Nat}{pf:List PV->Tr}(M:XOK C₀)(K:Oo C₀)(P:C₀.P.follows .mixedOrders=true)
  (h:∀args ret p,L9 (pf args)=some (ret,p)->C6 args=[]/\p=[]/\ret.nms=[]/\∃d c k,evC C₀ d Unit noY g args [] ()=some (c,k,())/\c.stab n k=ret):B3 C₀.P C₀.G g pf:=by
 intro args ret p A C L t Γ w F z J I N;obtain⟨y,rfl,m,d,c,k,u,rfl⟩:=h args ret p A;have G:=Qq (C₀:=C₀) (g:=g) (pf:=λa=>match evC C₀ d Unit noY g a [] () with|some (r,H,_)=>cond (C6 a).isEmpty (.ret r H) .fail|none=>.fail) M K P (λa r H j=>by
  split at j
  ·rename_i S H' _ R;cases D:(C6 a).isEmpty with
   | true=>
    rw[D] at j;simp only[cond_true,L9,Ht,x6,af6] at j;grind
   | false=>rw[D] at j;cases j
  ·cases j)
 refine(G args c k (by dsimp only;rw[u];dsimp only;rw[y];rfl) C L t Γ w F z J I N).mono ?_;rintro V w' ⟨o,B,e,i,Q,hvn,v,O⟩;let Γ2:Ctx:={ o.all with nm:=λ_=>none }
 have x:∀g,Γ2.St g->g<w'.heap.size:=λg f=>by
  rcases f with f|⟨b,l⟩
  ·exact i.stlt g f
  ·exact(i.lt b g l).2.1
 refine⟨Γ2,B,⟨e.os,e.tape,e.output,e.size,λg f=>.inl (e.sub g f),λg f=>?_,λb g h=>by simp[Γ2] at h,e.foot,e.frame,e.yv,aa4 _,λb l=>by simp at l⟩,
  Lv (λ_=>rfl) x,?_,by rw[m];simp,v,λb g h=>by simp[Γ2] at h⟩
 ·rcases f with f|⟨b,l⟩
  ·exact e.stnew g f
  ·rcases e.own b g l with⟨q,_⟩|q
   ·simp at q
   ·exact .inr q
 ·exact VP.mono (Γ:=o.all) (Γ':=Γ2) (w:=w') (w':=w') (sh:=A5 k) (ok:=λ_=>False) ⟨λ_ _=>rfl,λ_ h=>h,λ_ h=>h.elim,λ_ h=>h.elim,λ_ _ h=>h.elim,rfl⟩ (Q.stab n i) (by rw[m];simp)
def Tr.Good(szs:List Nat)(args:List PV)(e:Option (PV × List Blk × Unit)):Tr->Prop
 | .ret v H=>C6 args=[]/\H=[]/\v.nms=[]/\∃r H0,e=some (r,H0,())/\r.stab szs H0=v
 | .need c t=>c=true->Good szs args e t
 | .split c a b=>(c=true->Good szs args e a)/\(c=false->Good szs args e b)
 | .fail=>True
theorem Tr.Good.res{szs:List Nat}{args:List PV}{e:Option (PV × List Blk × Unit)}{ret:PV}{Hc:List Blk}:∀{t:Tr},t.Good szs args e->L9 t=some (ret,Hc)->C6 args=[]/\Hc=[]/\ret.nms=[]/\∃r H0,e=some (r,H0,())/\r.stab szs H0=ret
 | .ret v H,h,hr=>by
  obtain⟨rfl,rfl⟩:=J3 hr;exact h
 | .need c t,h,hr=>by
  obtain⟨h0,hr⟩:=C1 hr;exact res (h h0) hr
 | .split c a b,h,hr=>by
  rcases Cy9 hr with⟨h0,hr⟩|⟨h0,hr⟩
  ·exact res (h.1 h0) hr
  ·exact res (h.2 h0) hr
theorem xf(b:List Nat)(a:Cfg){g:Nat}(d:List PV->Tr){e:List (List Nat)}{l:List (Nat × (List PV->Tr))}{c:List Nat}(m:a.X=As8 l)(q:M5 a.P a.G l)(o:a.okf=okL c)(k:A75 a c=true)(n:a.P.follows .mixedOrders=true)
  (h:∀args,(d args).Good b args (evC a 1 Unit noY g args [] ())) (i:a.Y=CY []:=by rfl) (j:a.S=CY []:=by rfl):B3 a.P a.G g (λargs=>d (B8 e args)):=
 B3.fix e (J2 b (M5.ok m q i j) (I9 o k) n λargs ret y p=>by
  obtain⟨t,u,v,r,f,w,x⟩:=(h args).res p;exact⟨t,u,v,1,r,f,w,x⟩)
end
section
open Go
def A47(n:Nat)(ret:PV)(H:List Blk):Bool:=ret.nms.all (ah3 · n)&&H.all λb=>b.nms.all (ah3 · n)
theorem Eb.head{C:Cfg}{Z:Type}{I:Z->(Nat->Prop)->(Nat->Prop)->World->Prop}{Γ:Ctx}{H Hc T:List Blk}{w w':World}{Φ:Nat->Prop}{s':Z}{ret:PV}{V:Value}
  (h:Eb C I Γ H w Φ ret (Hc++T) s' V w') (hl:H.length<=Hc.length) (hok:A47 Hc.length ret Hc=true):Eb C I Γ H w Φ ret Hc s' V w':=by
 obtain⟨Γ1,Φ1,hs,hH1,hv,hvn,hi1,hd1⟩:=h;simp only[A47,w9,List.all_eq_true,Nat.blt_eq] at hok;let Γ2:Ctx:={ Γ1 with nm:=λb=>if b<Hc.length then Γ1.nm b else none }
 have hnm:∀b g,Γ2.nm b=some g->b<Hc.length/\Γ1.nm b=some g:=λb g h=>by grind
 have get:∀b (h:b<Hc.length) (h':b<(Hc++T).length),(Hc++T)[b]=Hc[b]:=λb h h'=>List.getElem_append_left h
 have shp:∀b,b<Hc.length->A5 Hc b=A5 (Hc++T) b:=λb hb=>by
  simp only[A5];grind
 have M:Ah Γ1 (A5 (Hc++T)) w' Γ2 (A5 Hc) w' (· < Hc.length):=⟨λ_ _=>rfl,λ_ h=>h,λb hb=>by simp only[Γ2];rw[if_pos hb],λb hb=>shp b hb,λ_ _ _ _=>rfl,rfl⟩
 refine⟨Γ2,Φ1,⟨hs.os,hs.tape,hs.output,hs.size,hs.sub,hs.stnew,λb g h=>hs.own b g (hnm b g h).2,hs.foot,hs.frame,hs.yv,hl,λb hb hf=>?_⟩,
  ⟨λb b' g h1 h2=>hH1.inj b b' g (hnm b g h1).2 (hnm b' g h2).2,λb g h=>by have:=hH1.lt b g (hnm b g h).2;exact⟨(hnm b g h).1,this.2⟩,hH1.stlt,λb hb c hc=>hok.2 _ (ab3 hb) c hc,λb hb=>?_⟩,
  hv.mono M (λb hb=>hok.1 b hb),λc hc=>hok.1 c hc,hi1,λb g h=>hd1 b g (hnm b g h).2⟩
 ·obtain⟨m1,m2,m3⟩:=hs.keep b hb hf;have hb2:b<Hc.length:=ad2 hb hl;exact⟨by simp only[Γ2];rw[if_pos hb2];exact m1,by rw[shp b hb2];exact m2,m3⟩
 ·have hb':b<(Hc++T).length:=by rw[y7];omega
  have:=hH1.blk b hb';rw[get b hb hb'] at this;exact this.mono M (M.nm b hb) (λ_ _=>rfl) (λc hc=>hok.2 _ (ab3 hb) c hc)
theorem Fy{C₀:Cfg}{g:Nat}{m:List PV->List Blk->Tr}(v:XOK C₀)(t:Oo C₀)(D:C₀.P.follows .mixedOrders=true)
  (h:∀args H ret a,L9 (m args H)=some (ret,a)->p7 H.length a.length=true/\A47 a.length ret a=true/\∀(Z:Type) (e:Yh Z) (s:Z),∃d b,evC C₀ d Z e g args H s=some (ret,b,s)/\b.take a.length=a):DG C₀.P C₀.G g m:=by
 intro C u p Z I e R r L args H s ret a i S T w n j q z A y x F;obtain⟨B,f,o⟩:=h args H ret a i;obtain⟨d,b,c,K⟩:=o Z e s;rw[<-List.take_append_drop a.length b,K] at c;refine(Kp v t D d Z I e R r L g args H s ret (a++b.drop a.length) s c S T w n j q (z.congr p.symm) A y x F).mono ?_;rintro V w' G;obtain⟨k,l,J,M,N,O,P,Q⟩:=G.head (Nat.le_of_ble_eq_true B) f;exact⟨k,l,J.congr u.symm,M,N,O,P,Q⟩
def Gp:List Int:=(List.range 32).map λi=>((if i % 2=0 then Lib.accLo (i / 2) else Lib.accHi (i / 2):Nat):Int)
def GX:GT:=⟨λg=>cond (ab1 g 1) (some (.u8,Lib.firstTab)) (cond (ab1 g 2) (some (.u8,Gp)) (cond (ab1 g 3) (some (.u64,Lib.pow10Tab)) (cond (ab1 g 5) (some (.u8,Lib.deBruijn64tab.map λn:Nat=>(n:Int))) none))),λg=>ab1 g 0⟩
def D20:List (Nat × Nat × Nat × Nat)->Nat->Nat->Nat × Nat
 | [],_,_=>(0,0)
 | (t,j,e,k)::r,b,a=>cond (ab1 t b&&ab1 j a) (e,k) (D20 r b a)
def Dq7:List (Nat × Nat)->Nat->Option Nat
 | [],_=>none
 | (a,b)::r,i=>cond (ab1 a i) (some b) (Dq7 r i)
noncomputable def B5(g:Nat)(f:List Nat)(d:Nat->Option (List Nat))(X:List (Nat × (List PV->Tr)))(b:Nat->Option (List Nat):=λ_=>none)(h:List Nat:=[])(a:Nat->Option (List Nat):=λ_=>none)(c:Option (List Nat):=none)(Y:List (Nat × (List PV->List Blk->Tr)):=[])(S:List (Nat × (List PV->List Blk->Option (Bool × List (List PV)))):=[])(e:List Nat:=[])(nt:List (Nat × Nat × Nat × Nat):=[])(rw:List (Nat × Nat):=[]):Cfg:=
 { P:=Tryz.prog,G:=GX,X:=As8 X,lend:=okL e,okf:=okL f,lf:=g,keep:=d,keepR:=b,xp:=okL h,keepE:=a,keepT:=c,Y:=CY Y,S:=CY S,nilT:=D20 nt,rowR:=Dq7 rw }
theorem follows:Tryz.prog.follows .mixedOrders=true:=by kernel_rfl
theorem B90{n:Nat}:F9 n=true↔n<=68719476736:=by simp[F9]
theorem F4{n:Nat}(h:n<=68719476736):F9 n=true:=B90.2 h
theorem B7{a b:Int}(h:a<b):ltI a b=true:=by rw[Mq];simpa using h
theorem E4{a b:Int}(h:b<=a):ltI a b=false:=by rw[Mq];simpa using h
theorem Mr{a b:Int}:ltI a b=true↔a<b:=by rw[Mq];simp
theorem Kv{a b:Int}:ltI a b=false↔b<=a:=by rw[Mq];simp
theorem C8{n:Int}(a:-9223372036854775808<=n)(b:n<9223372036854775808):A1 n=n:=Dl0 n a b
theorem Aa9{n:Int}(a:0<=n)(b:n<18446744073709551616):Dw8 n=n:=by obtain⟨m,rfl⟩:=k9 a;unfold Dw8;rw[Dl2,o8 (by omega)]
theorem By3{n:Int}(a:0<=n)(b:n<4294967296):DD n=n:=by obtain⟨m,rfl⟩:=k9 a;unfold DD;rw[Dl1,o8 (by omega)]
theorem By2{n:Int}(a:0<=n)(b:n<65536):Dt n=n:=by obtain⟨m,rfl⟩:=k9 a;unfold Dt;rw[By1,o8 (by omega)]
theorem Ab0{n:Int}(a:0<=n)(b:n<256):wu8 n=n:=by obtain⟨m,rfl⟩:=k9 a;unfold wu8;rw[Dw7,o8 (by omega)]
theorem A8{a b:Int}(h:a<b:=by omega):ltI a b=true:=B7 h
theorem A6{a b:Int}(h:b<=a:=by omega):ltI a b=false:=E4 h
theorem A7{n:Int}(h:-9223372036854775808<=n:=by omega)(g:n<9223372036854775808:=by omega):A1 n=n:=C8 h g
theorem Nw{n:Int}(h:0<=n:=by omega)(g:n<4294967296:=by omega):DD n=n:=By3 h g
theorem Kg{n:Int}(h:0<=n:=by omega)(g:n<65536:=by omega):Dt n=n:=By2 h g
theorem M4{n:Int}(h:0<=n:=by omega)(g:n<256:=by omega):wu8 n=n:=Ab0 h g
theorem T5{d:Sort _}{c:Prop}[Decidable c]{a b:d}(h:c:=by omega):(if c then a else b)=a:=if_pos h
theorem G3{d:Sort _}{c:Prop}[Decidable c]{a b:d}(h:¬c:=by omega):(if c then a else b)=b:=if_neg h
theorem Au0(n:Nat):Dt (n:Int)=((n % 65536:Nat):Int):=By1 n
theorem Rx(k:IntKind)(a m:Nat)(h:m<=k.bits):Om k (a:Int) (m:Int)=((a / 2 ^ m:Nat):Int):=by
 unfold Om;rw[j4,ac0 h];have:(2:Int) ^ m=((2 ^ m:Nat):Int):=by simp
 rw[this,Cm0]
theorem Cz6{n:Nat}(h:n<256):[SV.int .u8 (n:Int)]=E2 (j9 n):=by rw[Bk9,o8 h]
theorem Af{l h:Int}{n:Nat}(a:0<=l)(b:l<=h)(c:h<=n):I6 l h n=true:=by simp[I6,a,b,c]
theorem K3{i:Int}{n:Nat}(a:0<=i)(b:i<n):inR i n=true:=by simp[inR,a,b]
theorem I1{l h:Int}{n:Nat}(a:0<=l:=by omega)(b:l<=h:=by omega)(c:h<=n:=by omega):I6 l h n=true:=Af a b c
theorem E9{i:Int}{n:Nat}(a:0<=i:=by omega)(b:i<n:=by omega):inR i n=true:=K3 a b
end
section
open Go Go.Proofs
def GE(r:Option (PV × List Blk × Unit)):Bool:=match r with
 | some (.s (.bool true),_,_)=>true
 | _=>false
theorem YY{r:Option (PV × List Blk × Unit)}(h:GE r=true):∃H,r=some (.s (.bool true),H,()):=by
 unfold GE at h;split at h
 ·exact⟨_,rfl⟩
 ·cases h
theorem Bn2{C₀:Cfg}{g d:Nat}(f:XOK C₀)(c:Oo C₀)(i:C₀.P.follows .mixedOrders=true)(h:GE (evC C₀ d Unit noY g [] [] ())=true):B3 C₀.P C₀.G g (λargs=>match args with|[]=>.ret (.s (.bool true)) []|_=>.fail):=
 Ab5 f c i λargs ret j b=>by
  cases args with
  | nil=>
   obtain⟨rfl,rfl⟩:=J3 b;obtain⟨H,e⟩:=YY h;exact⟨rfl,rfl,rfl,d,_,H,e,rfl⟩
  | cons a r=>cases b
theorem Bq7{P:Program}{t:Nat}{v:PV}{f:Ty}(h:Si P t v)(e:Ep P 20 t=some [f])(i:Nz P t=false):∃x,v = .s x/\f.of x:=by
 obtain⟨j,l,b,c,a⟩:=h;rw[e] at b;simp only[x6] at b;subst b;rcases a with⟨a,_⟩|⟨_,x,rfl,rfl⟩
 ·rw[i] at a;cases a
 ·simp only[Ty.ofL] at c;obtain⟨v,q,d,g,rfl⟩:=c;simp only[List.cons.injEq,and_true] at d;subst d;exact⟨_,rfl,g⟩
theorem C62{P:Program}{t:Nat}{v:PV}{k:IntKind}(h:Si P t v)(e:Ep P 20 t=some [.int k])(c:Nz P t=false):∃n,v = .s (.int k n)/\k.min<=n/\n<=k.max:=by obtain⟨x,rfl,n,rfl,a,b⟩:=Bq7 h e c;exact⟨n,rfl,a,b⟩
theorem Cj1{P:Program}{t:Nat}{v:PV}(h:Si P t v)(e:Ep P 20 t=some [.bool])(a:Nz P t=false):∃b,v = .s (.bool b):=by obtain⟨x,rfl,b,rfl⟩:=Bq7 h e a;exact⟨b,rfl⟩
end
section
open Go
def D1(l:List By):LL:=l.map λs=>[SV.str s]
def D2(l:List Nat):LL:=l.map λn=>[SV.int .u16 (Int.ofNat n)]
def P9(c:UInt8):By->By->List By
 | a,[]=>[a]
 | a,b::r=>if b=c then a::P9 c [] r else P9 c (a++[b]) r
def pcs(c:UInt8)(s:By):List By:=P9 c [] s
theorem Jk(c:UInt8):∀(s a:By),(P9 c a s).length=s.count c+1
 | [],a=>rfl
 | b::r,a=>by
  simp only[P9,ae7];by_cases h:b=c
  ·simp[h,Jk c r]
  ·simp[h,Jk c r]
theorem Za(c:UInt8):∀(s a:By),c∉s->P9 c a s=[a++s]
 | [],a,_=>by simp[P9]
 | b::r,a,h=>by
  simp only[ad0,not_or] at h;simp only[P9];rw[if_neg (λe=>h.1 e.symm),Za c r _ h.2];simp
theorem EW(c:UInt8):∀(p a s:By),c∉p->P9 c a (p++c::s)=(a++p)::P9 c [] s
 | [],a,s,_=>by simp[P9]
 | b::r,a,s,h=>by
  simp only[ad0,not_or] at h;simp only[ab2,P9];rw[if_neg (λe=>h.1 e.symm),EW c r _ s h.2];simp
theorem Bj6(c:UInt8)(s a:By):P9 c a s≠[]:=by intro h;have:=Jk c s a;rw[h] at this;simp at this
theorem Qh(c:UInt8):∀(s a:By),c∉a->∀x∈P9 c a s,c∉x/\x.length<=a.length+s.length
 | [],a,h,x,d=>by
  simp only[P9,List.mem_singleton] at d;subst d;exact⟨h,by simp⟩
 | b::r,a,h,x,d=>by
  simp only[P9] at d;split at d
  ·rcases ad0.1 d with rfl|d
   ·exact⟨h,by simp⟩
   ·have:=Qh c r [] (by simp) x d;refine⟨this.1,?_⟩;have:=this.2;simp at this ⊢;omega
  ·rename_i e;have:=Qh c r (a++[b]) (by simp[h,Ne.symm e]) x d;refine⟨this.1,?_⟩;have:=this.2;simp at this ⊢;omega
def Ce(b:UInt8):UInt8:=if 65<=b/\b<=90 then b+32 else b
def B9(s:By):By:=s.map Ce
def dig(b:UInt8):Nat:=
 if 48<=b.toNat/\b.toNat<=57 then b.toNat-48 else if 97<=b.toNat/\b.toNat<=102 then b.toNat-87 else if 65<=b.toNat/\b.toNat<=70 then b.toNat-55 else 99
def Co:Nat:=1099511627776
def F1(base:Nat):Nat->By->Option Nat
 | n,[]=>some n
 | n,b::r=>if dig b<base then F1 base (min (n*base+dig b) Co) r else none
def Cc(s:By):Bool:=s.getD 0 0==48&&(s.getD 1 0==120||s.getD 1 0==88)
def An(s:By):Option Nat:=
 if s=[] then none else if Cc s then F1 16 0 (s.drop 2) else if 1<s.length/\s.getD 0 0=48 then F1 8 0 (s.drop 1) else F1 10 0 s
def D0(s:By):List By:=if 1<(pcs 46 s).length/\(pcs 46 s).getLastD []=[] then (pcs 46 s).dropLast else pcs 46 s
def Ku(s:By):By:=(D0 s).getLastD []
def G4(s:By):Bool:=if Cc (Ku s) then (F1 16 0 ((Ku s).drop 2)).isSome else !(Ku s).isEmpty&&(F1 10 0 (Ku s)).isSome
def Xv(free:Nat):Nat->List By->Option Nat
 | _,[]=>none
 | v,p::r=>match An p with
  | none=>none
  | some n=>match r with
   | []=>if n<2 ^ free then some (v*2 ^ free+n) else none
   | r=>if n<=255 then Xv free (v*256+n) r else none
def pnB(s:By):Option Nat:=if 4<(D0 s).length then none else Xv (8*(5-(D0 s).length)) 0 (D0 s)
def oct(s:By):Option Nat:=match F1 10 0 s with
 | some n=>if n<=255/\j5 n=s then some n else none
 | none=>none
def LW:Nat->List By->Option Nat
 | v,[]=>some v
 | v,p::r=>match oct p with
  | some n=>LW (v*256+n) r
  | none=>none
def v4B(s:By):Option Nat:=if (pcs 46 s).length=4 then LW 0 (pcs 46 s) else none
def Ii(v:Nat):By:=j5 (v / 16777216)++46::(j5 (v / 65536 % 256)++46::(j5 (v / 256 % 256)++46::j5 (v % 256)))
def Hf:Nat->By->Option Nat
 | n,[]=>some n
 | n,b::r=>if dig b<16 then Hf (n*16+dig b) r else none
def grp(s:By):Option Nat:=if s=[]\/4<s.length then none else Hf 0 s
def Eg(last:Bool):List By->Option (List Nat)
 | []=>some []
 | x::r=>match grp x with
  | some v=>(Eg last r).map (v::·)
  | none=>match v4B x with
   | some v=>if last=true/\r=[] then some [v / 65536,v % 65536] else none
   | none=>none
def Q1(s:By)(last:Bool):Option (List Nat):=if s=[] then some [] else Eg last (pcs 58 s)
def v6B(s:By):Option (List Nat):=
 match Q1 (v8 s [58,58]).1 (!(v8 s [58,58]).2.2),Q1 (v8 s [58,58]).2.1 true with
 | some x,some y=>if (v8 s [58,58]).2.2 then (if x.length+y.length<=7 then some (x++j0 (8-x.length-y.length) 0++y) else none)
   else if x.length+y.length=8 then some (x++y) else none
 | _,_=>none
def Qe(l:List Nat):Nat:=(l.takeWhile (· == 0)).length
def zGo:List Nat->Nat->Nat->Nat->Nat × Nat
 | [],_,z,m=>(z,m)
 | x::r,i,z,m=>if m<Qe (x::r) then zGo r (i+1) i (Qe (x::r)) else zGo r (i+1) z m
def Sd(n:Nat):UInt8:=if n<10 then j9 (48+n) else j9 (87+n)
def S7(v:Nat):By:=if h:v<16 then [Sd v] else S7 (v / 16)++[Sd (v % 16)]
 termination_by v
 decreasing_by omega
def T9(l:List Nat):By:=ac4 (l.map S7) [58]
def Oi(a:List Nat):By:=if (zGo a 0 0 0).2<2 then T9 a else T9 (a.take (zGo a 0 0 0).1)++58::58::T9 (a.drop ((zGo a 0 0 0).1+(zGo a 0 0 0).2))
def V3(n:Nat):Bool:=p7 n 1114111&&(ah3 n 55296||ah3 57343 n)
def AQ(d k:Nat):Nat:=if h:455<d then AQ (d / 35) (k+36) else k+36*d / (d+38)
 termination_by d
 decreasing_by omega
def Q4(delta count:Nat)(first:Bool):Nat:=
 let d:=if first then delta / 700 else delta / 2
 AQ (d+d / count) 0
def thr(k a:Nat):Nat:=max 1 (min 26 (36*(k+1)-a))
theorem V8(k a:Nat):1<=thr k a/\thr k a<=26:=by unfold thr;omega
def Am(d:Nat):UInt8:=if d<26 then j9 (97+d) else j9 (22+d)
def Oj(b:UInt8):Option Nat:=
 if 97<=b.toNat/\b.toNat<=122 then some (b.toNat-97) else if 65<=b.toNat/\b.toNat<=90 then some (b.toNat-65) else if 48<=b.toNat/\b.toNat<=57 then some (b.toNat-22) else none
def P5(q k a:Nat):By:=
 if h:q<thr k a then [Am q] else Am (thr k a+(q-thr k a) % (36-thr k a))::P5 ((q-thr k a) / (36-thr k a)) (k+1) a
 termination_by q
 decreasing_by
  have:=V8 k a;exact ad1 (af0 _ _) (by omega)
structure SE where
 delta:Nat
 bias:Nat
 done:Nat
 out:By
def I3(n a:Nat):List Nat->SE->SE
 | [],s=>s
 | p::r,s=>if p<n then I3 n a r { s with delta:=s.delta+1 }
  else if p=n then I3 n a r { delta:=0,bias:=Q4 s.delta (s.done+1) (s.done==a),done:=s.done+1,out:=s.out++P5 s.delta 0 s.bias }
  else I3 n a r s
def H8(n:Nat):List Nat->Nat->Nat
 | [],m=>m
 | p::r,m=>H8 n r (if n<=p then min m p else m)
def R1(b:List Nat)(a:Nat):Nat->Nat->SE->SE
 | 0,_,s=>s
 | f+1,n,s=>if s.done<b.length then
   let m:=H8 n b 1114112;let c:=I3 m a b { s with delta:=s.delta+(m-n)*(s.done+1) }
   R1 b a f (m+1) { c with delta:=c.delta+1 }
  else s
def I8(a:List Nat):By:=(a.filter (· < 128)).map j9
def Da(a:List Nat):By × Nat:=
 if 256<a.length then ([],3) else if !(a.all V3) then ([],2)
 else ((R1 a (I8 a).length 256 128 { delta:=0,bias:=72,done:=(I8 a).length,out:=if (I8 a).isEmpty then [] else I8 a++[45] }).out,0)
def D8(a:Nat):By->Nat->Nat->Nat->Nat × By × Nat
 | [],i,w,k=>(0,[],4)
 | b::r,i,w,k=>match Oj b with
  | none=>(0,[],4)
  | some x=>if Co<i+x*w then (0,[],19) else if x<thr k a then (i+x*w,r,0)
   else if Co<w*(36-thr k a) then (0,[],19) else D8 a r (i+x*w) (w*(36-thr k a)) (k+1)
theorem Rd(a:Nat):∀(s:By) (i w k:Nat),(D8 a s i w k).2.2=0->(D8 a s i w k).2.1.length<s.length
 | [],i,w,k,h=>by simp[D8] at h
 | b::r,i,w,k,h=>by
  unfold D8 at h ⊢;cases d:Oj b with
  | none=>simp[d] at h
  | some x=>
   simp only[d] at h ⊢;split at h
   ·simp at h
   ·rename_i e;rw[if_neg e];split at h
    ·rename_i c;rw[if_pos c];simp
    ·rename_i c;rw[if_neg c];split at h
     ·simp at h
     ·rename_i f;rw[if_neg f];have:=Rd a r _ _ _ h;simp only[ab4];omega
def V2(l:List Nat)(i n:Nat):List Nat:=l.take i++n::l.drop i
def H7(s:By)(b:List Nat)(n i a:Nat)(first:Bool):List Nat × Nat:=
 if e:s=[] then (b,0) else
  let q:=D8 a s i 1 0
  if d:q.2.2=0 then
   let count:=b.length+1;let c:=n+q.1 / count
   if V3 c then (if 256<count then ([],3) else H7 q.2.1 (V2 b (q.1 % count) c) c (q.1 % count+1) (Q4 (q.1-i) count first) false)
   else ([],2)
  else ([],q.2.2)
 termination_by s.length
 decreasing_by exact Rd a s i 1 0 d
def G6:By->Nat
 | []=>0
 | b::r=>if 45∈r then G6 r+1 else 0
def N6(s:By):List Nat × Nat:=
 if 1024<s.length then ([],3) else if s.any (λb=>p7 128 b.toNat) then ([],4)
 else if 256<G6 s then ([],3)
 else H7 (if G6 s=0 then s else s.drop (G6 s+1)) ((s.take (G6 s)).map (·.toNat)) 128 0 72 true
def Z7:Nat->By->Option (List Nat)
 | 0,_=>some []
 | f+1,l=>if l=[] then some [] else if (ac3 l).1=65533/\(ac3 l).2=1 then none else (Z7 f (l.drop (ac3 l).2)).map ((ac3 l).1::·)
def Dk(s:By):Option (List Nat):=Z7 s.length s
def Dy(s:By):Bool:=
 (N6 s).2==0&&!((N6 s).1.any λp=>p7 65 p&&p7 p 90)&&((N6 s).1.any λp=>p7 128 p)&&(Da (N6 s).1).2==0&&(Da (N6 s).1).1==s
def U2(b:UInt8):Bool:=(p7 97 b.toNat&&p7 b.toNat 122)||(p7 48 b.toNat&&p7 b.toNat 57)||b==45||b==95
def xnB:By:=[120,110,45,45]
def L2(s:By):Bool:=
 !s.isEmpty&&p7 s.length 63&&s.getD 0 0 !=45&&s.getD (s.length-1) 0 !=45&&s.all U2&&(!(xnB.isPrefixOf s)||Dy (s.drop 4))
def J0(s:By):By × Nat:=match Dk s with
 | none=>([],4)
 | some p=>if 256<p.length then ([],3)
  else if p.length<s.length then (match Dk (B9 s) with
   | none=>([],14)
   | some q=>if (Da q).2=0 then (if L2 (xnB++(Da q).1) then (xnB++(Da q).1,0) else ([],14)) else ([],14))
  else if L2 (B9 s) then (B9 s,0) else ([],14)
def S6:By->Option By
 | []=>some []
 | b::r=>if b=37 then (match r with
   | x::y::a=>if dig x<16/\dig y<16 then (S6 a).map (j9 (16*dig x+dig y)::·) else none
   | _=>none)
  else (S6 r).map (b::·)
structure B4 where
 kind:Nat
 name:By
 v4:Nat
 v6:List Nat
 deriving DecidableEq
def z8:List Nat:=[0,0,0,0,0,0,0,0]
def L0:B4:=⟨0,[],0,z8⟩
def F7:List By->List By × Nat
 | []=>([],0)
 | x::r=>if (J0 x).2=0 then ((J0 x).1::(F7 r).1,(F7 r).2) else ([],(J0 x).2)
def I7(s:By):By:=if s.getLast? = some 46 then s.dropLast else s
def C9(s:By):B4 × Nat:=
 if 1024<s.length then (L0,3)
 else if s.head? = some 91 then (if s.getLast? = some 93/\2<=s.length then (match v6B ((s.take (s.length-1)).drop 1) with
   | some a=>(⟨3,[],0,a⟩,0)
   | none=>(L0,14)) else (L0,14))
 else match S6 s with
  | none=>(L0,14)
  | some t=>if G4 (I7 t) then (match pnB (I7 t) with
    | some v=>(⟨2,[],v,z8⟩,0)
    | none=>(L0,14))
   else if (F7 (pcs 46 (I7 t))).2=0 then (
    let name:=ac4 (F7 (pcs 46 (I7 t))).1 [46]
    if 253<name.length then (L0,3) else if G4 name then (L0,14) else (⟨1,name,0,z8⟩,0))
   else (L0,(F7 (pcs 46 (I7 t))).2)
def T7(s:By):Bool:=p7 s.length 253&&!(G4 s)&&(pcs 46 s).all L2
def M0(h:B4):Bool:=
 if h.kind=1 then T7 h.name&&h.v4==0&&h.v6==z8 else if h.kind=2 then h.name.isEmpty&&h.v6==z8 else if h.kind=3 then h.name.isEmpty&&h.v4==0 else false
def Bt(h:B4):By:=if M0 h then (if h.kind=1 then h.name else if h.kind=2 then Ii h.v4 else 91::(Oi h.v6++[93])) else []
def Fc(a b:By):Bool:=T7 a&&T7 b&&(a==b||(46::a).isSuffixOf b)
def A3(n:Nat):Bool:=decide (n<=1000000000)
theorem RO{n:Nat}:A3 n=true↔n<=1000000000:=by simp[A3]
def isS:List SV->Bool|[.str _]=>true|_=>false
def elS(a:List SV):By:=(a.getD 0 .nilp).gS
def N1(o:Option Nat):Nat:=o.getD 0
def u8n(c:Int):UInt8:=j9 c.toNat
def ZY(s p:By):By:=if p.isSuffixOf s then s.take (s.length-p.length) else s
def Gz(s p:By):By:=if p.isPrefixOf s then s.drop p.length else s
def ltN(v:Int)(n:Nat):Bool:=match v with
 | .ofNat m=>p7 (m+1) n
 | .negSucc _=>false
theorem E5{v:Int}{n:Nat}:ltN v n=true↔0<=v/\v<(n:Int):=by
 cases v with
 | ofNat m=>
  simp only[ltN,Nat.ble_eq,Int.ofNat_eq_natCast];omega
 | negSucc m=>
  refine⟨λh=>(by cases h),λh=>?_⟩;have:=Int.negSucc_lt_zero m;omega
def Io(b:Nat):List PV->Tr
 | [.s (.int .i64 n)]=>.need (ltN n b) (.ret (.s (.str (j5 (b8 n)))) [])
 | _=>.fail
def Lq(b:Nat)(args:List PV):Tr:=Io b (B8 [[0]] args)
def gvs(s:By)(last:Bool):List Nat:=(Q1 s last).getD []
def v6c(i:Nat)(s:By):Nat:=((v6B s).getD z8).getD i 0
def n8(a b c d e f g h:Int):List Nat:=[a.toNat,b.toNat,c.toNat,d.toNat,e.toNat,f.toNat,g.toNat,h.toNat]
def ok8(a b c d e f g h:Int):Bool:=[a,b,c,d,e,f,g,h].all λx=>ltN x 65536
def Xi:List SV->Bool|[.int .u16 n]=>ltN n 65536|_=>false
def elN(a:List SV):Nat:=(a.getD 0 .nilp).gI.toNat
def KF(s:By):Int:=x8 s [58,58]
def ptI(n:Int):Bool:=match n with | .ofNat m=>V3 m | .negSucc _=>false
def E3(b:UInt8):Int:=match Oj b with|some n=>n|none=>-1
def L1(k b:Int):Int:=max 1 (min 26 (k+36-b))
def Od:List SV->Bool|[.int .i64 _]=>true|_=>false
def elI(a:List SV):Int:=(a.getD 0 .nilp).gI
def W4(l:List Int):By × Nat:=if 256<l.length then ([],3) else if l.all ptI then Da (l.map b8) else ([],2)
def T8(b:Int):By->Int->Int->Int->Int × By × Int
 | [],i,w,k=>(4,[],i)
 | c::r,i,w,k=>if E3 c<0 then (4,c::r,i) else if 1099511627776<i+E3 c*w then (19,r,i+E3 c*w)
  else if E3 c<L1 k b then (0,r,i+E3 c*w) else if 1099511627776<w*(36-L1 k b) then (19,r,i+E3 c*w)
  else T8 b r (i+E3 c*w) (w*(36-L1 k b)) (k+36)
def LT(b:Int)(s:By)(i:Int):Int:=(T8 b s i 1 0).1
def LV(b:Int)(s:By)(i:Int):By:=(T8 b s i 1 0).2.1
def Ut(b:Int)(s:By)(i:Int):Int:=(T8 b s i 1 0).2.2
def Mm(l:List (List SV))(i:Nat)(n:Int):List (List SV):=l.take i++[SV.int .i64 n]::l.drop i
structure DS where
 rest:By
 n:Int
 i:Int
 b:Int
 st:Bool
 l:List (List SV)
def F3(s:DS):Int × DS:=
 if LT s.b s.rest s.i=0 then
  let c:Int:=s.l.length+1;let x:=Ut s.b s.rest s.i;let d:DS:={ rest:=LV s.b s.rest s.i,n:=s.n+y9 x c,i:=x4 x c,b:=Q4 (x-s.i).toNat c.toNat (!s.st),st:=true,l:=s.l }
  if ptI d.n then (if 256<c then (3,d) else (0,{ d with i:=d.i+1,l:=Mm s.l d.i.toNat d.n })) else (2,d)
 else (LT s.b s.rest s.i,{ s with rest:=LV s.b s.rest s.i,i:=Ut s.b s.rest s.i })
def L6(c:UInt8):By->Int
 | []=>-1
 | b::r=>if L6 c r<0 then (if b=c then 0 else -1) else L6 c r+1
def Mt(l:List Nat):List (List SV):=l.map λx:Nat=>[SV.int .i64 (x:Int)]
def Se(s:By):List Nat:=(Dk s).getD []
def Fe(b:UInt8):Int:=if dig b<16 then dig b else -1
def Fl(s:By):By:=(S6 s).getD []
def Q0(s:By):B4 × Nat:=if s.getLast? = some 93/\2<=s.length then (match v6B ((s.take (s.length-1)).drop 1) with
 | some a=>(⟨3,[],0,a⟩,0)
 | none=>(L0,14)) else (L0,14)
def mkH(b:Int)(c:By)(v4:Int)(a:List Nat):B4:=⟨if ltN b 4 then b.toNat else 0,c,v4.toNat,a⟩
def Bf(n:Int)(l:List By):Bool:=l.all λs=>!(ltI n (s.length:Int))
def Cn8(s:By):Bool:=([91]:By).isPrefixOf s
end
section
open Go Go.Proofs
set_option maxRecDepth 100000
section
def Sx:List PV->Tr
 | [.s (.str s),.s (.str p),.s (.int .i64 v),.s (.int .i64 n)]=>.need (A3 (a8 s)) (.need ((a8 p)==1) (.need (v==(0:Int)) (.need (n==((-1):Int)) (.ret (.vw 0 0 (a8 (pcs (b9 p 0 0) s))) [.arr false 9 1 (D1 (pcs (b9 p 0 0) s))]))))
 | _=>.fail
def Zr(args:List PV):Tr:=Sx (B8 [[0],[0],[0],[0]] args)
def Th:List PV->Tr
 | [.s (.str s),.s (.str p)]=>.need (A3 (a8 s)) (.need ((a8 p)==1) (.ret (.vw 0 0 (a8 (pcs (b9 p 0 0) s))) [.arr false 9 1 (D1 (pcs (b9 p 0 0) s))]))
 | _=>.fail
def OZ(args:List PV):Tr:=Th (B8 [[0],[0]] args)
def TJ:List PV->Tr
 | [.s (.str s),.s (.str p)]=>.need (A3 (a8 s)) (.ret (.s (.bool (o7 p s))) [])
 | _=>.fail
def TH(args:List PV):Tr:=TJ (B8 [[0],[0]] args)
def SY:List PV->Tr
 | [.s (.str s),.s (.str p)]=>.need (A3 (a8 s)) (.ret (.s (.bool (o7 p s))) [])
 | _=>.fail
def GV(args:List PV):Tr:=SY (B8 [[0],[0]] args)
def TM:List PV->Tr
 | [.s (.str s),.s (.str p)]=>.need (A3 (a8 s)) (.ret (.s (.bool (aa5 p s))) [])
 | _=>.fail
def Av9(args:List PV):Tr:=TM (B8 [[0],[0]] args)
def SZ:List PV->Tr
 | [.s (.str s),.s (.str p)]=>.need (A3 (a8 s)) (.ret (.s (.bool (aa5 p s))) [])
 | _=>.fail
def Cg5(args:List PV):Tr:=SZ (B8 [[0],[0]] args)
def HJ:List PV->Tr
 | [.s (.str s),.s (.str p)]=>.need (A3 (a8 s)) (.ret (.s (.str (ZY s p))) [])
 | _=>.fail
def Bo2(args:List PV):Tr:=HJ (B8 [[0],[0]] args)
def IV:List PV->Tr
 | [.s (.str s),.s (.str p)]=>.need (A3 (a8 s)) (.ret (.s (.str (ZY s p))) [])
 | _=>.fail
def Bq5(args:List PV):Tr:=IV (B8 [[0],[0]] args)
def HD:List PV->Tr
 | [.s (.str s),.s (.str p)]=>.need (A3 (a8 s)) (.ret (.tup [.s (.str (Gz s p)),.s (.bool (o7 p s))]) [])
 | _=>.fail
def Bn9(args:List PV):Tr:=HD (B8 [[0],[0]] args)
def SH:List PV->Tr
 | [.s (.str s),.s (.str p)]=>.need (A3 (a8 s)) (.ret (.tup [.s (.str (Gz s p)),.s (.bool (o7 p s))]) [])
 | _=>.fail
def Av2(args:List PV):Tr:=SH (B8 [[0],[0]] args)
def UT:List PV->Tr
 | [.s (.str s),.s (.str p)]=>.need (A3 (a8 s)) (.ret (.s (.int .i64 (x8 s p))) [])
 | _=>.fail
def IP(args:List PV):Tr:=UT (B8 [[0],[0]] args)
def UR:List PV->Tr
 | [.s (.str s),.s (.str p)]=>.need ((a8 p)==1) (.ret (.s (.int .i64 (↑(List.count (b9 p 0 0) s):Int))) [])
 | _=>.fail
def Ax1(args:List PV):Tr:=UR (B8 [[0],[0]] args)
def GP:List PV->Tr
 | [.s (.str s),.s (.int .i64 n)]=>.fail
 | _=>.fail
def Kh(args:List PV):Tr:=GP (B8 [[0],[0]] args)
def Zq:List PV->Tr
 | [.s (.str s),.s (.str p),.s (.int .i64 v),.s (.int .i64 n)]=>.need (A3 (a8 s)) (.need ((a8 p)==1) (.need (v==(0:Int)) (.need (n==((-1):Int)) (.ret (.s (.sl false false 1 (D1 (pcs (b9 p 0 0) s)))) []))))
 | _=>.fail
def Ac2(args:List PV):Tr:=Zq (B8 [[0],[0],[0],[0]] args)
def AK:List PV->Tr
 | [.s (.str s),.s (.str p)]=>.need (A3 (a8 s)) (.need ((a8 p)==1) (.ret (.s (.sl false false 1 (D1 (pcs (b9 p 0 0) s)))) []))
 | _=>.fail
def Wa(args:List PV):Tr:=AK (B8 [[0],[0]] args)
def TE:List PV->Tr
 | [.s (.int .i64 n)]=>.need (ltN n 4294967296) (.ret (.s (.str (j5 (b8 n)))) [])
 | _=>.fail
def Av7(args:List PV):Tr:=TE (B8 [[0]] args)
def TG:List PV->Tr
 | [.s (.str s)]=>.need (A3 (a8 s)) (.ret (.s (.str (B9 s))) [])
 | _=>.fail
def Av8(args:List PV):Tr:=TG (B8 [[0]] args)
def SW:List PV->Tr
 | [.s (.str s)]=>.need (A3 (a8 s)) (.ret (.s (.bool (Cc s))) [])
 | _=>.fail
def Av4(args:List PV):Tr:=SW (B8 [[0]] args)
def SL:List PV->Tr
 | [.s (.str s),.s (.int .i64 base)]=>.need (A3 (a8 s)) (.need (ltN base 17) (.ret (.tup [.s (.int .i64 (↑(N1 (F1 (b8 base) 0 s)):Int)),.s (.bool (j2 (F1 (b8 base) 0 s)))]) []))
 | _=>.fail
def SK(args:List PV):Tr:=SL (B8 [[0],[0]] args)
def Aw0:List PV->Tr
 | [.s (.str s)]=>.need (A3 (a8 s)) (.ret (.tup [.s (.int .i64 (↑(N1 (An s)):Int)),.s (.bool (j2 (An s)))]) [])
 | _=>.fail
def Cg8(args:List PV):Tr:=Aw0 (B8 [[0]] args)
def HN:List PV->Tr
 | [.s (.str s)]=>.need (A3 (a8 s)) (.ret (.s (.sl false false 1 (D1 (D0 s)))) [])
 | _=>.fail
def TR(args:List PV):Tr:=HN (B8 [[0]] args)
def Sy:List PV->Tr
 | [.s (.str s)]=>.need (A3 (a8 s)) (.ret (.s (.bool (G4 s))) [])
 | _=>.fail
def Qs(args:List PV):Tr:=Sy (B8 [[0]] args)
def TV:List PV->Tr
 | [.s (.str s)]=>.need (A3 (a8 s)) (.ret (.tup [.s (.int .u32 (↑(N1 (pnB s)):Int)),.s (.bool (j2 (pnB s)))]) [])
 | _=>.fail
def Ch0(args:List PV):Tr:=TV (B8 [[0]] args)
def Ax6:List PV->Tr
 | [.s (.str s)]=>.need (A3 (a8 s)) (.ret (.tup [.s (.int .u32 (↑(N1 (v4B s)):Int)),.s (.bool (j2 (v4B s)))]) [])
 | _=>.fail
def Dp6(args:List PV):Tr:=Ax6 (B8 [[0]] args)
def Ax5:List PV->Tr
 | [.s (.int .u32 v)]=>.need (ltN v 4294967296) (.ret (.s (.str (Ii (b8 v)))) [])
 | _=>.fail
def Dp5(args:List PV):Tr:=Ax5 (B8 [[0]] args)
def Sz:List PV->Tr
 | [.s (.str s)]=>.need (A3 (a8 s)) (.ret (.s (.bool ((not (j8 s))&&(j2 (F1 10 0 s))))) [])
 | _=>.fail
def OT(args:List PV):Tr:=Sz (B8 [[0]] args)
def UE:List PV->Tr
 | [.s (.str s)]=>.need (A3 (a8 s)) (.ret (.s (.str (B9 s))) [])
 | _=>.fail
def Aw7(args:List PV):Tr:=UE (B8 [[0]] args)
def AE:List PV->Tr
 | [.s (.str s),.s (.int .u8 c)]=>.need (A3 (a8 s)) (.need (inR c 256) (.ret (.s (.sl false false 1 (D1 (pcs (u8n c) s)))) []))
 | _=>.fail
def Ki(args:List PV):Tr:=AE (B8 [[0],[0]] args)
def Av3:List PV->Tr
 | [.s (.int .i64 n)]=>.need (ltN n 4294967296) (.ret (.s (.str (j5 (b8 n)))) [])
 | _=>.fail
def Zp(args:List PV):Tr:=Av3 (B8 [[0]] args)
def TZ:List PV->Tr
 | [.s (.int .u8 b)]=>.need (inR b 256) (.ret (.s (.int .i64 (↑(dig (u8n b)):Int))) [])
 | _=>.fail
def Ch2(args:List PV):Tr:=TZ (B8 [[0]] args)
def UH:List PV->Tr
 | [.s (.str s)]=>.need (A3 (a8 s)) (.ret (.tup [.s (.int .i64 (↑(N1 (An s)):Int)),.s (.bool (j2 (An s)))]) [])
 | _=>.fail
def Aw8(args:List PV):Tr:=UH (B8 [[0]] args)
def AC:List PV->Tr
 | [.s (.str s)]=>.need (A3 (a8 s)) (.ret (.s (.sl false false 1 (D1 (D0 s)))) [])
 | _=>.fail
def ID(args:List PV):Tr:=AC (B8 [[0]] args)
def Ow:List PV->Tr
 | [.s (.str s)]=>.need (A3 (a8 s)) (.ret (.s (.bool (G4 s))) [])
 | _=>.fail
def Td(args:List PV):Tr:=Ow (B8 [[0]] args)
def IF:List PV->Tr
 | [.s (.str s)]=>.need (A3 (a8 s)) (.ret (.tup [.s (.int .u32 (↑(N1 (pnB s)):Int)),.s (.bool (j2 (pnB s)))]) [])
 | _=>.fail
def Bp4(args:List PV):Tr:=IF (B8 [[0]] args)
def TY:List PV->Tr
 | [.s (.str s)]=>.need (A3 (a8 s)) (.ret (.tup [.s (.int .i64 (↑(N1 (oct s)):Int)),.s (.bool (j2 (oct s)))]) [])
 | _=>.fail
def Ch1(args:List PV):Tr:=TY (B8 [[0]] args)
def UN:List PV->Tr
 | [.s (.str s)]=>.need (A3 (a8 s)) (.ret (.tup [.s (.int .u32 (↑(N1 (v4B s)):Int)),.s (.bool (j2 (v4B s)))]) [])
 | _=>.fail
def Ch6(args:List PV):Tr:=UN (B8 [[0]] args)
def UM:List PV->Tr
 | [.s (.int .u32 v)]=>.need (ltN v 4294967296) (.ret (.s (.str (Ii (b8 v)))) [])
 | _=>.fail
def Ch5(args:List PV):Tr:=UM (B8 [[0]] args)
def SP:List PV->Tr
 | [.s (.str s)]=>.need (A3 (a8 s)) (.ret (.tup [.s (.int .u16 (↑(N1 (grp s)):Int)),.s (.bool (j2 (grp s)))]) [])
 | _=>.fail
def Cg1(args:List PV):Tr:=SP (B8 [[0]] args)
def GS:List PV->Tr
 | [.s (.str s),.s (.bool last)]=>.need (A3 (a8 s)) (.ret (.tup [.s (.sl (j8 (gvs s last)) (j8 (gvs s last)) 1 (D2 (gvs s last))),.s (.bool (j2 (Q1 s last)))]) [])
 | _=>.fail
def Bn6(args:List PV):Tr:=GS (B8 [[0],[0]] args)
def Ax9:List PV->Tr
 | [.s (.str s)]=>.need (A3 (a8 s)) (.ret (.tup [.agg [.s (.int .u16 (↑(v6c 0 s):Int)),.s (.int .u16 (↑(v6c 1 s):Int)),.s (.int .u16 (↑(v6c 2 s):Int)),.s (.int .u16 (↑(v6c 3 s):Int)),.s (.int .u16 (↑(v6c 4 s):Int)),.s (.int .u16 (↑(v6c 5 s):Int)),.s (.int .u16 (↑(v6c 6 s):Int)),.s (.int .u16 (↑(v6c 7 s):Int))],.s (.bool (j2 (v6B s)))]) [])
 | _=>.fail
def Dp9(args:List PV):Tr:=Ax9 (B8 [[0]] args)
def JA:List PV->Tr
 | [.agg [.s (.int .u16 a),.s (.int .u16 b),.s (.int .u16 c),.s (.int .u16 d),.s (.int .u16 e),.s (.int .u16 f),.s (.int .u16 g),.s (.int .u16 h)]]=>.need (ok8 a b c d e f g h) (.ret (.tup [.s (.int .i64 (↑((zGo (n8 a b c d e f g h) 0 0 0)).1:Int)),.s (.int .i64 (↑((zGo (n8 a b c d e f g h) 0 0 0)).2:Int))]) [])
 | _=>.fail
def Bq6(args:List PV):Tr:=JA (B8 [[0,0,0,0,0,0,0,0]] args)
def Ci1:List PV->Tr
 | [.s (.int .u64 x)]=>.need (x==(16:Int)) (.ret (.s (.int .i64 (4:Int))) [])
 | _=>.fail
def Dr5(args:List PV):Tr:=Ci1 (B8 [[0]] args)
def GY:List PV->Tr
 | [.s (.int .i64 x)]=>.need (x==(16:Int)) (.ret (.s (.bool true)) [])
 | _=>.fail
def TD(args:List PV):Tr:=GY (B8 [[0]] args)
def GQ:List PV->Tr
 | [.s (.sl c a 0 ds),.s (.int .u64 v),.s (.int .i64 b),.s (.bool neg),.s (.bool app)]=>.need (ltN v 65536) (.need (b==(16:Int)) (.need (not neg) (.need (not app) (.ret (.tup [.s (.sl true true 1 List.nil),.s (.str (S7 (b8 v)))]) []))))
 | _=>.fail
def SN(args:List PV):Tr:=GQ (B8 [[0],[0],[0],[0],[0]] args)
def GW:List PV->Tr
 | [.s (.int .u64 v),.s (.int .i64 b)]=>.need (ltN v 65536) (.need (b==(16:Int)) (.ret (.s (.str (S7 (b8 v)))) []))
 | _=>.fail
def TC(args:List PV):Tr:=GW (B8 [[0],[0]] args)
def SO:List PV->Tr
 | [.s (.int .u64 v),.s (.int .i64 b)]=>.need (ltN v 65536) (.need (b==(16:Int)) (.ret (.s (.str (S7 (b8 v)))) []))
 | _=>.fail
def Cg0(args:List PV):Tr:=SO (B8 [[0],[0]] args)
def IS:List PV->Tr
 | [.s (.sl b a 1 l),.s (.str p)]=>.need (w6 l isS) (.need (A3 (a8 (ac4 (o9 elS l) p))) (.need (A3 (a8 l)) (.ret (.s (.str (ac4 (o9 elS l) p))) [])))
 | _=>.fail
def UW(args:List PV):Tr:=IS (B8 [[1],[0]] args)
def US:List PV->Tr
 | [.s (.str s),.s (.str p)]=>.need (A3 (a8 s)) (.ret (.tup [.s (.str ((v8 s p)).1),.s (.str (((v8 s p)).2).1),.s (.bool (((v8 s p)).2).2)]) [])
 | _=>.fail
def Ax2(args:List PV):Tr:=US (B8 [[0],[0]] args)
def Ax8:List PV->Tr
 | [.s (.sl b a 1 l)]=>.need (w6 l Xi) (.need (p7 (a8 l) 8) (.ret (.s (.str (T9 (o9 elN l)))) []))
 | _=>.fail
def Dp8(args:List PV):Tr:=Ax8 (B8 [[1]] args)
def Ax7:List PV->Tr
 | [.agg [.s (.int .u16 a),.s (.int .u16 b),.s (.int .u16 c),.s (.int .u16 d),.s (.int .u16 e),.s (.int .u16 f),.s (.int .u16 g),.s (.int .u16 h)]]=>.need (ok8 a b c d e f g h) (.ret (.s (.str (Oi (n8 a b c d e f g h)))) [])
 | _=>.fail
def Dp7(args:List PV):Tr:=Ax7 (B8 [[0,0,0,0,0,0,0,0]] args)
def UB:List PV->Tr
 | [.s (.str s)]=>.need (A3 (a8 s)) (.ret (.tup [.s (.int .u16 (↑(N1 (grp s)):Int)),.s (.bool (j2 (grp s)))]) [])
 | _=>.fail
def Ch3(args:List PV):Tr:=UB (B8 [[0]] args)
def HU:List PV->Tr
 | [.s (.str s),.s (.bool last)]=>.need (A3 (a8 s)) (.ret (.tup [.s (.sl (j8 (gvs s last)) (j8 (gvs s last)) 1 (D2 (gvs s last))),.s (.bool (j2 (Q1 s last)))]) [])
 | _=>.fail
def Bo8(args:List PV):Tr:=HU (B8 [[0],[0]] args)
def Ta:List PV->Tr
 | [.s (.str s)]=>.need (A3 (a8 s)) (.ret (.s (.int .i64 (KF s))) [])
 | _=>.fail
def OU(args:List PV):Tr:=Ta (B8 [[0]] args)
def UP:List PV->Tr
 | [.s (.str s)]=>.need (A3 (a8 s)) (.ret (.tup [.agg [.s (.int .u16 (↑(v6c 0 s):Int)),.s (.int .u16 (↑(v6c 1 s):Int)),.s (.int .u16 (↑(v6c 2 s):Int)),.s (.int .u16 (↑(v6c 3 s):Int)),.s (.int .u16 (↑(v6c 4 s):Int)),.s (.int .u16 (↑(v6c 5 s):Int)),.s (.int .u16 (↑(v6c 6 s):Int)),.s (.int .u16 (↑(v6c 7 s):Int))],.s (.bool (j2 (v6B s)))]) [])
 | _=>.fail
def Ch8(args:List PV):Tr:=UP (B8 [[0]] args)
def HX:List PV->Tr
 | [.s (.int .u16 v)]=>.need (ltN v 65536) (.ret (.s (.str (S7 (b8 v)))) [])
 | _=>.fail
def Bp1(args:List PV):Tr:=HX (B8 [[0]] args)
def UO:List PV->Tr
 | [.agg [.s (.int .u16 a),.s (.int .u16 b),.s (.int .u16 c),.s (.int .u16 d),.s (.int .u16 e),.s (.int .u16 f),.s (.int .u16 g),.s (.int .u16 h)]]=>.need (ok8 a b c d e f g h) (.ret (.s (.str (Oi (n8 a b c d e f g h)))) [])
 | _=>.fail
def Ch7(args:List PV):Tr:=UO (B8 [[0,0,0,0,0,0,0,0]] args)
def Zy:List PV->Tr
 | [.s (.int .i64 n)]=>.ret (.s (.bool (ptI n))) []
 | _=>.fail
def Ov(args:List PV):Tr:=Zy (B8 [[0]] args)
def Zx:List PV->Tr
 | [.s (.int .i64 d),.s (.int .i64 c),.s (.bool f)]=>.need (ltN d 1152921504606846976) (.need (ltN c 1000000) (.need (ltI (0:Int) c) (.ret (.s (.int .i64 (↑(Q4 (b8 d) (b8 c) f):Int))) [])))
 | _=>.fail
def Ou(args:List PV):Tr:=Zx (B8 [[0],[0],[0]] args)
def TT:List PV->Tr
 | [.s (.int .i64 d)]=>.need (ltN d 36) (.ret (.s (.int .u8 (↑(ah9 (Am (b8 d))):Int))) [])
 | _=>.fail
def Aw1(args:List PV):Tr:=TT (B8 [[0]] args)
def TX:List PV->Tr
 | [.s (.int .u8 b)]=>.need (inR b 256) (.ret (.s (.int .i64 (E3 (u8n b)))) [])
 | _=>.fail
def Aw3(args:List PV):Tr:=TX (B8 [[0]] args)
def TW:List PV->Tr
 | [.s (.int .i64 b)]=>.ret (.fnr (y8 253) [] [.ptr 1 0 0,.ptr 0 0 0]) [.box [.s (.int .i64 b)],.box [.s (.int .i64 (0:Int))]]
 | _=>.fail
def HO(args:List PV):Tr:=TW (B8 [[0]] args)
def Qt:List PV->List Blk->Tr
 | [.ptr 0 0 0,.ptr 1 0 0],[.box [.s (.int .i64 k)],.box [.s (.int .i64 b)]]=>.need (ltN k 1000000000000) (.need (ltN b 1000000) (.ret (.s (.int .i64 (L1 k b))) [.box [.s (.int .i64 (Int.add k (36:Int)))],.box [.s (.int .i64 b)]]))
 | _,_=>.fail
def TQ:List PV->List Blk->Tr
 | [.fl 0,.s (.int .i64 q),.s (.int .i64 b)],[.arr z 5 1 l]=>.need (ltN q 1152921504606846976) (.need (ltN b 1000000) (.need (p7 (a8 l) 100000) (.ret (.fl 0) [.arr z 5 1 (List.append l (o9 E2 (P5 (b8 q) 0 (b8 b))))])))
 | _,_=>.fail
def TU:List PV->Tr
 | [.s (.sl b a 1 p)]=>.need (w6 p Od) (.ret (.tup [.s (.str ((W4 (o9 elI p))).1),.s (.int .i64 (↑((W4 (o9 elI p))).2:Int))]) [])
 | _=>.fail
def Aw2(args:List PV):Tr:=TU (B8 [[1]] args)
def UV:List PV->List Blk->Tr
 | [.fl 0,.s (.int .i64 i),.fl 1],[.arr z 3 1 l,.arr false 3 1 [[.int .i64 n]]]=>.need (ltN i (Nat.add (a8 l) 1)) (.need (p7 (a8 l) 100000) (.ret (.fl 0) [.arr z 3 1 (Mm l (b8 i) n),.arr false 3 1 [[.int .i64 n]]]))
 | _,_=>.fail
def SM:List PV->List Blk->Tr
 | [.ptr 0 0 0],[.box [.s (.str a),.fl 1,.s (.int .i64 n),.s (.int .i64 i),.s (.int .i64 b),.s (.bool c)],.arr z 3 1 l]=>.need (A3 (a8 a)) (.need (ltN b 1000000) (.need (ltN i 1099511627777) (.ret (.s (.int .i64 (LT b a i))) [.box [.s (.str (LV b a i)),.fl 1,.s (.int .i64 n),.s (.int .i64 (Ut b a i)),.s (.int .i64 b),.s (.bool c)],.arr z 3 1 l])))
 | _,_=>.fail
def FI:List PV->List Blk->Tr
 | [.ptr 0 0 0],[.box [.s (.str a),.fl 1,.s (.int .i64 n),.s (.int .i64 i),.s (.int .i64 b),.s (.bool c)],.arr z 3 1 l]=>.need (A3 (a8 a)) (.need (ltN b 1000000) (.need (ltN i 1099511627777) (.need (ltN n 1152921504606846976) (.need (p7 (a8 l) 100000) (.ret (.s (.int .i64 ((F3 (DS.mk a n i b c l))).1)) [.box [.s (.str (DS.rest ((F3 (DS.mk a n i b c l))).2)),.fl 1,.s (.int .i64 (DS.n ((F3 (DS.mk a n i b c l))).2)),.s (.int .i64 (DS.i ((F3 (DS.mk a n i b c l))).2)),.s (.int .i64 (DS.b ((F3 (DS.mk a n i b c l))).2)),.s (.bool (DS.st ((F3 (DS.mk a n i b c l))).2))],.arr z 3 1 (DS.l ((F3 (DS.mk a n i b c l))).2)])))))
 | _,_=>.fail
def Zt:List PV->Tr
 | [.s (.str s),.s (.int .u8 c)]=>.need (A3 (a8 s)) (.need (inR c 256) (.ret (.s (.int .i64 (L6 (u8n c) s))) []))
 | _=>.fail
def Ac4(args:List PV):Tr:=Zt (B8 [[0],[0]] args)
def HC:List PV->Tr
 | [.s (.str s),.s (.int .u8 c)]=>.need (A3 (a8 s)) (.need (inR c 256) (.ret (.s (.int .i64 (L6 (u8n c) s))) []))
 | _=>.fail
def FJ(args:List PV):Tr:=HC (B8 [[0],[0]] args)
def TS:List PV->Tr
 | [.s (.str s)]=>.need (A3 (a8 s)) (.ret (.tup [.s (.sl (j8 ((N6 s)).1) (j8 ((N6 s)).1) 1 (Mt ((N6 s)).1)),.s (.int .i64 (↑((N6 s)).2:Int))]) [])
 | _=>.fail
def Cg9(args:List PV):Tr:=TS (B8 [[0]] args)
def Ac0:List PV->Tr
 | [.s (.str t)]=>.fail
 | _=>.fail
def Vv(args:List PV):Tr:=Ac0 (B8 [[0]] args)
def HG:List PV->Tr
 | [.s (.str t),.s (.str p),.s (.int .i64 n)]=>.ret (.fnr (y8 177) [] [.ptr 1 0 0,.ptr 0 0 0,.ptr 2 0 0]) [.box [.s (.str t)],.box [.s (.str p)],.box [.s (.int .i64 n)]]
 | _=>.fail
def TL(args:List PV):Tr:=HG (B8 [[0],[0],[0]] args)
def UX:List PV->Tr
 | [.s (.str t),.s (.str p)]=>.ret (.fnr (y8 177) [] [.ptr 1 0 0,.ptr 0 0 0,.ptr 2 0 0]) [.box [.s (.str t)],.box [.s (.str p)],.box [.s (.int .i64 (0:Int))]]
 | _=>.fail
def Ax3(args:List PV):Tr:=UX (B8 [[0],[0]] args)
def FL:List PV->List Blk->Option (Bool × List (List PV))
 | [.yd,.ptr 0 0 0,.ptr 1 0 0,.ptr 2 0 0],[.box [.s (.str p)],.box [.s (.str t)],.box [.s (.int .i64 n)]]=>some (((A3 (a8 t))&&(((a8 p)==1)&&(n==(0:Int)))),o9 (λ(x:By)=>([.s (.str x)]:List PV)) (pcs (b9 p 0 0) t))
 | _,_=>none
def AD:List PV->Tr
 | [.s (.int .i64 n)]=>.ret (.s (.bool (ptI n))) []
 | _=>.fail
def Vw(args:List PV):Tr:=AD (B8 [[0]] args)
def Zz:List PV->Tr
 | [.s (.int .i64 d),.s (.int .i64 c),.s (.bool f)]=>.need (ltN d 1152921504606846976) (.need (ltN c 1000000) (.need (ltI (0:Int) c) (.ret (.s (.int .i64 (↑(Q4 (b8 d) (b8 c) f):Int))) [])))
 | _=>.fail
def HP(args:List PV):Tr:=Zz (B8 [[0],[0],[0]] args)
def UJ:List PV->Tr
 | [.s (.int .i64 k),.s (.int .i64 b)]=>.need (ltN k 10000000000) (.need (ltN b 1000000) (.ret (.s (.int .i64 (L1 (Int.mul (36:Int) k) b))) []))
 | _=>.fail
def Aw9(args:List PV):Tr:=UJ (B8 [[0],[0]] args)
def HT:List PV->Tr
 | [.s (.int .i64 d)]=>.need (ltN d 36) (.ret (.s (.int .u8 (↑(ah9 (Am (b8 d))):Int))) [])
 | _=>.fail
def Bo7(args:List PV):Tr:=HT (B8 [[0]] args)
def UQ:List PV->Tr
 | [.s (.int .u8 b)]=>.need (inR b 256) (.ret (.s (.int .i64 (E3 (u8n b)))) [])
 | _=>.fail
def Ch9(args:List PV):Tr:=UQ (B8 [[0]] args)
def UA:List PV->Tr
 | [.s (.sl b a 1 p)]=>.need (w6 p Od) (.ret (.tup [.s (.str ((W4 (o9 elI p))).1),.s (.int .i64 (↑((W4 (o9 elI p))).2:Int))]) [])
 | _=>.fail
def Aw4(args:List PV):Tr:=UA (B8 [[1]] args)
def IE:List PV->Tr
 | [.s (.str s)]=>.need (A3 (a8 s)) (.ret (.tup [.s (.sl (j8 ((N6 s)).1) (j8 ((N6 s)).1) 1 (Mt ((N6 s)).1)),.s (.int .i64 (↑((N6 s)).2:Int))]) [])
 | _=>.fail
def Bp3(args:List PV):Tr:=IE (B8 [[0]] args)
def HE:List PV->Tr
 | [.s (.str s)]=>.need (A3 (a8 s)) (.ret (.s (.bool (Dy s))) [])
 | _=>.fail
def Bo0(args:List PV):Tr:=HE (B8 [[0]] args)
def TO:List PV->Tr
 | [.s (.str s)]=>.need (A3 (a8 s)) (.ret (.s (.bool (L2 s))) [])
 | _=>.fail
def TN(args:List PV):Tr:=TO (B8 [[0]] args)
def AN:List PV->Tr
 | [.s (.str s)]=>.need (A3 (a8 s)) (.ret (.s (.bool (j2 (Dk s)))) [])
 | _=>.fail
def Ad2(args:List PV):Tr:=AN (B8 [[0]] args)
def AL:List PV->Tr
 | [.s (.str s)]=>.need (A3 (a8 s)) (.ret (.s (.int .i64 (↑(Lib.runeCountL s):Int))) [])
 | _=>.fail
def Ad0(args:List PV):Tr:=AL (B8 [[0]] args)
def TF:List PV->Tr
 | [.s (.str s)]=>.need (A3 (a8 s)) (.ret (.tup [.s (.str ((J0 s)).1),.s (.int .i64 (↑((J0 s)).2:Int))]) [])
 | _=>.fail
def Cg7(args:List PV):Tr:=TF (B8 [[0]] args)
def UI:List PV->Tr
 | [.s (.str s)]=>.need (A3 (a8 s)) (.ret (.tup [.s (.sl (j8 (Se s)) (j8 (Se s)) 1 (Mt (Se s))),.s (.bool (j2 (Dk s)))]) [])
 | _=>.fail
def Ch4(args:List PV):Tr:=UI (B8 [[0]] args)
def IG:List PV->Tr
 | [.s (.str s)]=>.need (A3 (a8 s)) (.ret (.s (.bool (Dy s))) [])
 | _=>.fail
def Bp5(args:List PV):Tr:=IG (B8 [[0]] args)
def IB:List PV->Tr
 | [.s (.str s)]=>.need (A3 (a8 s)) (.ret (.s (.bool (L2 s))) [])
 | _=>.fail
def UF(args:List PV):Tr:=IB (B8 [[0]] args)
def IA:List PV->Tr
 | [.s (.str s)]=>.need (A3 (a8 s)) (.ret (.tup [.s (.str ((J0 s)).1),.s (.int .i64 (↑((J0 s)).2:Int))]) [])
 | _=>.fail
def Bp2(args:List PV):Tr:=IA (B8 [[0]] args)
def SU:List PV->Tr
 | [.s (.int .u8 b)]=>.need (inR b 256) (.ret (.s (.int .i64 (Fe (u8n b)))) [])
 | _=>.fail
def Cg4(args:List PV):Tr:=SU (B8 [[0]] args)
def ST:List PV->Tr
 | [.s (.str s)]=>.need (A3 (a8 s)) (.ret (.tup [.s (.str (Fl s)),.s (.bool (j2 (S6 s)))]) [])
 | _=>.fail
def Cg3(args:List PV):Tr:=ST (B8 [[0]] args)
def GU:List PV->Tr
 | [.s (.str s)]=>.need (A3 (a8 s)) (.need (Cn8 s) (.ret (.tup [.agg [.s (.int .i64 (↑(B4.kind ((Q0 s)).1):Int)),.s (.str (B4.name ((Q0 s)).1)),.s (.int .u32 (↑(B4.v4 ((Q0 s)).1):Int)),.s (.int .u16 (↑(b9 (B4.v6 ((Q0 s)).1) 0 0):Int)),.s (.int .u16 (↑(b9 (B4.v6 ((Q0 s)).1) 1 0):Int)),.s (.int .u16 (↑(b9 (B4.v6 ((Q0 s)).1) 2 0):Int)),.s (.int .u16 (↑(b9 (B4.v6 ((Q0 s)).1) 3 0):Int)),.s (.int .u16 (↑(b9 (B4.v6 ((Q0 s)).1) 4 0):Int)),.s (.int .u16 (↑(b9 (B4.v6 ((Q0 s)).1) 5 0):Int)),.s (.int .u16 (↑(b9 (B4.v6 ((Q0 s)).1) 6 0):Int)),.s (.int .u16 (↑(b9 (B4.v6 ((Q0 s)).1) 7 0):Int))],.s (.int .i64 (↑((Q0 s)).2:Int))]) []))
 | _=>.fail
def Bn7(args:List PV):Tr:=GU (B8 [[0]] args)
def Zs:List PV->Tr
 | [.s (.str s)]=>.need (A3 (a8 s)) (.ret (.tup [.agg [.s (.int .i64 (↑(B4.kind ((C9 s)).1):Int)),.s (.str (B4.name ((C9 s)).1)),.s (.int .u32 (↑(B4.v4 ((C9 s)).1):Int)),.s (.int .u16 (↑(b9 (B4.v6 ((C9 s)).1) 0 0):Int)),.s (.int .u16 (↑(b9 (B4.v6 ((C9 s)).1) 1 0):Int)),.s (.int .u16 (↑(b9 (B4.v6 ((C9 s)).1) 2 0):Int)),.s (.int .u16 (↑(b9 (B4.v6 ((C9 s)).1) 3 0):Int)),.s (.int .u16 (↑(b9 (B4.v6 ((C9 s)).1) 4 0):Int)),.s (.int .u16 (↑(b9 (B4.v6 ((C9 s)).1) 5 0):Int)),.s (.int .u16 (↑(b9 (B4.v6 ((C9 s)).1) 6 0):Int)),.s (.int .u16 (↑(b9 (B4.v6 ((C9 s)).1) 7 0):Int))],.s (.int .i64 (↑((C9 s)).2:Int))]) [])
 | _=>.fail
def Ac3(args:List PV):Tr:=Zs (B8 [[0]] args)
def Av6:List PV->Tr
 | [.s (.str s)]=>.need (A3 (a8 s)) (.ret (.s (.bool (T7 s))) [])
 | _=>.fail
def Cg6(args:List PV):Tr:=Av6 (B8 [[0]] args)
def TB:List PV->Tr
 | [.agg [.s (.int .i64 j),.s (.str i),.s (.int .u32 v4),.s (.int .u16 a),.s (.int .u16 b),.s (.int .u16 c),.s (.int .u16 d),.s (.int .u16 e),.s (.int .u16 f),.s (.int .u16 g),.s (.int .u16 h)]]=>.need (A3 (a8 i)) (.need (ltN v4 4294967296) (.need (ok8 a b c d e f g h) (.ret (.s (.bool (M0 (mkH j i v4 (n8 a b c d e f g h))))) [])))
 | _=>.fail
def TA(args:List PV):Tr:=TB (B8 [[0,0,0,0,0,0,0,0,0,0,0]] args)
def SX:List PV->Tr
 | [.agg [.s (.int .i64 j),.s (.str i),.s (.int .u32 v4),.s (.int .u16 a),.s (.int .u16 b),.s (.int .u16 c),.s (.int .u16 d),.s (.int .u16 e),.s (.int .u16 f),.s (.int .u16 g),.s (.int .u16 h)]]=>.need (A3 (a8 i)) (.need (ltN v4 4294967296) (.need (ok8 a b c d e f g h) (.ret (.s (.str (Bt (mkH j i v4 (n8 a b c d e f g h))))) [])))
 | _=>.fail
def Av5(args:List PV):Tr:=SX (B8 [[0,0,0,0,0,0,0,0,0,0,0]] args)
def SQ:List PV->Tr
 | [.s (.str p),.s (.str s)]=>.need (A3 (a8 p)) (.need (A3 (a8 s)) (.ret (.s (.bool (Fc p s))) []))
 | _=>.fail
def Cg2(args:List PV):Tr:=SQ (B8 [[0],[0]] args)
def Aw6:List PV->Tr
 | [.s (.int .u8 b)]=>.need (inR b 256) (.ret (.s (.int .i64 (Fe (u8n b)))) [])
 | _=>.fail
def Dp4(args:List PV):Tr:=Aw6 (B8 [[0]] args)
def HW:List PV->Tr
 | [.s (.str s)]=>.need (A3 (a8 s)) (.ret (.tup [.s (.str (Fl s)),.s (.bool (j2 (S6 s)))]) [])
 | _=>.fail
def Bp0(args:List PV):Tr:=HW (B8 [[0]] args)
def Tc:List PV->Tr
 | [.s (.str s)]=>.need (A3 (a8 s)) (.ret (.tup [.agg [.s (.int .i64 (↑(B4.kind ((C9 s)).1):Int)),.s (.str (B4.name ((C9 s)).1)),.s (.int .u32 (↑(B4.v4 ((C9 s)).1):Int)),.s (.int .u16 (↑(b9 (B4.v6 ((C9 s)).1) 0 0):Int)),.s (.int .u16 (↑(b9 (B4.v6 ((C9 s)).1) 1 0):Int)),.s (.int .u16 (↑(b9 (B4.v6 ((C9 s)).1) 2 0):Int)),.s (.int .u16 (↑(b9 (B4.v6 ((C9 s)).1) 3 0):Int)),.s (.int .u16 (↑(b9 (B4.v6 ((C9 s)).1) 4 0):Int)),.s (.int .u16 (↑(b9 (B4.v6 ((C9 s)).1) 5 0):Int)),.s (.int .u16 (↑(b9 (B4.v6 ((C9 s)).1) 6 0):Int)),.s (.int .u16 (↑(b9 (B4.v6 ((C9 s)).1) 7 0):Int))],.s (.int .i64 (↑((C9 s)).2:Int))]) [])
 | _=>.fail
def OW(args:List PV):Tr:=Tc (B8 [[0]] args)
def UD:List PV->Tr
 | [.s (.str s)]=>.need (A3 (a8 s)) (.ret (.s (.bool (T7 s))) [])
 | _=>.fail
def Aw5(args:List PV):Tr:=UD (B8 [[0]] args)
def HZ:List PV->Tr
 | [.agg [.s (.int .i64 j),.s (.str i),.s (.int .u32 v4),.s (.int .u16 a),.s (.int .u16 b),.s (.int .u16 c),.s (.int .u16 d),.s (.int .u16 e),.s (.int .u16 f),.s (.int .u16 g),.s (.int .u16 h)]]=>.need (A3 (a8 i)) (.need (ltN v4 4294967296) (.need (ok8 a b c d e f g h) (.ret (.s (.bool (M0 (mkH j i v4 (n8 a b c d e f g h))))) [])))
 | _=>.fail
def FK(args:List PV):Tr:=HZ (B8 [[0,0,0,0,0,0,0,0,0,0,0]] args)
def HY:List PV->Tr
 | [.agg [.s (.int .i64 j),.s (.str i),.s (.int .u32 v4),.s (.int .u16 a),.s (.int .u16 b),.s (.int .u16 c),.s (.int .u16 d),.s (.int .u16 e),.s (.int .u16 f),.s (.int .u16 g),.s (.int .u16 h)]]=>.need (A3 (a8 i)) (.need (ltN v4 4294967296) (.need (ok8 a b c d e f g h) (.ret (.s (.str (Bt (mkH j i v4 (n8 a b c d e f g h))))) [])))
 | _=>.fail
def UC(args:List PV):Tr:=HY (B8 [[0,0,0,0,0,0,0,0,0,0,0]] args)
def HV:List PV->Tr
 | [.s (.str p),.s (.str s)]=>.need (A3 (a8 p)) (.need (A3 (a8 s)) (.ret (.s (.bool (Fc p s))) []))
 | _=>.fail
def Bo9(args:List PV):Tr:=HV (B8 [[0],[0]] args)
def Zu:List PV->Tr
 | [.s (.int .i64 n),.s (.sl b a 1 l)]=>.need (w6 l isS) (.need (A3 (a8 l)) (.ret (.s (.bool (Bf n (o9 elS l)))) []))
 | _=>.fail
def HA(args:List PV):Tr:=Zu (B8 [[0],[1]] args)
end
section
variable {Z R : Type} (Y : Nat) (W : F8) (Q : Yh Z) (s : Z) (k : Out -> St Z -> Option R)
noncomputable def WA(Y:Nat):Cfg:=B5 Y [140] (A2 []) [] (A2 [(1,[6]),(0,[3,0,0])]) [] (A2 []) (some [6]) [] [] []
noncomputable def Co7{R:Type}(Y:Nat)(d b:By)(a:Int)(c:By->By->Int->Option R):Option R:=c d b a
theorem Co8(d:Nat)(a sep1 sepSave2):evC (WA Y) (d+1) Z Q 140 [pS a,pS sep1,pI sepSave2] [] s=Co7 Y a sep1 sepSave2 (λa c b=>some (.fnr (y8 177) [] [.ptr 1 0 0,.ptr 0 0 0,.ptr 2 0 0],[.box [pS a],.box [pS c],.box [pI b]],s)):=by refine(evE (fn:=Tryz.f140) (by kernel_rfl)).trans ?_;generalize evC (WA Y) d=W;unfold Co7;kernel_rfl
noncomputable def A08(Y:Nat):Cfg:=B5 Y [103] (A2 []) [(140,TL)] (A2 [(1,[4]),(0,[0,0])]) [] (A2 []) (some [4]) [] [] []
noncomputable def Dv0{R:Type}(Y:Nat)(c a:By)(b:By->By->Option R):Option R:=b c a
theorem Di7(d:Nat)(a sep1):evC (A08 Y) (d+1) Z Q 103 [pS a,pS sep1] [] s=Dv0 Y a sep1 (λa b=>some (.fnr (y8 177) [] [.ptr 1 0 0,.ptr 0 0 0,.ptr 2 0 0],[.box [pS a],.box [pS b],.box [pI (0:Int)]],s)):=by refine(evE (fn:=Tryz.f103) (by kernel_rfl)).trans ?_;generalize evC (A08 Y) d=W;unfold Dv0;kernel_rfl
noncomputable abbrev PG:Code:=C3 af3
noncomputable def Pj(Y:Nat):Cfg:=B5 Y [65] (A2 []) [(102,Qs),(103,Ax3),(104,TN)] (A2 [(7,[2]),(6,[2]),(5,[2,13]),(4,[2,0]),(3,[2,9]),(2,[2]),(1,[0,1,7]),(0,[0,1])]) [102,104] (A2 [(0,[2]),(1,[2])]) (some [2]) [] [(177,FL)] []
noncomputable def FT{R:Type}(Y:Nat)(a:By)(xs:List By)(self:Unit->Option R)(c:Unit->Option R)(b:Unit->Option R):Option R:=cond (A3 a.length) (cond (not (L2 a)) (b ()) (self ())) none
noncomputable def KX{R:Type}(Y:Nat)(L:List By)(b:Unit->Option R)(c:Unit->Option R):Option R:=D23 (α:=Unit->Option R) (λ_=>b ()) (λa xs self _=>FT Y a xs self  b c) L ()
theorem Ah7{R:Type}(Y:Nat)(a:By)(xs:List By)(b:Unit->Option R)(c:Unit->Option R):KX Y (a::xs)  b c=FT Y a xs (λ_=>KX Y xs  b c)  b c:=rfl
theorem B25(L:List By):Ax #[13] (gp [(2,.ptr 0 0 0),(9,.fnr (y8 177) [] [.bad,.bad,.bad])] 4) (bd (Pj Y) W Q (cd [1,1,0,1,0,0] PG)) (bd (Pj Y) W Q (cd [1,1,0,1,0,1] PG)) (L.map (λ(a:By)=>([pS a]:List PV))) [.box [pB false],.dead,.dead,.dead] s (rgK (gp [(2,.ptr 0 0 0),(9,.fnr (y8 177) [] [.bad,.bad,.bad])] 4) (λH=>Be H [2,1,3] [.box [.bad],.box [.bad],.box [.bad]]) k) =
 KX Y L  (λ_=>k .normal ⟨gp [(2,.ptr 0 0 0),(9,.fnr (y8 177) [] [.bad,.bad,.bad])] 4,[.box [pB false],.box [.bad],.box [.bad],.box [.bad]],s⟩) (λ_=>k .ret ⟨gp [(2,.ptr 0 0 0),(9,.fnr (y8 177) [] [.bad,.bad,.bad])] 4,[.box [pB false],.box [.bad],.box [.bad],.box [.bad]],s⟩):=by
 induction L with
 | nil=>rfl
 | cons a xs b=>rw[Ah7];unfold FT;exact(j1 (by kernel_rfl) (A0 (A0 rfl b) rfl))
noncomputable def XI{R:Type}(Y:Nat)(a:By)(b:Unit->Option R)(c:Unit->Option R):Option R:=cond ((A3 a.length)&&((1==1)&&((0:Int)==0))) (KX Y (pcs (b9 ([46]:List UInt8) 0 0) a)  b c) none
abbrev Ah6(b:Code):Prop:=∀(k:Out->St Z->Option R) s0,A9 (Pj Y) W Q b ⟨gp [(2,.ptr 0 0 0),(9,.fnr (y8 177) [] [.ptr 2 0 0,.ptr 1 0 0,.ptr 3 0 0])] 4,[.box [pB false],.box [pS s0],.box [pS ([46]:List UInt8)],.box [pI (0:Int)]],s⟩ k=XI Y s0 (λ_=>k .normal ⟨gp [(2,.ptr 0 0 0),(9,.fnr (y8 177) [] [.bad,.bad,.bad])] 4,[.box [pB false],.box [.bad],.box [.bad],.box [.bad]],s⟩) (λ_=>k .ret ⟨gp [(2,.ptr 0 0 0),(9,.fnr (y8 177) [] [.bad,.bad,.bad])] 4,[.box [pB false],.box [.bad],.box [.bad],.box [.bad]],s⟩)
theorem B24:Ah6 (R:=R) Y W Q s (cd [1,1,0,1,0] PG):=by intro k a;unfold XI;exact((D13 [1,1,0,1,0] (by kernel_rfl)).trans (by kernel_rfl)).trans (A71 (B25 Y W Q s k (pcs (b9 ([46]:List UInt8) 0 0) a) ))
noncomputable def hvn{R:Type}(Y:Nat)(a:By)(b:Unit->Option R)(c:Bool->Bool->Option R):Option R:=cond (ltI 253 (a.length:Int)) (b ()) (cond (A3 a.length) (cond (G4 a) (b ()) (XI Y a (λ_=>c true true) (λ_=>c false false))) none)
theorem Dt1(a:Code)(c:Ah6 (R:=PV × List Blk × Z) Y W Q s a)(b:By):A9 (Pj Y) W Q (cd [] (G2 [1,1,0,1,0] a PG)) ⟨[pS b]++tps 16,[],s⟩ (F0 (Pj Y) af3)=hvn Y b (λ_=>some (pB false,[.box [pB false]],s)) (λe d=>some (pB e,[.box [pB d],.box [.bad],.box [.bad],.box [.bad]],s)):=by unfold hvn;exact(j1 (by kernel_rfl) (A0 rfl (A0 (A0 rfl ((c (E0 0 (D9 (Pj Y) W Q (cd [1,1,1] PG) (F0 (Pj Y) af3))) b).trans (by kernel_rfl))) rfl)))
theorem Dt2(d:Nat)(name0):evC (Pj Y) (d+1) Z Q 65 [pS name0] [] s=hvn Y name0 (λ_=>some (pB false,[.box [pB false]],s)) (λb a=>some (pB b,[.box [pB a],.box [.bad],.box [.bad],.box [.bad]],s)):=
 (evE (fn:=af3) (by kernel_rfl)).trans (j1 (by kernel_rfl) (Dt1 Y (evC (Pj Y) d) Q s (cd [1,1,0,1,0] PG) (B24 Y (evC (Pj Y) d) Q s) name0))
noncomputable abbrev We:Code:=C3 ad9
noncomputable def Ar(Y:Nat):Cfg:=B5 Y [177] (A2 [(5,[0,0,0,0]),(1,[0,1])]) [(178,Vv),(179,IP)] (A2 [(10,[]),(9,[0,0,0,0]),(8,[0,0,0,0,3,34]),(7,[0,0,0,0,3,0]),(6,[0,0,0,0,3,25]),(5,[0,0,0,0,3]),(4,[0,1]),(3,[0,1,3,18]),(2,[0,1,3]),(1,[0,1,11]),(0,[0,0,0,0,7])]) [179] (A2 [(2,[0,1]),(3,[0,0,0,0]),(0,[]),(1,[0,1])]) (some []) [] [] []
noncomputable def NE{Z R:Type}(Q:Yh Z)(Y n:Nat)(d a:By)(c:Int)(s:Z)(b:By->By->Int->Z->Option R):Option R:=match n with|0=>none|n+1=>cond (ltI 0 (a.length:Int)) none (b d a c s)
theorem As1(n:Nat)(b c:By)(a:Int)(s:Z):C7 3 ((Ar Y).keep 1) (bd (Ar Y) W Q (cd [0,1,0,0,0,0] We)) n ⟨gp [(0,.yd),(1,.ptr 1 0 0)] 49,[.box [pS b],.box [pS c],.box [pI a]],s⟩ k =
 NE Q Y n b c a s (λb c a s=>k (.exit 0) ⟨gp [] 52,[.box [pS b],.box [pS c],.box [pI a]],s⟩):=by
 induction n generalizing b c a s with
 | zero=>rfl
 | succ n d=>rw[NE];kernel_rfl
noncomputable def T6{Z R:Type}(Q:Yh Z)(Y n:Nat)(c a:By)(g:Int)(s:Z)(i:By->By->Int->Z->Option R)(j:By->By->Int->Z->Option R):Option R:=match n with
 | 0=>none
 | n+1=>
  cond (A3 a.length)
   (cond (ltI (x8 a c) (0:Int))
   (i c a g s)
   (vl (A1 ((x8 a c)+g)) λe=>
    cond (I6 0 e a.length)
    (ydK (Q [pS (cut a 0 e)] s) λd b=>
     (cond (not d)
     (j c a g b)
     (vl (A1 ((x8 a c)+(c.length:Int))) λf=>
      cond (I6 f (a.length:Int) a.length)
      (vl (cut a f (a.length:Int)) λh=>
       T6 Q Y n c h g b i j)
      none)))
    none))
   none
theorem As2(n:Nat)(b c:By)(a:Int)(s:Z):C7 3 ((Ar Y).keep 5) (bd (Ar Y) W Q (cd [1,0,0,0] We)) n ⟨gp [(0,.yd),(0,.ptr 0 0 0),(0,.ptr 1 0 0),(0,.ptr 2 0 0)] 48,[.box [pS b],.box [pS c],.box [pI a]],s⟩ k =
 T6 Q Y n b c a s (λb c a s=>k (.exit 2) ⟨gp [(0,.yd),(1,.ptr 1 0 0)] 49,[.box [pS b],.box [pS c],.box [pI a]],s⟩) (λb c a s=>k .ret ⟨gp [] 52,[.box [pS b],.box [pS c],.box [pI a]],s⟩):=by
 induction n generalizing b c a s with
 | zero=>rfl
 | succ n d=>rw[T6];simp only[<-d];kernel_rfl
noncomputable def As0{Z R:Type}(Q:Yh Z)(Y:Nat)(p t:By)(n:Int)(s:Z)(j:By->By->Int->Z->Option R):Option R:=
 cond ((p.length:Int)==0)
 (NE Q Y Y p t n s (λm o l q=>j m o l q))
 (T6 Q Y Y p t n s (λr a c e=>ydK (Q [pS a] e) λi b=>
  (j r a c b)) (λf g d h=>j f g d h))
theorem Cx7(d:Nat)(p t n s):evC (Ar Y) (d+1) Z Q 177 [.yd,.ptr 0 0 0,.ptr 1 0 0,.ptr 2 0 0] [.box [pS p],.box [pS t],.box [pI n]] s=As0 Q Y p t n s (λb c a s=>some (.tup [],[.box [pS b],.box [pS c],.box [pI a]],s)):=by refine(evE (fn:=ad9) (by kernel_rfl)).trans ?_;generalize evC (Ar Y) d=W;unfold As0;exact(j1 (by kernel_rfl) (A0 ((As1 Y W Q (E0 0 (D9 (Ar Y) W Q (cd [0,1,0,1] We) (D9 (Ar Y) W Q (cd [1] We) (F0 (Ar Y) ad9)))) Y p t n s).trans (by kernel_rfl)) ((As2 Y W Q (E0 2 (D9 (Ar Y) W Q (cd [1,1] We) (F0 (Ar Y) ad9))) Y p t n s).trans (by kernel_rfl))))
end
section
variable {Z R : Type} (L : Nat) (Q : F8) (Y : Yh Z) (s : Z) (k : Out -> St Z -> Option R)
noncomputable abbrev Cs:Code:=C3 ae4
noncomputable def Z9(L:Nat):Cfg:=B5 L [254] (A2 [(5,[0,1,0,0,10,0])]) [] (A2 [(16,[2,0]),(15,[0,3,10,0]),(10,[0,3,10,0]),(12,[0,3,10,0]),(14,[0,3,10,0]),(8,[2,0]),(13,[0,3,1,8,0,32]),(11,[0,3,1,8,0,18]),(9,[0,3,1,8,0,5]),(7,[0,3,1,8,0]),(6,[0,3,0,9,0]),(5,[0,3,10,0,0]),(4,[0,3,10,0]),(3,[0,3]),(2,[2,0]),(1,[0,12]),(0,[0])]) [] (A2 [(0,[4]),(1,[0,3,10,0]),(2,[0,3,10,0])]) (some [2,0]) [] [] []
noncomputable def Wx{R:Type}(i:By)(v1 c g h:Int)(d:Bool)(e:By->Int->Int->Int->Option R)(f:Unit->Option R):Option R:=cond d (vl (wu8 ((wu8 (c-65))+10)) λa=>vl (bOr .u16 (Sf .u16 v1 (4:Int)) (Dt a)) λb=>e i b g h) (f ())
abbrev QC(b:Code):Prop:=∀(k:Out->St Z->Option R) c v1 b2 a n4 b5,A9 (Z9 L) Q Y b ⟨gp [(0,pS c),(3,p16 v1),(1,p8 b2),(8,pI a),(0,pI n4),(32,pB b5)] 15,[],s⟩ k=Wx c v1 b2 a n4 b5 (λc v1 d a=>k .normal ⟨gp [(0,pS c),(3,p16 v1),(10,pI d),(0,pI a)] 48,[],s⟩) (λ_=>k .ret ⟨gp [(2,p16 (0:Int)),(0,pB false)] 61,[],s⟩)
theorem A34:QC (R:=R) L Q Y s (cd [1,1,1,0,1,0,0,1,1,0,0,1,1,0,1,1,1,1,1] Cs):=by intro k e v1 a c d b;unfold Wx;kernel_rfl
noncomputable def Wy{R:Type}(o:By)(v1 a l m:Int)(r:Bool)(f:By->Int->Int->Int->Option R)(q:Unit->Option R):Option R:=cond r (vl (wu8 ((wu8 (a-97))+10)) λg=>vl (bOr .u16 (Sf .u16 v1 (4:Int)) (Dt g)) λh=>f o h l m) (cond (not (ltI a 65)) (Wx o v1 a l m (not (ltI 70 a)) (λn p i j=>f n p i j) (λ_=>q ())) (Wx o v1 a l m false (λd e b c=>f d e b c) (λ_=>q ())))
abbrev BO(b:Code):Prop:=∀(k:Out->St Z->Option R) c v1 b2 a n4 b5,A9 (Z9 L) Q Y b ⟨gp [(0,pS c),(3,p16 v1),(1,p8 b2),(8,pI a),(0,pI n4),(18,pB b5)] 29,[],s⟩ k=Wy c v1 b2 a n4 b5 (λc v1 d a=>k .normal ⟨gp [(0,pS c),(3,p16 v1),(10,pI d),(0,pI a)] 48,[],s⟩) (λ_=>k .ret ⟨gp [(2,p16 (0:Int)),(0,pB false)] 61,[],s⟩)
theorem A35(a:Code)(b:QC (R:=R) L Q Y s a):BO (R:=R) L Q Y s (cd [1,1,1,0,1,0,0,1,1,0,0,1,1,0,1,1,1] (G2 [1,1,1,0,1,0,0,1,1,0,0,1,1,0,1,1,1,1,1] a Cs)):=by intro k g v1 c e f d;unfold Wy;simp only[<-b k];kernel_rfl
theorem A36:BO (R:=R) L Q Y s (cd [1,1,1,0,1,0,0,1,1,0,0,1,1,0,1,1,1] Cs):=by intro k e v1 a c d b;exact j1 (by kernel_rfl) (A35 L Q Y s (cd [1,1,1,0,1,0,0,1,1,0,0,1,1,0,1,1,1,1,1] Cs) (A34 L Q Y s) k e v1 a c d b)
noncomputable def Wz{R:Type}(p:By)(v1 a n o:Int)(r:Bool)(j:By->Int->Int->Int->Option R)(q:Unit->Option R):Option R:=cond r (vl (Dt (wu8 (a-48))) λl=>vl (bOr .u16 (Sf .u16 v1 (4:Int)) l) λm=>j p m n o) (cond (not (ltI a 97)) (Wy p v1 a n o (not (ltI 102 a)) (λf h b c=>j f h b c) (λ_=>q ())) (Wy p v1 a n o false (λg i d e=>j g i d e) (λ_=>q ())))
abbrev Rg(b:Code):Prop:=∀(k:Out->St Z->Option R) c v1 b2 a n4 b5,A9 (Z9 L) Q Y b ⟨gp [(0,pS c),(3,p16 v1),(1,p8 b2),(8,pI a),(0,pI n4),(5,pB b5)] 42,[],s⟩ k=Wz c v1 b2 a n4 b5 (λc v1 d a=>k .normal ⟨gp [(0,pS c),(3,p16 v1),(10,pI d),(0,pI a)] 48,[],s⟩) (λ_=>k .ret ⟨gp [(2,p16 (0:Int)),(0,pB false)] 61,[],s⟩)
theorem A37(a:Code)(b:BO (R:=R) L Q Y s a):Rg (R:=R) L Q Y s (cd [1,1,1,0,1,0,0,1,1,0,0,1,1,0,1] (G2 [1,1,1,0,1,0,0,1,1,0,0,1,1,0,1,1,1] a Cs)):=by intro k g v1 c e f d;unfold Wz;simp only[<-b k];kernel_rfl
theorem A38:Rg (R:=R) L Q Y s (cd [1,1,1,0,1,0,0,1,1,0,0,1,1,0,1] Cs):=by intro k e v1 a c d b;exact j1 (by kernel_rfl) (A37 L Q Y s (cd [1,1,1,0,1,0,0,1,1,0,0,1,1,0,1,1,1] Cs) (A36 L Q Y s) k e v1 a c d b)
noncomputable def Fg{R:Type}(L n:Nat)(b:By)(v1 q a:Int)(o:Unit->Option R)(p:Int->Option R):Option R:=match n with|0=>none|n+1=>cond (ltI a q) (cond (inR a b.length) (cond (not (ltI (bAt b a) (48:Int))) (Wz b v1 (bAt b a) q a (not (ltI 57 (bAt b a))) (λi l c d=>vl (A1 (d+1)) λe=>Fg L n i l c e o p) (λ_=>o ())) (Wz b v1 (bAt b a) q a false (λj m f g=>vl (A1 (g+1)) λh=>Fg L n j m f h o p) (λ_=>o ()))) none) (p v1)
theorem A39(a:Code)(b:Rg (R:=R) L Q Y s a)(n:Nat)(d:By)(v1 i c:Int):C7 0 ((Z9 L).keep 5) (bd (Z9 L) Q Y (cd [1,1,1,0,1,0,0] (G2 [1,1,1,0,1,0,0,1,1,0,0,1,1,0,1] a Cs))) n ⟨gp [(0,pS d),(3,p16 v1),(10,pI i),(0,pI c)] 48,[],s⟩ k =
 Fg L n d v1 i c (λ_=>k .ret ⟨gp [(2,p16 (0:Int)),(0,pB false)] 61,[],s⟩) (λv0=>k (.exit 0) ⟨gp [(4,p16 v0)] 60,[],s⟩):=by
 induction n generalizing d v1 i c with
 | zero=>rfl
 | succ n q=>rw[Fg];exact let p:=(E0 2 (E0 1 (D9 (Z9 L) Q Y (cd [1,1,1,0,1,0,0,1,1,1] Cs) (lpK 0 ((Z9 L).keep 5) (bd (Z9 L) Q Y (cd [1,1,1,0,1,0,0] (G2 [1,1,1,0,1,0,0,1,1,0,0,1,1,0,1] a Cs))) n k))));(j1 (by kernel_rfl) (A0 (A0 (A0 ((b p d v1 (bAt d c) i c (not (ltI 57 (bAt d c)))).trans (congr (congr rfl (fx4 λj m e r=>(j1 (by kernel_rfl) (A4 λf=>(q j m e f))))) (by kernel_rfl))) ((b p d v1 (bAt d c) i c false).trans (congr (congr rfl (fx4 λl o g t=>(j1 (by kernel_rfl) (A4 λh=>(q l o g h))))) (by kernel_rfl)))) rfl) rfl))
noncomputable def Cm6{R:Type}(L:Nat)(c:By)(b:Int->Bool->Option R):Option R:=cond (c==[]) (b 0 false) (cond (ltI 4 (c.length:Int)) (b 0 false) (Fg L L c 0 (c.length:Int) 0 (λ_=>b 0 false) (λa=>b a true)))
theorem C92(a:Code)(b:Rg (R:=PV × List Blk × Z) L Q Y s a)(c:By):A9 (Z9 L) Q Y (cd [] (G2 [1,1,1,0,1,0,0,1,1,0,0,1,1,0,1] a Cs)) ⟨[pS c]++tps 64,[],s⟩ (F0 (Z9 L) ae4)=Cm6 L c (λd e=>some (.tup [p16 d,pB e],[],s)):=by unfold Cm6;exact(j1 (by kernel_rfl) (A0 rfl (A0 rfl ((A39 L Q Y s (E0 0 (D9 (Z9 L) Q Y (cd [1,1,1,1] Cs) (F0 (Z9 L) ae4))) a b L c 0 (c.length:Int) 0).trans (by kernel_rfl)))))
theorem C93(d:Nat)(s0):evC (Z9 L) (d+1) Z Y 254 [pS s0] [] s=Cm6 L s0 (λa b=>some (.tup [p16 a,pB b],[],s)):=
 (evE (fn:=ae4) (by kernel_rfl)).trans (j1 (by kernel_rfl) (C92 L (evC (Z9 L) d) Y s (cd [1,1,1,0,1,0,0,1,1,0,0,1,1,0,1] Cs) (A38 L (evC (Z9 L) d) Y s) s0))
noncomputable abbrev Bq9:Code:=C3 ah0
noncomputable def Lw(L:Nat):Cfg:=B5 L [240] (A2 [(6,[1,2,0,0,0,10,0,0])]) [(176,Wa),(254,Cg1),(255,Dp6)] (A2 [(16,[4,0]),(15,[1,4,0,10,0,0]),(14,[6]),(13,[4,0]),(12,[6,5,39]),(11,[1,4,0,0,3,0]),(10,[1,4,0,10,0,0]),(9,[1,4,0,0,0,0,7,0,0,9]),(8,[1,4,0,0,0,0,0,6,0,0]),(7,[1,4,0,0,0,8,0,0]),(6,[1,4,0,10,0,0,0]),(5,[1,4,0,10,0,0]),(4,[1,4,0]),(3,[0,0,4]),(2,[4,0]),(1,[0,0,13]),(0,[0,0])]) [254,255] (A2 [(0,[6]),(1,[1,4,0,10,0,0])]) (some [4,0]) [] [] []
noncomputable def Eh{R:Type}(L n:Nat)(a:Bool)(c:LL)(l b:Int)(d:LL)(f:LL->Option R)(g:LL->Option R):Option R:=match n with|0=>none|n+1=>cond (ltI b l) (cond (inR b c.length) (cond (okE Nq c (b8 b) 0) (cond (A3 (a8 (gX c (b8 b) 0))) (vl (↑(N1 (grp (gX c (b8 b) 0))):Int) λh=>cond (j2 (grp (gX c (b8 b) 0))) (cond (F9 (d.length+1)) (Eh L n a c l (A1 (b+1)) (d++[[(SV.int .u16 h)]]) f g) none) (cond (A3 (a8 (gX c (b8 b) 0))) (vl (↑(N1 (v4B (gX c (b8 b) 0))):Int) λe=>cond (not (j2 (v4B (gX c (b8 b) 0)))) (f d) (cond (not a) (f d) (vl (A1 ((c.length:Int)-1)) λi=>cond (ltI b i) (f d) (vl (Om .u32 e (16:Int)) λj=>cond (F9 (d.length+2)) (g (d++[[(SV.int .u16 (Dt j))],[(SV.int .u16 (Dt e))]])) none)))) none)) none) none) none) (g d)
theorem Ah2(n last0 l1 n2 n3 l4):C7 1 ((Lw L).keep 6) (bd (Lw L) Q Y (cd [1,0,1,1,1,1,0,1,0,0] Bq9)) n ⟨gp [(1,pB last0),(4,.fl 0),(0,.s (.sl false false 1 l1)),(10,.s (.sl false false 1 l1)),(0,pI n2),(0,pI n3)] 42,[.arr true 25 1 l4],s⟩ k =
 Eh L n last0 l1 n2 n3 l4 (λa=>k .ret ⟨gp [(4,.fl 1),(0,pB false)] 57,[.arr true 25 1 a,.arr true 25 1 []],s⟩) (λa=>k (.exit 0) ⟨gp [(6,.fl 0)] 56,[.arr true 25 1 a],s⟩):=by
 induction n generalizing last0 l1 n2 n3 l4 with
 | zero=>rfl
 | succ n b=>rw[Eh];simp only[<-b];kernel_rfl
noncomputable def Bs6{R:Type}(L:Nat)(e:By)(a:Bool)(f:LL->Option R)(g:LL->Option R):Option R:=cond (e==[]) (f []) (cond (A3 e.length) (cond (1==1) (vl (D1 (pcs (b9 ([58]:List UInt8) 0 0) e)) λb=>Eh L L a b (b.length:Int) 0 [] (λd=>g d) (λc=>f c)) none) none)
theorem Cm7(d:Nat)(s0 last1):evC (Lw L) (d+1) Z Y 240 [pS s0,pB last1] [] s=Bs6 L s0 last1 (λb=>some (.tup [.fl 0,pB true],[.arr true 25 1 b],s)) (λb=>some (.tup [.fl 1,pB false],[.arr true 25 1 b,.arr true 25 1 []],s)):=by refine(evE (fn:=ah0) (by kernel_rfl)).trans ?_;generalize evC (Lw L) d=Q;unfold Bs6;exact(j1 (by kernel_rfl) (A0 rfl (A0 (A0 (A4 λa=>((Ah2 L Q Y s (E0 0 (D9 (Lw L) Q Y (cd [1,0,1,1,1,1,1] Bq9) (F0 (Lw L) ah0))) L last1 a (a.length:Int) 0 []).trans (by kernel_rfl))) rfl) rfl)))
noncomputable abbrev Ck3:Code:=C3 ae2
noncomputable def DJ(L:Nat):Cfg:=B5 L [219] (A2 []) [(73,Ax2),(240,Bn6)] (A2 [(10,[2,0]),(9,[2,1]),(8,[2,1,5]),(7,[2,0]),(6,[2,1,3,1,45]),(5,[2,1,2,0,0,0,0,0]),(4,[2,1,2,0,0,0,0]),(3,[2,1,1,0,0,0]),(2,[2,1,0,0,0]),(1,[0,1,1]),(0,[0,1])]) [73] (A2 []) (some [2,0]) [] [] []
noncomputable def Qm{R:Type}(p o d:LL)(q:LL->LL->Option R):Option R:=cond (decide (d.length=8)) (cond (decide (8<=d.length)) (vl ((x9 0 d)++((x9 8 p)++(ac7 (0+(min p.length 8)) d))) λc=>vl (A1 ((8:Int)-(o.length:Int))) λb=>cond (decide (c.length=8)) (cond (I6 b (8:Int) 8) (cond (decide (((b8 b)+(8-(b8 b)))<=c.length)) (vl ((x9 (b8 b) c)++((x9 (8-(b8 b)) o)++(ac7 ((b8 b)+(min o.length (8-(b8 b)))) c))) λa=>cond ((decide (8=(a.length*1)))&&(okS ⟨true,true,[.int .u16,.int .u16,.int .u16,.int .u16,.int .u16,.int .u16,.int .u16,.int .u16]⟩ (c9 a) 0)) (vl (SV.gI (b9 (c9 a) 0 SV.nilp)) λf=>vl (SV.gI (b9 (c9 a) 1 SV.nilp)) λg=>vl (SV.gI (b9 (c9 a) 2 SV.nilp)) λh=>vl (SV.gI (b9 (c9 a) 3 SV.nilp)) λi=>vl (SV.gI (b9 (c9 a) 4 SV.nilp)) λj=>vl (SV.gI (b9 (c9 a) 5 SV.nilp)) λl=>vl (SV.gI (b9 (c9 a) 6 SV.nilp)) λm=>vl (SV.gI (b9 (c9 a) 7 SV.nilp)) λn=>cond (decide (8=(d.length*1))) (vl (T3 1 d.length [(SV.int .u16 f),(SV.int .u16 g),(SV.int .u16 h),(SV.int .u16 i),(SV.int .u16 j),(SV.int .u16 l),(SV.int .u16 m),(SV.int .u16 n)]) λe=>q e a) none) none) none) none) none) none) none
abbrev At4(b:Code):Prop:=∀(k:Out->St Z->Option R) x_z0 x1 y_z2 y3 b4 l5,A9 (DJ L) Q Y b ⟨gp [(2,.ptr 0 0 0),(1,.ptr 1 0 0),(3,.s (.sl x_z0 x_z0 1 x1)),(1,.s (.sl y_z2 y_z2 1 y3)),(45,pB b4)] 11,[.arr false 26 1 l5,.arr false 26 1 l5],s⟩ k=Qm x1 y3 l5 (λa c=>k .ret ⟨gp [(2,.ptr 0 0 0),(0,pB true)] 64,[.arr false 26 1 a,.arr false 26 1 c],s⟩)
theorem Ce1:At4 (R:=R) L Q Y s (cd [1,1,1,1,1,1,1] Ck3):=by intro k a e b f c d;unfold Qm;kernel_rfl
noncomputable def v6p{R:Type}(L:Nat)(h:By)(g:Int->Int->Int->Int->Int->Int->Int->Int->Bool->LL->LL->Option R):Option R:=cond (A3 h.length) (vl ((v8 h ([58,58]:List UInt8))).1 λj=>vl (((v8 h ([58,58]:List UInt8))).2).1 λe=>cond (A3 j.length) (vl (D2 (gvs j (not (((v8 h ([58,58]:List UInt8))).2).2))) λf=>cond (A3 e.length) (vl (A1 ((f.length:Int)+(↑(a8 (D2 (gvs e true))):Int))) λi=>cond (not (j2 (Q1 j (not (((v8 h ([58,58]:List UInt8))).2).2)))) (g 0 0 0 0 0 0 0 0 false (j0 8 [(SV.int .u16 (0:Int))]) (j0 8 [(SV.int .u16 (0:Int))])) (cond (not (j2 (Q1 e true))) (g 0 0 0 0 0 0 0 0 false (j0 8 [(SV.int .u16 (0:Int))]) (j0 8 [(SV.int .u16 (0:Int))])) (cond (not (((v8 h ([58,58]:List UInt8))).2).2) (cond (i !=8) (g 0 0 0 0 0 0 0 0 false (j0 8 [(SV.int .u16 (0:Int))]) (j0 8 [(SV.int .u16 (0:Int))])) (cond (((v8 h ([58,58]:List UInt8))).2).2 (cond (ltI 7 i) (g 0 0 0 0 0 0 0 0 false (j0 8 [(SV.int .u16 (0:Int))]) (j0 8 [(SV.int .u16 (0:Int))])) (Qm f (D2 (gvs e true)) (j0 8 [(SV.int .u16 (0:Int))]) (λa l=>cond ((decide (8=(a.length*1)))&&(okS ⟨true,true,[.int .u16,.int .u16,.int .u16,.int .u16,.int .u16,.int .u16,.int .u16,.int .u16]⟩ (c9 a) 0)) (g (SV.gI (b9 (c9 a) 0 SV.nilp)) (SV.gI (b9 (c9 a) 1 SV.nilp)) (SV.gI (b9 (c9 a) 2 SV.nilp)) (SV.gI (b9 (c9 a) 3 SV.nilp)) (SV.gI (b9 (c9 a) 4 SV.nilp)) (SV.gI (b9 (c9 a) 5 SV.nilp)) (SV.gI (b9 (c9 a) 6 SV.nilp)) (SV.gI (b9 (c9 a) 7 SV.nilp)) true a l) none))) (Qm f (D2 (gvs e true)) (j0 8 [(SV.int .u16 (0:Int))]) (λb m=>cond ((decide (8=(b.length*1)))&&(okS ⟨true,true,[.int .u16,.int .u16,.int .u16,.int .u16,.int .u16,.int .u16,.int .u16,.int .u16]⟩ (c9 b) 0)) (g (SV.gI (b9 (c9 b) 0 SV.nilp)) (SV.gI (b9 (c9 b) 1 SV.nilp)) (SV.gI (b9 (c9 b) 2 SV.nilp)) (SV.gI (b9 (c9 b) 3 SV.nilp)) (SV.gI (b9 (c9 b) 4 SV.nilp)) (SV.gI (b9 (c9 b) 5 SV.nilp)) (SV.gI (b9 (c9 b) 6 SV.nilp)) (SV.gI (b9 (c9 b) 7 SV.nilp)) true b m) none)))) (cond (((v8 h ([58,58]:List UInt8))).2).2 (cond (ltI 7 i) (g 0 0 0 0 0 0 0 0 false (j0 8 [(SV.int .u16 (0:Int))]) (j0 8 [(SV.int .u16 (0:Int))])) (Qm f (D2 (gvs e true)) (j0 8 [(SV.int .u16 (0:Int))]) (λc n=>cond ((decide (8=(c.length*1)))&&(okS ⟨true,true,[.int .u16,.int .u16,.int .u16,.int .u16,.int .u16,.int .u16,.int .u16,.int .u16]⟩ (c9 c) 0)) (g (SV.gI (b9 (c9 c) 0 SV.nilp)) (SV.gI (b9 (c9 c) 1 SV.nilp)) (SV.gI (b9 (c9 c) 2 SV.nilp)) (SV.gI (b9 (c9 c) 3 SV.nilp)) (SV.gI (b9 (c9 c) 4 SV.nilp)) (SV.gI (b9 (c9 c) 5 SV.nilp)) (SV.gI (b9 (c9 c) 6 SV.nilp)) (SV.gI (b9 (c9 c) 7 SV.nilp)) true c n) none))) (Qm f (D2 (gvs e true)) (j0 8 [(SV.int .u16 (0:Int))]) (λd o=>cond ((decide (8=(d.length*1)))&&(okS ⟨true,true,[.int .u16,.int .u16,.int .u16,.int .u16,.int .u16,.int .u16,.int .u16,.int .u16]⟩ (c9 d) 0)) (g (SV.gI (b9 (c9 d) 0 SV.nilp)) (SV.gI (b9 (c9 d) 1 SV.nilp)) (SV.gI (b9 (c9 d) 2 SV.nilp)) (SV.gI (b9 (c9 d) 3 SV.nilp)) (SV.gI (b9 (c9 d) 4 SV.nilp)) (SV.gI (b9 (c9 d) 5 SV.nilp)) (SV.gI (b9 (c9 d) 6 SV.nilp)) (SV.gI (b9 (c9 d) 7 SV.nilp)) true d o) none)))))) none) none) none
theorem Dw3(b:Code)(a:At4 (R:=PV × List Blk × Z) L Q Y s b)(f:By):A9 (DJ L) Q Y (cd [] (G2 [1,1,1,1,1,1,1] b Ck3)) ⟨[pS f]++tps 67,[],s⟩ (F0 (DJ L) ae2)=v6p L f (λj l m n o p q r r8 i l10=>some (.tup [.agg [p16 j,p16 l,p16 m,p16 n,p16 o,p16 p,p16 q,p16 r],pB r8],[.arr false 26 1 i,.arr false 26 1 l10],s)):=by unfold v6p;exact let h:=(F0 (DJ L) ae2);(j1 (by kernel_rfl) (A0 (A4 λe=>(A4 λc=>(A0 (A4 λd=>(A0 (A4 λg=>(A0 rfl (A0 rfl (A0 (A0 rfl (A0 (A0 rfl ((a h (j8 (gvs e (not (((v8 f ([58,58]:List UInt8))).2).2))) d (j8 (gvs c true)) (D2 (gvs c true)) (ltI 7 g) (j0 8 [(SV.int .u16 (0:Int))])).trans (by kernel_rfl))) ((a h (j8 (gvs e (not (((v8 f ([58,58]:List UInt8))).2).2))) d (j8 (gvs c true)) (D2 (gvs c true)) false (j0 8 [(SV.int .u16 (0:Int))])).trans (by kernel_rfl)))) (A0 (A0 rfl ((a h (j8 (gvs e (not (((v8 f ([58,58]:List UInt8))).2).2))) d (j8 (gvs c true)) (D2 (gvs c true)) (ltI 7 g) (j0 8 [(SV.int .u16 (0:Int))])).trans (by kernel_rfl))) ((a h (j8 (gvs e (not (((v8 f ([58,58]:List UInt8))).2).2))) d (j8 (gvs c true)) (D2 (gvs c true)) false (j0 8 [(SV.int .u16 (0:Int))])).trans (by kernel_rfl))))))) rfl)) rfl))) rfl))
theorem Dw4(d:Nat)(s0):evC (DJ L) (d+1) Z Y 219 [pS s0] [] s=v6p L s0 (λb c e f g h i j r8 a l10=>some (.tup [.agg [p16 b,p16 c,p16 e,p16 f,p16 g,p16 h,p16 i,p16 j],pB r8],[.arr false 26 1 a,.arr false 26 1 l10],s)):=
 (evE (fn:=ae2) (by kernel_rfl)).trans (j1 (by kernel_rfl) (Dw3 L (evC (DJ L) d) Y s (cd [1,1,1,1,1,1,1] Ck3) (Ce1 L (evC (DJ L) d) Y s) s0))
noncomputable abbrev Qz:Code:=C3 ag5
noncomputable def Y8(L:Nat):Cfg:=B5 L [204] (A2 [(6,[1,0,0,0,0,0,0,0]),(3,[1,0,0,0,0,2])]) [] (A2 [(11,[2,0]),(10,[1,2,0,2]),(9,[1,2,0,2]),(8,[1,2,0,0,0,0,18]),(7,[1,2,0,0,0,0]),(6,[1,2,0,0,0,0,13]),(5,[1,2,0,0,0,0]),(4,[1,2,0,0,1]),(3,[1,2,0,2,0]),(2,[1,2,0,2]),(1,[1,2,0]),(0,[1])]) [] (A2 [(0,[4,0]),(1,[1,2,0,2]),(2,[1,2,0,0,0,0]),(3,[1,2,0,0,0,0])]) (some [2,0]) [] [] []
noncomputable def Ik{R:Type}(L n:Nat)(b a c d:Int)(e:LL)(f:Int->Int->Int->Int->LL->Option R):Option R:=match n with|0=>none|n+1=>cond (ltI (A1 (c+d)) (8:Int)) (cond (inR (A1 (c+d)) 8) (cond (okE ⟨true,false,[.int .u16]⟩ e (b8 (A1 (c+d))) 0) (vl (gE e (b8 (A1 (c+d))) 0) λg=>cond (g==0) (Ik L n b a c (A1 (d+1)) e f) (f b a c d e)) none) none) (f b a c d e)
theorem Au9(n b a c e d):C7 1 ((Y8 L).keep 6) (bd (Y8 L) Q Y (cd [1,1,0,1,0,0,1,1,0,0,1,1,0,0,0] Qz)) n ⟨gp [(1,.ptr 0 0 0),(2,pI b),(0,pI a),(0,pI c),(0,pI e),(0,pI c)] 24,[.arr false 26 1 d],s⟩ k =
 Ik L n b a c e d (λb a c e d=>k (.exit 2) ⟨gp [(1,.ptr 0 0 0),(2,pI b),(0,pI a),(0,pI c),(0,pI e),(0,pI c)] 24,[.arr false 26 1 d],s⟩):=by
 induction n generalizing b a c e d with
 | zero=>rfl
 | succ n f=>rw[Ik];simp only[<-f];kernel_rfl
noncomputable def Er{R:Type}(L n:Nat)(e b j:Int)(i:LL)(h:Int->Int->LL->Option R):Option R:=match n with|0=>none|n+1=>cond (ltI j 8) (Ik L L e b j 0 i (λd a c g f=>cond (ltI a g) (Er L n c g (A1 (c+1)) f h) (Er L n d a (A1 (c+1)) f h))) (h e b i)
theorem Av0(n b a n2 l3):C7 1 ((Y8 L).keep 3) (bd (Y8 L) Q Y (cd [1,1,0,1,0,0] Qz)) n ⟨gp [(1,.ptr 0 0 0),(2,pI b),(0,pI a),(2,pI n2)] 24,[.arr false 26 1 l3],s⟩ k =
 Er L n b a n2 l3 (λb a i=>k (.exit 0) ⟨gp [(4,pI b),(0,pI a)] 27,[.arr false 26 1 i],s⟩):=by
 induction n generalizing b a n2 l3 with
 | zero=>rfl
 | succ n h=>rw[Er];exact(j1 (by kernel_rfl) (A0 ((Au9 L Q Y s (E0 2 (D9 (Y8 L) Q Y (cd [1,1,0,1,0,0,1,1,0,0,1,1,1] Qz) (E0 1 (D9 (Y8 L) Q Y (cd [1,1,0,1,0,0,1,1,1] Qz) (lpK 1 ((Y8 L).keep 3) (bd (Y8 L) Q Y (cd [1,1,0,1,0,0] Qz)) n k))))) L b a n2 0 l3).trans (congr rfl (fx5 λe c d g f=>(j1 (by kernel_rfl) (A0 (h d g (A1 (d+1)) f) (h e c (A1 (d+1)) f)))))) rfl))
noncomputable def Bz4{R:Type}(L:Nat)(d e f g h i j l:Int)(m:Int->Int->LL->Option R):Option R:=Er L L 0 0 0 [[(SV.int .u16 d)],[(SV.int .u16 e)],[(SV.int .u16 f)],[(SV.int .u16 g)],[(SV.int .u16 h)],[(SV.int .u16 i)],[(SV.int .u16 j)],[(SV.int .u16 l)]] (λb a c=>m b a c)
theorem C50(d:Nat)(a0 a1 a2 a3 a4 a5 a6 a7):evC (Y8 L) (d+1) Z Y 204 [.agg [p16 a0,p16 a1,p16 a2,p16 a3,p16 a4,p16 a5,p16 a6,p16 a7]] [] s=Bz4 L a0 a1 a2 a3 a4 a5 a6 a7 (λb c a=>some (.tup [pI b,pI c],[.arr false 26 1 a],s)):=by refine(evE (fn:=ag5) (by kernel_rfl)).trans ?_;generalize evC (Y8 L) d=Q;unfold Bz4;exact(j1 (by kernel_rfl) ((Av0 L Q Y s (E0 0 (D9 (Y8 L) Q Y (cd [1,1,1] Qz) (F0 (Y8 L) ag5))) L 0 0 0 [[(SV.int .u16 a0)],[(SV.int .u16 a1)],[(SV.int .u16 a2)],[(SV.int .u16 a3)],[(SV.int .u16 a4)],[(SV.int .u16 a5)],[(SV.int .u16 a6)],[(SV.int .u16 a7)]]).trans (by kernel_rfl)))
noncomputable abbrev Dq3:Code:=C3 ag6
noncomputable def JW(L:Nat):Cfg:=B5 L [205] (A2 [(3,[2,0,2,0,0])]) [(227,Cg0),(202,UW)] (A2 [(7,[2]),(6,[3,2,0,0]),(5,[3,2,0,0]),(4,[3,1,0,0,0]),(3,[3,2,0,0,0]),(2,[3,2,0,0]),(1,[0,2]),(0,[0])]) [227,202] (A2 [(0,[3]),(1,[3,2,0,0])]) (some [2]) [] [] []
noncomputable def Vq{R:Type}(L n:Nat)(h g:Bool)(c:LL)(f b:Int)(d:LL)(e:LL->Option R):Option R:=match n with|0=>none|n+1=>cond (ltI b f) (cond (inR b c.length) (cond (okE ⟨true,false,[.int .u16]⟩ c (b8 b) 0) (vl (Dw8 (gE c (b8 b) 0)) λa=>cond (ltN a 65536) (cond ((16:Int)==16) (cond (F9 (d.length+1)) (Vq L n h g c f (A1 (b+1)) (d++[[(SV.str (S7 (b8 a)))]]) e) none) none) none) none) none) (e d)
theorem Ce0(n z0 t1 l2 n3 n4 l5):C7 1 ((JW L).keep 3) (bd (JW L) Q Y (cd [1,1,0,1,0,0] Dq3)) n ⟨gp [(3,.fl 0),(2,.s (.sl z0 t1 1 l2)),(0,pI n3),(0,pI n4)] 12,[.arr true 9 1 l5],s⟩ k =
 Vq L n z0 t1 l2 n3 n4 l5 (λb=>k (.exit 0) ⟨gp [(3,.fl 0)] 17,[.arr true 9 1 b],s⟩):=by
 induction n generalizing z0 t1 l2 n3 n4 l5 with
 | zero=>rfl
 | succ n a=>rw[Vq];simp only[<-a];kernel_rfl
noncomputable def v6j{R:Type}(L:Nat)(c b:Bool)(e:LL)(f:By->LL->Option R):Option R:=Vq L L c b e (e.length:Int) 0 [] (λa=>cond (w6 a isS) (cond (A3 (a8 (ac4 (o9 elS a) ([58]:List UInt8)))) (cond (A3 a.length) (vl (ac4 (o9 elS a) ([58]:List UInt8)) λd=>f d a) none) none) none)
theorem Dw1(d:Nat)(l_z0 l_t1 l2):evC (JW L) (d+1) Z Y 205 [.s (.sl l_z0 l_t1 1 l2)] [] s=v6j L l_z0 l_t1 l2 (λb a=>some (pS b,[.arr true 9 1 a],s)):=by refine(evE (fn:=ag6) (by kernel_rfl)).trans ?_;generalize evC (JW L) d=Q;unfold v6j;exact(j1 (by kernel_rfl) ((Ce0 L Q Y s (E0 0 (D9 (JW L) Q Y (cd [1,1,1] Dq3) (F0 (JW L) ag6))) L l_z0 l_t1 l2 (l2.length:Int) 0 []).trans (by kernel_rfl)))
noncomputable def Ck8(L:Nat):Cfg:=B5 L [168] (A2 []) [(204,Bq6),(205,Dp8)] (A2 [(4,[2]),(3,[2]),(2,[1,1,0,6]),(1,[1,1,0]),(0,[1])]) [204,205] (A2 []) (some [2]) [] [] []
noncomputable def v6f{R:Type}(L:Nat)(c d e f g h i j:Int)(p:By->LL->Option R):Option R:=cond (ok8 c d e f g h i j) (vl (↑((zGo (n8 c d e f g h i j) 0 0 0)).1:Int) λa=>vl (↑((zGo (n8 c d e f g h i j) 0 0 0)).2:Int) λb=>cond (ltI b 2) (cond (w6 [[(SV.int .u16 c)],[(SV.int .u16 d)],[(SV.int .u16 e)],[(SV.int .u16 f)],[(SV.int .u16 g)],[(SV.int .u16 h)],[(SV.int .u16 i)],[(SV.int .u16 j)]] Xi) (cond (p7 8 8) (vl (T9 (o9 elN [[(SV.int .u16 c)],[(SV.int .u16 d)],[(SV.int .u16 e)],[(SV.int .u16 f)],[(SV.int .u16 g)],[(SV.int .u16 h)],[(SV.int .u16 i)],[(SV.int .u16 j)]])) λo=>p o [[(SV.int .u16 c)],[(SV.int .u16 d)],[(SV.int .u16 e)],[(SV.int .u16 f)],[(SV.int .u16 g)],[(SV.int .u16 h)],[(SV.int .u16 i)],[(SV.int .u16 j)]]) none) none) (cond (I6 0 a 8) (cond (w6 (x9 ((b8 a)-0) [[(SV.int .u16 c)],[(SV.int .u16 d)],[(SV.int .u16 e)],[(SV.int .u16 f)],[(SV.int .u16 g)],[(SV.int .u16 h)],[(SV.int .u16 i)],[(SV.int .u16 j)]]) Xi) (cond (p7 (a8 (x9 ((b8 a)-0) [[(SV.int .u16 c)],[(SV.int .u16 d)],[(SV.int .u16 e)],[(SV.int .u16 f)],[(SV.int .u16 g)],[(SV.int .u16 h)],[(SV.int .u16 i)],[(SV.int .u16 j)]])) 8) (vl (T9 (o9 elN (x9 ((b8 a)-0) [[(SV.int .u16 c)],[(SV.int .u16 d)],[(SV.int .u16 e)],[(SV.int .u16 f)],[(SV.int .u16 g)],[(SV.int .u16 h)],[(SV.int .u16 i)],[(SV.int .u16 j)]]))) λl=>cond (E7 l.length 2) (vl (l++[58,58]) λm=>cond (I6 (A1 (a+b)) (8:Int) 8) (cond (w6 (x9 (8-(b8 (A1 (a+b)))) (ac7 (b8 (A1 (a+b))) [[(SV.int .u16 c)],[(SV.int .u16 d)],[(SV.int .u16 e)],[(SV.int .u16 f)],[(SV.int .u16 g)],[(SV.int .u16 h)],[(SV.int .u16 i)],[(SV.int .u16 j)]])) Xi) (cond (p7 (a8 (x9 (8-(b8 (A1 (a+b)))) (ac7 (b8 (A1 (a+b))) [[(SV.int .u16 c)],[(SV.int .u16 d)],[(SV.int .u16 e)],[(SV.int .u16 f)],[(SV.int .u16 g)],[(SV.int .u16 h)],[(SV.int .u16 i)],[(SV.int .u16 j)]]))) 8) (vl (T9 (o9 elN (x9 (8-(b8 (A1 (a+b)))) (ac7 (b8 (A1 (a+b))) [[(SV.int .u16 c)],[(SV.int .u16 d)],[(SV.int .u16 e)],[(SV.int .u16 f)],[(SV.int .u16 g)],[(SV.int .u16 h)],[(SV.int .u16 i)],[(SV.int .u16 j)]])))) λn=>cond (E7 m.length n.length) (p (m++n) [[(SV.int .u16 c)],[(SV.int .u16 d)],[(SV.int .u16 e)],[(SV.int .u16 f)],[(SV.int .u16 g)],[(SV.int .u16 h)],[(SV.int .u16 i)],[(SV.int .u16 j)]]) none) none) none) none) none) none) none) none)) none
theorem Dv9(d:Nat)(a0 a1 a2 a3 a4 a5 a6 a7):evC (Ck8 L) (d+1) Z Y 168 [.agg [p16 a0,p16 a1,p16 a2,p16 a3,p16 a4,p16 a5,p16 a6,p16 a7]] [] s=v6f L a0 a1 a2 a3 a4 a5 a6 a7 (λb a=>some (pS b,[.arr false 26 1 a],s)):=by refine(evE (fn:=Tryz.f168) (by kernel_rfl)).trans ?_;generalize evC (Ck8 L) d=Q;unfold v6f;kernel_rfl
noncomputable abbrev Ct:Code:=C3 ae0
noncomputable def Ab(L:Nat):Cfg:=B5 L [209] (A2 [(5,[0,1,0,0,0])]) [] (A2 [(15,[2,0]),(6,[0,3,0]),(10,[0,3,0]),(12,[0,3,0]),(14,[0,3,0]),(8,[2,0]),(13,[0,3,0,0,44]),(11,[0,3,0,0,30]),(9,[0,3,0,0,17]),(7,[0,3,0,0]),(5,[0,3,0,12]),(4,[0,3,0]),(3,[0,3]),(2,[2,0]),(1,[0,13]),(0,[0])]) [] (A2 [(0,[4]),(1,[0,3,0]),(2,[0,3,0])]) (some [2,0]) [] [] []
noncomputable def Yb{R:Type}(j:By)(i f d:Int)(e:Bool)(g:By->Int->Int->Option R)(h:Unit->Option R):Option R:=cond e (vl (A1 (wu8 (d-65))) λa=>vl (A1 ((A1 (i*16))+a)) λb=>vl (A1 (b+10)) λc=>g j c f) (h ())
abbrev RC(b:Code):Prop:=∀(k:Out->St Z->Option R) d c a b3 b4,A9 (Ab L) Q Y b ⟨gp [(0,pS d),(3,pI c),(0,pI a),(0,p8 b3),(44,pB b4)] 15,[],s⟩ k=Yb d c a b3 b4 (λd c a=>k .normal ⟨gp [(0,pS d),(3,pI c),(0,pI a)] 61,[],s⟩) (λ_=>k .ret ⟨gp [(2,p16 (0:Int)),(0,pB false)] 63,[],s⟩)
theorem Bc1:RC (R:=R) L Q Y s (cd [1,1,1,0,1,0,0,1,0,0,1,0,1,1,1,1,1] Ct):=by intro k e d c a b;unfold Yb;kernel_rfl
noncomputable def Yc{R:Type}(o:By)(m f a:Int)(q:Bool)(g:By->Int->Int->Option R)(p:Unit->Option R):Option R:=cond q (vl (A1 (wu8 (a-97))) λh=>vl (A1 ((A1 (m*16))+h)) λi=>vl (A1 (i+10)) λj=>g o j f) (cond (not (ltI a 65)) (Yb o m f a (not (ltI 70 a)) (λn l b=>g n l b) (λ_=>p ())) (Yb o m f a false (λe d c=>g e d c) (λ_=>p ())))
abbrev CL(b:Code):Prop:=∀(k:Out->St Z->Option R) d c a b3 b4,A9 (Ab L) Q Y b ⟨gp [(0,pS d),(3,pI c),(0,pI a),(0,p8 b3),(30,pB b4)] 29,[],s⟩ k=Yc d c a b3 b4 (λd c a=>k .normal ⟨gp [(0,pS d),(3,pI c),(0,pI a)] 61,[],s⟩) (λ_=>k .ret ⟨gp [(2,p16 (0:Int)),(0,pB false)] 63,[],s⟩)
theorem Bc2(a:Code)(b:RC (R:=R) L Q Y s a):CL (R:=R) L Q Y s (cd [1,1,1,0,1,0,0,1,0,0,1,0,1,1,1] (G2 [1,1,1,0,1,0,0,1,0,0,1,0,1,1,1,1,1] a Ct)):=by intro k g f e c d;unfold Yc;simp only[<-b k];kernel_rfl
theorem Bc3:CL (R:=R) L Q Y s (cd [1,1,1,0,1,0,0,1,0,0,1,0,1,1,1] Ct):=by intro k e d c a b;exact j1 (by kernel_rfl) (Bc2 L Q Y s (cd [1,1,1,0,1,0,0,1,0,0,1,0,1,1,1,1,1] Ct) (Bc1 L Q Y s) k e d c a b)
noncomputable def Yd{R:Type}(n:By)(m h a:Int)(p:Bool)(i:By->Int->Int->Option R)(o:Unit->Option R):Option R:=cond p (vl (A1 (wu8 (a-48))) λj=>vl (A1 ((A1 (m*16))+j)) λl=>i n l h) (cond (not (ltI a 97)) (Yc n m h a (not (ltI 102 a)) (λf d b=>i f d b) (λ_=>o ())) (Yc n m h a false (λg e c=>i g e c) (λ_=>o ())))
abbrev Rp(b:Code):Prop:=∀(k:Out->St Z->Option R) d c a b3 b4,A9 (Ab L) Q Y b ⟨gp [(0,pS d),(3,pI c),(0,pI a),(0,p8 b3),(17,pB b4)] 42,[],s⟩ k=Yd d c a b3 b4 (λd c a=>k .normal ⟨gp [(0,pS d),(3,pI c),(0,pI a)] 61,[],s⟩) (λ_=>k .ret ⟨gp [(2,p16 (0:Int)),(0,pB false)] 63,[],s⟩)
theorem Bc4(a:Code)(b:CL (R:=R) L Q Y s a):Rp (R:=R) L Q Y s (cd [1,1,1,0,1,0,0,1,0,0,1,0,1] (G2 [1,1,1,0,1,0,0,1,0,0,1,0,1,1,1] a Ct)):=by intro k g f e c d;unfold Yd;simp only[<-b k];kernel_rfl
theorem Bc5:Rp (R:=R) L Q Y s (cd [1,1,1,0,1,0,0,1,0,0,1,0,1] Ct):=by intro k e d c a b;exact j1 (by kernel_rfl) (Bc4 L Q Y s (cd [1,1,1,0,1,0,0,1,0,0,1,0,1,1,1] Ct) (Bc3 L Q Y s) k e d c a b)
noncomputable def Fq{R:Type}(L n:Nat)(b:By)(o a:Int)(l:Unit->Option R)(m:Int->Option R):Option R:=match n with|0=>none|n+1=>cond (ltI a (b.length:Int)) (cond (inR a b.length) (cond (not (ltI (bAt b a) (48:Int))) (Yd b o a (bAt b a) (not (ltI 57 (bAt b a))) (λi e c=>vl (A1 (c+1)) λf=>Fq L n i e f l m) (λ_=>l ())) (Yd b o a (bAt b a) false (λj g d=>vl (A1 (d+1)) λh=>Fq L n j g h l m) (λ_=>l ()))) none) (m o)
theorem Bc6(a:Code)(b:Rp (R:=R) L Q Y s a)(n:Nat)(d:By)(i c:Int):C7 0 ((Ab L).keep 5) (bd (Ab L) Q Y (cd [1,1,1,0,1,0,0] (G2 [1,1,1,0,1,0,0,1,0,0,1,0,1] a Ct))) n ⟨gp [(0,pS d),(3,pI i),(0,pI c)] 61,[],s⟩ k =
 Fq L n d i c (λ_=>k .ret ⟨gp [(2,p16 (0:Int)),(0,pB false)] 63,[],s⟩) (λn0=>k (.exit 0) ⟨gp [(4,pI n0)] 62,[],s⟩):=by
 induction n generalizing d i c with
 | zero=>rfl
 | succ n q=>rw[Fq];exact let m:=(E0 2 (E0 1 (D9 (Ab L) Q Y (cd [1,1,1,0,1,0,0,1,1] Ct) (lpK 0 ((Ab L).keep 5) (bd (Ab L) Q Y (cd [1,1,1,0,1,0,0] (G2 [1,1,1,0,1,0,0,1,0,0,1,0,1] a Ct))) n k))));(j1 (by kernel_rfl) (A0 (A0 (A0 ((b m d i c (bAt d c) (not (ltI 57 (bAt d c)))).trans (congr (congr rfl (fx3 λj e o=>(j1 (by kernel_rfl) (A4 λf=>(q j e f))))) (by kernel_rfl))) ((b m d i c (bAt d c) false).trans (congr (congr rfl (fx3 λl g p=>(j1 (by kernel_rfl) (A4 λh=>(q l g h))))) (by kernel_rfl)))) rfl) rfl))
noncomputable def Cs8{R:Type}(L:Nat)(c:By)(b:Int->Bool->Option R):Option R:=cond (ltI (c.length:Int) (1:Int)) (b 0 false) (cond (ltI 4 (c.length:Int)) (b 0 false) (Fq L L c 0 0 (λ_=>b 0 false) (λa=>b (Dt a) true)))
theorem Df8(a:Code)(b:Rp (R:=PV × List Blk × Z) L Q Y s a)(c:By):A9 (Ab L) Q Y (cd [] (G2 [1,1,1,0,1,0,0,1,0,0,1,0,1] a Ct)) ⟨[pS c]++tps 66,[],s⟩ (F0 (Ab L) ae0)=Cs8 L c (λd e=>some (.tup [p16 d,pB e],[],s)):=by unfold Cs8;exact(j1 (by kernel_rfl) (A0 rfl (A0 rfl ((Bc6 L Q Y s (E0 0 (D9 (Ab L) Q Y (cd [1,1,1,1] Ct) (F0 (Ab L) ae0))) a b L c 0 0).trans (by kernel_rfl)))))
theorem Df9(d:Nat)(s0):evC (Ab L) (d+1) Z Y 209 [pS s0] [] s=Cs8 L s0 (λa b=>some (.tup [p16 a,pB b],[],s)):=
 (evE (fn:=ae0) (by kernel_rfl)).trans (j1 (by kernel_rfl) (Df8 L (evC (Ab L) d) Y s (cd [1,1,1,0,1,0,0,1,0,0,1,0,1] Ct) (Bc5 L (evC (Ab L) d) Y s) s0))
noncomputable abbrev Fa:Code:=C3 ad8
noncomputable def R4(L:Nat):Cfg:=B5 L [173] (A2 [(6,[1,2,0,0,0,0])]) [(76,Ki),(208,Ch6),(209,Ch3)] (A2 [(15,[4,0]),(7,[1,4,0,0]),(14,[1,4,0,0]),(13,[4,0]),(12,[1,4,0,0,2,47]),(11,[1,4,0,0,2,0]),(10,[1,4,0,0]),(9,[1,4,0,0,0,31]),(8,[1,4,0,0,0,0]),(6,[1,4,0,0,11]),(5,[1,4,0,0]),(4,[1,4,0]),(3,[0,0,4]),(2,[4,0]),(1,[0,0,12]),(0,[0,0])]) [208,209] (A2 [(0,[6]),(1,[1,4,0,0])]) (some [4,0]) [] [] []
noncomputable def Lb{R:Type}(a:Bool)(g:LL)(f d:Int)(e:Bool)(c:LL)(h:Bool->LL->Int->LL->Option R)(i:Bool->LL->Int->Int->Bool->LL->Option R):Option R:=cond e (vl (Om .u32 d (16:Int)) λb=>cond (F9 (c.length+2)) (h a g f (c++[[(SV.int .u16 (Dt b))],[(SV.int .u16 (Dt d))]])) none) (i a g f d e c)
abbrev Ux(b:Code):Prop:=∀(k:Out->St Z->Option R) a d c g e f,A9 (R4 L) Q Y b ⟨gp [(1,pB a),(4,.fl 0),(0,.s (.sl false false 1 d)),(0,pI c),(0,p32 g),(31,pB e)] 23,[.arr true 25 1 f],s⟩ k=Lb a d c g e f (λa d c h=>k (.exit 1) ⟨gp [(1,pB a),(4,.fl 0),(0,.s (.sl false false 1 d)),(0,pI c)] 56,[.arr true 25 1 h],s⟩) (λa d c g e f=>k .normal ⟨gp [(1,pB a),(4,.fl 0),(0,.s (.sl false false 1 d)),(0,pI c),(0,p32 g),(31,pB e)] 23,[.arr true 25 1 f],s⟩)
theorem Al5:Ux (R:=R) L Q Y s (cd [1,1,1,1,0,1,0,0,1,0,0,0,1,1] Fa):=by intro k a e c f b d;unfold Lb;kernel_rfl
noncomputable def Lc{R:Type}(a:Bool)(c:LL)(b:Int)(e:LL)(f:LL->Option R)(g:Bool->LL->Int->LL->Option R):Option R:=cond (inR b c.length) (cond (okE Nq c (b8 b) 0) (cond (A3 (a8 (gX c (b8 b) 0))) (vl (↑(N1 (grp (gX c (b8 b) 0))):Int) λd=>cond (not (j2 (grp (gX c (b8 b) 0)))) (f e) (cond (F9 (e.length+1)) (g a c b (e++[[(SV.int .u16 d)]])) none)) none) none) none
abbrev Uy(b:Code):Prop:=∀(k:Out->St Z->Option R) a d c v3 b4 l5,A9 (R4 L) Q Y b ⟨gp [(1,pB a),(4,.fl 0),(0,.s (.sl false false 1 d)),(0,pI c),(0,p32 v3),(31,pB b4)] 23,[.arr true 25 1 l5],s⟩ k=Lc a d c l5 (λe=>k .ret ⟨gp [(4,.fl 1),(0,pB false)] 59,[.arr true 25 1 e,.arr true 25 1 []],s⟩) (λa d c f=>k .normal ⟨gp [(1,pB a),(4,.fl 0),(0,.s (.sl false false 1 d)),(0,pI c)] 56,[.arr true 25 1 f],s⟩)
theorem Al6:Uy (R:=R) L Q Y s (cd [1,1,1,1,0,1,0,0,1,0,0,1] Fa):=by intro k a e c f b d;unfold Lc;kernel_rfl
noncomputable def Q7{R:Type}(L n:Nat)(a:Bool)(m:LL)(l:Int)(l3:LL)(o:LL->Option R)(p:LL->Option R):Option R:=match n with|0=>none|n+1=>cond (ltI l (m.length:Int)) (cond (inR l m.length) (cond (okE Nq m (b8 l) 0) (cond (A3 (a8 (gX m (b8 l) 0))) (vl (↑(N1 (v4B (gX m (b8 l) 0))):Int) λq=>cond (j2 (v4B (gX m (b8 l) 0))) (cond a (vl (A1 ((m.length:Int)-1)) λa9=>Lb a m l q (l==a9) l3 (λb X r B=>vl (A1 (r+1)) λP=>Q7 L n b X P B o p) (λc a0 t b3 b0 C=>Lc c a0 t C (λD=>o D) (λd a1 u F=>vl (A1 (u+1)) λS=>Q7 L n d a1 S F o p))) (Lb a m l q false l3 (λe a2 v G=>vl (A1 (v+1)) λT=>Q7 L n e a2 T G o p) (λf a3 w b4 b1 H=>Lc f a3 w H (λI=>o I) (λg a4 x J=>vl (A1 (x+1)) λU=>Q7 L n g a4 U J o p)))) (Lb a m l q false l3 (λh a5 y K=>vl (A1 (y+1)) λV=>Q7 L n h a5 V K o p) (λi a6 z b5 b2 M=>Lc i a6 z M (λN=>o N) (λj a7 A O=>vl (A1 (A+1)) λW=>Q7 L n j a7 W O o p)))) none) none) none) (p l3)
theorem Al7(b:Code)(c:Ux (R:=R) L Q Y s b)(a:Code)(d:Uy (R:=R) L Q Y s a)(n:Nat)(e:Bool)(v:LL)(q:Int)(u:LL):C7 1 ((R4 L).keep 6) (bd (R4 L) Q Y (cd [1,1,1,1,0,1,0,0] (G2 [1,1,1,1,0,1,0,0,1,0,0,1] a (G2 [1,1,1,1,0,1,0,0,1,0,0,0,1,1] b Fa)))) n ⟨gp [(1,pB e),(4,.fl 0),(0,.s (.sl false false 1 v)),(0,pI q)] 56,[.arr true 25 1 u],s⟩ k =
 Q7 L n e v q u (λl0=>k .ret ⟨gp [(4,.fl 1),(0,pB false)] 59,[.arr true 25 1 l0,.arr true 25 1 []],s⟩) (λl0=>k (.exit 0) ⟨gp [(6,.fl 0)] 58,[.arr true 25 1 l0],s⟩):=by
 induction n generalizing e v q u with
 | zero=>rfl
 | succ n t=>rw[Q7];exact let K0:=(E0 1 (D9 (R4 L) Q Y (cd [1,1,1,1,0,1,0,0,1,1] Fa) (lpK 1 ((R4 L).keep 6) (bd (R4 L) Q Y (cd [1,1,1,1,0,1,0,0] (G2 [1,1,1,1,0,1,0,0,1,0,0,1] a (G2 [1,1,1,1,0,1,0,0,1,0,0,0,1,1] b Fa)))) n k)));let K1:=(D9 (R4 L) Q Y a K0);(j1 (by kernel_rfl) (A0 (A0 (A0 (A0 (A4 λr=>(A0 (A0 (A4 λb0=>((c K1 e v q r (q==b0) u).trans (congr (congr rfl (fx4 λf V b1 C=>(j1 (by kernel_rfl) (A4 λN=>(t f V N C))))) (fx6 λg W z a6 w D=>(j1 (by kernel_rfl) ((d K0 g W z a6 w D).trans (congr (congr rfl (by kernel_rfl)) (fx4 λh X b2 F=>(j1 (by kernel_rfl) (A4 λO=>(t h X O F))))))))))) ((c K1 e v q r false u).trans (congr (congr rfl (fx4 λi a0 b3 G=>(j1 (by kernel_rfl) (A4 λP=>(t i a0 P G))))) (fx6 λj a1 A a7 x H=>(j1 (by kernel_rfl) ((d K0 j a1 A a7 x H).trans (congr (congr rfl (by kernel_rfl)) (fx4 λl a2 b4 I=>(j1 (by kernel_rfl) (A4 λS=>(t l a2 S I))))))))))) ((c K1 e v q r false u).trans (congr (congr rfl (fx4 λm a3 b5 J=>(j1 (by kernel_rfl) (A4 λT=>(t m a3 T J))))) (fx6 λo a4 B a9 y K=>(j1 (by kernel_rfl) ((d K0 o a4 B a9 y K).trans (congr (congr rfl (by kernel_rfl)) (fx4 λp a5 b6 M=>(j1 (by kernel_rfl) (A4 λU=>(t p a5 U M)))))))))))) rfl) rfl) rfl) rfl))
noncomputable def Al4{R:Type}(L:Nat)(e:By)(a:Bool)(f:LL->Option R)(g:LL->Option R):Option R:=cond (e==[]) (f []) (cond (A3 e.length) (vl (D1 (pcs (u8n (58:Int)) e)) λd=>Q7 L L a d 0 [] (λb=>g b) (λc=>f c)) none)
theorem Cs9(a:Code)(c:Ux (R:=PV × List Blk × Z) L Q Y s a)(b:Code)(d:Uy (R:=PV × List Blk × Z) L Q Y s b)(h:By)(e:Bool):A9 (R4 L) Q Y (cd [] (G2 [1,1,1,1,0,1,0,0,1,0,0,1] b (G2 [1,1,1,1,0,1,0,0,1,0,0,0,1,1] a Fa))) ⟨[pS h,pB e]++tps 63,[],s⟩ (F0 (R4 L) ad8)=Al4 L h e (λg=>some (.tup [.fl 0,pB true],[.arr true 25 1 g],s)) (λg=>some (.tup [.fl 1,pB false],[.arr true 25 1 g,.arr true 25 1 []],s)):=by unfold Al4;exact(j1 (by kernel_rfl) (A0 rfl (A0 (A4 λf=>((Al7 L Q Y s (E0 0 (D9 (R4 L) Q Y (cd [1,1,1,1,1] Fa) (F0 (R4 L) ad8))) a c b d L e f 0 []).trans (by kernel_rfl))) rfl)))
theorem Ct0(d:Nat)(s0 last1):evC (R4 L) (d+1) Z Y 173 [pS s0,pB last1] [] s=Al4 L s0 last1 (λa=>some (.tup [.fl 0,pB true],[.arr true 25 1 a],s)) (λa=>some (.tup [.fl 1,pB false],[.arr true 25 1 a,.arr true 25 1 []],s)):=
 (evE (fn:=ad8) (by kernel_rfl)).trans (j1 (by kernel_rfl) (Cs9 L (evC (R4 L) d) Y s (cd [1,1,1,1,0,1,0,0,1,0,0,0,1,1] Fa) (Al5 L (evC (R4 L) d) Y s) (cd [1,1,1,1,0,1,0,0,1,0,0,1] Fa) (Al6 L (evC (R4 L) d) Y s) s0 last1))
noncomputable abbrev PI:Code:=C3 ag3
noncomputable def Cx(L:Nat):Cfg:=B5 L [172] (A2 [(2,[0,1,0])]) [] (A2 [(6,[2]),(3,[0,2]),(5,[2]),(4,[0,2,17]),(2,[0,2,4]),(1,[0,2]),(0,[0])]) [] (A2 [(0,[]),(1,[0,2])]) (some [2]) [] [] []
noncomputable def U7{R:Type}(L n:Nat)(b:By)(a:Int)(c:Int->Option R)(d:Unit->Option R):Option R:=match n with|0=>none|n+1=>cond (ltI (A1 (a+1)) (b.length:Int)) (cond (inR a b.length) (cond ((bAt b a)==58) (cond (inR (A1 (a+1)) b.length) (vl (bAt b (A1 (a+1))) λe=>cond (e==58) (c a) (U7 L n b (A1 (a+1)) c d)) none) (U7 L n b (A1 (a+1)) c d)) none) (d ())
theorem OB(n s0 i1):C7 0 ((Cx L).keep 2) (bd (Cx L) Q Y (cd [1,0,1,0,0] PI)) n ⟨gp [(0,pS s0),(2,pI i1)] 19,[],s⟩ k =
 U7 L n s0 i1 (λn0=>k .ret ⟨gp [(2,pI n0)] 20,[],s⟩) (λ_=>k (.exit 0) ⟨gp [] 23,[],s⟩):=by
 induction n generalizing s0 i1 with
 | zero=>rfl
 | succ n a=>rw[U7];simp only[<-a];kernel_rfl
noncomputable def GB{R:Type}(L:Nat)(c:By)(b:Int->Option R):Option R:=U7 L L c 0 (λa=>b a) (λ_=>b (-1))
theorem Ba8(d:Nat)(s0):evC (Cx L) (d+1) Z Y 172 [pS s0] [] s=GB L s0 (λa=>some (pI a,[],s)):=by refine(evE (fn:=ag3) (by kernel_rfl)).trans ?_;generalize evC (Cx L) d=Q;unfold GB;exact(j1 (by kernel_rfl) ((OB L Q Y s (E0 0 (D9 (Cx L) Q Y (cd [1,1] PI) (F0 (Cx L) ag3))) L s0 0).trans (by kernel_rfl)))
noncomputable abbrev Ts:Code:=C3 ac8
noncomputable def Ac(L:Nat):Cfg:=B5 L [128] (A2 [(21,[2,0,0,6,2]),(17,[2,0,0,4,1,1]),(8,[2,0,0,1,1])]) [(172,OU),(173,Bo8)] (A2 [(24,[2,0]),(22,[2,1,6,2]),(23,[2,1,6,2]),(21,[2,1,6,2,73]),(20,[2,1,6,2]),(18,[2,1,4,1,1]),(19,[2,1,4,1,1]),(17,[2,1,4,1,1,62]),(16,[2,1,4,1,1]),(15,[2,0]),(14,[2,1,4,1,59]),(13,[2,1,4,0,0,0]),(12,[0,1,1,0,3,0]),(11,[2,0]),(9,[2,1,1,1]),(10,[2,1,1,1]),(8,[2,1,1,1,24]),(7,[2,1,1,1]),(6,[2,0]),(5,[2,1,1,23]),(4,[2,1,1,0]),(3,[0,1,1,0,12]),(2,[0,1,1,0]),(1,[0,1,1]),(0,[0,1])]) [172] (A2 [(4,[2,1]),(5,[2,1,6,2]),(2,[2,1,6]),(3,[2,1,4,1,1]),(0,[2,1]),(1,[2,1,1,1])]) (some [2,0]) [] [] []
noncomputable def Nl{R:Type}(L n:Nat)(b:Bool)(c:LL)(a:Int)(g d:LL)(f:LL->LL->Option R):Option R:=match n with|0=>none|n+1=>cond (ltI a 8) (cond (inR a c.length) (cond (okE ⟨true,false,[.int .u16]⟩ c (b8 a) 0) (cond (inR a 8) (cond (decide ((b8 a)<d.length)) (vl (aa3 d (b8 a) (G1 (b9 d (b8 a) []) 0 [(SV.int .u16 (gE c (b8 a) 0))])) λe=>Nl L n b c (A1 (a+1)) g e f) none) none) none) none) (f g d)
theorem Bi7(n l_z0 a i2 l3 l4):C7 2 ((Ac L).keep 8) (bd (Ac L) Q Y (cd [1,1,1,0,1,0,1,1,0,1,0,0] Ts)) n ⟨gp [(2,.ptr 0 0 0),(1,.ptr 1 0 0),(1,.s (.sl l_z0 l_z0 1 a)),(1,pI i2)] 93,[.arr false 26 1 l3,.arr false 26 1 l4],s⟩ k =
 Nl L n l_z0 a i2 l3 l4 (λc a=>k (.exit 0) ⟨gp [(2,.ptr 0 0 0),(1,.ptr 1 0 0)] 97,[.arr false 26 1 c,.arr false 26 1 a],s⟩):=by
 induction n generalizing l_z0 a i2 l3 l4 with
 | zero=>rfl
 | succ n b=>rw[Nl];simp only[<-b];kernel_rfl
noncomputable def Nm{R:Type}(L n:Nat)(e:Bool)(d:LL)(b:Bool)(i:LL)(a:Int)(h f:LL)(g:Bool->LL->LL->LL->Option R):Option R:=match n with|0=>none|n+1=>cond (ltI a (d.length:Int)) (cond (inR a d.length) (cond (okE ⟨true,false,[.int .u16]⟩ d (b8 a) 0) (cond (inR a 8) (cond (decide ((b8 a)<f.length)) (vl (aa3 f (b8 a) (G1 (b9 f (b8 a) []) 0 [(SV.int .u16 (gE d (b8 a) 0))])) λc=>Nm L n e d b i (A1 (a+1)) h c g) none) none) none) none) (g b i h f)
theorem Bi8(n l_z0 l1 r_z2 r3 i4 l5 l6):C7 2 ((Ac L).keep 17) (bd (Ac L) Q Y (cd [1,1,1,1,1,1,1,0,1,0,0] Ts)) n ⟨gp [(2,.ptr 0 0 0),(1,.ptr 1 0 0),(4,.s (.sl l_z0 l_z0 1 l1)),(1,.s (.sl r_z2 r_z2 1 r3)),(1,pI i4)] 88,[.arr false 26 1 l5,.arr false 26 1 l6],s⟩ k =
 Nm L n l_z0 l1 r_z2 r3 i4 l5 l6 (λa e c d=>k (.exit 2) ⟨gp [(2,.ptr 0 0 0),(1,.ptr 1 0 0),(6,.s (.sl a a 1 e))] 90,[.arr false 26 1 c,.arr false 26 1 d],s⟩):=by
 induction n generalizing l_z0 l1 r_z2 r3 i4 l5 l6 with
 | zero=>rfl
 | succ n b=>rw[Nm];simp only[<-b];kernel_rfl
noncomputable def Nn{R:Type}(L n:Nat)(e:Bool)(c:LL)(b:Int)(h f:LL)(g:LL->LL->Option R):Option R:=match n with|0=>none|n+1=>cond (ltI b (c.length:Int)) (vl (A1 ((8:Int)-(c.length:Int))) λa=>cond (inR b c.length) (cond (okE ⟨true,false,[.int .u16]⟩ c (b8 b) 0) (cond (inR (A1 (a+b)) 8) (cond (decide ((b8 (A1 (a+b)))<f.length)) (vl (aa3 f (b8 (A1 (a+b))) (G1 (b9 f (b8 (A1 (a+b))) []) 0 [(SV.int .u16 (gE c (b8 b) 0))])) λd=>Nn L n e c (A1 (b+1)) h d g) none) none) none) none) (g h f)
theorem Bi9(n r_z0 r1 i2 l3 l4):C7 2 ((Ac L).keep 21) (bd (Ac L) Q Y (cd [1,1,1,1,1,1,1,1,0,1,0,0] Ts)) n ⟨gp [(2,.ptr 0 0 0),(1,.ptr 1 0 0),(6,.s (.sl r_z0 r_z0 1 r1)),(2,pI i2)] 87,[.arr false 26 1 l3,.arr false 26 1 l4],s⟩ k =
 Nn L n r_z0 r1 i2 l3 l4 (λb c=>k (.exit 4) ⟨gp [(2,.ptr 0 0 0),(1,.ptr 1 0 0)] 97,[.arr false 26 1 b,.arr false 26 1 c],s⟩):=by
 induction n generalizing r_z0 r1 i2 l3 l4 with
 | zero=>rfl
 | succ n a=>rw[Nn];simp only[<-a];kernel_rfl
noncomputable def Cw9{R:Type}(L:Nat)(e:By)(j:Int->Int->Int->Int->Int->Int->Int->Int->Bool->LL->LL->Option R):Option R:=cond (A3 e.length) (cond (ltI (KF e) (0:Int)) (cond (A3 e.length) (cond (not (j2 (Q1 e true))) (j 0 0 0 0 0 0 0 0 false (j0 8 [(SV.int .u16 (0:Int))]) (j0 8 [(SV.int .u16 (0:Int))])) (cond ((↑(a8 (D2 (gvs e true))):Int)!=8) (j 0 0 0 0 0 0 0 0 false (j0 8 [(SV.int .u16 (0:Int))]) (j0 8 [(SV.int .u16 (0:Int))])) (Nl L L (j8 (gvs e true)) (D2 (gvs e true)) 0 (j0 8 [(SV.int .u16 (0:Int))]) (j0 8 [(SV.int .u16 (0:Int))]) (λn a=>cond ((decide (8=(a.length*1)))&&(okS ⟨true,true,[.int .u16,.int .u16,.int .u16,.int .u16,.int .u16,.int .u16,.int .u16,.int .u16]⟩ (c9 a) 0)) (vl (SV.gI (b9 (c9 a) 0 SV.nilp)) λo=>vl (SV.gI (b9 (c9 a) 1 SV.nilp)) λp=>vl (SV.gI (b9 (c9 a) 2 SV.nilp)) λq=>vl (SV.gI (b9 (c9 a) 3 SV.nilp)) λr=>vl (SV.gI (b9 (c9 a) 4 SV.nilp)) λt=>vl (SV.gI (b9 (c9 a) 5 SV.nilp)) λu=>vl (SV.gI (b9 (c9 a) 6 SV.nilp)) λv=>vl (SV.gI (b9 (c9 a) 7 SV.nilp)) λw=>cond (decide (8=(n.length*1))) (vl (T3 1 n.length [(SV.int .u16 o),(SV.int .u16 p),(SV.int .u16 q),(SV.int .u16 r),(SV.int .u16 t),(SV.int .u16 u),(SV.int .u16 v),(SV.int .u16 w)]) λb=>cond ((decide (8=(b.length*1)))&&(okS ⟨true,true,[.int .u16,.int .u16,.int .u16,.int .u16,.int .u16,.int .u16,.int .u16,.int .u16]⟩ (c9 b) 0)) (j (SV.gI (b9 (c9 b) 0 SV.nilp)) (SV.gI (b9 (c9 b) 1 SV.nilp)) (SV.gI (b9 (c9 b) 2 SV.nilp)) (SV.gI (b9 (c9 b) 3 SV.nilp)) (SV.gI (b9 (c9 b) 4 SV.nilp)) (SV.gI (b9 (c9 b) 5 SV.nilp)) (SV.gI (b9 (c9 b) 6 SV.nilp)) (SV.gI (b9 (c9 b) 7 SV.nilp)) true b a) none) none) none)))) none) (cond (I6 0 (KF e) e.length) (vl (cut e 0 (KF e)) λf=>cond (A3 f.length) (vl (A1 ((KF e)+2)) λG=>cond (I6 G (e.length:Int) e.length) (vl (cut e G (e.length:Int)) λg=>cond (A3 g.length) (cond (not (j2 (Q1 f false))) (j 0 0 0 0 0 0 0 0 false (j0 8 [(SV.int .u16 (0:Int))]) (j0 8 [(SV.int .u16 (0:Int))])) (cond (not (j2 (Q1 g true))) (j 0 0 0 0 0 0 0 0 false (j0 8 [(SV.int .u16 (0:Int))]) (j0 8 [(SV.int .u16 (0:Int))])) (vl (A1 ((↑(a8 (D2 (gvs f false))):Int)+(↑(a8 (D2 (gvs g true))):Int))) λI=>cond (ltI 7 I) (j 0 0 0 0 0 0 0 0 false (j0 8 [(SV.int .u16 (0:Int))]) (j0 8 [(SV.int .u16 (0:Int))])) (Nm L L (j8 (gvs f false)) (D2 (gvs f false)) (j8 (gvs g true)) (D2 (gvs g true)) 0 (j0 8 [(SV.int .u16 (0:Int))]) (j0 8 [(SV.int .u16 (0:Int))]) (λh H l m=>Nn L L h H 0 l m (λi c=>cond ((decide (8=(c.length*1)))&&(okS ⟨true,true,[.int .u16,.int .u16,.int .u16,.int .u16,.int .u16,.int .u16,.int .u16,.int .u16]⟩ (c9 c) 0)) (vl (SV.gI (b9 (c9 c) 0 SV.nilp)) λx=>vl (SV.gI (b9 (c9 c) 1 SV.nilp)) λy=>vl (SV.gI (b9 (c9 c) 2 SV.nilp)) λz=>vl (SV.gI (b9 (c9 c) 3 SV.nilp)) λA=>vl (SV.gI (b9 (c9 c) 4 SV.nilp)) λB=>vl (SV.gI (b9 (c9 c) 5 SV.nilp)) λC=>vl (SV.gI (b9 (c9 c) 6 SV.nilp)) λD=>vl (SV.gI (b9 (c9 c) 7 SV.nilp)) λF=>cond (decide (8=(i.length*1))) (vl (T3 1 i.length [(SV.int .u16 x),(SV.int .u16 y),(SV.int .u16 z),(SV.int .u16 A),(SV.int .u16 B),(SV.int .u16 C),(SV.int .u16 D),(SV.int .u16 F)]) λd=>cond ((decide (8=(d.length*1)))&&(okS ⟨true,true,[.int .u16,.int .u16,.int .u16,.int .u16,.int .u16,.int .u16,.int .u16,.int .u16]⟩ (c9 d) 0)) (j (SV.gI (b9 (c9 d) 0 SV.nilp)) (SV.gI (b9 (c9 d) 1 SV.nilp)) (SV.gI (b9 (c9 d) 2 SV.nilp)) (SV.gI (b9 (c9 d) 3 SV.nilp)) (SV.gI (b9 (c9 d) 4 SV.nilp)) (SV.gI (b9 (c9 d) 5 SV.nilp)) (SV.gI (b9 (c9 d) 6 SV.nilp)) (SV.gI (b9 (c9 d) 7 SV.nilp)) true d c) none) none) none)))))) none) none) none) none)) none
theorem Di1(d:Nat)(s0):evC (Ac L) (d+1) Z Y 128 [pS s0] [] s=Cw9 L s0 (λl m n o p q r t r8 h l10=>some (.tup [.agg [p16 l,p16 m,p16 n,p16 o,p16 p,p16 q,p16 r,p16 t],pB r8],[.arr false 26 1 h,.arr false 26 1 l10],s)):=by refine(evE (fn:=ac8) (by kernel_rfl)).trans ?_;generalize evC (Ac L) d=Q;unfold Cw9;exact(j1 (by kernel_rfl) (A0 (A0 (A0 (A0 rfl (A0 rfl ((Bi7 L Q Y s (E0 0 (D9 (Ac L) Q Y (cd [1,1,1,0,1,0,1,1,1] Ts) (D9 (Ac L) Q Y (cd [1,1,1,1] Ts) (F0 (Ac L) ac8)))) L (j8 (gvs s0 true)) (D2 (gvs s0 true)) 0 (j0 8 [(SV.int .u16 (0:Int))]) (j0 8 [(SV.int .u16 (0:Int))])).trans (by kernel_rfl)))) rfl) (A0 (A4 λf=>(A0 (A4 λi=>(A0 (A4 λg=>(A0 (A0 rfl (A0 rfl (A4 λj=>(A0 rfl ((Bi8 L Q Y s (E0 2 (D9 (Ac L) Q Y (cd [1,1,1,1,1,1,1,1] Ts) (F0 (Ac L) ac8))) L (j8 (gvs f false)) (D2 (gvs f false)) (j8 (gvs g true)) (D2 (gvs g true)) 0 (j0 8 [(SV.int .u16 (0:Int))]) (j0 8 [(SV.int .u16 (0:Int))])).trans (congr rfl (fx4 λa e b c=>(j1 (by kernel_rfl) ((Bi9 L Q Y s (E0 4 (D9 (Ac L) Q Y (cd [1,1,1,1,1,1,1,1,1] Ts) (F0 (Ac L) ac8))) L a e 0 b c).trans (by kernel_rfl)))))))))) rfl)) rfl)) rfl)) rfl)) rfl))
noncomputable abbrev Br3:Code:=C3 ag1
noncomputable def Ma(L:Nat):Cfg:=B5 L [132] (A2 [(3,[2,0,0])]) [] (A2 [(6,[2]),(4,[3,0]),(5,[3,0]),(3,[3,0,6]),(2,[3,0]),(1,[0,2]),(0,[0])]) [] (A2 [(0,[3]),(1,[3,0])]) (some [2]) [] [] []
noncomputable def Ao{R:Type}(L n:Nat)(a:By)(v1:Int)(f:By->Option R):Option R:=match n with|0=>none|n+1=>cond (ltI 0 v1) (vl (Dt ((x4 v1 (16:Int))+1)) λb=>cond (I6 (x4 v1 (16:Int)) b 16) (vl (cut ([48,49,50,51,52,53,54,55,56,57,97,98,99,100,101,102]:List UInt8) (x4 v1 (16:Int)) b) λd=>cond (E7 d.length a.length) (vl (Dt (y9 v1 (16:Int))) λg=>Ao L n (d++a) g f) none) none) (cond (a==[]) (vl (Dt ((x4 v1 (16:Int))+1)) λc=>cond (I6 (x4 v1 (16:Int)) c 16) (vl (cut ([48,49,50,51,52,53,54,55,56,57,97,98,99,100,101,102]:List UInt8) (x4 v1 (16:Int)) c) λe=>cond (E7 e.length a.length) (vl (Dt (y9 v1 (16:Int))) λh=>Ao L n (e++a) h f) none) none) (f a))
theorem Al9(n a v1):C7 0 ((Ma L).keep 3) (bd (Ma L) Q Y (cd [1,1,0,1,0,0] Br3)) n ⟨gp [(3,pS a),(0,p16 v1)] 18,[],s⟩ k =
 Ao L n a v1 (λa=>k (.exit 0) ⟨gp [(3,pS a)] 19,[],s⟩):=by
 induction n generalizing a v1 with
 | zero=>rfl
 | succ n b=>rw[Ao];simp only[<-b];kernel_rfl
noncomputable def Bw1{R:Type}(L:Nat)(b:Int)(c:By->Option R):Option R:=Ao L L ([]:List UInt8) b (λa=>c a)
theorem Ct4(d:Nat)(g0):evC (Ma L) (d+1) Z Y 132 [p16 g0] [] s=Bw1 L g0 (λa=>some (pS a,[],s)):=by refine(evE (fn:=ag1) (by kernel_rfl)).trans ?_;generalize evC (Ma L) d=Q;unfold Bw1;exact(j1 (by kernel_rfl) ((Al9 L Q Y s (E0 0 (D9 (Ma L) Q Y (cd [1,1,1] Br3) (F0 (Ma L) ag1))) L ([]:List UInt8) g0).trans (by kernel_rfl)))
noncomputable abbrev Pe:Code:=C3 af4
noncomputable def X7(L:Nat):Cfg:=B5 L [97] (A2 [(12,[1,0,0,0,2,0]),(6,[1,0,0,0,0,0]),(3,[1,0,0,0,0])]) [(132,Bp1)] (A2 [(20,[2]),(13,[1,1,0,2,0]),(19,[1,1,0,2,0]),(18,[1,1,0,2,0]),(17,[1,1,0,2,0,45]),(16,[1,1,0,2,0]),(15,[1,1,0,2,0]),(14,[1,1,0,2,0,29]),(12,[1,1,0,2,0,24]),(11,[1,1,0,2,0]),(10,[1,1,0,2]),(4,[1,1,0,0]),(9,[1,1,0,0]),(8,[1,1,0,0,0,22]),(7,[1,1,0,0,0]),(6,[1,1,0,0,0,17]),(5,[1,1,0,0,0]),(3,[1,1,0,0,4]),(2,[1,1,0,0]),(1,[1,1,0]),(0,[1])]) [132] (A2 [(4,[7]),(5,[1,1,0,2,0]),(0,[1,1,0]),(1,[1,1,0,0]),(2,[1,1,0,0,0]),(3,[1,1,0,0,0])]) (some [2]) [] [] []
noncomputable def Nk{R:Type}(L n:Nat)(b a c d:Int)(e:LL)(f:Int->Int->Int->Int->LL->Option R):Option R:=match n with|0=>none|n+1=>cond (ltI (A1 (c+d)) (8:Int)) (cond (inR (A1 (c+d)) 8) (cond (okE ⟨true,false,[.int .u16]⟩ e (b8 (A1 (c+d))) 0) (vl (gE e (b8 (A1 (c+d))) 0) λg=>cond (g==0) (Nk L n b a c (A1 (d+1)) e f) (f b a c d e)) none) none) (f b a c d e)
theorem Bi4(n b a c e d):C7 1 ((X7 L).keep 6) (bd (X7 L) Q Y (cd [1,1,0,1,0,0,1,0,0,1,0,0,0] Pe)) n ⟨gp [(1,.ptr 0 0 0),(1,pI b),(0,pI a),(0,pI c),(0,pI e)] 57,[.arr false 26 1 d],s⟩ k =
 Nk L n b a c e d (λb a c e d=>k (.exit 2) ⟨gp [(1,.ptr 0 0 0),(1,pI b),(0,pI a),(0,pI c),(0,pI e)] 57,[.arr false 26 1 d],s⟩):=by
 induction n generalizing b a c e d with
 | zero=>rfl
 | succ n f=>rw[Nk];simp only[<-f];kernel_rfl
noncomputable def Jg{R:Type}(L n:Nat)(e b i:Int)(j:LL)(h:Int->Int->LL->Option R):Option R:=match n with|0=>none|n+1=>cond (ltI i 8) (Nk L L e b i 0 j (λd a c g f=>cond (ltI a g) (Jg L n c g (A1 (c+1)) f h) (Jg L n d a (A1 (c+1)) f h))) (h e b j)
theorem Bi5(n b a i2 l3):C7 1 ((X7 L).keep 3) (bd (X7 L) Q Y (cd [1,1,0,1,0,0] Pe)) n ⟨gp [(1,.ptr 0 0 0),(1,pI b),(0,pI a),(0,pI i2)] 58,[.arr false 26 1 l3],s⟩ k =
 Jg L n b a i2 l3 (λb a i=>k (.exit 0) ⟨gp [(1,.ptr 0 0 0),(1,pI b),(0,pI a)] 59,[.arr false 26 1 i],s⟩):=by
 induction n generalizing b a i2 l3 with
 | zero=>rfl
 | succ n h=>rw[Jg];exact(j1 (by kernel_rfl) (A0 ((Bi4 L Q Y s (E0 2 (D9 (X7 L) Q Y (cd [1,1,0,1,0,0,1,0,0,1,1] Pe) (E0 1 (D9 (X7 L) Q Y (cd [1,1,0,1,0,0,1,1] Pe) (lpK 1 ((X7 L).keep 3) (bd (X7 L) Q Y (cd [1,1,0,1,0,0] Pe)) n k))))) L b a i2 0 l3).trans (congr rfl (fx5 λe c d g f=>(j1 (by kernel_rfl) (A0 (h d g (A1 (d+1)) f) (h e c (A1 (d+1)) f)))))) rfl))
noncomputable def T1{R:Type}(L n:Nat)(e a:Int)(d:By)(b:Int)(c:LL)(l:By->LL->Option R):Option R:=match n with|0=>none|n+1=>cond (ltI b 8) (cond (b==e) (cond (E7 d.length 2) (vl (d++[58,58]) λp=>vl (A1 (a-1)) λm=>vl (A1 ((A1 (b+m))+1)) λo=>T1 L n e a p o c l) none) (cond (not (d==[])) (vl (A1 ((d.length:Int)-1)) λf=>cond (inR f d.length) (cond ((bAt d f)!=58) (cond (E7 d.length 1) (vl (d++[58]) λg=>cond (inR b 8) (cond (okE ⟨true,false,[.int .u16]⟩ c (b8 b) 0) (cond (ltN (gE c (b8 b) 0) 65536) (vl (S7 (b8 (gE c (b8 b) 0))) λh=>cond (E7 g.length h.length) (T1 L n e a (g++h) (A1 (b+1)) c l) none) none) none) none) none) (cond (inR b 8) (cond (okE ⟨true,false,[.int .u16]⟩ c (b8 b) 0) (cond (ltN (gE c (b8 b) 0) 65536) (vl (S7 (b8 (gE c (b8 b) 0))) λi=>cond (E7 d.length i.length) (T1 L n e a (d++i) (A1 (b+1)) c l) none) none) none) none)) none) (cond (inR b 8) (cond (okE ⟨true,false,[.int .u16]⟩ c (b8 b) 0) (cond (ltN (gE c (b8 b) 0) 65536) (vl (S7 (b8 (gE c (b8 b) 0))) λj=>cond (E7 d.length j.length) (T1 L n e a (d++j) (A1 (b+1)) c l) none) none) none) none))) (l d c)
theorem Bi6(n at0 most1 s2 i3 l4):C7 1 ((X7 L).keep 12) (bd (X7 L) Q Y (cd [1,1,1,1,0,1,0,0] Pe)) n ⟨gp [(1,.ptr 0 0 0),(1,pI at0),(0,pI most1),(2,pS s2),(0,pI i3)] 55,[.arr false 26 1 l4],s⟩ k =
 T1 L n at0 most1 s2 i3 l4 (λc b=>k (.exit 4) ⟨gp [(7,pS c)] 56,[.arr false 26 1 b],s⟩):=by
 induction n generalizing at0 most1 s2 i3 l4 with
 | zero=>rfl
 | succ n a=>rw[T1];simp only[<-a];kernel_rfl
noncomputable def Dh8{R:Type}(L:Nat)(f g h i j l m n:Int)(o:By->LL->Option R):Option R:=Jg L L (-1) 1 0 [[(SV.int .u16 f)],[(SV.int .u16 g)],[(SV.int .u16 h)],[(SV.int .u16 i)],[(SV.int .u16 j)],[(SV.int .u16 l)],[(SV.int .u16 m)],[(SV.int .u16 n)]] (λb a e=>T1 L L b a ([]:List UInt8) 0 e (λd c=>o d c))
theorem Dh9(d:Nat)(a0 a1 a2 a3 a4 a5 a6 a7):evC (X7 L) (d+1) Z Y 97 [.agg [p16 a0,p16 a1,p16 a2,p16 a3,p16 a4,p16 a5,p16 a6,p16 a7]] [] s=Dh8 L a0 a1 a2 a3 a4 a5 a6 a7 (λf e=>some (pS f,[.arr false 26 1 e],s)):=by refine(evE (fn:=af4) (by kernel_rfl)).trans ?_;generalize evC (X7 L) d=Q;unfold Dh8;exact(j1 (by kernel_rfl) ((Bi5 L Q Y s (E0 0 (D9 (X7 L) Q Y (cd [1,1,1] Pe) (F0 (X7 L) af4))) L (-1) 1 0 [[(SV.int .u16 a0)],[(SV.int .u16 a1)],[(SV.int .u16 a2)],[(SV.int .u16 a3)],[(SV.int .u16 a4)],[(SV.int .u16 a5)],[(SV.int .u16 a6)],[(SV.int .u16 a7)]]).trans (congr rfl (fx3 λb a c=>(j1 (by kernel_rfl) ((Bi6 L Q Y s (E0 4 (D9 (X7 L) Q Y (cd [1,1,1,1,1] Pe) (F0 (X7 L) af4))) L b a ([]:List UInt8) 0 c).trans (by kernel_rfl)))))))
noncomputable def JN(L:Nat):Cfg:=B5 L [213] (A2 []) [] (A2 [(1,[2]),(0,[0])]) [] (A2 []) (some [2]) [] [] []
noncomputable def YN{R:Type}(L:Nat)(n0:Int)(a:Bool->Option R):Option R:=cond (not (ltI n0 0)) (cond (not (ltI 1114111 n0)) (cond (ltI n0 55296) (a true) (a (ltI 57343 n0))) (a false)) (a false)
theorem B65(d:Nat)(n0):evC (JN L) (d+1) Z Y 213 [pI n0] [] s=YN L n0 (λa=>some (pB a,[],s)):=by refine(evE (fn:=Tryz.f213) (by kernel_rfl)).trans ?_;generalize evC (JN L) d=Q;unfold YN;kernel_rfl
noncomputable abbrev Pc:Code:=C3 ae1
noncomputable def X5(L:Nat):Cfg:=B5 L [215] (A2 [(6,[0,5,0])]) [] (A2 [(9,[6]),(8,[0,6]),(7,[0,6]),(6,[0,6,11]),(5,[0,6]),(4,[0]),(2,[0,0]),(3,[0,0]),(1,[0,0,6]),(0,[0,0,0])]) [] (A2 [(0,[0,6]),(1,[0,6])]) (some [6]) [] [] []
noncomputable def Gj{R:Type}(L n:Nat)(a b:Int)(e:Int->Int->Option R):Option R:=match n with|0=>none|n+1=>cond (ltI 455 a) (vl (A1 (y9 a (35:Int))) λc=>vl (A1 (b+36)) λd=>Gj L n c d e) (e a b)
theorem YJ(n a b):C7 0 ((X5 L).keep 6) (bd (X5 L) Q Y (cd [1,1,1,1,0,0,0] Pc)) n ⟨gp [(0,pI a),(6,pI b)] 23,[],s⟩ k =
 Gj L n a b (λa b=>k (.exit 0) ⟨gp [(0,pI a),(6,pI b)] 23,[],s⟩):=by
 induction n generalizing a b with
 | zero=>rfl
 | succ n c=>rw[Gj];simp only[<-c];kernel_rfl
noncomputable def Gi{R:Type}(L:Nat)(c b:Int)(i:Int->Option R):Option R:=cond (b !=0) (vl (A1 (y9 c b)) λh=>Gj L L (A1 (c+h)) 0 (λa e=>vl (A1 ((36:Int)*a)) λf=>vl (A1 (a+38)) λd=>cond (d !=0) (vl (A1 (y9 f d)) λg=>i (A1 (e+g))) none)) none
abbrev EF(b:Code):Prop:=∀(k:Out->St Z->Option R) delta0 count1,A9 (X5 L) Q Y b ⟨gp [(0,pI delta0),(0,pI count1)] 29,[],s⟩ k=Gi L delta0 count1 (λn0=>k .ret ⟨gp [(6,pI n0)] 24,[],s⟩)
theorem YI:EF (R:=R) L Q Y s (cd [1,1] Pc):=by intro k a b;unfold Gi;exact(j1 (by kernel_rfl) (A0 (A4 λc=>((YJ L Q Y s (E0 0 (D9 (X5 L) Q Y (cd [1,1,1,1,1] Pc) k)) L (A1 (a+c)) 0).trans (by kernel_rfl))) rfl))
noncomputable def MA{R:Type}(L:Nat)(b a:Int)(c:Bool)(h:Int->Option R):Option R:=cond c (vl (A1 (y9 b (700:Int))) λf=>Gi L f a (λd=>h d)) (vl (A1 (y9 b (2:Int))) λg=>Gi L g a (λe=>h e))
theorem B51(e:Code)(a:EF (R:=PV × List Blk × Z) L Q Y s e)(c b:Int)(d:Bool):A9 (X5 L) Q Y (cd [] (G2 [1,1] e Pc)) ⟨[pI c,pI b,pB d]++tps 28,[],s⟩ (F0 (X5 L) ae1)=MA L c b d (λi=>some (pI i,[],s)):=by unfold MA;exact let h:=(F0 (X5 L) ae1);(j1 (by kernel_rfl) (A0 (A4 λf=>((a h f b).trans (by kernel_rfl))) (A4 λg=>((a h g b).trans (by kernel_rfl)))))
theorem B52(d:Nat)(delta0 count1 first2):evC (X5 L) (d+1) Z Y 215 [pI delta0,pI count1,pB first2] [] s=MA L delta0 count1 first2 (λa=>some (pI a,[],s)):=
 (evE (fn:=ae1) (by kernel_rfl)).trans (j1 (by kernel_rfl) (B51 L (evC (X5 L) d) Y s (cd [1,1] Pc) (YI L (evC (X5 L) d) Y s) delta0 count1 first2))
noncomputable def A04(L:Nat):Cfg:=B5 L [239] (A2 []) [] (A2 [(3,[2]),(2,[2]),(1,[0,3]),(0,[0])]) [] (A2 []) (some [2]) [] [] []
noncomputable def Dd7{R:Type}(L:Nat)(a:Int)(d:Int->Option R):Option R:=cond (ltI a 26) (vl (wu8 (A1 ((97:Int)+a))) λb=>d b) (vl (A1 ((A1 ((48:Int)+a))-26)) λc=>d (wu8 c))
theorem Dd8(d:Nat)(d0):evC (A04 L) (d+1) Z Y 239 [pI d0] [] s=Dd7 L d0 (λa=>some (p8 a,[],s)):=by refine(evE (fn:=Tryz.f239) (by kernel_rfl)).trans ?_;generalize evC (A04 L) d=Q;unfold Dd7;kernel_rfl
noncomputable abbrev Tp:Code:=C3 ae3
noncomputable def Jp(L:Nat):Cfg:=B5 L [250] (A2 []) [] (A2 [(7,[2]),(2,[2]),(4,[2]),(6,[2]),(5,[0,22]),(3,[0,12]),(1,[0,2]),(0,[0])]) [] (A2 [(0,[])]) (some [2]) [] [] []
noncomputable def Xw{R:Type}(a:Int)(g:Bool)(e:Int->Option R)(f:Int->Bool->Option R):Option R:=cond g (vl (A1 (wu8 (a-65))) λb=>e b) (cond (not (ltI a 48)) (cond (not (ltI 57 a)) (vl (A1 (wu8 (a-48))) λc=>vl (A1 (c+26)) λd=>e d) (f a (not (ltI 57 a)))) (f a false))
abbrev QW(b:Code):Prop:=∀(k:Out->St Z->Option R) a c,A9 (Jp L) Q Y b ⟨gp [(0,p8 a),(12,pB c)] 20,[],s⟩ k=Xw a c (λn0=>k .ret ⟨gp [(2,pI n0)] 31,[],s⟩) (λa c=>k .normal ⟨gp [(0,p8 a),(22,pB c)] 10,[],s⟩)
theorem A95:QW (R:=R) L Q Y s (cd [1,0,0,1,1,1] Tp):=by intro k a b;unfold Xw;kernel_rfl
noncomputable def Xx{R:Type}(a:Int)(l:Bool)(f:Int->Option R)(j:Int->Bool->Option R):Option R:=cond l (vl (A1 (wu8 (a-97))) λg=>f g) (cond (not (ltI a 65)) (Xw a (not (ltI 90 a)) (λh=>f h) (λb c=>j b c)) (Xw a false (λi=>f i) (λd e=>j d e)))
abbrev CH(b:Code):Prop:=∀(k:Out->St Z->Option R) a c,A9 (Jp L) Q Y b ⟨gp [(0,p8 a),(2,pB c)] 30,[],s⟩ k=Xx a c (λn0=>k .ret ⟨gp [(2,pI n0)] 31,[],s⟩) (λa c=>k .normal ⟨gp [(0,p8 a),(22,pB c)] 10,[],s⟩)
theorem A96(a:Code)(b:QW (R:=R) L Q Y s a):CH (R:=R) L Q Y s (cd [1,0,0,1] (G2 [1,0,0,1,1,1] a Tp)):=by intro k c d;unfold Xx;simp only[<-b k];kernel_rfl
theorem A97:CH (R:=R) L Q Y s (cd [1,0,0,1] Tp):=by intro k a b;exact j1 (by kernel_rfl) (A96 L Q Y s (cd [1,0,0,1,1,1] Tp) (A95 L Q Y s) k a b)
noncomputable def Cr6{R:Type}(L:Nat)(c:Int)(d:Int->Option R):Option R:=cond (not (ltI c 97)) (Xx c (not (ltI 122 c)) (λa=>d a) (λe f=>d (-1))) (Xx c false (λb=>d b) (λg h=>d (-1)))
theorem De8(b:Code)(a:CH (R:=PV × List Blk × Z) L Q Y s b)(c:Int):A9 (Jp L) Q Y (cd [] (G2 [1,0,0,1] b Tp)) ⟨[p8 c]++tps 33,[],s⟩ (F0 (Jp L) ae3)=Cr6 L c (λe=>some (pI e,[],s)):=by unfold Cr6;exact let d:=(E0 0 (D9 (Jp L) Q Y (cd [1,1] Tp) (F0 (Jp L) ae3)));(j1 (by kernel_rfl) (A0 ((a d c (not (ltI 122 c))).trans (by kernel_rfl)) ((a d c false).trans (by kernel_rfl))))
theorem De9(d:Nat)(b0):evC (Jp L) (d+1) Z Y 250 [p8 b0] [] s=Cr6 L b0 (λa=>some (pI a,[],s)):=
 (evE (fn:=ae3) (by kernel_rfl)).trans (j1 (by kernel_rfl) (De8 L (evC (Jp L) d) Y s (cd [1,0,0,1] Tp) (A97 L (evC (Jp L) d) Y s) b0))
end
section
variable {Z R : Type} (L : Nat) (Q : F8) (Y : Yh Z) (s : Z) (k : Out -> St Z -> Option R)
noncomputable def A01(L:Nat):Cfg:=B5 L [163] (A2 []) [] (A2 [(1,[4]),(0,[0,0])]) [] (A2 []) (some [4]) [] [] []
noncomputable def Dc0{R:Type}(L:Nat)(c a:By)(d:Bool->Option R):Option R:=cond (not (ltI (c.length:Int) (a.length:Int))) (cond (I6 0 (a.length:Int) c.length) (vl (cut c 0 (a.length:Int)) λb=>d (b==a)) none) (d false)
theorem Dc1(d:Nat)(s0 prefix1):evC (A01 L) (d+1) Z Y 163 [pS s0,pS prefix1] [] s=Dc0 L s0 prefix1 (λa=>some (pB a,[],s)):=by refine(evE (fn:=Tryz.f163) (by kernel_rfl)).trans ?_;generalize evC (A01 L) d=Q;unfold Dc0;kernel_rfl
noncomputable def Az8(L:Nat):Cfg:=B5 L [120] (A2 []) [(163,TH)] (A2 [(1,[4]),(0,[0,0])]) [163] (A2 []) (some [4]) [] [] []
noncomputable def Um{R:Type}(L:Nat)(b a:By)(c:Bool->Option R):Option R:=cond (A3 b.length) (c (o7 a b)) none
theorem Da4(d:Nat)(s0 prefix1):evC (Az8 L) (d+1) Z Y 120 [pS s0,pS prefix1] [] s=Um L s0 prefix1 (λa=>some (pB a,[],s)):=by refine(evE (fn:=Tryz.f120) (by kernel_rfl)).trans ?_;generalize evC (Az8 L) d=Q;unfold Um;kernel_rfl
noncomputable def A02(L:Nat):Cfg:=B5 L [232] (A2 []) [] (A2 [(1,[4]),(0,[0,0])]) [] (A2 []) (some [4]) [] [] []
noncomputable def Dc2{R:Type}(L:Nat)(b a:By)(e:Bool->Option R):Option R:=cond (not (ltI (b.length:Int) (a.length:Int))) (vl (A1 ((b.length:Int)-(a.length:Int))) λc=>cond (I6 c (b.length:Int) b.length) (vl (cut b c (b.length:Int)) λd=>e (d==a)) none) (e false)
theorem Dc3(d:Nat)(s0 suffix1):evC (A02 L) (d+1) Z Y 232 [pS s0,pS suffix1] [] s=Dc2 L s0 suffix1 (λa=>some (pB a,[],s)):=by refine(evE (fn:=Tryz.f232) (by kernel_rfl)).trans ?_;generalize evC (A02 L) d=Q;unfold Dc2;kernel_rfl
noncomputable def Az9(L:Nat):Cfg:=B5 L [207] (A2 []) [(232,Av9)] (A2 [(1,[4]),(0,[0,0])]) [232] (A2 []) (some [4]) [] [] []
noncomputable def Da5{R:Type}(L:Nat)(b a:By)(c:Bool->Option R):Option R:=cond (A3 b.length) (c (aa5 a b)) none
theorem Da6(d:Nat)(s0 suffix1):evC (Az9 L) (d+1) Z Y 207 [pS s0,pS suffix1] [] s=Da5 L s0 suffix1 (λa=>some (pB a,[],s)):=by refine(evE (fn:=Tryz.f207) (by kernel_rfl)).trans ?_;generalize evC (Az9 L) d=Q;unfold Da5;kernel_rfl
noncomputable def WC(L:Nat):Cfg:=B5 L [221] (A2 []) [(232,Av9)] (A2 [(3,[4]),(2,[4]),(1,[0,0,5]),(0,[0,0])]) [232] (A2 []) (some [4]) [] [] []
noncomputable def Bu2{R:Type}(L:Nat)(b a:By)(d:By->Option R):Option R:=cond (A3 b.length) (cond (aa5 a b) (vl (A1 ((b.length:Int)-(a.length:Int))) λc=>cond (I6 0 c b.length) (d (cut b 0 c)) none) (d b)) none
theorem Cp0(d:Nat)(s0 suffix1):evC (WC L) (d+1) Z Y 221 [pS s0,pS suffix1] [] s=Bu2 L s0 suffix1 (λa=>some (pS a,[],s)):=by refine(evE (fn:=Tryz.f221) (by kernel_rfl)).trans ?_;generalize evC (WC L) d=Q;unfold Bu2;kernel_rfl
noncomputable def WS(L:Nat):Cfg:=B5 L [199] (A2 []) [(221,Bo2)] (A2 [(1,[4]),(0,[0,0])]) [221] (A2 []) (some [4]) [] [] []
noncomputable def Bx6{R:Type}(L:Nat)(b a:By)(c:By->Option R):Option R:=cond (A3 b.length) (c (ZY b a)) none
theorem Cz2(d:Nat)(s0 suffix1):evC (WS L) (d+1) Z Y 199 [pS s0,pS suffix1] [] s=Bx6 L s0 suffix1 (λa=>some (pS a,[],s)):=by refine(evE (fn:=Tryz.f199) (by kernel_rfl)).trans ?_;generalize evC (WS L) d=Q;unfold Bx6;kernel_rfl
noncomputable def VY(L:Nat):Cfg:=B5 L [158] (A2 []) [(163,TH)] (A2 [(3,[4,0]),(2,[4,0]),(1,[0,0,7]),(0,[0,0])]) [163] (A2 []) (some [4,0]) [] [] []
noncomputable def Bt6{R:Type}(L:Nat)(b a:By)(d:By->Bool->Option R):Option R:=cond (A3 b.length) (cond (not (o7 a b)) (d b false) (cond (I6 (a.length:Int) (b.length:Int) b.length) (vl (cut b (a.length:Int) (b.length:Int)) λc=>d c true) none)) none
theorem Co3(d:Nat)(s0 prefix1):evC (VY L) (d+1) Z Y 158 [pS s0,pS prefix1] [] s=Bt6 L s0 prefix1 (λa b=>some (.tup [pS a,pB b],[],s)):=by refine(evE (fn:=Tryz.f158) (by kernel_rfl)).trans ?_;generalize evC (VY L) d=Q;unfold Bt6;kernel_rfl
noncomputable def Az2(L:Nat):Cfg:=B5 L [118] (A2 []) [(158,Bn9)] (A2 [(1,[4,0]),(0,[0,0])]) [158] (A2 []) (some [4,0]) [] [] []
noncomputable def C70{R:Type}(L:Nat)(b a:By)(c:By->Bool->Option R):Option R:=cond (A3 b.length) (c (Gz b a) (o7 a b)) none
theorem C71(d:Nat)(s0 prefix1):evC (Az2 L) (d+1) Z Y 118 [pS s0,pS prefix1] [] s=C70 L s0 prefix1 (λa b=>some (.tup [pS a,pB b],[],s)):=by refine(evE (fn:=Tryz.f118) (by kernel_rfl)).trans ?_;generalize evC (Az2 L) d=Q;unfold C70;kernel_rfl
noncomputable abbrev Ad8:Code:=C3 ag8
noncomputable def Ec(L:Nat):Cfg:=B5 L [210] (A2 [(11,[0,0,0,0,4,0,0])]) [(234,Kh),(235,Ax1),(179,IP)] (A2 [(18,[8]),(17,[9,0]),(16,[0,0,0,0,5,0]),(15,[0,0,0,0,5,0]),(14,[0,0,0,0,5,0,0]),(13,[0,0,0,0,5,0,0,29]),(12,[0,0,0,0,5,0,0]),(11,[0,0,0,0,5,0,25]),(10,[0,0,0,0,5,0]),(9,[0,0,0,0,5]),(8,[0,0,0,0,5]),(7,[0,0,0,0]),(6,[0,0,0,0]),(5,[0,0,0,0,16]),(4,[8]),(3,[0,0,0,0,11]),(2,[8]),(1,[0,0,0,0,9]),(0,[0,0,0,0])]) [235,179] (A2 [(0,[0,8,0]),(1,[0,0,0,0,5,0])]) (some [8]) [] [] []
noncomputable def Bj{R:Type}(L n:Nat)(c b:By)(a l d:Int)(g:LL)(j:By->Int->LL->Option R):Option R:=match n with|0=>none|n+1=>cond (ltI d l) (cond (A3 c.length) (cond (ltI (x8 c b) (0:Int)) (j c d g) (vl (A1 ((x8 c b)+a)) λe=>cond (I6 0 e c.length) (cond (inR d g.length) (cond (decide ((b8 d)<g.length)) (vl (aa3 g (b8 d) (G1 (b9 g (b8 d) []) 0 [(SV.str (cut c 0 e))])) λh=>vl (A1 ((x8 c b)+(b.length:Int))) λf=>cond (I6 f (c.length:Int) c.length) (vl (cut c f (c.length:Int)) λi=>Bj L n i b a l (A1 (d+1)) h j) none) none) none) none)) none) (j c d g)
theorem Xa(n a sep1 sepSave2 n3 i4 l5):C7 1 ((Ec L).keep 11) (bd (Ec L) Q Y (cd [1,1,1,1,1,1,1,1,0,0,0] Ad8)) n ⟨gp [(0,pS a),(0,pS sep1),(0,pI sepSave2),(0,pI n3),(5,.fl 0),(0,pI i4)] 55,[.arr false 9 1 l5],s⟩ k =
 Bj L n a sep1 sepSave2 n3 i4 l5 (λa b d=>k (.exit 0) ⟨gp [(0,pS a),(8,.fl 0),(0,pI b)] 55,[.arr false 9 1 d],s⟩):=by
 induction n generalizing a sep1 sepSave2 n3 i4 l5 with
 | zero=>rfl
 | succ n c=>rw[Bj];simp only[<-c];kernel_rfl
noncomputable def KR{R:Type}(L:Nat)(t d:By)(a u:Int)(w:Unit->Option R)(v:Nat->LL->Option R):Option R:=cond (u==0) (w ()) (cond (d==[]) none (cond (ltI u 0) (cond (d.length==1) (vl (↑(List.count (b9 d 0 0) t):Int) λn=>vl (A1 ((t.length:Int)+1)) λo=>vl (if (o<(A1 (n+1))) then o else (A1 (n+1))) λg=>cond (((decide ((0:Int)<=g))&&(decide (g<=g)))&&(F9 (b8 g))) (Bj L L t d a (A1 (g-1)) 0 (j0 (b8 g) [(SV.str ([]:List UInt8))]) (λq b e=>cond (inR b e.length) (cond (decide ((b8 b)<e.length)) (vl (aa3 e (b8 b) (G1 (b9 e (b8 b) []) 0 [(SV.str q)])) λi=>vl (A1 (b+1)) λl=>cond (I6 0 l i.length) (v ((b8 l)-0) i) none) none) none)) none) none) (vl (A1 ((t.length:Int)+1)) λp=>vl (if (p<u) then p else u) λh=>cond (((decide ((0:Int)<=h))&&(decide (h<=h)))&&(F9 (b8 h))) (Bj L L t d a (A1 (h-1)) 0 (j0 (b8 h) [(SV.str ([]:List UInt8))]) (λr c f=>cond (inR c f.length) (cond (decide ((b8 c)<f.length)) (vl (aa3 f (b8 c) (G1 (b9 f (b8 c) []) 0 [(SV.str r)])) λj=>vl (A1 (c+1)) λm=>cond (I6 0 m j.length) (v ((b8 m)-0) j) none) none) none)) none)))
theorem QD(d:Nat)(s0 sep1 sepSave2 n3):evC (Ec L) (d+1) Z Y 210 [pS s0,pS sep1,pI sepSave2,pI n3] [] s=KR L s0 sep1 sepSave2 n3 (λ_=>some (.fl 0,[.arr true 9 1 []],s)) (λc f=>some (.vw 0 0 c,[.arr false 9 1 f],s)):=by refine(evE (fn:=ag8) (by kernel_rfl)).trans ?_;generalize evC (Ec L) d=Q;unfold KR;exact let e:=(E0 0 (D9 (Ec L) Q Y (cd [1,1,1,1,1,1,1,1,1] Ad8) (F0 (Ec L) ag8)));(j1 (by kernel_rfl) (A0 rfl (A0 rfl (A0 (A0 (A4 λg=>(A4 λh=>(A4 λa=>(A0 ((Xa L Q Y s e L s0 sep1 sepSave2 (A1 (a-1)) 0 (j0 (b8 a) [(SV.str ([]:List UInt8))])).trans (by kernel_rfl)) rfl)))) rfl) (A4 λi=>(A4 λb=>(A0 ((Xa L Q Y s e L s0 sep1 sepSave2 (A1 (b-1)) 0 (j0 (b8 b) [(SV.str ([]:List UInt8))])).trans (by kernel_rfl)) rfl)))))))
noncomputable def JT(L:Nat):Cfg:=B5 L [176] (A2 []) [(210,Ac2)] (A2 [(1,[4]),(0,[0,0])]) [] (A2 []) (some [4]) [] [] []
noncomputable def ZT{R:Type}(L:Nat)(c a:By)(d:LL->Option R):Option R:=cond (A3 c.length) (cond (a.length==1) (cond ((0:Int)==0) (cond (((-1):Int)==((-1):Int)) (vl (D1 (pcs (b9 a 0 0) c)) λb=>d b) none) none) none) none
theorem Cc0(d:Nat)(s0 sep1):evC (JT L) (d+1) Z Y 176 [pS s0,pS sep1] [] s=ZT L s0 sep1 (λa=>some (.s (.sl false false 1 a),[],s)):=by refine(evE (fn:=Tryz.f176) (by kernel_rfl)).trans ?_;generalize evC (JT L) d=Q;unfold ZT;kernel_rfl
noncomputable abbrev Cj4:Code:=C3 af8
noncomputable def Tw(L:Nat):Cfg:=B5 L [116] (A2 [(3,[0,1,0,6,0])]) [] (A2 [(10,[2]),(9,[0,2,6,0]),(8,[0,2,6,0]),(7,[0,2,1,4,0]),(6,[0,2,1,4,0,10]),(5,[0,2,1,4,0]),(4,[0,2,0,5,0]),(3,[0,2,6,0,0]),(2,[0,2,6,0]),(1,[0,2]),(0,[0])]) [] (A2 [(0,[3]),(1,[0,2,6,0])]) (some [2]) [] [] []
noncomputable def Fi{R:Type}(L n:Nat)(b:By)(e a:Int)(c:LL)(d:LL->Option R):Option R:=match n with|0=>none|n+1=>cond (ltI a e) (cond (inR a b.length) (cond (not (ltI (bAt b a) (65:Int))) (cond (not (ltI 90 (bAt b a))) (vl (wu8 ((bAt b a)+32)) λf=>cond (F9 (c.length+1)) (Fi L n b e (A1 (a+1)) (c++[[(SV.int .u8 f)]]) d) none) (cond (F9 (c.length+1)) (Fi L n b e (A1 (a+1)) (c++[[(SV.int .u8 (bAt b a))]]) d) none)) (cond (F9 (c.length+1)) (Fi L n b e (A1 (a+1)) (c++[[(SV.int .u8 (bAt b a))]]) d) none)) none) (d c)
theorem A60(n s0 n1 n2 l3):C7 1 ((Tw L).keep 3) (bd (Tw L) Q Y (cd [1,1,0,1,0,0] Cj4)) n ⟨gp [(0,pS s0),(2,.fl 0),(6,pI n1),(0,pI n2)] 20,[.arr false 5 1 l3],s⟩ k =
 Fi L n s0 n1 n2 l3 (λb=>k (.exit 0) ⟨gp [(3,.fl 0)] 28,[.arr false 5 1 b],s⟩):=by
 induction n generalizing s0 n1 n2 l3 with
 | zero=>rfl
 | succ n a=>rw[Fi];simp only[<-a];kernel_rfl
noncomputable def Db8{R:Type}(L:Nat)(b:By)(c:By->LL->Option R):Option R:=cond ((decide ((0:Int)<=(b.length:Int)))&&(F9 (b8 (b.length:Int)))) (Fi L L b (b.length:Int) 0 [] (λa=>cond (w6 a Ol) (c (o9 Mg a) a) none)) none
theorem Db9(d:Nat)(s0):evC (Tw L) (d+1) Z Y 116 [pS s0] [] s=Db8 L s0 (λb a=>some (pS b,[.arr false 5 1 a],s)):=by refine(evE (fn:=af8) (by kernel_rfl)).trans ?_;generalize evC (Tw L) d=Q;unfold Db8;exact(j1 (by kernel_rfl) (A0 ((A60 L Q Y s (E0 0 (D9 (Tw L) Q Y (cd [1,1,1] Cj4) (F0 (Tw L) af8))) L s0 (s0.length:Int) 0 []).trans (by kernel_rfl)) rfl))
noncomputable def Az6(L:Nat):Cfg:=B5 L [137] (A2 []) [(120,GV)] (A2 [(1,[2]),(0,[0])]) [120] (A2 []) (some [2]) [] [] []
noncomputable def Da0{R:Type}(L:Nat)(a:By)(b:Bool->Option R):Option R:=cond (A3 a.length) (cond (o7 ([48,120]:List UInt8) a) (b true) (cond (A3 a.length) (b (o7 ([48,88]:List UInt8) a)) none)) none
theorem Da1(d:Nat)(s0):evC (Az6 L) (d+1) Z Y 137 [pS s0] [] s=Da0 L s0 (λa=>some (pB a,[],s)):=by refine(evE (fn:=Tryz.f137) (by kernel_rfl)).trans ?_;generalize evC (Az6 L) d=Q;unfold Da0;kernel_rfl
noncomputable abbrev Et:Code:=C3 ad6
noncomputable def W3(L:Nat):Cfg:=B5 L [139] (A2 [(3,[0,0,2,0,0,4,0])]) [] (A2 [(18,[4,0]),(17,[0,0,4,4,0]),(16,[0,0,4,4,0]),(15,[4,0]),(14,[0,0,4,1,2,0,39]),(9,[0,0,4,1,2,0]),(11,[0,0,4,1,2,0]),(13,[0,0,4,1,2,0]),(7,[4,0]),(12,[0,0,4,2,1,0,26]),(10,[0,0,4,2,1,0,15]),(8,[0,0,4,2,1,0,5]),(6,[0,0,4,2,1,0]),(5,[0,0,4,0,3,0]),(4,[0,0,4,0,3,0]),(3,[0,0,4,4,0,0]),(2,[0,0,4,4,0]),(1,[0,0,4]),(0,[0,0])]) [] (A2 [(0,[6]),(1,[0,0,4,4,0]),(2,[0,0,4,1,2,0])]) (some [4,0]) [] [] []
noncomputable def Wj{R:Type}(m:By)(a i b j l:Int)(n:Bool)(g:By->Int->Int->Int->Int->Int->Option R)(h:Unit->Option R):Option R:=cond n (vl (A1 (wu8 (b-97))) λc=>vl (A1 (c+10)) λd=>g m a i d j l) (cond (not (ltI b 65)) (cond (not (ltI 70 b)) (vl (A1 (wu8 (b-65))) λe=>vl (A1 (e+10)) λf=>g m a i f j l) (h ())) (h ()))
abbrev PW(b:Code):Prop:=∀(k:Out->St Z->Option R) f a c b3 d e b6,A9 (W3 L) Q Y b ⟨gp [(0,pS f),(0,pI a),(4,pI c),(2,p8 b3),(1,pI d),(0,pI e),(15,pB b6)] 32,[],s⟩ k=Wj f a c b3 d e b6 (λf a c g d e=>k .normal ⟨gp [(0,pS f),(0,pI a),(4,pI c),(1,pI g),(2,pI d),(0,pI e)] 48,[],s⟩) (λ_=>k .ret ⟨gp [(4,pI (0:Int)),(0,pB false)] 55,[],s⟩)
theorem A19:PW (R:=R) L Q Y s (cd [1,1,0,1,0,0,1,1,0,0,1,1,0,1,0,1,1,1] Et):=by intro k g a d b e f c;unfold Wj;kernel_rfl
noncomputable def Wk{R:Type}(v:By)(a q d r t:Int)(x:Bool)(m:By->Int->Int->Int->Int->Int->Option R)(w:Unit->Option R):Option R:=cond x (vl (A1 (wu8 (d-48))) λn=>m v a q n r t) (cond (not (ltI d 97)) (Wj v a q d r t (not (ltI 102 d)) (λu c o l p f=>m u c o l p f) (λ_=>w ())) (Wj v a q d r t false (λj b g e h i=>m j b g e h i) (λ_=>w ())))
abbrev Re(b:Code):Prop:=∀(k:Out->St Z->Option R) f a c b3 d e b6,A9 (W3 L) Q Y b ⟨gp [(0,pS f),(0,pI a),(4,pI c),(2,p8 b3),(1,pI d),(0,pI e),(5,pB b6)] 42,[],s⟩ k=Wk f a c b3 d e b6 (λf a c g d e=>k .normal ⟨gp [(0,pS f),(0,pI a),(4,pI c),(1,pI g),(2,pI d),(0,pI e)] 48,[],s⟩) (λ_=>k .ret ⟨gp [(4,pI (0:Int)),(0,pB false)] 55,[],s⟩)
theorem A20(a:Code)(b:PW (R:=R) L Q Y s a):Re (R:=R) L Q Y s (cd [1,1,0,1,0,0,1,1,0,0,1,1,0,1,0,1] (G2 [1,1,0,1,0,0,1,1,0,0,1,1,0,1,0,1,1,1] a Et)):=by intro k i c f d g h e;unfold Wk;simp only[<-b k];kernel_rfl
theorem A21:Re (R:=R) L Q Y s (cd [1,1,0,1,0,0,1,1,0,0,1,1,0,1,0,1] Et):=by intro k g a d b e f c;exact j1 (by kernel_rfl) (A20 L Q Y s (cd [1,1,0,1,0,0,1,1,0,0,1,1,0,1,0,1,1,1] Et) (A19 L Q Y s) k g a d b e f c)
noncomputable def Wl{R:Type}(j:By)(a g d h i:Int)(e:Unit->Option R)(f:By->Int->Int->Int->Int->Option R):Option R:=cond (not (ltI d a)) (e ()) (vl (A1 ((A1 (g*a))+d)) λb=>vl (if ((1099511627776:Int)<b) then (1099511627776:Int) else b) λc=>f j a c h i)
abbrev BG(b:Code):Prop:=∀(k:Out->St Z->Option R) e a c d3 d n5,A9 (W3 L) Q Y b ⟨gp [(0,pS e),(0,pI a),(4,pI c),(1,pI d3),(2,pI d),(0,pI n5)] 48,[],s⟩ k=Wl e a c d3 d n5 (λ_=>k .ret ⟨gp [(4,pI (0:Int)),(0,pB false)] 55,[],s⟩) (λe a c f d=>k .normal ⟨gp [(0,pS e),(0,pI a),(4,pI c),(4,pI f),(0,pI d)] 48,[],s⟩)
theorem A22:BG (R:=R) L Q Y s (cd [1,1,0,1,0,0,1,1,0,0,1,1,1] Et):=by intro k f a c b d e;unfold Wl;kernel_rfl
noncomputable def It{R:Type}(L n:Nat)(g:By)(e H I f:Int)(h:Unit->Option R)(G:Int->Option R):Option R:=match n with|0=>none|n+1=>cond (ltI f I) (cond (inR f g.length) (cond (not (ltI (bAt g f) (48:Int))) (Wk g e H (bAt g f) I f (not (ltI 57 (bAt g f))) (λB a l i m o=>Wl B a l i m o (λ_=>h ()) (λC b p q r=>vl (A1 (r+1)) λt=>It L n C b p q t h G)) (λ_=>h ())) (Wk g e H (bAt g f) I f false (λD c u j v w=>Wl D c u j v w (λ_=>h ()) (λF d x y z=>vl (A1 (z+1)) λA=>It L n F d x y A h G)) (λ_=>h ()))) none) (G H)
theorem A23(b:Code)(d:Re (R:=R) L Q Y s b)(a:Code)(e:BG (R:=R) L Q Y s a)(n:Nat)(l:By)(c C D j:Int):C7 0 ((W3 L).keep 3) (bd (W3 L) Q Y (cd [1,1,0,1,0,0] (G2 [1,1,0,1,0,0,1,1,0,0,1,1,1] a (G2 [1,1,0,1,0,0,1,1,0,0,1,1,0,1,0,1] b Et)))) n ⟨gp [(0,pS l),(0,pI c),(4,pI C),(4,pI D),(0,pI j)] 48,[],s⟩ k =
 It L n l c C D j (λ_=>k .ret ⟨gp [(4,pI (0:Int)),(0,pB false)] 55,[],s⟩) (λn0=>k (.exit 0) ⟨gp [(6,pI n0)] 54,[],s⟩):=by
 induction n generalizing l c C D j with
 | zero=>rfl
 | succ n M=>rw[It];exact let J:=(E0 1 (D9 (W3 L) Q Y (cd [1,1,0,1,0,0,1,1,1] Et) (lpK 0 ((W3 L).keep 3) (bd (W3 L) Q Y (cd [1,1,0,1,0,0] (G2 [1,1,0,1,0,0,1,1,0,0,1,1,1] a (G2 [1,1,0,1,0,0,1,1,0,0,1,1,0,1,0,1] b Et)))) n k)));let K:=(E0 2 (D9 (W3 L) Q Y a J));(j1 (by kernel_rfl) (A0 (A0 (A0 ((d K l c C (bAt l j) D j (not (ltI 57 (bAt l j)))).trans (congr (congr rfl (fx6 λF f p m q r=>(j1 (by kernel_rfl) ((e J F f p m q r).trans (congr (congr rfl (by kernel_rfl)) (fx5 λG g t u N=>(j1 (by kernel_rfl) (A4 λv=>(M G g t u v))))))))) (by kernel_rfl))) ((d K l c C (bAt l j) D j false).trans (congr (congr rfl (fx6 λH h w o x y=>(j1 (by kernel_rfl) ((e J H h w o x y).trans (congr (congr rfl (by kernel_rfl)) (fx5 λI i z A O=>(j1 (by kernel_rfl) (A4 λB=>(M I i z A B))))))))) (by kernel_rfl)))) rfl) rfl))
noncomputable def Cl5{R:Type}(L:Nat)(d:By)(a:Int)(c:Int->Bool->Option R):Option R:=It L L d a 0 (d.length:Int) 0 (λ_=>c 0 false) (λb=>c b true)
theorem C80(a:Code)(d:Re (R:=PV × List Blk × Z) L Q Y s a)(b:Code)(e:BG (R:=PV × List Blk × Z) L Q Y s b)(f:By)(c:Int):A9 (W3 L) Q Y (cd [] (G2 [1,1,0,1,0,0,1,1,0,0,1,1,1] b (G2 [1,1,0,1,0,0,1,1,0,0,1,1,0,1,0,1] a Et))) ⟨[pS f,pI c]++tps 59,[],s⟩ (F0 (W3 L) ad6)=Cl5 L f c (λg h=>some (.tup [pI g,pB h],[],s)):=by unfold Cl5;exact(j1 (by kernel_rfl) ((A23 L Q Y s (E0 0 (D9 (W3 L) Q Y (cd [1,1,1] Et) (F0 (W3 L) ad6))) a d b e L f c 0 (f.length:Int) 0).trans (by kernel_rfl)))
theorem C81(d:Nat)(s0 base1):evC (W3 L) (d+1) Z Y 139 [pS s0,pI base1] [] s=Cl5 L s0 base1 (λa b=>some (.tup [pI a,pB b],[],s)):=
 (evE (fn:=ad6) (by kernel_rfl)).trans (j1 (by kernel_rfl) (C80 L (evC (W3 L) d) Y s (cd [1,1,0,1,0,0,1,1,0,0,1,1,0,1,0,1] Et) (A21 L (evC (W3 L) d) Y s) (cd [1,1,0,1,0,0,1,1,0,0,1,1,1] Et) (A22 L (evC (W3 L) d) Y s) s0 base1))
noncomputable def Ck7(L:Nat):Cfg:=B5 L [138] (A2 []) [(137,Av4),(139,SK)] (A2 [(7,[2,0]),(2,[2,0]),(4,[2,0]),(6,[2,0]),(5,[0,14]),(3,[0,6]),(1,[0,3]),(0,[0])]) [137,139] (A2 [(0,[0])]) (some [2,0]) [] [] []
noncomputable def num{R:Type}(L:Nat)(a:By)(d:Int->Bool->Option R):Option R:=cond (a==[]) (d 0 false) (cond (A3 a.length) (cond (Cc a) (cond (I6 2 (a.length:Int) a.length) (vl (cut a 2 (a.length:Int)) λb=>cond (A3 b.length) (cond (ltN 16 17) (vl (↑(N1 (F1 16 0 b)):Int) λe=>d e (j2 (F1 16 0 b))) none) none) none) (cond (ltI 1 (a.length:Int)) (cond (inR 0 a.length) (cond ((bAt a (0:Int))==48) (cond (I6 1 (a.length:Int) a.length) (vl (cut a 1 (a.length:Int)) λc=>cond (A3 c.length) (cond (ltN 8 17) (vl (↑(N1 (F1 8 0 c)):Int) λf=>d f (j2 (F1 8 0 c))) none) none) none) (cond (A3 a.length) (cond (ltN 10 17) (vl (↑(N1 (F1 10 0 a)):Int) λg=>d g (j2 (F1 10 0 a))) none) none)) none) (cond (A3 a.length) (cond (ltN 10 17) (vl (↑(N1 (F1 10 0 a)):Int) λh=>d h (j2 (F1 10 0 a))) none) none))) none)
theorem Dt8(d:Nat)(s0):evC (Ck7 L) (d+1) Z Y 138 [pS s0] [] s=num L s0 (λa b=>some (.tup [pI a,pB b],[],s)):=by refine(evE (fn:=Tryz.f138) (by kernel_rfl)).trans ?_;generalize evC (Ck7 L) d=Q;unfold num;kernel_rfl
noncomputable def WE(L:Nat):Cfg:=B5 L [136] (A2 []) [(176,Wa)] (A2 [(5,[2]),(4,[3]),(3,[3,0,13]),(2,[3,0]),(1,[3]),(0,[0])]) [] (A2 []) (some [2]) [] [] []
noncomputable def parts{R:Type}(L:Nat)(e:By)(c:LL->Option R):Option R:=cond (A3 e.length) (cond (1==1) (vl (D1 (pcs (b9 ([46]:List UInt8) 0 0) e)) λa=>vl (A1 ((a.length:Int)-1)) λb=>cond (ltI 0 b) (cond (inR b a.length) (cond (okE Nq a (b8 b) 0) (vl (gX a (b8 b) 0) λd=>cond (d==[]) (cond (I6 0 b a.length) (c (cut a 0 b)) none) (c a)) none) none) (c a)) none) none
theorem Cr0(d:Nat)(s0):evC (WE L) (d+1) Z Y 136 [pS s0] [] s=parts L s0 (λa=>some (.s (.sl false false 1 a),[],s)):=by refine(evE (fn:=Tryz.f136) (by kernel_rfl)).trans ?_;generalize evC (WE L) d=Q;unfold parts;kernel_rfl
noncomputable def AY(L:Nat):Cfg:=B5 L [102] (A2 []) [(136,TR),(137,Av4),(138,Cg8),(139,SK)] (A2 [(7,[2]),(6,[4,3]),(5,[2]),(4,[6]),(3,[4,13]),(2,[4]),(1,[3]),(0,[0])]) [137,138,139] (A2 []) (some [2]) [] [] []
noncomputable def FW{R:Type}(L:Nat)(c:By)(d:Bool->Option R):Option R:=cond (A3 c.length) (vl (A1 ((↑(a8 (D1 (D0 c))):Int)-1)) λb=>cond (inR b (a8 (D1 (D0 c)))) (cond (okE Nq (D1 (D0 c)) (b8 b) 0) (vl (gX (D1 (D0 c)) (b8 b) 0) λa=>cond (A3 a.length) (cond (Cc a) (cond (A3 a.length) (vl (↑(N1 (An a)):Int) λe=>d (j2 (An a))) none) (cond (A3 a.length) (cond (ltN 10 17) (vl (↑(N1 (F1 10 0 a)):Int) λf=>cond (j2 (F1 10 0 a)) (d (not (a==[]))) (d false)) none) none)) none) none) none) none
theorem A74(d:Nat)(s0):evC (AY L) (d+1) Z Y 102 [pS s0] [] s=FW L s0 (λa=>some (pB a,[],s)):=by refine(evE (fn:=Tryz.f102) (by kernel_rfl)).trans ?_;generalize evC (AY L) d=Q;unfold FW;kernel_rfl
noncomputable abbrev Cj6:Code:=C3 ag4
noncomputable def Tz(L:Nat):Cfg:=B5 L [200] (A2 [(6,[2,0,0,0,10,0,0])]) [(136,TR),(138,Cg8)] (A2 [(20,[2,0]),(19,[4,0,10,0,0]),(18,[4,0,10,0,0]),(17,[2,0]),(16,[4,0,2,1,5,0,0,29]),(15,[4,0,2,1,5,0,0]),(14,[4,0,10,0,0]),(13,[2,0]),(12,[4,0,2,7,0,0,17]),(11,[4,0,2,7,0,0,15]),(10,[2,0]),(9,[4,0,0,1,7,0,0,10]),(8,[4,0,0,1,0,6,0,0]),(7,[4,0,0,0,8,0,0]),(6,[4,0,10,0,0,0]),(5,[4,0,10,0,0]),(4,[4,0]),(3,[2,0]),(2,[4,10]),(1,[4]),(0,[0])]) [138] (A2 [(0,[5]),(1,[4,0,10,0,0])]) (some [2,0]) [] [] []
noncomputable def Jc{R:Type}(L n:Nat)(a:LL)(v1 l d:Int)(e:Unit->Option R)(h:Int->Option R):Option R:=match n with|0=>none|n+1=>cond (ltI d l) (cond (inR d a.length) (cond (okE Nq a (b8 d) 0) (cond (A3 (a8 (gX a (b8 d) 0))) (vl (↑(N1 (An (gX a (b8 d) 0))):Int) λb=>cond (not (j2 (An (gX a (b8 d) 0)))) (e ()) (vl (A1 ((a.length:Int)-1)) λi=>cond (ltI d i) (cond (ltI 255 b) (e ()) (vl (bOr .i64 (Sf .i64 v1 (8:Int)) b) λj=>Jc L n a j l (A1 (d+1)) e h)) (vl (A1 ((5:Int)-(a.length:Int))) λc=>cond (decide ((0:Int)<=(A1 ((8:Int)*c)))) (vl (Sf .i64 (1:Int) (A1 ((8:Int)*c))) λf=>cond (not (ltI b f)) (e ()) (cond (decide ((0:Int)<=(A1 ((8:Int)*c)))) (vl (Sf .i64 v1 (A1 ((8:Int)*c))) λg=>Jc L n a (bOr .i64 g b) l (A1 (d+1)) e h) none)) none))) none) none) none) (h v1)
theorem A93(n l0 v1 n2 n3):C7 0 ((Tz L).keep 6) (bd (Tz L) Q Y (cd [1,0,1,1,1,1,0,1,0,0] Cj6)) n ⟨gp [(4,.s (.sl false false 1 l0)),(0,pI v1),(10,.s (.sl false false 1 l0)),(0,pI n2),(0,pI n3)] 38,[],s⟩ k =
 Jc L n l0 v1 n2 n3 (λ_=>k .ret ⟨gp [(2,p32 (0:Int)),(0,pB false)] 53,[],s⟩) (λv0=>k (.exit 0) ⟨gp [(5,pI v0)] 51,[],s⟩):=by
 induction n generalizing l0 v1 n2 n3 with
 | zero=>rfl
 | succ n a=>rw[Jc];simp only[<-a];kernel_rfl
noncomputable def De2{R:Type}(L:Nat)(b:By)(c:Int->Bool->Option R):Option R:=cond (A3 b.length) (cond (ltI 4 (↑(a8 (D1 (D0 b))):Int)) (c 0 false) (Jc L L (D1 (D0 b)) 0 (↑(a8 (D1 (D0 b))):Int) 0 (λ_=>c 0 false) (λa=>c (DD a) true))) none
theorem De3(d:Nat)(s0):evC (Tz L) (d+1) Z Y 200 [pS s0] [] s=De2 L s0 (λa b=>some (.tup [p32 a,pB b],[],s)):=by refine(evE (fn:=ag4) (by kernel_rfl)).trans ?_;generalize evC (Tz L) d=Q;unfold De2;exact(j1 (by kernel_rfl) (A0 (A0 rfl ((A93 L Q Y s (E0 0 (D9 (Tz L) Q Y (cd [1,0,1,1,1,1,1] Cj6) (F0 (Tz L) ag4))) L (D1 (D0 s0)) 0 (↑(a8 (D1 (D0 s0))):Int) 0).trans (by kernel_rfl))) rfl))
noncomputable abbrev Dq2:Code:=C3 ah1
noncomputable def JV(L:Nat):Cfg:=B5 L [255] (A2 [(6,[2,0,1,9,0,0])]) [(176,Wa),(139,SK),(123,Av7)] (A2 [(13,[2,0]),(12,[5,9,0,0]),(11,[5,9,0,0]),(10,[2,0]),(9,[5,2,6,0,0,19]),(8,[5,1,0,0,5,0,0]),(7,[5,1,7,0,0]),(6,[5,9,0,0,0]),(5,[5,9,0,0]),(4,[4,0]),(3,[2,0]),(2,[4,9]),(1,[4]),(0,[0])]) [139,123] (A2 [(0,[5]),(1,[5,9,0,0])]) (some [2,0]) [] [] []
noncomputable def Vp{R:Type}(L n:Nat)(v0:Int)(c:LL)(h b:Int)(d:Unit->Option R)(g:Int->Option R):Option R:=match n with|0=>none|n+1=>cond (ltI b h) (cond (inR b c.length) (cond (okE Nq c (b8 b) 0) (cond (A3 (a8 (gX c (b8 b) 0))) (cond (ltN 10 17) (vl (↑(N1 (F1 10 0 (gX c (b8 b) 0))):Int) λa=>cond (not (j2 (F1 10 0 (gX c (b8 b) 0)))) (d ()) (cond (ltI 255 a) (d ()) (cond (ltN a 4294967296) (vl (j5 (b8 a)) λf=>cond (not (f==(gX c (b8 b) 0))) (d ()) (vl (bOr .u32 (Sf .u32 v0 (8:Int)) (DD a)) λe=>Vp L n e c h (A1 (b+1)) d g)) none))) none) none) none) none) (g v0)
theorem Cd9(n v0 l1 n2 n3):C7 0 ((JV L).keep 6) (bd (JV L) Q Y (cd [1,1,1,1,0,1,0,0] Dq2)) n ⟨gp [(5,p32 v0),(9,.s (.sl false false 1 l1)),(0,pI n2),(0,pI n3)] 27,[],s⟩ k =
 Vp L n v0 l1 n2 n3 (λ_=>k .ret ⟨gp [(2,p32 (0:Int)),(0,pB false)] 41,[],s⟩) (λv0=>k (.exit 0) ⟨gp [(5,p32 v0)] 39,[],s⟩):=by
 induction n generalizing v0 l1 n2 n3 with
 | zero=>rfl
 | succ n a=>rw[Vp];simp only[<-a];kernel_rfl
noncomputable def v4p{R:Type}(L:Nat)(d:By)(b:Int->Bool->Option R):Option R:=cond (A3 d.length) (cond (1==1) (vl (D1 (pcs (b9 ([46]:List UInt8) 0 0) d)) λa=>cond ((a.length:Int)!=4) (b 0 false) (Vp L L 0 a (a.length:Int) 0 (λ_=>b 0 false) (λc=>b c true))) none) none
theorem Dv7(d:Nat)(s0):evC (JV L) (d+1) Z Y 255 [pS s0] [] s=v4p L s0 (λb c=>some (.tup [p32 b,pB c],[],s)):=by refine(evE (fn:=ah1) (by kernel_rfl)).trans ?_;generalize evC (JV L) d=Q;unfold v4p;exact(j1 (by kernel_rfl) (A0 (A0 (A4 λa=>(A0 rfl ((Cd9 L Q Y s (E0 0 (D9 (JV L) Q Y (cd [1,1,1,1,1] Dq2) (F0 (JV L) ah1))) L 0 a (a.length:Int) 0).trans (by kernel_rfl)))) rfl) rfl))
noncomputable abbrev Dq1:Code:=C3 ag2
noncomputable def JU(L:Nat):Cfg:=B5 L [167] (A2 [(3,[0,1,0,0])]) [(123,Av7)] (A2 [(6,[2]),(4,[0,2,0]),(5,[0,2,0]),(3,[0,2,0,1]),(2,[0,2,0]),(1,[0,2]),(0,[0])]) [123] (A2 [(0,[3]),(1,[0,2,0])]) (some [2]) [] [] []
noncomputable def Ij{R:Type}(L n:Nat)(v0:Int)(a:By)(e:Int)(f:By->Option R):Option R:=match n with|0=>none|n+1=>cond (not (ltI e 0)) (cond (decide ((0:Int)<=e)) (vl (Ay4 .u32 (Om .u32 v0 e) (255:Int)) λb=>cond (ltN (A1 b) 4294967296) (vl (j5 (b8 (A1 b))) λc=>cond (E7 c.length 1) (vl (c++[46]) λd=>cond (E7 a.length d.length) (Ij L n v0 (a++d) (A1 (e-8)) f) none) none) none) none) (f a)
theorem Cd8(n v0 out1 i2):C7 0 ((JU L).keep 3) (bd (JU L) Q Y (cd [1,1,0,1,0,0] Dq1)) n ⟨gp [(0,p32 v0),(2,pS out1),(0,pI i2)] 18,[],s⟩ k =
 Ij L n v0 out1 i2 (λa=>k (.exit 0) ⟨gp [(3,pS a)] 19,[],s⟩):=by
 induction n generalizing v0 out1 i2 with
 | zero=>rfl
 | succ n b=>rw[Ij];simp only[<-b];kernel_rfl
noncomputable def v4f{R:Type}(L:Nat)(v0:Int)(d:By->Option R):Option R:=Ij L L v0 ([]:List UInt8) 24 (λa=>vl (A1 ((a.length:Int)-1)) λb=>cond (I6 0 b a.length) (vl (cut a 0 b) λc=>d c) none)
theorem Dv6(d:Nat)(v0):evC (JU L) (d+1) Z Y 167 [p32 v0] [] s=v4f L v0 (λa=>some (pS a,[],s)):=by refine(evE (fn:=ag2) (by kernel_rfl)).trans ?_;generalize evC (JU L) d=Q;unfold v4f;exact(j1 (by kernel_rfl) ((Cd8 L Q Y s (E0 0 (D9 (JU L) Q Y (cd [1,1,1] Dq1) (F0 (JU L) ag2))) L v0 ([]:List UInt8) 24).trans (by kernel_rfl)))
noncomputable abbrev PH:Code:=C3 af7
noncomputable def Cw(L:Nat):Cfg:=B5 L [111] (A2 [(2,[0,1,0])]) [] (A2 [(6,[2]),(3,[0,2]),(5,[2]),(4,[0,2,15]),(2,[0,2,3]),(1,[0,2]),(0,[0])]) [] (A2 [(0,[0]),(1,[0,2])]) (some [2]) [] [] []
noncomputable def Bc{R:Type}(L n:Nat)(a:By)(b:Int)(c:Unit->Option R)(d:By->Option R):Option R:=match n with|0=>none|n+1=>cond (ltI b (a.length:Int)) (cond (inR b a.length) (cond (ltI (bAt a b) (48:Int)) (c ()) (cond (inR b a.length) (cond (ltI 57 (bAt a b)) (c ()) (Bc L n a (A1 (b+1)) c d)) none)) none) (d a)
theorem OA(n a i1):C7 0 ((Cw L).keep 2) (bd (Cw L) Q Y (cd [1,0,1,0,0] PH)) n ⟨gp [(0,pS a),(2,pI i1)] 18,[],s⟩ k =
 Bc L n a i1 (λ_=>k .ret ⟨gp [(2,pB false)] 19,[],s⟩) (λa=>k (.exit 0) ⟨gp [(0,pS a)] 21,[],s⟩):=by
 induction n generalizing a i1 with
 | zero=>rfl
 | succ n b=>rw[Bc];simp only[<-b];kernel_rfl
noncomputable def GA{R:Type}(L:Nat)(c:By)(b:Bool->Option R):Option R:=Bc L L c 0 (λ_=>b false) (λa=>b (not (a==[])))
theorem Ba7(d:Nat)(s0):evC (Cw L) (d+1) Z Y 111 [pS s0] [] s=GA L s0 (λa=>some (pB a,[],s)):=by refine(evE (fn:=af7) (by kernel_rfl)).trans ?_;generalize evC (Cw L) d=Q;unfold GA;exact(j1 (by kernel_rfl) ((OA L Q Y s (E0 0 (D9 (Cw L) Q Y (cd [1,1] PH) (F0 (Cw L) af7))) L s0 0).trans (by kernel_rfl)))
noncomputable abbrev Cj9:Code:=C3 af9
noncomputable def Uc(L:Nat):Cfg:=B5 L [127] (A2 [(3,[0,1,0,0])]) [] (A2 [(9,[2]),(4,[0,2,0]),(8,[0,2,0]),(7,[0,2,0,0]),(6,[0,2,0,0,14]),(5,[0,2,0,0]),(3,[0,2,0,4]),(2,[0,2,0]),(1,[0,2]),(0,[0])]) [] (A2 [(0,[3]),(1,[0,2,0])]) (some [2]) [] [] []
noncomputable def Fr{R:Type}(L n:Nat)(b:By)(a:Int)(c:LL)(d:LL->Option R):Option R:=match n with|0=>none|n+1=>cond (ltI a (b.length:Int)) (cond (inR a b.length) (cond (not (ltI (bAt b a) (65:Int))) (cond (not (ltI 90 (bAt b a))) (vl (wu8 ((bAt b a)+32)) λe=>cond (F9 (c.length+1)) (Fr L n b (A1 (a+1)) (c++[[(SV.int .u8 e)]]) d) none) (cond (F9 (c.length+1)) (Fr L n b (A1 (a+1)) (c++[[(SV.int .u8 (bAt b a))]]) d) none)) (cond (F9 (c.length+1)) (Fr L n b (A1 (a+1)) (c++[[(SV.int .u8 (bAt b a))]]) d) none)) none) (d c)
theorem Bd8(n s0 i1 l2):C7 1 ((Uc L).keep 3) (bd (Uc L) Q Y (cd [1,1,0,1,0,0] Cj9)) n ⟨gp [(0,pS s0),(2,.fl 0),(0,pI i1)] 24,[.arr true 5 1 l2],s⟩ k =
 Fr L n s0 i1 l2 (λb=>k (.exit 0) ⟨gp [(3,.fl 0)] 25,[.arr true 5 1 b],s⟩):=by
 induction n generalizing s0 i1 l2 with
 | zero=>rfl
 | succ n a=>rw[Fr];simp only[<-a];kernel_rfl
noncomputable def Dg3{R:Type}(L:Nat)(c:By)(b:By->LL->Option R):Option R:=Fr L L c 0 [] (λa=>cond (w6 a Ol) (b (o9 Mg a) a) none)
theorem Dg4(d:Nat)(s0):evC (Uc L) (d+1) Z Y 127 [pS s0] [] s=Dg3 L s0 (λb a=>some (pS b,[.arr true 5 1 a],s)):=by refine(evE (fn:=af9) (by kernel_rfl)).trans ?_;generalize evC (Uc L) d=Q;unfold Dg3;exact(j1 (by kernel_rfl) ((Bd8 L Q Y s (E0 0 (D9 (Uc L) Q Y (cd [1,1,1] Cj9) (F0 (Uc L) af9))) L s0 0 []).trans (by kernel_rfl)))
noncomputable abbrev Ae2:Code:=C3 ah8
noncomputable def Gt(L:Nat):Cfg:=B5 L [76] (A2 [(4,[0,0,2,0,0,0])]) [] (A2 [(9,[4]),(5,[0,0,3,0,0]),(8,[0,0,3,0,0]),(7,[0,0,3,1]),(6,[0,0,3,0,0,16]),(4,[0,0,3,0,0,3]),(3,[0,0,3,0,0]),(2,[0,0,3,0]),(1,[0,0,3]),(0,[0,0])]) [] (A2 [(0,[5]),(1,[0,0,3,0,0])]) (some [4]) [] [] []
noncomputable def V7{R:Type}(L n:Nat)(c:By)(d a b:Int)(e:LL)(f:LL->Option R):Option R:=match n with|0=>none|n+1=>cond (not (ltI (c.length:Int) b)) (cond (b==(c.length:Int)) (cond (I6 a b c.length) (cond (F9 (e.length+1)) (V7 L n c d (A1 (b+1)) (A1 (b+1)) (e++[[(SV.str (cut c a b))]]) f) none) none) (cond (inR b c.length) (cond ((bAt c b)==d) (cond (I6 a b c.length) (cond (F9 (e.length+1)) (V7 L n c d (A1 (b+1)) (A1 (b+1)) (e++[[(SV.str (cut c a b))]]) f) none) none) (V7 L n c d a (A1 (b+1)) e f)) none)) (f e)
theorem ZE(n s0 at1 from2 i3 l4):C7 1 ((Gt L).keep 4) (bd (Gt L) Q Y (cd [1,1,1,0,1,0,0] Ae2)) n ⟨gp [(0,pS s0),(0,p8 at1),(3,.fl 0),(0,pI from2),(0,pI i3)] 27,[.arr true 9 1 l4],s⟩ k =
 V7 L n s0 at1 from2 i3 l4 (λb=>k (.exit 0) ⟨gp [(5,.fl 0)] 29,[.arr true 9 1 b],s⟩):=by
 induction n generalizing s0 at1 from2 i3 l4 with
 | zero=>rfl
 | succ n a=>rw[V7];simp only[<-a];kernel_rfl
noncomputable def MP{R:Type}(L:Nat)(d:By)(a:Int)(c:LL->Option R):Option R:=V7 L L d a 0 0 [] (λb=>c b)
theorem B98(d:Nat)(s0 at1):evC (Gt L) (d+1) Z Y 76 [pS s0,p8 at1] [] s=MP L s0 at1 (λa=>some (.fl 0,[.arr true 9 1 a],s)):=by refine(evE (fn:=ah8) (by kernel_rfl)).trans ?_;generalize evC (Gt L) d=Q;unfold MP;exact(j1 (by kernel_rfl) ((ZE L Q Y s (E0 0 (D9 (Gt L) Q Y (cd [1,1,1,1] Ae2) (F0 (Gt L) ah8))) L s0 at1 0 0 []).trans (by kernel_rfl)))
noncomputable def AX(L:Nat):Cfg:=B5 L [95] (A2 []) [(95,(Lq L))] (A2 [(3,[2]),(2,[2]),(1,[0,3]),(0,[0])]) [95] (A2 []) (some [2]) [] [] []
noncomputable def FQ{R:Type}(L:Nat)(n0:Int)(g:By->Option R):Option R:=cond (ltI n0 10) (vl (wu8 (A1 ((48:Int)+n0))) λa=>cond (w6 [[(SV.int .u8 a)]] Ol) (vl (o9 Mg [[(SV.int .u8 a)]]) λf=>g f) none) (vl (A1 (y9 n0 (10:Int))) λb=>cond (ltN b L) (vl (j5 (b8 b)) λd=>vl (A1 ((48:Int)+(x4 n0 (10:Int)))) λc=>cond (w6 [[(SV.int .u8 (wu8 c))]] Ol) (vl (o9 Mg [[(SV.int .u8 (wu8 c))]]) λe=>cond (E7 d.length e.length) (g (d++e)) none) none) none)
theorem A32(d:Nat)(n0):evC (AX L) (d+1) Z Y 95 [pI n0] [] s=FQ L n0 (λa=>some (pS a,[],s)):=by refine(evE (fn:=Tryz.f95) (by kernel_rfl)).trans ?_;generalize evC (AX L) d=Q;unfold FQ;kernel_rfl
noncomputable abbrev Tq:Code:=C3 ad7
noncomputable def Jq(L:Nat):Cfg:=B5 L [153] (A2 []) [] (A2 [(7,[2]),(2,[2]),(4,[2]),(6,[2]),(5,[0,23]),(3,[0,12]),(1,[0,2]),(0,[0])]) [] (A2 [(0,[])]) (some [2]) [] [] []
noncomputable def Xz{R:Type}(a:Int)(h:Bool)(f:Int->Option R)(g:Int->Bool->Option R):Option R:=cond h (vl (A1 (wu8 (a-97))) λb=>vl (A1 (b+10)) λc=>f c) (cond (not (ltI a 65)) (cond (not (ltI 70 a)) (vl (A1 (wu8 (a-65))) λd=>vl (A1 (d+10)) λe=>f e) (g a (not (ltI 70 a)))) (g a false))
abbrev QX(b:Code):Prop:=∀(k:Out->St Z->Option R) a c,A9 (Jq L) Q Y b ⟨gp [(0,p8 a),(12,pB c)] 21,[],s⟩ k=Xz a c (λn0=>k .ret ⟨gp [(2,pI n0)] 32,[],s⟩) (λa c=>k .normal ⟨gp [(0,p8 a),(23,pB c)] 10,[],s⟩)
theorem Ba4:QX (R:=R) L Q Y s (cd [1,0,0,1,1,1] Tq):=by intro k a b;unfold Xz;kernel_rfl
noncomputable def Ya{R:Type}(b:Int)(l:Bool)(f:Int->Option R)(j:Int->Bool->Option R):Option R:=cond l (vl (A1 (wu8 (b-48))) λg=>f g) (cond (not (ltI b 97)) (Xz b (not (ltI 102 b)) (λh=>f h) (λc d=>j c d)) (Xz b false (λi=>f i) (λe a=>j e a)))
abbrev CI(b:Code):Prop:=∀(k:Out->St Z->Option R) a c,A9 (Jq L) Q Y b ⟨gp [(0,p8 a),(2,pB c)] 31,[],s⟩ k=Ya a c (λn0=>k .ret ⟨gp [(2,pI n0)] 32,[],s⟩) (λa c=>k .normal ⟨gp [(0,p8 a),(23,pB c)] 10,[],s⟩)
theorem Ba5(a:Code)(b:QX (R:=R) L Q Y s a):CI (R:=R) L Q Y s (cd [1,0,0,1] (G2 [1,0,0,1,1,1] a Tq)):=by intro k c d;unfold Ya;simp only[<-b k];kernel_rfl
theorem Ba6:CI (R:=R) L Q Y s (cd [1,0,0,1] Tq):=by intro k a b;exact j1 (by kernel_rfl) (Ba5 L Q Y s (cd [1,0,0,1,1,1] Tq) (Ba4 L Q Y s) k a b)
noncomputable def Cs2{R:Type}(L:Nat)(c:Int)(d:Int->Option R):Option R:=cond (not (ltI c 48)) (Ya c (not (ltI 57 c)) (λa=>d a) (λe f=>d 99)) (Ya c false (λb=>d b) (λg h=>d 99))
theorem Df2(b:Code)(a:CI (R:=PV × List Blk × Z) L Q Y s b)(c:Int):A9 (Jq L) Q Y (cd [] (G2 [1,0,0,1] b Tq)) ⟨[p8 c]++tps 34,[],s⟩ (F0 (Jq L) ad7)=Cs2 L c (λe=>some (pI e,[],s)):=by unfold Cs2;exact let d:=(E0 0 (D9 (Jq L) Q Y (cd [1,1] Tq) (F0 (Jq L) ad7)));(j1 (by kernel_rfl) (A0 ((a d c (not (ltI 57 c))).trans (by kernel_rfl)) ((a d c false).trans (by kernel_rfl))))
theorem Df3(d:Nat)(b0):evC (Jq L) (d+1) Z Y 153 [p8 b0] [] s=Cs2 L b0 (λa=>some (pI a,[],s)):=
 (evE (fn:=ad7) (by kernel_rfl)).trans (j1 (by kernel_rfl) (Df2 L (evC (Jq L) d) Y s (cd [1,0,0,1] Tq) (Ba6 L (evC (Jq L) d) Y s) b0))
noncomputable abbrev Cu:Code:=C3 ad5
noncomputable def P3(L:Nat):Cfg:=B5 L [112] (A2 [(10,[0,1,0,0,0,0])]) [(153,Ch2)] (A2 [(16,[2,0]),(11,[0,3,0,0]),(15,[0,3,0,0]),(14,[2,0]),(13,[0,3,0,0,0,44]),(12,[0,3,0,0,0]),(10,[0,3,0,0,36]),(9,[0,3,0,0]),(8,[0,3,0]),(5,[0,3]),(7,[0,3]),(6,[0,3,32]),(4,[0,3,22]),(3,[0,3]),(2,[2,0]),(1,[0,8]),(0,[0])]) [153] (A2 [(0,[5]),(1,[0,3,0,0])]) (some [2,0]) [] [] []
noncomputable def GF{R:Type}(a:By)(c:By->Option R):Option R:=cond (I6 2 (a.length:Int) a.length) (vl (cut a 2 (a.length:Int)) λb=>c b) none
abbrev RD(b:Code):Prop:=∀(k:Out->St Z->Option R) a,A9 (P3 L) Q Y b ⟨gp [(0,pS a),(3,pI (10:Int)),(22,pB true)] 32,[],s⟩ k=GF a (λa=>k .normal ⟨gp [(0,pS a),(3,pI (16:Int))] 55,[],s⟩)
theorem Be1:RD (R:=R) L Q Y s (cd [1,1,1,0,1] Cu):=by intro k a;unfold GF;kernel_rfl
noncomputable def Je{R:Type}(L n:Nat)(d:By)(h a:Int)(f:Unit->Option R)(g:Int->Option R):Option R:=match n with|0=>none|n+1=>cond (ltI a (d.length:Int)) (cond (inR a d.length) (cond (inR (bAt d a) 256) (vl (↑(dig (u8n (bAt d a))):Int) λb=>cond (not (ltI b 16)) (f ()) (vl (A1 ((A1 (h*16))+b)) λc=>vl (if ((1099511627776:Int)<c) then (1099511627776:Int) else c) λe=>Je L n d e (A1 (a+1)) f g)) none) none) (g h)
theorem Be6(n s0 n1 i2):C7 0 ((P3 L).keep 10) (bd (P3 L) Q Y (cd [1,1,1,1,1,0,1,0,0] Cu)) n ⟨gp [(0,pS s0),(3,pI (16:Int)),(0,pI n1),(0,pI i2)] 53,[],s⟩ k =
 Je L n s0 n1 i2 (λ_=>k .ret ⟨gp [(2,pI (0:Int)),(0,pB false)] 56,[],s⟩) (λn0=>k (.exit 0) ⟨gp [(5,pI n0)] 54,[],s⟩):=by
 induction n generalizing s0 n1 i2 with
 | zero=>rfl
 | succ n a=>rw[Je];simp only[<-a];kernel_rfl
noncomputable def GG{R:Type}(L:Nat)(c:By)(b:Int->Bool->Option R):Option R:=Je L L c 0 0 (λ_=>b 0 false) (λa=>b a true)
abbrev RE(b:Code):Prop:=∀(k:Out->St Z->Option R) s0,A9 (P3 L) Q Y b ⟨gp [(0,pS s0),(3,pI (16:Int))] 55,[],s⟩ k=GG L s0 (λn0 a=>k .ret ⟨gp [(2,pI n0),(0,pB a)] 56,[],s⟩)
theorem Be2:RE (R:=R) L Q Y s (cd [1,1,1,1] Cu):=by intro k a;unfold GG;exact(j1 (by kernel_rfl) ((Be6 L Q Y s (E0 0 (D9 (P3 L) Q Y (cd [1,1,1,1,1,1] Cu) k)) L a 0 0).trans (by kernel_rfl)))
noncomputable def Rq{R:Type}(a:By)(f:Bool)(d:By->Int->Option R)(e:By->Bool->Option R):Option R:=cond f (cond (I6 2 (a.length:Int) a.length) (vl (cut a 2 (a.length:Int)) λc=>d c 16) none) (cond (not (ltI (a.length:Int) (2:Int))) (cond (inR 0 a.length) (cond ((bAt a (0:Int))==48) (cond (I6 1 (a.length:Int) a.length) (vl (cut a 1 (a.length:Int)) λb=>d b 8) none) (e a ((bAt a (0:Int))==48))) none) (e a false))
abbrev RF(b:Code):Prop:=∀(k:Out->St Z->Option R) c d,A9 (P3 L) Q Y b ⟨gp [(0,pS c),(3,pI (10:Int)),(22,pB d)] 32,[],s⟩ k=Rq c d (λc a=>k .normal ⟨gp [(0,pS c),(3,pI a)] 55,[],s⟩) (λc d=>k .normal ⟨gp [(0,pS c),(3,pI (10:Int)),(32,pB d)] 22,[],s⟩)
theorem Be3:RF (R:=R) L Q Y s (cd [1,1,1,0,1] Cu):=by intro k b a;unfold Rq;kernel_rfl
noncomputable def Fs{R:Type}(L n:Nat)(f:By)(a i d:Int)(g:Unit->Option R)(h:Int->Option R):Option R:=match n with|0=>none|n+1=>cond (ltI d (f.length:Int)) (cond (inR d f.length) (cond (inR (bAt f d) 256) (vl (↑(dig (u8n (bAt f d))):Int) λb=>cond (not (ltI b a)) (g ()) (vl (A1 ((A1 (i*a))+b)) λc=>vl (if ((1099511627776:Int)<c) then (1099511627776:Int) else c) λe=>Fs L n f a e (A1 (d+1)) g h)) none) none) (h i)
theorem MO(n s0 base1 n2 i3):C7 0 ((P3 L).keep 10) (bd (P3 L) Q Y (cd [1,1,1,1,1,0,1,0,0] Cu)) n ⟨gp [(0,pS s0),(3,pI base1),(0,pI n2),(0,pI i3)] 53,[],s⟩ k =
 Fs L n s0 base1 n2 i3 (λ_=>k .ret ⟨gp [(2,pI (0:Int)),(0,pB false)] 56,[],s⟩) (λn0=>k (.exit 0) ⟨gp [(5,pI n0)] 54,[],s⟩):=by
 induction n generalizing s0 base1 n2 i3 with
 | zero=>rfl
 | succ n a=>rw[Fs];simp only[<-a];kernel_rfl
noncomputable def Rs{R:Type}(L:Nat)(d:By)(a:Int)(c:Int->Bool->Option R):Option R:=Fs L L d a 0 0 (λ_=>c 0 false) (λb=>c b true)
abbrev RG(b:Code):Prop:=∀(k:Out->St Z->Option R) s0 base1,A9 (P3 L) Q Y b ⟨gp [(0,pS s0),(3,pI base1)] 55,[],s⟩ k=Rs L s0 base1 (λn0 a=>k .ret ⟨gp [(2,pI n0),(0,pB a)] 56,[],s⟩)
theorem Be4:RG (R:=R) L Q Y s (cd [1,1,1,1] Cu):=by intro k b a;unfold Rs;exact(j1 (by kernel_rfl) ((MO L Q Y s (E0 0 (D9 (P3 L) Q Y (cd [1,1,1,1,1,1] Cu) k)) L b a 0 0).trans (by kernel_rfl)))
noncomputable def Rt{R:Type}(L:Nat)(c:By)(b:Int->Bool->Option R):Option R:=Fs L L c 10 0 0 (λ_=>b 0 false) (λa=>b a true)
abbrev RH(b:Code):Prop:=∀(k:Out->St Z->Option R) s0 a,A9 (P3 L) Q Y b ⟨gp [(0,pS s0),(3,pI (10:Int)),(32,pB a)] 22,[],s⟩ k=Rt L s0 (λn0 a=>k .ret ⟨gp [(2,pI n0),(0,pB a)] 56,[],s⟩)
theorem Be5:RH (R:=R) L Q Y s (cd [1,1,1,1] Cu):=by intro k a b;unfold Rt;exact(j1 (by kernel_rfl) ((MO L Q Y s (E0 0 (D9 (P3 L) Q Y (cd [1,1,1,1,1,1] Cu) k)) L a 10 0 0).trans (by kernel_rfl)))
noncomputable def Cu7{R:Type}(L:Nat)(a:By)(e:Int->Bool->Option R):Option R:=cond (a==[]) (e 0 false) (cond (not (ltI (a.length:Int) (2:Int))) (cond (inR 0 a.length) (cond ((bAt a (0:Int))==48) (cond (inR 1 a.length) (cond ((bAt a (1:Int))==120) (GF a (λB=>GG L B (λA z=>e A z))) (cond (inR 1 a.length) (Rq a ((bAt a (1:Int))==88) (λt b=>Rs L t b (λm f=>e m f)) (λu C=>Rt L u (λn g=>e n g))) none)) none) (Rq a false (λv c=>Rs L v c (λo h=>e o h)) (λw D=>Rt L w (λp i=>e p i)))) none) (Rq a false (λx d=>Rs L x d (λq j=>e q j)) (λy F=>Rt L y (λr l=>e r l))))
theorem Dg5(e:Code)(f:RD (R:=PV × List Blk × Z) L Q Y s e)(a:RF (R:=PV × List Blk × Z) L Q Y s e)(d:Code)(g:RE (R:=PV × List Blk × Z) L Q Y s d)(b:RG (R:=PV × List Blk × Z) L Q Y s d)(c:RH (R:=PV × List Blk × Z) L Q Y s d)(m:By):A9 (P3 L) Q Y (cd [] (G2 [1,1,1,1] d (G2 [1,1,1,0,1] e Cu))) ⟨[pS m]++tps 59,[],s⟩ (F0 (P3 L) ad5)=Cu7 L m (λz A=>some (.tup [pI z,pB A],[],s)):=by unfold Cu7;exact let l:=(F0 (P3 L) ad5);let x:=(D9 (P3 L) Q Y d l);(j1 (by kernel_rfl) (A0 rfl (A0 (A0 (A0 (A0 (A0 ((f x m).trans (congr rfl (fx1 λy=>(j1 (by kernel_rfl) ((g l y).trans (by kernel_rfl)))))) (A0 ((a x m ((bAt m (1:Int))==88)).trans (congr (congr rfl (fx2 λq h=>(j1 (by kernel_rfl) ((b l q h).trans (by kernel_rfl))))) (fx2 λr n=>(j1 (by kernel_rfl) ((c l r n).trans (by kernel_rfl)))))) rfl)) rfl) ((a x m false).trans (congr (congr rfl (fx2 λt i=>(j1 (by kernel_rfl) ((b l t i).trans (by kernel_rfl))))) (fx2 λu o=>(j1 (by kernel_rfl) ((c l u o).trans (by kernel_rfl))))))) rfl) ((a x m false).trans (congr (congr rfl (fx2 λv j=>(j1 (by kernel_rfl) ((b l v j).trans (by kernel_rfl))))) (fx2 λw p=>(j1 (by kernel_rfl) ((c l w p).trans (by kernel_rfl)))))))))
theorem Dg6(d:Nat)(s0):evC (P3 L) (d+1) Z Y 112 [pS s0] [] s=Cu7 L s0 (λa b=>some (.tup [pI a,pB b],[],s)):=
 (evE (fn:=ad5) (by kernel_rfl)).trans (j1 (by kernel_rfl) (Dg5 L (evC (P3 L) d) Y s (cd [1,1,1,0,1] Cu) (Be1 L (evC (P3 L) d) Y s) (Be3 L (evC (P3 L) d) Y s) (cd [1,1,1,1] Cu) (Be2 L (evC (P3 L) d) Y s) (Be4 L (evC (P3 L) d) Y s) (Be5 L (evC (P3 L) d) Y s) s0))
noncomputable def JP(L:Nat):Cfg:=B5 L [110] (A2 []) [(76,Ki)] (A2 [(4,[2]),(3,[3]),(2,[3,13]),(1,[3]),(0,[0])]) [] (A2 []) (some [2]) [] [] []
noncomputable def ZC{R:Type}(L:Nat)(f:By)(d:LL->Option R):Option R:=cond (A3 f.length) (vl (D1 (pcs (u8n (46:Int)) f)) λa=>cond (ltI 1 (a.length:Int)) (vl (A1 ((a.length:Int)-1)) λb=>cond (inR b a.length) (cond (okE Nq a (b8 b) 0) (vl (gX a (b8 b) 0) λe=>cond (e==[]) (vl (A1 ((a.length:Int)-1)) λc=>cond (I6 0 c a.length) (d (cut a 0 c)) none) (d a)) none) none) (d a)) none
theorem B92(d:Nat)(s0):evC (JP L) (d+1) Z Y 110 [pS s0] [] s=ZC L s0 (λa=>some (.s (.sl false false 1 a),[],s)):=by refine(evE (fn:=Tryz.f110) (by kernel_rfl)).trans ?_;generalize evC (JP L) d=Q;unfold ZC;kernel_rfl
noncomputable def Ud(L:Nat):Cfg:=B5 L [75] (A2 []) [(110,ID),(111,OT),(112,Aw8)] (A2 [(6,[2]),(5,[4,1]),(4,[2]),(3,[4,11]),(2,[4]),(1,[3]),(0,[0])]) [111,112] (A2 []) (some [2]) [] [] []
noncomputable def Yj{R:Type}(L:Nat)(d:By)(c:Bool->Option R):Option R:=cond (A3 d.length) (vl (A1 ((↑(a8 (D1 (D0 d))):Int)-1)) λb=>cond (inR b (a8 (D1 (D0 d)))) (cond (okE Nq (D1 (D0 d)) (b8 b) 0) (vl (gX (D1 (D0 d)) (b8 b) 0) λa=>cond (A3 a.length) (cond ((not (j8 a))&&(j2 (F1 10 0 a))) (c true) (cond (A3 a.length) (vl (↑(N1 (An a)):Int) λe=>cond (j2 (An a)) (cond (not (ltI (a.length:Int) (2:Int))) (cond (inR 1 a.length) (cond ((bAt a (1:Int))==120) (c true) (cond (inR 1 a.length) (c ((bAt a (1:Int))==88)) none)) none) (c false)) (c false)) none)) none) none) none) none
theorem Am7(d:Nat)(s0):evC (Ud L) (d+1) Z Y 75 [pS s0] [] s=Yj L s0 (λa=>some (pB a,[],s)):=by refine(evE (fn:=Tryz.f75) (by kernel_rfl)).trans ?_;generalize evC (Ud L) d=Q;unfold Yj;kernel_rfl
noncomputable abbrev Br5:Code:=C3 ag0
noncomputable def Mc(L:Nat):Cfg:=B5 L [130] (A2 [(6,[2,0,0,0,0])]) [(110,ID),(112,Aw8)] (A2 [(18,[2,0]),(7,[4,0,0]),(17,[4,0,0]),(16,[2,0]),(15,[4,0,0,0,38]),(14,[4,0,0]),(13,[2,0]),(12,[4,0,0,0,33]),(11,[4,0,0,0,26]),(10,[2,0]),(9,[4,0,0,0,21]),(8,[4,0,0,0,0]),(6,[4,0,0,10]),(5,[4,0,0]),(4,[4,0]),(3,[2,0]),(2,[4,8]),(1,[4]),(0,[0])]) [112] (A2 [(0,[5]),(1,[4,0,0])]) (some [2,0]) [] [] []
noncomputable def Ek{R:Type}(L n:Nat)(b:LL)(v1 a:Int)(e:Unit->Option R)(h:Int->Option R):Option R:=match n with|0=>none|n+1=>cond (ltI a (b.length:Int)) (cond (inR a b.length) (cond (okE Nq b (b8 a) 0) (cond (A3 (a8 (gX b (b8 a) 0))) (vl (↑(N1 (An (gX b (b8 a) 0))):Int) λc=>cond (not (j2 (An (gX b (b8 a) 0)))) (e ()) (vl (A1 ((b.length:Int)-1)) λi=>cond (a==i) (vl (A1 ((5:Int)-(b.length:Int))) λg=>cond (decide ((0:Int)<=(A1 ((8:Int)*g)))) (vl (Sf .i64 (1:Int) (A1 ((8:Int)*g))) λj=>cond (not (ltI c j)) (e ()) (Ek L n b (A1 (v1+c)) (A1 (a+1)) e h)) none) (cond (ltI 255 c) (e ()) (vl (A1 ((24:Int)-(A1 ((8:Int)*a)))) λd=>cond (decide ((0:Int)<=d)) (vl (A1 (v1+(Sf .i64 c d))) λf=>Ek L n b f (A1 (a+1)) e h) none)))) none) none) none) (h v1)
theorem An4(n p0 v1 i2):C7 0 ((Mc L).keep 6) (bd (Mc L) Q Y (cd [1,1,1,1,0,1,0,0] Br5)) n ⟨gp [(4,.s (.sl false false 1 p0)),(0,pI v1),(0,pI i2)] 49,[],s⟩ k =
 Ek L n p0 v1 i2 (λ_=>k .ret ⟨gp [(2,p32 (0:Int)),(0,pB false)] 52,[],s⟩) (λv0=>k (.exit 0) ⟨gp [(5,pI v0)] 50,[],s⟩):=by
 induction n generalizing p0 v1 i2 with
 | zero=>rfl
 | succ n a=>rw[Ek];simp only[<-a];kernel_rfl
noncomputable def Bw6{R:Type}(L:Nat)(c:By)(b:Int->Bool->Option R):Option R:=cond (A3 c.length) (cond (ltI 4 (↑(a8 (D1 (D0 c))):Int)) (b 0 false) (Ek L L (D1 (D0 c)) 0 0 (λ_=>b 0 false) (λa=>b (DD a) true))) none
theorem Cv1(d:Nat)(s0):evC (Mc L) (d+1) Z Y 130 [pS s0] [] s=Bw6 L s0 (λa b=>some (.tup [p32 a,pB b],[],s)):=by refine(evE (fn:=ag0) (by kernel_rfl)).trans ?_;generalize evC (Mc L) d=Q;unfold Bw6;exact(j1 (by kernel_rfl) (A0 (A0 rfl ((An4 L Q Y s (E0 0 (D9 (Mc L) Q Y (cd [1,1,1,1,1] Br5) (F0 (Mc L) ag0))) L (D1 (D0 s0)) 0 0).trans (by kernel_rfl))) rfl))
noncomputable abbrev Cj7:Code:=C3 ag9
noncomputable def Ua(L:Nat):Cfg:=B5 L [233] (A2 [(2,[0,1,0,0])]) [(95,Zp)] (A2 [(6,[2,0]),(3,[0,3]),(5,[2,0]),(4,[0,3,7]),(2,[0,3,1]),(1,[0,3]),(0,[0])]) [95] (A2 [(0,[]),(1,[0,3])]) (some [2,0]) [] [] []
noncomputable def My{R:Type}(L n:Nat)(e:By)(a:Int)(c:Int->Option R)(d:Unit->Option R):Option R:=match n with|0=>none|n+1=>cond (ltI a 256) (cond (ltN a 4294967296) (vl (j5 (b8 a)) λb=>cond (b==e) (c a) (My L n e (A1 (a+1)) c d)) none) (d ())
theorem Ba2(n s0 n1):C7 0 ((Ua L).keep 2) (bd (Ua L) Q Y (cd [1,0,1,0,0] Cj7)) n ⟨gp [(0,pS s0),(3,pI n1)] 9,[],s⟩ k =
 My L n s0 n1 (λn0=>k .ret ⟨gp [(2,pI n0),(0,pB true)] 10,[],s⟩) (λ_=>k (.exit 0) ⟨gp [] 14,[],s⟩):=by
 induction n generalizing s0 n1 with
 | zero=>rfl
 | succ n a=>rw[My];simp only[<-a];kernel_rfl
noncomputable def Df0{R:Type}(L:Nat)(c:By)(b:Int->Bool->Option R):Option R:=My L L c 0 (λa=>b a true) (λ_=>b 0 false)
theorem Df1(d:Nat)(s0):evC (Ua L) (d+1) Z Y 233 [pS s0] [] s=Df0 L s0 (λa b=>some (.tup [pI a,pB b],[],s)):=by refine(evE (fn:=ag9) (by kernel_rfl)).trans ?_;generalize evC (Ua L) d=Q;unfold Df0;exact(j1 (by kernel_rfl) ((Ba2 L Q Y s (E0 0 (D9 (Ua L) Q Y (cd [1,1] Cj7) (F0 (Ua L) ag9))) L s0 0).trans (by kernel_rfl)))
noncomputable abbrev Ck0:Code:=C3 ag7
noncomputable def Uf(L:Nat):Cfg:=B5 L [208] (A2 [(6,[2,0,0,0,0])]) [(76,Ki),(233,Ch1)] (A2 [(12,[2,0]),(7,[4,0,0]),(11,[4,0,0]),(10,[2,0]),(9,[4,0,0,0,19]),(8,[4,0,0,0,0]),(6,[4,0,0,8]),(5,[4,0,0]),(4,[4,0]),(3,[2,0]),(2,[4,8]),(1,[4]),(0,[0])]) [233] (A2 [(0,[5]),(1,[4,0,0])]) (some [2,0]) [] [] []
noncomputable def Nj{R:Type}(L n:Nat)(b:LL)(v1 a:Int)(f:Unit->Option R)(g:Int->Option R):Option R:=match n with|0=>none|n+1=>cond (ltI a 4) (cond (inR a b.length) (cond (okE Nq b (b8 a) 0) (cond (A3 (a8 (gX b (b8 a) 0))) (vl (↑(N1 (oct (gX b (b8 a) 0))):Int) λc=>cond (not (j2 (oct (gX b (b8 a) 0)))) (f ()) (vl (DD (v1*256)) λd=>vl (DD (d+(DD c))) λe=>Nj L n b e (A1 (a+1)) f g)) none) none) none) (g v1)
theorem Bi3(n p0 v1 i2):C7 0 ((Uf L).keep 6) (bd (Uf L) Q Y (cd [1,1,1,1,0,1,0,0] Ck0)) n ⟨gp [(4,.s (.sl false false 1 p0)),(0,p32 v1),(0,pI i2)] 27,[],s⟩ k =
 Nj L n p0 v1 i2 (λ_=>k .ret ⟨gp [(2,p32 (0:Int)),(0,pB false)] 30,[],s⟩) (λv0=>k (.exit 0) ⟨gp [(5,p32 v0)] 28,[],s⟩):=by
 induction n generalizing p0 v1 i2 with
 | zero=>rfl
 | succ n a=>rw[Nj];simp only[<-a];kernel_rfl
noncomputable def Dh6{R:Type}(L:Nat)(d:By)(b:Int->Bool->Option R):Option R:=cond (A3 d.length) (vl (D1 (pcs (u8n (46:Int)) d)) λa=>cond ((a.length:Int)!=4) (b 0 false) (Nj L L a 0 0 (λ_=>b 0 false) (λc=>b c true))) none
theorem Dh7(d:Nat)(s0):evC (Uf L) (d+1) Z Y 208 [pS s0] [] s=Dh6 L s0 (λb c=>some (.tup [p32 b,pB c],[],s)):=by refine(evE (fn:=ag7) (by kernel_rfl)).trans ?_;generalize evC (Uf L) d=Q;unfold Dh6;exact(j1 (by kernel_rfl) (A0 (A4 λa=>(A0 rfl ((Bi3 L Q Y s (E0 0 (D9 (Uf L) Q Y (cd [1,1,1,1,1] Ck0) (F0 (Uf L) ag7))) L a 0 0).trans (by kernel_rfl)))) rfl))
noncomputable def A07(L:Nat):Cfg:=B5 L [96] (A2 []) [(95,Zp)] (A2 [(1,[2]),(0,[0])]) [95] (A2 []) (some [2]) [] [] []
noncomputable def Dh4{R:Type}(L:Nat)(v0:Int)(n:By->Option R):Option R:=vl (Om .u32 v0 (24:Int)) λg=>cond (ltN (A1 g) 4294967296) (vl (j5 (b8 (A1 g))) λj=>cond (E7 j.length 1) (vl (j++[46]) λc=>vl (Om .u32 v0 (16:Int)) λm=>vl (x4 m (256:Int)) λh=>cond (ltN (A1 h) 4294967296) (vl (j5 (b8 (A1 h))) λd=>cond (E7 c.length d.length) (cond (E7 (a8 (c++d)) 1) (vl ((c++d)++[46]) λe=>vl (x4 (Om .u32 v0 (8:Int)) (256:Int)) λi=>cond (ltN (A1 i) 4294967296) (vl (j5 (b8 (A1 i))) λf=>cond (E7 e.length f.length) (cond (E7 (a8 (e++f)) 1) (vl ((e++f)++[46]) λl=>vl (x4 v0 (256:Int)) λa=>cond (ltN (A1 a) 4294967296) (vl (j5 (b8 (A1 a))) λb=>cond (E7 l.length b.length) (n (l++b)) none) none) none) none) none) none) none) none) none) none
theorem Dh5(d:Nat)(v0):evC (A07 L) (d+1) Z Y 96 [p32 v0] [] s=Dh4 L v0 (λa=>some (pS a,[],s)):=by refine(evE (fn:=Tryz.f96) (by kernel_rfl)).trans ?_;generalize evC (A07 L) d=Q;unfold Dh4;kernel_rfl
noncomputable def BD(L:Nat):Cfg:=B5 L [176] (A2 []) [(210,Zr)] (A2 [(1,[4]),(0,[0,0])]) [] (A2 []) (some [4]) [] [] []
noncomputable def GI{R:Type}(L:Nat)(c a:By)(d:Nat->LL->Option R):Option R:=cond (A3 c.length) (cond (a.length==1) (cond ((0:Int)==0) (cond (((-1):Int)==((-1):Int)) (vl (D1 (pcs (b9 a 0 0) c)) λb=>d (a8 (pcs (b9 a 0 0) c)) b) none) none) none) none
theorem Bk3(d:Nat)(s0 sep1):evC (BD L) (d+1) Z Y 176 [pS s0,pS sep1] [] s=GI L s0 sep1 (λa b=>some (.vw 0 0 a,[.arr false 9 1 b],s)):=by refine(evE (fn:=Tryz.f176) (by kernel_rfl)).trans ?_;generalize evC (BD L) d=Q;unfold GI;kernel_rfl
end
end
section
open Go
attribute [simp] B7 E4 C8 Aa9 By3 By2 Ab0 Af K3 F4
attribute [simp] vl
@[simp] theorem E6{n:Nat}(h:n<=1000000000):A3 n=true:=RO.2 h
@[simp] theorem Sl{v:Int}{n:Nat}(h:0<=v)(a:v<n):ltN v n=true:=E5.2 ⟨h,a⟩
theorem J9{n:Nat}(h:n<=1000000000:=by omega):A3 n=true:=E6 h
theorem L7{v:Int}{n:Nat}(h:0<=v:=by omega)(g:v<n:=by omega):ltN v n=true:=Sl h g
@[simp] theorem G0{m n:Nat}(h:m+n<4611686018427387904):E7 m n=true:=by simp[E7,h]
abbrev rv(v:PV)(H:List Blk):Option (PV × List Blk × Unit):=some (v,H,())
theorem K7{n:Nat}(h:A3 n=true):n<=1000000000:=RO.1 h
theorem D5(s:By)(i:Nat)(h:i<s.length):s.drop i=s.getD i 0::s.drop (i+1):=by rw[o0,p5 h,p9,List.getElem_cons_drop]
theorem RT(s:By)(i:Nat)(h:i<s.length):s.take (i+1)=s.take i++[s.getD i 0]:=by rw[List.take_add_one,o0,p5 h];rfl
theorem LM(s:By)(i:Nat)(h:i<s.length):(B9 (s.take (i+1))).map E2=(B9 (s.take i)).map E2++[E2 (Ce (s.getD i 0))]:=by unfold B9;rw[RT s i h,ae9,ae9];rfl
theorem U4(b:UInt8):(b.toNat<65/\Ce b=b)\/(90<b.toNat/\Ce b=b)\/(65<=b.toNat/\b.toNat<=90/\((Ce b).toNat=b.toNat+32)):=by
 unfold Ce;by_cases a:b.toNat<65
 ·refine .inl ⟨a,if_neg ?_⟩;intro h;have:=aa1.1 h.1;simp at this;omega
 ·by_cases c:90<b.toNat
  ·refine .inr (.inl ⟨c,if_neg ?_⟩);intro h;have:=aa1.1 h.2;simp at this;omega
  ·refine .inr (.inr ⟨by omega,by omega,?_⟩);rw[if_pos (by constructor<;>(rw[aa1];simp;omega)),UInt8.toNat_add];simp;omega
@[simp] theorem D3(s:By)(i:Nat):bAt s (i:Int)=((s.getD i 0).toNat:Int):=by simp[bAt]
@[simp] theorem Ai(s:By):bAt s 0=((s.getD 0 0).toNat:Int):=by simp[bAt]
@[simp] theorem Bq8(s:By):bAt s 1=((s.getD 1 0).toNat:Int):=by simp[bAt]
theorem Fd{c:Type}(s:List c)(a b:Nat):cut s (a:Int) (b:Int)=(s.take b).drop a:=by simp[cut]
@[simp] theorem P4{b:Type}(s:List b)(a:Int):cut s a (s.length:Int)=s.drop a.toNat:=by simp[cut]
@[simp] theorem K6{a:Type}(s:List a)(b:Int):cut s 0 b=s.take b.toNat:=by simp[cut]
@[simp] theorem E1(l:List By):(D1 l).length=l.length:=by simp[D1]
@[simp] theorem S8(l:List By)(i:Nat):gX (D1 l) i 0=l.getD i []:=by
 unfold gX gC D1;by_cases h:i<l.length
 ·simp[o0,p5 h,SV.gS]
 ·simp[o0,List.getElem?_eq_none (show l.length<=i by omega),SV.gS]
@[simp] theorem O9{l:List By}{i:Nat}(h:i<l.length):okE Nq (D1 l) i 0=true:=by unfold okE D1;simp[o0,p5 h,h,Nq,okS,SV.has]
theorem Zc(a b:List By):D1 (a++b)=D1 a++D1 b:=by simp[D1]
theorem Jm(b:UInt8):u8n (b.toNat:Int)=b:=by simp[u8n]
theorem Aa1(b:UInt8):inR (b.toNat:Int) 256=true:=by have:=b.toNat_lt;exact E9
theorem Dr1{a b:UInt8}:((a.toNat:Int)==(b.toNat:Int))=(a==b):=by
 rw[ab9];simp only[beq_iff_eq];constructor
 ·intro h;exact UInt8.toNat_inj.1 (by omega)
 ·intro h;rw[h]
theorem Q8(a:UInt8)(n:Nat)(h:n<256):((a.toNat:Int)==(n:Int))=(a==j9 n):=by rw[<-Dr1];simp[o8 h]
theorem Ev(p s:By):p.isPrefixOf s=(decide (p.length<=s.length)&&(s.take p.length==p)):=by
 rw[ab9];simp only[x7,w9,decide_eq_true_eq,beq_iff_eq];constructor
 ·intro h;exact⟨h.length_le,(ab5.1 h).symm⟩
 ·rintro⟨_,h⟩;exact ab5.2 h.symm
theorem Oe(p s:By):p.isSuffixOf s=(decide (p.length<=s.length)&&(s.drop (s.length-p.length)==p)):=by
 rw[ab9];simp only[List.isSuffixOf_iff_suffix,w9,decide_eq_true_eq,beq_iff_eq];constructor
 ·intro h;exact⟨h.length_le,(ab6.1 h).symm⟩
 ·rintro⟨_,h⟩;exact ab6.2 h.symm
theorem Cz(b:UInt8):(48<=b.toNat/\b.toNat<=57/\dig b=b.toNat-48)\/(97<=b.toNat/\b.toNat<=102/\dig b=b.toNat-87)\/(65<=b.toNat/\b.toNat<=70/\dig b=b.toNat-55)\/(¬(48<=b.toNat/\b.toNat<=57)/\¬(97<=b.toNat/\b.toNat<=102)/\¬(65<=b.toNat/\b.toNat<=70)/\dig b=99):=by
 unfold dig;split
 ·rename_i h;exact .inl ⟨h.1,h.2,rfl⟩
 ·split
  ·rename_i h;exact .inr (.inl ⟨h.1,h.2,rfl⟩)
  ·split
   ·rename_i h;exact .inr (.inr (.inl ⟨h.1,h.2,rfl⟩))
   ·exact .inr (.inr (.inr ⟨by assumption,by assumption,by assumption,rfl⟩))
theorem Cx1(m:Nat):(if (1099511627776:Int)<(m:Int) then (1099511627776:Int) else (m:Int))=((min m Co:Nat):Int):=by unfold Co;split<;>omega
theorem KG{base:Nat}:∀{s:By} {n v:Nat},n<=Co->F1 base n s=some v->v<=Co
 | [],n,v,h,e=>by simp only[F1,x6] at e;omega
 | b::r,n,v,h,e=>by
  simp only[F1] at e;split at e
  ·exact KG (by omega) e
  ·cases e
theorem Bu8{s:By}{v:Nat}(h:An s=some v):v<=Co:=by
 unfold An at h
 repeat' split at h
 all_goals first|(cases h;done)|exact KG (by unfold Co;omega) h
theorem PU(base:Nat):∀(x y:By) (n:Nat),F1 base n (x++y)=(F1 base n x).bind λm=>F1 base m y
 | [],y,n=>rfl
 | b::r,y,n=>by
  simp only[ab2,F1];split
  ·exact PU base r y _
  ·rfl
theorem Jt(u:Nat)(h:¬u<10):j5 u=j5 (u / 10)++[j9 (48+u % 10)]:=by rw[j5,dif_neg h]
theorem Dq5(d:Nat)(h:d<10):dig (j9 (48+d))=d:=by
 unfold dig;have:(j9 (48+d)).toNat=48+d:=by simp;omega
 rw[this,T5];omega
theorem B03:∀u:Nat,u<=Co->F1 10 0 (j5 u)=some u:=by
 intro u
 induction u using Nat.strongRecOn with
 | _ u a=>
  intro b;by_cases h:u<10
  ·rw[ab0 h];simp only[F1,Dq5 u h];rw[if_pos h];unfold Co;simp;omega
  ·rw[Jt u h,PU,a (u / 10) (by omega) (by omega)];simp only[Option.bind_some,F1,Dq5 (u % 10) (by omega)];rw[T5];unfold Co at *;simp;omega
theorem Gb:∀(k u:Nat),0<k->u<10 ^ k->(j5 u).length<=k
 | 0,u,h,_=>by omega
 | k+1,u,_,h=>by
  by_cases b:u<10
  ·rw[ab0 b];simp
  ·rw[Jt u b,y7,x5];have a:0<k:=by
    rcases Nat.eq_zero_or_pos k with rfl|a
    ·rw[ah5,Nat.pow_one] at h;omega
    ·exact a
   have:=Gb k (u / 10) a (by rw[y5] at h;omega);omega
theorem F6(u:Nat)(h:u<4294967296):(j5 u).length<=10:=Gb 10 u (by omega) (by omega)
theorem Xs{s:By}{n:Nat}:oct s=some n↔n<256/\j5 n=s:=by
 unfold oct;constructor
 ·intro h;split at h
  ·rename_i m c;split at h
   ·rename_i a;cases h;exact⟨by omega,a.2⟩
   ·cases h
  ·cases h
 ·rintro⟨b,rfl⟩;rw[B03 n (by unfold Co;omega)];exact if_pos ⟨by omega,rfl⟩
theorem Dq0(a b:Nat)(c:a<9223372036854775808)(d:b<9223372036854775808):bOr .i64 (a:Int) (b:Int)=((a ||| b:Nat):Int):=by
 unfold bOr;rw[show p6 .i64=64 from rfl,Ds3 64 a b (by omega) (by omega)];have:a ||| b<2 ^ 63:=ad3 (by omega) (by omega)
 exact A7
theorem D10(a b:Nat)(c:a<4294967296)(d:b<4294967296):bOr .u32 (a:Int) (b:Int)=((a ||| b:Nat):Int):=by
 unfold bOr;rw[show p6 .u32=32 from rfl,Ds3 32 a b (by omega) (by omega)];have:a ||| b<2 ^ 32:=ad3 (by omega) (by omega)
 exact Nw
theorem Dr9(a b:Nat)(c:a<4294967296)(d:b<4294967296):Ay4 .u32 (a:Int) (b:Int)=((a &&& b:Nat):Int):=by unfold Ay4;rw[show p6 .u32=32 from rfl,Dq4 32 a b (by omega) (by omega)];have:a &&& b<2 ^ 32:=Nat.and_lt_two_pow _ (by omega);exact Nw
theorem Dr8(x:Nat):x &&& 255=x % 256:=Nat.and_two_pow_sub_one_eq_mod x 8
theorem Ar2(a m:Nat)(h:a*2 ^ m<9223372036854775808)(b:m<=64):Sf .i64 (a:Int) (m:Int)=((a*2 ^ m:Nat):Int):=by
 unfold Sf;rw[j4,show p6 .i64=64 from rfl,ac0 b];have:(a:Int)*2 ^ m=((a*2 ^ m:Nat):Int):=by simp
 rw[this];exact A7
theorem D26(a m:Nat)(h:a*2 ^ m<4294967296)(b:m<=32):Sf .u32 (a:Int) (m:Int)=((a*2 ^ m:Nat):Int):=by
 unfold Sf;rw[j4,show p6 .u32=32 from rfl,ac0 b];have:(a:Int)*2 ^ m=((a*2 ^ m:Nat):Int):=by simp
 rw[this];exact Nw
theorem FY(v n m:Nat)(h:n<2 ^ m):v*2 ^ m ||| n=v*2 ^ m+n:=by rw[Nat.or_comm,Du0 n v m h,ah2]
theorem Qa{c:UInt8}{s:By}(h:c∉s):pcs c s=[s]:=by unfold pcs;rw[Za c s [] h];rfl
theorem YK{c:UInt8}{p r:By}(h:c∉p):pcs c (p++c::r)=p::pcs c r:=by unfold pcs;rw[EW c p [] r h];rfl
theorem Iz(c:UInt8)(s:By):(pcs c s).length=s.count c+1:=Jk c s []
theorem A80(c:UInt8)(s:By):pcs c s≠[]:=Bj6 c s []
theorem Dx{c:UInt8}{s x:By}(h:x∈pcs c s):c∉x/\x.length<=s.length:=by have:=Qh c s [] (by simp) x h;simpa using this
theorem Gy(c:UInt8)(s:By):s.count c<=s.length:=List.count_le_length
theorem U0(c:UInt8):∀s:By,c∉s\/∃p r,s=p++c::r/\c∉p
 | []=>.inl (by simp)
 | b::s=>by
  by_cases h:b=c
  ·subst h;exact .inr ⟨[],s,rfl,by simp⟩
  ·rcases U0 c s with a|⟨p,r,rfl,d⟩
   ·exact .inl (by simp[a,Ne.symm h])
   ·exact .inr ⟨b::p,r,rfl,by simp[d,Ne.symm h]⟩
theorem Un{c:UInt8}{s:By}(h:c∉s):x8 s [c]=-1:=by
 rcases af1 s [c] with a|⟨i,a,e,b,f⟩
 ·exact a.1
 ·exfalso;simp only[ad4,x7] at b;obtain⟨t,d⟩:=b;have:c∈s.drop i:=by rw[<-d];simp
  exact h (ac5 this)
theorem BU{c:UInt8}{p r:By}(h:c∉p):x8 (p++c::r) [c]=(p.length:Int):=by
 rcases af1 (p++c::r) [c] with d|⟨i,d,m,f,g⟩
 ·exfalso;have:=d.2 p.length (by simp);simp[ad4] at this
 ·rw[d];have n:¬p.length<i:=by
   intro a;have:=g p.length a;simp[ad4] at this
  have k:¬i<p.length:=by
   intro a;simp only[ad4,x7] at f;obtain⟨t,b⟩:=f;have j:(p++c::r).drop i=p.drop i++c::r:=by rw[aa2 (by omega)]
   rw[j] at b;cases e:p.drop i with
   | nil=>have:=List.length_drop (i:=i) (l:=p);rw[e] at this;simp at this;omega
   | cons x y=>
    rw[e] at b;simp at b;have:x∈p:=ac5 (i:=i) (by rw[e];simp);rw[<-b.1] at this;exact h this
  omega
theorem B57(s:By):D0 s≠[]:=by
 unfold D0;split
 ·rename_i h;intro e;have:=congrArg a8 e;simp at this;omega
 ·exact A80 _ _
theorem Mv{s x:By}(h:x∈D0 s):x.length<=s.length:=by
 unfold D0 at h;split at h
 ·exact(Dx ((List.dropLast_sublist _).subset h)).2
 ·exact(Dx h).2
theorem Bb(s:By):1<=(D0 s).length/\(D0 s).length<=s.length+1:=by
 have a:=aa7.2 (B57 s);have b:=Iz 46 s;have c:=Gy 46 s;refine⟨a,?_⟩;unfold D0;split
 ·rw[List.length_dropLast];omega
 ·omega
theorem CA(s:By):(D0 s).getD ((D0 s).length-1) []=Ku s:=by unfold Ku;rw[List.getLastD_eq_getLast?,List.getLast?_eq_getElem?,o0]
theorem QM(s:By):Ku s∈D0 s:=by have h:=(Bb s).1;rw[<-CA,o0,p5 (by omega)];exact ab3 _
theorem Ju{base:Nat}:∀{s:By} {n i:Nat},i<s.length->base<=dig (s.getD i 0)->F1 base n s=none
 | [],n,i,h,_=>by simp at h
 | b::r,n,0,h,a=>by
  simp only[w8] at a;simp only[F1];rw[G3]
 | b::r,n,i+1,h,a=>by
  simp only[ac9] at a;simp only[F1];split
  ·exact Ju (i:=i) (by simpa using h) a
  ·rfl
theorem BW(s:By):Cc s=true↔s.getD 0 0=48/\(s.getD 1 0=120\/s.getD 1 0=88):=by simp[Cc]
theorem Ri{s:By}(h:Cc s=true):2<=s.length:=by
 rw[BW] at h
 match s with
 | []=>simp at h
 | [a]=>simp at h
 | a::b::r=>simp
theorem Cq3(l:By):(if Cc l then (F1 16 0 (l.drop 2)).isSome else !l.isEmpty&&(F1 10 0 l).isSome) =
  (if (!l.isEmpty&&(F1 10 0 l).isSome)=true then true else (if (An l).isSome=true then decide (2<=l.length)&&(l.getD 1 0==120||l.getD 1 0==88) else false)):=by
 by_cases b:Cc l=true
 ·have g:=Ri b;have j:=(BW l).1 b;have f:F1 10 0 l=none:=Ju (i:=1) (by omega) (by rcases j.2 with h|h<;>rw[h]<;>decide);have d:An l=F1 16 0 (l.drop 2):=by
   unfold An;rw[if_neg (by intro e;rw[e] at g;simp at g),if_pos b]
  rw[if_pos b,f,d];have c:(l.getD 1 0==120||l.getD 1 0==88)=true:=by simpa using j.2
  rw[c];simp[g]
 ·rw[if_neg b];cases n:(!l.isEmpty&&(F1 10 0 l).isSome) with
  | true=>rfl
  | false=>
   rw[if_neg (by simp)];cases d:An l with
   | none=>rfl
   | some v=>
    rw[show(some v).isSome=true from rfl,if_pos rfl]
    symm
    rw[Bool.and_eq_false_iff];by_cases c:2<=l.length
    ·right
     apply Classical.byContradiction;intro a;have a:l.getD 1 0=120\/l.getD 1 0=88:=by
      cases k:(l.getD 1 0==120||l.getD 1 0==88) with
      | false=>exact absurd k a
      | true=>simpa using k
     have m:¬l.getD 0 0=48:=λh=>b ((BW l).2 ⟨h,a⟩)
     have f:F1 10 0 l=none:=Ju (i:=1) (by omega) (by rcases a with h|h<;>rw[h]<;>decide);unfold An at d;rw[if_neg (by intro e;rw[e] at c;simp at c),if_neg b,if_neg (by intro h;exact m h.2),f] at d;cases d
    ·left;simpa using c
end
section
open Go Go.Proofs
theorem B43{R:Type}{a:Bool->Option R}(s p:By)(b:A3 s.length=true):Dc0 LF s p a=a (p.isPrefixOf s):=by
 have:=K7 b;unfold Dc0;rw[Ev];by_cases h:p.length<=s.length
 ·simp_all
 ·simp (disch:=omega) [h]
theorem B22{R:Type}{a:Bool->Option R}(s p:By)(b:A3 s.length=true):Um LF s p a=a (p.isPrefixOf s):=by unfold Um;rw[b];rfl
theorem B44{R:Type}{a:Bool->Option R}(s p:By)(b:A3 s.length=true):Dc2 LF s p a=a (p.isSuffixOf s):=by
 have:=K7 b;unfold Dc2;rw[Oe];by_cases h:p.length<=s.length
 ·have e:((s.length:Int)-(p.length:Int)).toNat=s.length-p.length:=by omega
  simp (disch:=omega) [h,e]
 ·simp (disch:=omega) [h]
theorem B23{R:Type}{a:Bool->Option R}(s p:By)(b:A3 s.length=true):Da5 LF s p a=a (p.isSuffixOf s):=by unfold Da5;rw[b];rfl
theorem A67{R:Type}{b:By->Option R}(s p:By)(a:A3 s.length=true):Bu2 LF s p b=b (ZY s p):=by
 have:=K7 a;unfold Bu2 ZY;rw[a];cases h:p.isSuffixOf s with
 | false=>simp
 | true=>
  have:p.length<=s.length:=by rw[Oe] at h;simp at h;exact h.1
  have e:((s.length:Int)-(p.length:Int)).toNat=s.length-p.length:=by omega
  simp (disch:=omega) [e]
theorem Bk6{R:Type}{a:By->Option R}(s p:By)(b:A3 s.length=true):Bx6 LF s p a=a (ZY s p):=by unfold Bx6;rw[b];rfl
theorem A55{R:Type}{b:By->Bool->Option R}(s p:By)(a:A3 s.length=true):Bt6 LF s p b=b (Gz s p) (p.isPrefixOf s):=by
 have:=K7 a;unfold Bt6 Gz;rw[a];cases h:p.isPrefixOf s with
 | false=>simp
 | true=>
  have:p.length<=s.length:=by rw[Ev] at h;simp at h;exact h.1
  simp_all
theorem Bz9{R:Type}{a:By->Bool->Option R}(s p:By)(b:A3 s.length=true):C70 LF s p a=a (Gz s p) (p.isPrefixOf s):=by unfold C70;rw[b];rfl
theorem As4{R:Type}{a:LL->Option R}(s p:By)(b:A3 s.length=true)(c:(p.length==1)=true):ZT LF s p a=a (D1 (pcs (p.getD 0 0) s)):=by unfold ZT;rw[b,c];rfl
theorem B40{R:Type}{k0:LL->Option R}(s:By)(o:s.length<=1000000000):∀(r i n:Nat),i+r=s.length->r<n->Fi LF n s (s.length:Int) (i:Int) ((B9 (s.take i)).map E2) k0=k0 ((B9 s).map E2):=by
 intro r
 induction r with
 | zero=>
  intro i n g j;obtain⟨n,rfl⟩:∃m,n=m+1:=⟨n-1,by omega⟩
  rw[Fi];rw[A6,aa0 (by omega)];rfl
 | succ r a=>
  intro i n g j;obtain⟨n,rfl⟩:∃m,n=m+1:=⟨n-1,by omega⟩
  rw[Fi];have h:(B9 (s.take i)).length=i:=by simp[B9];omega
  have a:=a (i+1) n (by omega) (by omega);rw[LM s i (by omega)] at a;rw[D3];have l:=(s.getD i 0).toNat_lt;generalize s.getD i 0=b at *;have c:((i:Int)+1)=((i+1:Nat):Int):=by omega
  simp (disch:=omega) only[B7,K3,cond_true,vl,aa6,h,F4,C8];rw[c];rcases U4 b with⟨d,e⟩|⟨d,e⟩|⟨d,k,e⟩
  ·simp (disch:=omega) only[B7,j6,cond_false];rw[e] at a;exact a
  ·simp (disch:=omega) only[E4,B7,j6,j7,cond_false,cond_true];rw[e] at a;exact a
  ·have f:wu8 ((b.toNat:Int)+32)=((Ce b).toNat:Int):=by
    rw[M4];omega
   simp (disch:=omega) only[E4,j7,cond_true,f];exact a
theorem B41{R:Type}{k0:By->LL->Option R}(s:By)(b:A3 s.length=true):Db8 LF s k0=k0 (B9 s) ((B9 s).map E2):=by have c:=K7 b;have:=C2;unfold Db8;simp (disch:=omega) only[j4,F4,af5];rw[show(decide ((0:Int)<=(s.length:Int)))=true by simp];have:=B40 (k0:=λa=>cond (w6 a Ol) (k0 (o9 Mg a) a) none) s c s.length 0 LF (by omega) (by omega);simp only[List.take_zero,B9,List.map_nil] at this;rw[cond_true];refine j1 this ?_;rw[show(o9 Ce s).map E2=(B9 s).map E2 from rfl,X3,Y0];rfl
theorem B85{R:Type}{k0:LL->Option R}(s:By)(o:s.length<=1000000000):∀(r i n:Nat),i+r=s.length->r<n->Fr LF n s (i:Int) ((B9 (s.take i)).map E2) k0=k0 ((B9 s).map E2):=by
 intro r
 induction r with
 | zero=>
  intro i n g j;obtain⟨n,rfl⟩:∃m,n=m+1:=⟨n-1,by omega⟩
  rw[Fr];rw[A6,aa0 (by omega)];rfl
 | succ r a=>
  intro i n g j;obtain⟨n,rfl⟩:∃m,n=m+1:=⟨n-1,by omega⟩
  rw[Fr];have h:(B9 (s.take i)).length=i:=by simp[B9];omega
  have a:=a (i+1) n (by omega) (by omega);rw[LM s i (by omega)] at a;rw[D3];have l:=(s.getD i 0).toNat_lt;generalize s.getD i 0=b at *;have c:((i:Int)+1)=((i+1:Nat):Int):=by omega
  simp (disch:=omega) only[B7,K3,cond_true,vl,aa6,h,F4,C8];rw[c];rcases U4 b with⟨d,e⟩|⟨d,e⟩|⟨d,k,e⟩
  ·simp (disch:=omega) only[B7,j6,cond_false];rw[e] at a;exact a
  ·simp (disch:=omega) only[E4,B7,j6,j7,cond_false,cond_true];rw[e] at a;exact a
  ·have f:wu8 ((b.toNat:Int)+32)=((Ce b).toNat:Int):=by
    rw[M4];omega
   simp (disch:=omega) only[E4,j7,cond_true,f];exact a
theorem B86{R:Type}{k0:By->LL->Option R}(s:By)(b:A3 s.length=true):Dg3 LF s k0=k0 (B9 s) ((B9 s).map E2):=by have c:=K7 b;have:=C2;unfold Dg3;have:=B85 (k0:=λa=>cond (w6 a Ol) (k0 (o9 Mg a) a) none) s c s.length 0 LF (by omega) (by omega);refine j1 this ?_;rw[X3,Y0];rfl
theorem B19{R:Type}{c:Bool->Option R}(s:By)(d:A3 s.length=true):Da0 LF s c=c (Cc s):=by
 unfold Da0;have key:Cc s=(([48,120]:By).isPrefixOf s||([48,88]:By).isPrefixOf s):=by
  match s with
  | []=>rfl
  | [a]=>simp[Cc,o7]
  | a::b::r=>
   simp only[Cc,o7,w8,ac9,af5];rw[ah6 (a:=(48:UInt8)),ah6 (a:=(120:UInt8)),ah6 (a:=(88:UInt8))];cases (a==48)<;>simp
 grind
theorem B04{R:Type}{k0:Unit->Option R}{k1:Int->Option R}(s:By)(C:s.length<=1000000000)(base:Nat)(B:base<=16):∀(r i a n:Nat),i+r=s.length->r<n->a<=Co->
  It LF n s (base:Int) (a:Int) (s.length:Int) (i:Int) k0 k1=match F1 base a (s.drop i) with|some v=>k1 (v:Int)|none=>k0 ():=by
 intro r
 induction r with
 | zero=>
  intro i a n u w q;obtain⟨n,rfl⟩:∃m,n=m+1:=⟨n-1,by omega⟩
  rw[It];rw[A6,o5 (by omega)];rfl
 | succ r l=>
  intro i a n u w q;obtain⟨n,rfl⟩:∃m,n=m+1:=⟨n-1,by omega⟩
  rw[It,D5 s i (by omega)];rw[D3];have t:=(s.getD i 0).toNat_lt;generalize s.getD i 0=b at *;have k:((i:Int)+1)=((i+1:Nat):Int):=by omega
  have o:Co=1099511627776:=rfl;have step:∀d:Nat,d<base->(a*base+d<100000000000000/\A1 (A1 ((a:Int)*(base:Int))+(d:Int))=((a*base+d:Nat):Int)):=by
   intro d c;have h:a*base<=1099511627776*16:=af2 (by omega) (by omega);refine⟨by omega,?_⟩;have p:A1 ((a*base:Nat):Int)=((a*base:Nat):Int):=A7;rw[<-ae6,p,A7];rfl
  simp (disch:=omega) only[B7,K3,cond_true,vl,C8,Wl,Wk,Wj];rw[k];simp only[F1];rcases Cz b with⟨h,j,e⟩|⟨h,j,e⟩|⟨h,j,e⟩|⟨h,j,A,e⟩
  ·have f:wu8 ((b.toNat:Int)-48)=((dig b:Nat):Int):=by rw[M4];omega
   simp (disch:=omega) only[B7,E4,j6,j7,cond_false,cond_true,f,C8];by_cases c:dig b<base
   ·rw[if_pos c,A8,(step _ c).2,Cx1];exact l (i+1) _ n (by omega) (by omega) (by omega)
   ·rw[if_neg c,A6];rfl
  ·have f:wu8 ((b.toNat:Int)-97)+10=((dig b:Nat):Int):=by rw[M4];omega
   have g:wu8 ((b.toNat:Int)-97)=((b.toNat:Int)-97):=M4;rw[g] at f;simp (disch:=omega) only[B7,E4,j6,j7,cond_false,cond_true,g,C8,f];by_cases c:dig b<base
   ·rw[if_pos c,A8,(step _ c).2,Cx1];exact l (i+1) _ n (by omega) (by omega) (by omega)
   ·rw[if_neg c,A6];rfl
  ·have f:wu8 ((b.toNat:Int)-65)+10=((dig b:Nat):Int):=by rw[M4];omega
   have g:wu8 ((b.toNat:Int)-65)=((b.toNat:Int)-65):=M4;rw[g] at f;simp (disch:=omega) only[B7,E4,j6,j7,cond_false,cond_true,g,C8,f];by_cases c:dig b<base
   ·rw[if_pos c,A8,(step _ c).2,Cx1];exact l (i+1) _ n (by omega) (by omega) (by omega)
   ·rw[if_neg c,A6];rfl
  ·rw[if_neg (show ¬dig b<base by omega)];by_cases x:b.toNat<48
   ·simp (disch:=omega) only[B7,E4,j6,j7,cond_false,cond_true]
   ·by_cases y:b.toNat<65
    ·simp (disch:=omega) only[B7,E4,j6,j7,cond_false,cond_true]
    ·by_cases z:b.toNat<97
     ·simp (disch:=omega) only[B7,E4,j6,j7,cond_false,cond_true]
     ·simp (disch:=omega) only[B7,E4,j6,j7,cond_false,cond_true]
theorem B05{R:Type}{k0:Int->Bool->Option R}(s:By)(base:Int)(c:A3 s.length=true)(d:ltN base 17=true):Cl5 LF s base k0=k0 (N1 (F1 base.toNat 0 s):Int) (F1 base.toNat 0 s).isSome:=by have f:=K7 c;have:=C2;obtain⟨a,e⟩:=E5.1 d;obtain⟨b,rfl⟩:=k9 a;unfold Cl5;have:=B04 (k0:=λ_=>k0 0 false) (k1:=λn=>k0 n true) s f b (by omega) s.length 0 0 LF (by omega) (by omega) (by unfold Co;omega);refine j1 this ?_;rw[v7,j4];cases F1 b 0 s<;>rfl
theorem Cq2{R:Type}{f:Int->Bool->Option R}(s:By)(d:A3 s.length=true):num LF s f=f (N1 (An s):Int) (An s).isSome:=by
 have k:=K7 d;unfold num An;rw[d];by_cases a:s=[]
 ·subst a;rfl
 have c:(s==([]:By))=false:=by simpa using a
 have j:0<s.length:=aa7.2 a;rw[if_neg a,c];simp only[cond_true,cond_false,vl];cases h:Cc s with
 | true=>
  have:=Ri h;simp (disch:=first|omega|(simp;omega)) only[cond_true,if_true,Af,P4,E6,Sl];rfl
 | false=>
  simp only[cond_false,aa8,if_false];have i:(F1 10 0 s)=F1 10 0 s:=rfl;by_cases g:1<s.length
  ·simp (disch:=omega) only[B7,K3,cond_true,Ai,g,true_and];have e:=Q8 (s.getD 0 0) 48 (by omega);rw[show((48:Nat):Int)=48 from rfl] at e;rw[e];by_cases b:s.getD 0 0=48
   ·rw[if_pos b,b,show((48:UInt8)==j9 48)=true from rfl];simp (disch:=first|omega|(simp;omega)) only[Af,P4,E6,Sl,cond_true];rfl
   ·rw[if_neg b,show(s.getD 0 0==j9 48)=false from beq_eq_false_iff_ne.2 b];rfl
  ·rw[A6,G3];rfl
theorem YC{R:Type}{b:Bool->Option R}(s:By)(a:A3 s.length=true):FW LF s b=b (G4 s):=by
 have i:=K7 a;have h:=Bb s;have g:=Mv (QM s);have d:=CA s;have c:((D0 s).length:Int)-1=(((D0 s).length-1:Nat):Int):=by omega
 unfold FW G4;rw[a];simp (disch:=omega) only[cond_true,vl,E1,c,C8,K3,j4,O9,S8,d,E6];cases f:Cc (Ku s) with
 | true=>
  have:=Ri f;have e:An (Ku s)=F1 16 0 ((Ku s).drop 2):=by
   unfold An;grind
  simp[e]
 | false=>
  simp only[cond_false,aa8,if_false];cases F1 10 0 (Ku s) with
  | none=>simp
  | some v=>cases Ku s<;>rfl
theorem OK{R:Type}{c:Bool->Option R}(s:By)(a:A3 s.length=true):Yj LF s c=c (G4 s):=by
 have j:=K7 a;have i:=Bb s;have h:=Mv (QM s);have e:=CA s;have d:((D0 s).length:Int)-1=(((D0 s).length-1:Nat):Int):=by omega
 unfold Yj G4;rw[a,Cq3];simp (disch:=omega) only[cond_true,vl,E1,d,C8,K3,j4,O9,S8,e,E6];generalize Ku s=l at *;cases (!l.isEmpty&&(F1 10 0 l).isSome) with
 | true=>rfl
 | false=>
  simp only[cond_false,aa8,if_false];cases An l with
  | none=>rfl
  | some v=>
   simp only[p4,cond_true,if_true,Bq8];by_cases b:2<=l.length
   ·simp (disch:=omega) only[E4,K3,j7,cond_true,b,decide_true,Bool.true_and];have f:=Q8 (l.getD 1 0) 120 (by omega);have g:=Q8 (l.getD 1 0) 88 (by omega);grind
   ·rw[A8];simp[b]
theorem XF{R:Type}{e:By->Option R}(b:Nat)(j:b<=9223372036854775808)(n:Int)(f:ltN n (b+1)=true):FQ b n e=e (j5 n.toNat):=by
 obtain⟨a,g⟩:=E5.1 f;obtain⟨m,rfl⟩:=k9 a;have key:∀d:Nat,d<10->wu8 (A1 (48+(d:Int)))=((48+d:Nat):Int):=by
  intro d i;rw[A7,M4];rfl
 have c:∀d:Nat,d<10->[[SV.int .u8 ((48+d:Nat):Int)]]=[j9 (48+d)].map E2:=by
  intro d i;rw[Cz6 (by omega)];rfl
 unfold FQ;rw[j4];by_cases h:m<10
 ·rw[A8,key m h,ab0 h];simp only[cond_true,vl];rw[c m h,X3,Y0];rfl
 ·have l:=Gb 19 (m / 10) (by omega) (by omega);rw[A6,show(10:Int)=((10:Nat):Int) from rfl,L8,Cl];simp (disch:=omega) only[cond_false,vl,C8,cond_true,j4];rw[L7];simp only[cond_true];have k:=key (m % 10) (by omega);rw[A7] at k;rw[k,c (m % 10) (by omega),X3,Y0,G0 (by simp;omega),Jt m h];rfl
theorem B72{R:Type}{f:Int->Option R}{c:Unit->Option R}(s:By):∀(r m n:Nat),m+r=256->r<n->My LF n s (m:Int) f c=match oct s with|some v=>(if m<=v then f (v:Int) else c ())|none=>c ():=by
 intro r
 induction r with
 | zero=>
  intro m n g i;obtain⟨n,rfl⟩:∃m,n=m+1:=⟨n-1,by omega⟩
  rw[My];rw[A6];cases h:oct s with
  | none=>rfl
  | some v=>have:=(Xs.1 h).1;simp only[cond_false];rw[G3]
 | succ r j=>
  intro m n g i;obtain⟨n,rfl⟩:∃m,n=m+1:=⟨n-1,by omega⟩
  rw[My];have b:((m:Int)+1)=((m+1:Nat):Int):=by omega
  simp (disch:=omega) only[B7,Sl,cond_true,vl,C8,j4];by_cases a:j5 m=s
  ·rw[show(j5 m==s)=true by simpa using a,Xs.2 ⟨by omega,a⟩];simp
  ·rw[show(j5 m==s)=false by simpa using a,cond_false,b,j (m+1) n (by omega) (by omega)];cases h:oct s with
   | none=>rfl
   | some v=>
    have:=(Xs.1 h).2;have:v≠m:=by intro e;subst e;exact a this
    simp only[];by_cases d:m<=v
    ·rw[if_pos d,T5]
    ·rw[if_neg d,G3]
theorem B73{R:Type}{a:Int->Bool->Option R}(s:By)(b:A3 s.length=true):Df0 LF s a=a (N1 (oct s):Int) (oct s).isSome:=by have:=C2;unfold Df0;refine j1 (B72 s 256 0 LF (by omega) (by omega)) ?_;cases oct s<;>rfl
theorem D11(s:By)(a b:Nat)(h:a<=b)(c:b<s.length):cut s (a:Int) ((b+1:Nat):Int)=cut s (a:Int) (b:Int)++[s.getD b 0]:=by rw[Fd,Fd,RT s b c,aa2 (by rw[List.length_take];omega)]
theorem Cl3(s:By)(a:Nat):cut s (a:Int) (a:Int)=[]:=by rw[Fd];grind
theorem An7{R:Type}{k0:LL->Option R}(s:By)(p:s.length<=1000000000)(c:UInt8):∀(r i a n:Nat) (l:List By),i+r=s.length->r+1<n->a<=i->l.length<=i->
  V7 LF n s (c.toNat:Int) (a:Int) (i:Int) (D1 l) k0=k0 (D1 (l++P9 c (cut s (a:Int) (i:Int)) (s.drop i))):=by
 intro r
 induction r with
 | zero=>
  intro i a n l j o f k;obtain⟨n,rfl⟩:∃m,n=m+1:=⟨n-1,by omega⟩
  obtain⟨n,rfl⟩:∃m,n=m+1:=⟨n-1,by omega⟩
  have b:i=s.length:=by omega
  subst b;rw[V7];simp (disch:=omega) only[E4,j7,cond_true,beq_self_eq_true,Af,E1,F4,C8];rw[V7];rw[A8,List.drop_length];simp only[j6,cond_false,P9,Zc];rfl
 | succ r g=>
  intro i a n l j o f k;obtain⟨n,rfl⟩:∃m,n=m+1:=⟨n-1,by omega⟩
  rw[V7];have d:((i:Int)+1)=((i+1:Nat):Int):=by omega
  have e:((i:Int)==(s.length:Int))=false:=by rw[beq_eq_false_iff_ne];omega
  simp (disch:=omega) only[E4,j7,cond_true,cond_false,e,K3,D3,Dr1,Af,E1,F4,C8];rw[d,D5 s i (by omega)];simp only[P9];by_cases h:s.getD i 0=c
  ·rw[show(s.getD i 0==c)=true by simpa using h,if_pos h,cond_true];have:=g (i+1) (i+1) n (l++[cut s (a:Int) (i:Int)]) (by omega) (by omega) (by omega) (by simp<;>omega);rw[Zc] at this;refine j1 this ?_;rw[Cl3];simp
  ·rw[show(s.getD i 0==c)=false from beq_eq_false_iff_ne.2 h,if_neg h,cond_false];rw[g (i+1) a n l (by omega) (by omega) (by omega) (by omega),D11 s a i f (by omega)]
theorem Bh4{R:Type}{k0:LL->Option R}(s:By)(c:Int)(a:A3 s.length=true)(d:inR c 256=true):MP LF s c k0=k0 (D1 (pcs (u8n c) s)):=by
 have f:=K7 a;have:=C2;simp only[inR,w9,decide_eq_true_eq] at d;have e:c=((u8n c).toNat:Int):=by
  unfold u8n;simp;omega
 unfold MP;generalize u8n c=b at *;subst e;have:=An7 (k0:=k0) s f b s.length 0 0 LF [] (by omega) (by omega) (by omega) (by simp);refine j1 this ?_;rw[Cl3];rfl
theorem As6(c:UInt8)(s:By):(D1 (pcs c s)).isEmpty=false:=by
 cases h:pcs c s with
 | nil=>exact absurd h (A80 c s)
 | cons a r=>rfl
theorem An8(s:By)(c:Int)(a:A3 s.length=true)(b:inR c 256=true):∃r H,MP LF s c (λl=>rv (.fl 0) [.arr true 9 1 l])=rv r H/\r.stab [1] H = .s (.sl false false 1 (D1 (pcs (u8n c) s))):=by refine⟨_,_,Bh4 s c a b,?_⟩;simp[PV.stab,Sc,PV.snap,As6]
theorem Cx2(d:List By)(x:By)(m:Nat):aa3 (D1 (d++j0 (m+1) [])) d.length (G1 (b9 (D1 (d++j0 (m+1) [])) d.length []) 0 [SV.str x])=D1 ((d++[x])++j0 m []):=by
 have a:b9 (D1 (d++j0 (m+1) [])) d.length []=[SV.str []]:=by
  unfold D1;grind
 rw[a];simp only[G1,List.set_cons_zero,Zc];rw[show d.length=(D1 d).length by simp,List.set_append_right _ _ (by omega),Nat.sub_self,List.replicate_succ];simp[D1]
theorem Ah3{R:Type}{k0:By->Int->LL->Option R}(c:UInt8):∀(m n:Nat) (s:By) (d:List By),s.length<=1000000000->m=s.count c->d.length+m<=1000000000->m<n->
  ∃(f:List By) (e:By),pcs c s=f++[e]/\e.length<=s.length/\Bj LF n s [c] 0 ((d.length+m:Nat):Int) (d.length:Int) (D1 (d++j0 (m+1) [])) k0=k0 e ((d.length+m:Nat):Int) (D1 ((d++f)++[[]])):=by
 intro m
 induction m with
 | zero=>
  intro n s d k b x y;obtain⟨n,rfl⟩:∃m,n=m+1:=⟨n-1,by omega⟩
  have a:c∉s:=aa9.1 b.symm;refine⟨[],s,Qa a,aa4 _,?_⟩;rw[Bj];rw[A6];simp
 | succ m z=>
  intro n s d k b x y;obtain⟨n,rfl⟩:∃m,n=m+1:=⟨n-1,by omega⟩
  rcases U0 c s with a|⟨p,r,rfl,a⟩
  ·rw[aa9.2 a] at b;omega
  ·have i:m=r.count c:=by
    rw[List.count_append,ae7,aa9.2 a] at b;simp at b;omega
   simp only[y7,ab4] at k;obtain⟨f,e,w,B,j⟩:=z n r (d++[p]) (by omega) i (by simp<;>omega) (by omega);refine⟨p::f,e,by rw[YK a,w];rfl,by simp<;>omega,?_⟩;rw[Bj];have l:((p.length:Int)+1)=((p.length+1:Nat):Int):=by omega
   have o:(d.length:Int)+1=((d.length+1:Nat):Int):=by omega
   have q:((p.length+1:Nat):Int).toNat=p.length+1:=by omega
   have A:(((p++c::r).length:Nat):Int)=((p.length+(r.length+1):Nat):Int):=by simp
   have t:(p++c::r).take p.length=p:=List.take_left' rfl;have u:(p++c::r).drop (p.length+1)=r:=by
    rw[show p++c::r=(p++[c])++r by simp,List.drop_left' (by simp)]
   rw[BU a];have v:(D1 (d++j0 (m+1+1) [])).length=d.length+(m+2):=by simp<;>omega
   simp (disch:=first|omega|(simp;omega)) only[B7,E4,E6,cond_true,cond_false,vl,Int.add_zero,C8,Af,K3,v,j4,x5,P4,K6,t,Cx2];rw[decide_eq_true (show d.length<d.length+(m+2) by omega),cond_true,show((1:Nat):Int)=1 from rfl,l];simp (disch:=first|omega|(simp;omega)) only[C8,Af,cond_true,P4,q,u,o];have g:((((d++[p]).length+m:Nat):Int))=((d.length+(m+1):Nat):Int):=by simp<;>omega
   have h:(((d++[p]).length:Nat):Int)=((d.length+1:Nat):Int):=by simp
   rw[g,h] at j;rw[j];simp
theorem KT{R:Type}{k0:Unit->Option R}{g:Nat->LL->Option R}(s p:By)(v n:Int)(w:A3 s.length=true)(x:(p.length==1)=true)(y:(v==0)=true)(z:(n==(-1))=true) :
  KR LF s p v n k0 g=g (pcs (p.getD 0 0) s).length (D1 (pcs (p.getD 0 0) s)):=by
 have C:=K7 w;have:=C2;obtain⟨c,rfl⟩:∃c,p=[c]:=by
  match p,x with
  | [c],_=>exact⟨c,rfl⟩
 have:v=0:=by simpa using y
 subst this;have:n=-1:=by simpa using z
 subst this;have G:=Gy c s;have B:=Iz c s;obtain⟨d,D,u,F,h⟩:=Ah3 (R:=R) (k0:=λf a b=>cond (inR a (a8 b))
     (cond (decide ((b8 a)<(a8 b)))
      (vl (A1 (a+(1))) λe=>
      cond (I6 (0) e (a8 (aa3 b (b8 a) (G1 (b9 b (b8 a) []) 0 [(SV.str f)]))))
       (g ((b8 e)-0) (aa3 b (b8 a) (G1 (b9 b (b8 a) []) 0 [(SV.str f)])))
       (none))
      (none))
     (none)) c (s.count c) LF s [] C rfl (by simp<;>omega) (by omega)
 unfold KR;have i:A1 ((s.count c:Int)+1)=((s.count c+1:Nat):Int):=A7;have j:A1 ((s.length:Int)+1)=((s.length+1:Nat):Int):=A7;have k:(if ((s.length+1:Nat):Int)<((s.count c+1:Nat):Int) then ((s.length+1:Nat):Int) else ((s.count c+1:Nat):Int))=((s.count c+1:Nat):Int):=G3;have l:((s.count c+1:Nat):Int)-1=(s.count c:Int):=by omega
 have m:(j0 (s.count c+1) [SV.str ([]:By)])=D1 ([]++j0 (s.count c+1) []):=by simp[D1]
 simp only[w8,vl,x5,i,j,k,j4,m];rw[show((-1:Int)==0)=false from rfl,show([c]==([]:By))=false from rfl,show ltI (-1) 0=true from rfl,decide_eq_true (show(0:Int)<=((s.count c+1:Nat):Int) by omega),decide_eq_true (show((s.count c+1:Nat):Int)<=((s.count c+1:Nat):Int) by omega),F4 (by omega),l,A7];simp only[cond_true,cond_false,beq_self_eq_true,Bool.and_self];simp only[ae8,ah5] at h;refine j1 h ?_;have o:(D1 ((([]:List By)++d)++[[]]))=D1 (d++j0 (0+1) []):=by simp
 have A:d.length=s.count c:=by grind
 have q:=Cx2 d D 0;rw[<-A,o];have t:(D1 (d++j0 (0+1) ([]:By))).length=d.length+1:=by simp
 have r:A1 ((d.length:Int)+1)=((d.length+1:Nat):Int):=A7;simp only[j4,q,t,vl,r];rw[E9,decide_eq_true (show d.length<d.length+1 by omega),Af (by omega) (by omega) (by simp),u];simp
theorem Ah4(s p:By)(v n:Int)(a:A3 s.length=true)(b:(p.length==1)=true)(c:(v==0)=true)(d:(n==(-1))=true) :
  ∃r H,KR LF s p v n (λ_=>rv (.fl 0) [.arr true 9 1 []]) (λi l=>rv (.vw 0 0 i) [.arr false 9 1 l])=rv r H/\r.stab [1] H = .s (.sl false false 1 (D1 (pcs (p.getD 0 0) s))):=by
 refine⟨_,_,KT s p v n a b c d,?_⟩;simp[PV.stab,Sc,PV.snap,aa0]
theorem ZU{R:Type}{a:Nat->LL->Option R}(s p:By)(b:A3 s.length=true)(c:(p.length==1)=true):GI LF s p a=a (pcs (p.getD 0 0) s).length (D1 (pcs (p.getD 0 0) s)):=by unfold GI;rw[b,c];rfl
theorem QT{l:List By}{i:Nat}(h:i<l.length):l.getD i []∈l:=by grind
theorem A79{R:Type}{d:LL->Option R}(s:By)(b:A3 s.length=true):parts LF s d=d (D1 (D0 s)):=by
 have j:=K7 b;have g:=Iz 46 s;have i:=Gy 46 s;unfold parts;rw[b];have e:A1 (((pcs 46 s).length:Int)-1)=(((pcs 46 s).length-1:Nat):Int):=by rw[A7];omega
 simp only[cond_true,vl,w8,show((1:Nat)==1)=true from rfl,E1,e,j4];by_cases c:1<(pcs 46 s).length
 ·rw[A8,E9,O9 (by omega),S8];have f:(pcs 46 s).getD ((pcs 46 s).length-1) []=(pcs 46 s).getLastD []:=by grind
  rw[f];by_cases a:(pcs 46 s).getLastD []=[]
  ·rw[a,show(([]:By)==[])=true from rfl,I1];have:D0 s=(pcs 46 s).dropLast:=by unfold D0;rw[if_pos ⟨c,a⟩]
   rw[this,ac1,K6,j4];simp[D1]
  ·rw[show((pcs 46 s).getLastD []==[])=false from beq_eq_false_iff_ne.2 a];have:D0 s=pcs 46 s:=by unfold D0;rw[if_neg (λh=>a h.2)]
   grind
 ·rw[A6];have:D0 s=pcs 46 s:=by unfold D0;rw[if_neg (λh=>c h.1)]
  grind
theorem Am8{R:Type}{d:LL->Option R}(s:By)(b:A3 s.length=true):ZC LF s d=d (D1 (D0 s)):=by
 have j:=K7 b;have g:=Iz 46 s;have i:=Gy 46 s;unfold ZC;rw[b];have e:A1 (((pcs 46 s).length:Int)-1)=(((pcs 46 s).length-1:Nat):Int):=by rw[A7];omega
 simp only[cond_true,vl,show u8n 46=46 from rfl,E1,e,j4];by_cases c:1<(pcs 46 s).length
 ·rw[A8,E9,O9 (by omega),S8];have f:(pcs 46 s).getD ((pcs 46 s).length-1) []=(pcs 46 s).getLastD []:=by grind
  rw[f];by_cases a:(pcs 46 s).getLastD []=[]
  ·rw[a,show(([]:By)==[])=true from rfl,I1];have:D0 s=(pcs 46 s).dropLast:=by unfold D0;rw[if_pos ⟨c,a⟩]
   rw[this,ac1,K6,j4];simp[D1]
  ·rw[show((pcs 46 s).getLastD []==[])=false from beq_eq_false_iff_ne.2 a];have:D0 s=pcs 46 s:=by unfold D0;rw[if_neg (λh=>a h.2)]
   grind
 ·rw[A6];have:D0 s=pcs 46 s:=by unfold D0;rw[if_neg (λh=>c h.1)]
  grind
theorem Jz(l:List By)(i:Nat)(h:i<l.length):l.drop i=l.getD i []::l.drop (i+1):=by simp_all
theorem B62{R:Type}{g:Unit->Option R}{j:Int->Option R}(l:List By)(B:1<=l.length)(L:l.length<=4)(A:∀x∈l,x.length<=1000000000):∀(r i v n:Nat),i+r=l.length->0<r->r<n->v<256 ^ i->
  Jc LF n (D1 l) (v:Int) (l.length:Int) (i:Int) g j=match Xv (8*(5-l.length)) v (l.drop i) with|some w=>j (w:Int)|none=>g ():=by
 intro r
 induction r with
 | zero=>intro i v n _ h;omega
 | succ r J=>
  intro i v n K _ M H;obtain⟨n,rfl⟩:∃m,n=m+1:=⟨n-1,by omega⟩
  rw[Jc,Jz l i (by omega)];have N:=A _ (QT (show i<l.length by omega));have f:Co=1099511627776:=rfl;have C:256 ^ i<=16777216:=by
   have:i=0\/i=1\/i=2\/i=3:=by omega
   rcases this with rfl|rfl|rfl|rfl<;>decide
  simp (disch:=omega) only[B7,E1,K3,cond_true,j4,O9,S8,E6,vl];simp only[Xv];have c:((i:Int)+1)=((i+1:Nat):Int):=by omega
  cases D:An (l.getD i []) with
  | none=>rfl
  | some q=>
   have F:=Bu8 D;have p:A1 ((l.length:Int)-1)=((l.length-1:Nat):Int):=by rw[A7];omega
   simp only[p4,j6,cond_false,N1,p9,p];by_cases G:r=0
   ·subst G;have t:l.drop (i+1)=[]:=o5 (by omega);have o:A1 (8*A1 (5-(l.length:Int)))=((8*(5-l.length):Nat):Int):=by
     rw[C8 (n:=5-(l.length:Int)) (by omega) (by omega),A7];omega
    have b:2 ^ (8*(5-l.length))*256 ^ i=4294967296:=by
     have:l.length=1\/l.length=2\/l.length=3\/l.length=4:=by omega
     grind
    have u:1*2 ^ (8*(5-l.length))<=4294967296:=by
     rw[<-b,ac6];exact ab7 _ (ae5 (by omega))
    rw[t,A6,o,decide_eq_true (show(0:Int)<=((8*(5-l.length):Nat):Int) by omega)];simp only[cond_false,cond_true];have k:=Ar2 1 (8*(5-l.length)) (by omega) (by omega);have I:v*2 ^ (8*(5-l.length))<4294967296:=by
     rw[<-b,ah4];exact Nat.mul_lt_mul_of_pos_left H (ae5 (by omega))
    have e:=Ar2 v (8*(5-l.length)) (by omega) (by omega);rw[show((1:Nat):Int)=1 from rfl] at k;rw[k,e,ac6];by_cases a:q<2 ^ (8*(5-l.length))
    ·rw[A8,if_pos a,Dq0 _ _ (by omega) (by omega),FY v q _ a];simp only[j6,cond_false];obtain⟨n,rfl⟩:∃m,n=m+1:=⟨n-1,by omega⟩
     rw[Jc];rw[c,A7,A6];rfl
    ·rw[A6,if_neg a];rfl
   ·obtain⟨y,z,d⟩:∃y z,l.drop (i+1)=y::z:=⟨_,_,Jz l (i+1) (by omega)⟩
    rw[d,A8];simp only[cond_true];by_cases a:q<=255
    ·have e:=Ar2 v 8 (by omega) (by omega);rw[show((8:Nat):Int)=8 from rfl] at e;rw[A6,if_pos a,e,Dq0 _ _ (by omega) (by omega),FY v q 8 (by omega),c,A7];rw[<-d];exact J (i+1) _ n (by omega) (by omega) (by omega) (by rw[y5];omega)
    ·rw[A8,if_neg a];rfl
theorem Bv3(free m:Nat):∀(l:List By) (v w:Nat),v<256 ^ m->Xv free v l=some w->w<256 ^ (m+(l.length-1))*2 ^ free
 | [],v,w,b,h=>by cases h
 | p::r,v,w,b,h=>by
  simp only[Xv] at h;cases a:An p with
  | none=>simp[a] at h
  | some q=>
   simp only[a] at h;cases r with
   | nil=>
    simp only at h;split at h
    ·rename_i c;cases h;simp only[ab4,ae8,Nat.add_sub_cancel,Nat.add_zero];have:(v+1)*2 ^ free<=256 ^ m*2 ^ free:=Nat.mul_le_mul_right _ b;grind
    grind
   | cons y z=>
    simp only at h;split at h
    ·rename_i c;have:=Bv3 free (m+1) (y::z) (v*256+q) w (by rw[y5];omega) h;grind
    grind
theorem Cr3{s:By}{w:Nat}(h:pnB s=some w):w<4294967296:=by
 unfold pnB at h;split at h
 ·cases h
 ·rename_i a;have b:=Bb s;have:=Bv3 _ 0 (D0 s) 0 w (by decide) h;have e:(D0 s).length=1\/(D0 s).length=2\/(D0 s).length=3\/(D0 s).length=4:=by omega
  grind
theorem B63{R:Type}{b:Int->Bool->Option R}(s:By)(a:A3 s.length=true):De2 LF s b=b (N1 (pnB s):Int) (pnB s).isSome:=by
 have f:=K7 a;have:=C2;have c:=Bb s;unfold De2;rw[a,E1];by_cases h:4<(D0 s).length
 ·rw[A8];unfold pnB;rw[if_pos h];rfl
 ·rw[A6];simp only[cond_true,cond_false];refine j1 (B62 (D0 s) c.1 (by omega) (λx g=>ab8 (Mv g) f) (D0 s).length 0 0 LF (by omega) (by omega) (by omega) (by decide)) ?_;have e:pnB s=Xv (8*(5-(D0 s).length)) 0 (D0 s):=by unfold pnB;rw[if_neg h]
  rw[v7,<-e];cases d:pnB s with
  | none=>rfl
  | some w=>
   have:=Cr3 d;simp only[N1,p9,p4];rw[Nw]
theorem Bf9{R:Type}{k0:Unit->Option R}{k1:Int->Option R}(l:List By)(F:1<=l.length)(L:l.length<=4)(D:∀x∈l,x.length<=1000000000):∀(r i v n:Nat),i+r=l.length->0<r->r<n->v<256 ^ i->
  Ek LF n (D1 l) ((v*2 ^ (32-8*i):Nat):Int) (i:Int) k0 k1=match Xv (8*(5-l.length)) v (l.drop i) with|some w=>k1 (w:Int)|none=>k0 ():=by
 intro r
 induction r with
 | zero=>intro i v n _ h;omega
 | succ r J=>
  intro i v n K _ M N;obtain⟨n,rfl⟩:∃m,n=m+1:=⟨n-1,by omega⟩
  rw[Ek,Jz l i (by omega)];have O:=D _ (QT (show i<l.length by omega));have k:Co=1099511627776:=rfl;have a:v*2 ^ (32-8*i)<4294967296:=by
   have:i=0\/i=1\/i=2\/i=3:=by omega
   rcases this with rfl|rfl|rfl|rfl
   all_goals omega
  simp (disch:=omega) only[B7,E1,K3,cond_true,j4,O9,S8,E6,vl];simp only[Xv];have c:((i:Int)+1)=((i+1:Nat):Int):=by omega
  cases G:An (l.getD i []) with
  | none=>rfl
  | some q=>
   have H:=Bu8 G;have A:A1 ((l.length:Int)-1)=((l.length-1:Nat):Int):=by rw[A7];omega
   simp only[p4,j6,cond_false,N1,p9,A];by_cases I:r=0
   ·subst I;have B:l.drop (i+1)=[]:=o5 (by omega);have u:A1 (8*A1 (5-(l.length:Int)))=((8*(5-l.length):Nat):Int):=by
     rw[C8 (n:=5-(l.length:Int)) (by omega) (by omega),A7];omega
    have f:2 ^ (8*(5-l.length))*256 ^ i=4294967296:=by
     have:l.length=1\/l.length=2\/l.length=3\/l.length=4:=by omega
     grind
    have C:1*2 ^ (8*(5-l.length))<=4294967296:=by
     rw[<-f,ac6];exact ab7 _ (ae5 (by omega))
    have e:((i:Int)==((l.length-1:Nat):Int))=true:=by rw[beq_iff_eq];omega
    rw[B,e,u,decide_eq_true (show(0:Int)<=((8*(5-l.length):Nat):Int) by omega)];simp only[cond_true];have o:=Ar2 1 (8*(5-l.length)) (by omega) (by omega);rw[show((1:Nat):Int)=1 from rfl] at o;rw[o,ac6];by_cases b:q<2 ^ (8*(5-l.length))
    ·rw[A8,if_pos b];simp only[j6,cond_false];obtain⟨n,rfl⟩:∃m,n=m+1:=⟨n-1,by omega⟩
     rw[Ek];rw[c,C8 (n:=((i+1:Nat):Int)) (by omega) (by omega),E1,A6];have:32-8*i=8*(5-l.length):=by omega
     rw[this] at a ⊢;rw[cond_false,A7];rfl
    ·rw[A6,if_neg b];rfl
   ·obtain⟨y,z,d⟩:∃y z,l.drop (i+1)=y::z:=⟨_,_,Jz l (i+1) (by omega)⟩
    have e:((i:Int)==((l.length-1:Nat):Int))=false:=by rw[beq_eq_false_iff_ne];omega
    rw[d,e];simp only[cond_false];by_cases b:q<=255
    ·have j:A1 (24-A1 (8*(i:Int)))=((24-8*i:Nat):Int):=by
      rw[C8 (n:=8*(i:Int)) (by omega) (by omega),A7];omega
     have g:q*2 ^ (24-8*i)<4294967296:=by
      have:i=0\/i=1\/i=2:=by omega
      clear a;rcases this with rfl|rfl|rfl
      ·show q*16777216<_;omega
      ·show q*65536<_;omega
      ·show q*256<_;omega
     have p:=Ar2 q (24-8*i) (by omega) (by omega);rw[A6,if_pos b,j,decide_eq_true (show(0:Int)<=((24-8*i:Nat):Int) by omega),p,c,C8 (n:=((i+1:Nat):Int)) (by omega) (by omega)];have t:A1 (((v*2 ^ (32-8*i):Nat):Int)+((q*2 ^ (24-8*i):Nat):Int))=(((v*256+q)*2 ^ (32-8*(i+1)):Nat):Int):=by
      rw[A7];have:i=0\/i=1\/i=2:=by omega
      clear a g p j;rcases this with rfl|rfl|rfl
      ·show((v*4294967296:Nat):Int)+((q*16777216:Nat):Int)=(((v*256+q)*16777216:Nat):Int);omega
      ·show((v*16777216:Nat):Int)+((q*65536:Nat):Int)=(((v*256+q)*65536:Nat):Int);omega
      ·show((v*65536:Nat):Int)+((q*256:Nat):Int)=(((v*256+q)*256:Nat):Int);omega
     rw[t,<-d];exact J (i+1) _ n (by omega) (by omega) (by omega) (by rw[y5];omega)
    ·rw[A8,if_neg b];rfl
theorem Bg0{R:Type}{k0:Int->Bool->Option R}(s:By)(a:A3 s.length=true):Bw6 LF s k0=k0 (N1 (pnB s):Int) (pnB s).isSome:=by
 have f:=K7 a;have:=C2;have c:=Bb s;unfold Bw6;rw[a,E1];by_cases h:4<(D0 s).length
 ·rw[A8];unfold pnB;rw[if_pos h];rfl
 ·rw[A6];simp only[cond_true,cond_false];have b:=Bf9 (k0:=λ_=>k0 0 false) (k1:=λv=>k0 (DD v) true) (D0 s) c.1 (by omega) (λx g=>ab8 (Mv g) f) (D0 s).length 0 0 LF (by omega) (by omega) (by omega) (by decide);rw[Nat.zero_mul] at b;refine j1 b ?_;have e:pnB s=Xv (8*(5-(D0 s).length)) 0 (D0 s):=by unfold pnB;rw[if_neg h]
  rw[v7,<-e];cases d:pnB s with
  | none=>rfl
  | some w=>
   have:=Cr3 d;simp only[N1,p9,p4];rw[Nw]
theorem Bu9:∀(l:List By) (v w m:Nat),v<256 ^ m->LW v l=some w->w<256 ^ (m+l.length)
 | [],v,w,m,b,h=>by simp only[LW,x6] at h;subst h;simpa using b
 | p::r,v,w,m,b,h=>by
  simp only[LW] at h;cases a:oct p with
  | none=>simp[a] at h
  | some q=>
   simp only[a] at h;have c:=(Xs.1 a).1;have:=Bu9 r (v*256+q) w (m+1) (by rw[y5];omega) h;grind
theorem Dd2(s:By):oct s=match F1 10 0 s with|some n=>(if n<=255 then (if j5 n=s then some n else none) else none)|none=>none:=by unfold oct;grind
theorem C08{R:Type}{e:Unit->Option R}{f:Int->Option R}(l:List By)(z:l.length=4)(j:∀x∈l,x.length<=1000000000):∀(r i v n:Nat),i+r=4->r<n->v<256 ^ i->
  Vp LF n (v:Int) (D1 l) 4 (i:Int) e f=match LW v (l.drop i) with|some w=>f (w:Int)|none=>e ():=by
 intro r
 induction r with
 | zero=>
  intro i v n h k u;obtain⟨n,rfl⟩:∃m,n=m+1:=⟨n-1,by omega⟩
  rw[Vp];rw[A6,o5 (by omega)];rfl
 | succ r y=>
  intro i v n h k u;obtain⟨n,rfl⟩:∃m,n=m+1:=⟨n-1,by omega⟩
  rw[Vp,Jz l i (by omega)];have A:=j _ (QT (show i<l.length by omega));have o:256 ^ i<=16777216:=by
   have:i=0\/i=1\/i=2\/i=3:=by omega
   grind
  simp (disch:=omega) only[B7,E1,K3,cond_true,j4,O9,S8,E6,Sl,vl];simp only[LW];have b:((i:Int)+1)=((i+1:Nat):Int):=by omega
  rw[Dd2];cases p:F1 10 0 (l.getD i []) with
  | none=>rfl
  | some q=>
   have t:=KG (by unfold Co;omega) p;have d:Co=1099511627776:=rfl;simp only[p4,j6,cond_false,N1,p9,j4];by_cases c:q<=255
   ·rw[A6,if_pos c,L7];simp only[cond_false,cond_true];by_cases a:j5 q=l.getD i []
    ·have g:=D26 v 8 (by omega) (by omega);rw[show((8:Nat):Int)=8 from rfl] at g;rw[show(j5 q==l.getD i [])=true by simpa using a,if_pos a,g,Nw,D10 _ _ (by omega) (by omega),FY v q 8 (by omega),b,A7];exact y (i+1) _ n (by omega) (by omega) (by rw[y5];omega)
    ·rw[show(j5 q==l.getD i [])=false from beq_eq_false_iff_ne.2 a,if_neg a];rfl
   ·rw[A8,if_neg c];rfl
theorem C09{R:Type}{b:Int->Bool->Option R}(s:By)(a:A3 s.length=true):v4p LF s b=b (N1 (v4B s):Int) (v4B s).isSome:=by
 have c:=K7 a;have:=C2;unfold v4p v4B;rw[a];simp only[cond_true,vl,w8,E1,show((1:Nat)==1)=true from rfl];by_cases h:(pcs 46 s).length=4
 ·rw[if_pos h,h,show(((4:Nat):Int)!=4)=false from rfl,cond_false];refine j1 (C08 (pcs 46 s) h (λx d=>ab8 (Dx d).2 c) 4 0 0 LF (by omega) (by omega) (by decide)) ?_;rw[v7];cases LW 0 (pcs 46 s)<;>rfl
 ·rw[if_neg h,show(((pcs 46 s).length:Int)!=4)=true by simp<;>omega];rfl
theorem Ca6{R:Type}{b:Unit->Option R}{c:Int->Option R}(l:List By)(y:l.length=4)(h:∀x∈l,x.length<=1000000000):∀(r i v n:Nat),i+r=4->r<n->v<256 ^ i->
  Nj LF n (D1 l) (v:Int) (i:Int) b c=match LW v (l.drop i) with|some w=>c (w:Int)|none=>b ():=by
 intro r
 induction r with
 | zero=>
  intro i v n g j t;obtain⟨n,rfl⟩:∃m,n=m+1:=⟨n-1,by omega⟩
  rw[Nj];rw[A6,o5 (by omega)];rfl
 | succ r u=>
  intro i v n g j t;obtain⟨n,rfl⟩:∃m,n=m+1:=⟨n-1,by omega⟩
  rw[Nj,Jz l i (by omega)];have z:=h _ (QT (show i<l.length by omega));have k:256 ^ i<=16777216:=by
   have:i=0\/i=1\/i=2\/i=3:=by omega
   grind
  simp (disch:=omega) only[B7,E1,K3,cond_true,j4,O9,S8,E6,Sl,vl];simp only[LW];have a:((i:Int)+1)=((i+1:Nat):Int):=by omega
  cases o:oct (l.getD i []) with
  | none=>rfl
  | some q=>
   have p:=(Xs.1 o).1;simp only[p4,j6,cond_false,N1,p9];have d:DD ((v:Int)*256)=((v*256:Nat):Int):=by rw[Nw];simp
   have e:DD (q:Int)=(q:Int):=Nw;have f:DD (((v*256:Nat):Int)+(q:Int))=((v*256+q:Nat):Int):=by rw[Nw];simp
   rw[d,e,f,a,A7];exact u (i+1) _ n (by omega) (by omega) (by rw[y5];omega)
theorem Ca7{R:Type}{b:Int->Bool->Option R}(s:By)(a:A3 s.length=true):Dh6 LF s b=b (N1 (v4B s):Int) (v4B s).isSome:=by
 have c:=K7 a;have:=C2;unfold Dh6 v4B;rw[a];simp only[cond_true,vl,show u8n 46=46 from rfl,E1];by_cases h:(pcs 46 s).length=4
 ·rw[if_pos h,h,show(((4:Nat):Int)!=4)=false from rfl,cond_false];refine j1 (Ca6 (pcs 46 s) h (λx d=>ab8 (Dx d).2 c) 4 0 0 LF (by omega) (by omega) (by decide)) ?_;rw[v7];cases LW 0 (pcs 46 s)<;>rfl
 ·rw[if_neg h,show(((pcs 46 s).length:Int)!=4)=true by simp<;>omega];rfl
theorem C07{R:Type}{j:By->Option R}(v:Int)(o:ltN v 4294967296=true):v4f LF v j=j (Ii v.toNat):=by
 obtain⟨c,p⟩:=E5.1 o;obtain⟨m,rfl⟩:=k9 c;have:=C2;obtain⟨f,q⟩:∃f,LF=f+1+1+1+1+1:=⟨LF-5,by omega⟩
 have step:∀(n:Nat) (i:Nat) (out:By) (K:By->Option R),i<=24->out.length<=1000->Ij LF (n+1) (m:Int) out (i:Int) K=Ij LF n (m:Int) (out++(j5 (m / 2 ^ i % 256)++[46])) ((i:Int)-8) K:=by
  intro n i out K y A;rw[Ij];have g:m / 2 ^ i<4294967296:=ad1 (af0 _ _) (by omega);have k:Ay4 .u32 (Om .u32 (m:Int) (i:Int)) 255=((m / 2 ^ i % 256:Nat):Int):=by
   rw[Rx .u32 m i (by show i<=32;omega),show(255:Int)=((255:Nat):Int) from rfl,Dr9 _ _ g (by omega),Dr8]
  have z:=F6 (m / 2 ^ i % 256) (by omega);have l:A1 ((m / 2 ^ i % 256:Nat):Int)=((m / 2 ^ i % 256:Nat):Int):=A7;rw[A6,decide_eq_true (show(0:Int)<=(i:Int) by omega),k];simp only[vl,l,j4,j7,cond_true];rw[L7,G0 (by omega),G0 (by simp<;>omega),A7];rfl
 have b:∀(n:Nat) (out:By) (K:By->Option R),Ij LF (n+1) (m:Int) out (-8) K=K out:=by
  intro n out K;rw[Ij];simp_all
 have x:=F6 (m / 2 ^ 24 % 256) (by omega);have w:=F6 (m / 2 ^ 16 % 256) (by omega);have D:=F6 (m / 2 ^ 8 % 256) (by omega);have C:=F6 (m / 2 ^ 0 % 256) (by omega);have u:=F6 (m / 16777216 % 256) (by omega);have t:=F6 (m / 65536 % 256) (by omega);have B:=F6 (m / 256 % 256) (by omega);have r:=F6 (m % 256) (by omega);unfold v4f;rw[show Ij LF LF=Ij LF (f+1+1+1+1+1) by rw[<-q]];rw[show(24:Int)=((24:Nat):Int) from rfl,step _ 24 _ _ (by omega) (by simp)];rw[show((24:Nat):Int)-8=((16:Nat):Int) from rfl,step _ 16 _ _ (by omega) (by simp<;>omega)];rw[show((16:Nat):Int)-8=((8:Nat):Int) from rfl,step _ 8 _ _ (by omega) (by simp<;>omega)];rw[show((8:Nat):Int)-8=((0:Nat):Int) from rfl,step _ 0 _ _ (by omega) (by simp<;>omega)];rw[show((0:Nat):Int)-8=-8 from rfl,b];have h:m / 2 ^ 24 % 256=m / 16777216:=by omega
 have e:(([]:By)++(j5 (m / 2 ^ 24 % 256)++[46])++(j5 (m / 2 ^ 16 % 256)++[46])++(j5 (m / 2 ^ 8 % 256)++[46])++(j5 (m / 2 ^ 0 % 256)++[46]))=Ii m++[46]:=by
  unfold Ii;grind
 have a:(Ii m++[46]).length<=1000:=by rw[<-e];simp;omega
 rw[e];have d:((Ii m++[46]).length:Int)-1=((Ii m).length:Int):=by simp<;>omega
 simp only[vl,d];simp only[y7,x5] at a;rw[A7,Af (by omega) (by omega) (by simp<;>omega),K6,j4,j4];grind
theorem Ca5{R:Type}{b:By->Option R}(v:Int)(f:ltN v 4294967296=true):Dh4 LF v b=b (Ii v.toNat):=by
 obtain⟨a,g⟩:=E5.1 f;obtain⟨m,rfl⟩:=k9 a;have i:=F6 (m / 16777216) (by omega);have h:=F6 (m / 65536 % 256) (by omega);have l:=F6 (m / 256 % 256) (by omega);have k:=F6 (m % 256) (by omega);have c:Om .u32 (m:Int) 24=((m / 16777216:Nat):Int):=Rx .u32 m 24 (by decide);have d:Om .u32 (m:Int) 16=((m / 65536:Nat):Int):=Rx .u32 m 16 (by decide);have e:Om .u32 (m:Int) 8=((m / 256:Nat):Int):=Rx .u32 m 8 (by decide);have t:∀x:Nat,x4 (x:Int) 256=((x % 256:Nat):Int):=λx=>Cl x 256
 have w:∀x:Nat,x<4294967296->A1 (x:Int)=(x:Int):=λx j=>A7
 unfold Dh4;simp only[vl,c,d,e,t];rw[w _ (by omega),w _ (by omega),w _ (by omega),w _ (by omega)];simp only[j4];rw[L7,L7,L7,L7];simp only[cond_true];rw[G0 (by omega),G0 (by simp<;>omega),G0 (by simp<;>omega),G0 (by simp<;>omega),G0 (by simp<;>omega),G0 (by simp<;>omega)];simp only[cond_true,Ii,j4];grind
theorem YR{R:Type}{g:Unit->Option R}{h:By->Option R}(s:By)(q:s.length<=1000000000):∀(r i n v:Nat),i+r=s.length->r<n->Bc LF n s (i:Int) g h=if (F1 10 v (s.drop i)).isSome then h s else g ():=by
 intro r
 induction r with
 | zero=>
  intro i n v k l;obtain⟨n,rfl⟩:∃m,n=m+1:=⟨n-1,by omega⟩
  rw[Bc];rw[A6,o5 (by omega)];rfl
 | succ r o=>
  intro i n v k l;obtain⟨n,rfl⟩:∃m,n=m+1:=⟨n-1,by omega⟩
  rw[Bc,D5 s i (by omega)];rw[D3];have j:=(s.getD i 0).toNat_lt;generalize s.getD i 0=b at *;have f:((i:Int)+1)=((i+1:Nat):Int):=by omega
  simp (disch:=omega) only[B7,K3,cond_true,C8];simp only[F1];rw[f,o (i+1) n (min (v*10+dig b) Co) (by omega) (by omega)];rcases Cz b with⟨a,d,e⟩|⟨a,d,e⟩|⟨a,d,e⟩|⟨a,d,p,e⟩
  ·simp only[if_pos (show dig b<10 by omega)];rw[A6,A6];rfl
  ·simp only[if_neg (show ¬dig b<10 by omega)];rw[A6,A8];rfl
  ·simp only[if_neg (show ¬dig b<10 by omega)];rw[A6,A8];rfl
  ·simp only[if_neg (show ¬dig b<10 by omega)];by_cases c:b.toNat<48
   ·rw[A8];rfl
   ·rw[A6,A8];rfl
theorem YS{R:Type}{a:Bool->Option R}(s:By)(b:A3 s.length=true):GA LF s a=a (!s.isEmpty&&(F1 10 0 s).isSome):=by
 have c:=K7 b;have:=C2;unfold GA;refine j1 (YR s c s.length 0 LF 0 (by omega) (by omega)) ?_;rw[v7];cases d:F1 10 0 s with
 | none=>simp
 | some v=>cases s<;>rfl
theorem B74{R:Type}{g:Int->Option R}(b:Int)(h:inR b 256=true):Cs2 LF b g=g (dig (u8n b):Int):=by
 simp only[inR,w9,decide_eq_true_eq] at h;have j:b=((u8n b).toNat:Int):=by
  unfold u8n;simp;omega
 generalize u8n b=c at *;subst j;have i:=c.toNat_lt;unfold Cs2;simp only[Ya,Xz,vl];rcases Cz c with⟨d,f,e⟩|⟨d,f,e⟩|⟨d,f,e⟩|⟨d,f,o,e⟩
 ·have a:A1 (wu8 ((c.toNat:Int)-48))=((dig c:Nat):Int):=by
   rw[M4,A7];omega
  simp (disch:=omega) only[B7,E4,j6,j7,cond_false,cond_true,a]
 ·have a:A1 (A1 (wu8 ((c.toNat:Int)-97))+10)=((dig c:Nat):Int):=by
   rw[M4,C8 (n:=(c.toNat:Int)-97) (by omega) (by omega),A7];omega
  simp (disch:=omega) only[B7,E4,j6,j7,cond_false,cond_true,a]
 ·have a:A1 (A1 (wu8 ((c.toNat:Int)-65))+10)=((dig c:Nat):Int):=by
   rw[M4,C8 (n:=(c.toNat:Int)-65) (by omega) (by omega),A7];omega
  simp (disch:=omega) only[B7,E4,j6,j7,cond_false,cond_true,a]
 ·rw[e];by_cases k:c.toNat<48
  ·simp (disch:=omega) only[B7,E4,j6,j7,cond_false,cond_true];rfl
  ·by_cases l:c.toNat<65
   ·simp (disch:=omega) only[B7,E4,j6,j7,cond_false,cond_true];rfl
   ·by_cases m:c.toNat<97
    ·simp (disch:=omega) only[B7,E4,j6,j7,cond_false,cond_true];rfl
    ·simp (disch:=omega) only[B7,E4,j6,j7,cond_false,cond_true];rfl
theorem Am6{R:Type}{g:Unit->Option R}{h:Int->Option R}(s:By)(p:s.length<=1000000000):∀(r i a n:Nat),i+r=s.length->r<n->a<=Co->
  Je LF n s (a:Int) (i:Int) g h=match F1 16 a (s.drop i) with|some v=>h (v:Int)|none=>g ():=by
 intro r
 induction r with
 | zero=>
  intro i a n k l j;obtain⟨n,rfl⟩:∃m,n=m+1:=⟨n-1,by omega⟩
  rw[Je];rw[A6,o5 (by omega)];rfl
 | succ r o=>
  intro i a n k l j;obtain⟨n,rfl⟩:∃m,n=m+1:=⟨n-1,by omega⟩
  rw[Je,D5 s i (by omega)];rw[D3,Jm,Aa1];generalize s.getD i 0=b at *;have c:((i:Int)+1)=((i+1:Nat):Int):=by omega
  have f:Co=1099511627776:=rfl;simp (disch:=omega) only[B7,K3,cond_true,vl,C8];simp only[F1];rw[c];by_cases e:dig b<16
  ·have d:A1 (A1 ((a:Int)*16)+(dig b:Int))=((a*16+dig b:Nat):Int):=by
    rw[C8 (n:=(a:Int)*16) (by omega) (by omega),A7];simp
   rw[if_pos e,A8];simp (disch:=omega) only[C8,j6,cond_false] at d ⊢;rw[d,Cx1];exact o (i+1) _ n (by omega) (by omega) (by omega)
  ·rw[if_neg e,A6];rfl
theorem Be7{R:Type}{f:Unit->Option R}{g:Int->Option R}(s:By)(t:s.length<=1000000000)(base:Nat)(q:base<=16):∀(r i a n:Nat),i+r=s.length->r<n->a<=Co->
  Fs LF n s (base:Int) (a:Int) (i:Int) f g=match F1 base a (s.drop i) with|some v=>g (v:Int)|none=>f ():=by
 intro r
 induction r with
 | zero=>
  intro i a n k l j;obtain⟨n,rfl⟩:∃m,n=m+1:=⟨n-1,by omega⟩
  rw[Fs];rw[A6,o5 (by omega)];rfl
 | succ r o=>
  intro i a n k l j;obtain⟨n,rfl⟩:∃m,n=m+1:=⟨n-1,by omega⟩
  rw[Fs,D5 s i (by omega)];rw[D3,Jm,Aa1];generalize s.getD i 0=b at *;have c:((i:Int)+1)=((i+1:Nat):Int):=by omega
  have e:Co=1099511627776:=rfl;simp only[F1,vl];rw[A8,E9,c,C8 (n:=((i+1:Nat):Int)) (by omega) (by omega)];simp only[cond_true];by_cases d:dig b<base
  ·have p:a*base<=1099511627776*16:=af2 (by omega) (by omega);have e0:A1 ((a:Int)*(base:Int))=((a*base:Nat):Int):=by
    rw[<-ae6];exact A7
   have h:A1 (((a*base:Nat):Int)+(dig b:Int))=((a*base+dig b:Nat):Int):=by
    rw[A7];rfl
   rw[if_pos d,A8,e0,h,Cx1];exact o (i+1) _ n (by omega) (by omega) (by omega)
  ·rw[if_neg d,A6];rfl
theorem B87{R:Type}{a:Int->Bool->Option R}(s:By)(p:A3 s.length=true):Cu7 LF s a=a (N1 (An s):Int) (An s).isSome:=by
 have u:=K7 p;have:=C2;have o:∀x:By,x.length<=1000000000->Je LF LF x 0 0 (λ_=>a 0 false) (λn=>a n true)=a (N1 (F1 16 0 x):Int) (F1 16 0 x).isSome:=by
  intro x f;refine j1 (Am6 x f x.length 0 0 LF (by omega) (by omega) (by unfold Co;omega)) ?_;rw[v7];cases F1 16 0 x<;>rfl
 have c:∀(x:By) (b:Nat),b<=16->x.length<=1000000000->Fs LF LF x (b:Int) 0 0 (λ_=>a 0 false) (λn=>a n true)=a (N1 (F1 b 0 x):Int) (F1 b 0 x).isSome:=by
  intro x b q f;refine j1 (Be7 x f b q x.length 0 0 LF (by omega) (by omega) (by unfold Co;omega)) ?_;rw[v7];cases F1 b 0 x<;>rfl
 have d:=λx=>c x 10 (by omega)
 have g:=λx=>c x 8 (by omega)
 have i:=λx=>c x 16 (by omega)
 rw[show((10:Nat):Int)=10 from rfl] at d;rw[show((8:Nat):Int)=8 from rfl] at g;rw[show((16:Nat):Int)=16 from rfl] at i;unfold Cu7 An;by_cases e:s=[]
 ·subst e;rfl
 have j:(s==([]:By))=false:=by simpa using e
 have t:0<s.length:=aa7.2 e;rw[if_neg e,j];simp only[cond_false,GF,GG,Rq,Rs,Rt,vl];have k:=Q8 (s.getD 0 0) 48 (by omega);have l:=Q8 (s.getD 1 0) 120 (by omega);have m:=Q8 (s.getD 1 0) 88 (by omega);rw[show((48:Nat):Int)=48 from rfl] at k;rw[show((120:Nat):Int)=120 from rfl] at l;rw[show((88:Nat):Int)=88 from rfl] at m;simp only[Ai,Bq8,k,l,m,show j9 48=(48:UInt8) from rfl,show j9 120=(120:UInt8) from rfl,show j9 88=(88:UInt8) from rfl];by_cases r:2<=s.length
 ·simp (disch:=omega) only[E4,K3,Af,j7,cond_true,P4,show 1<s.length by omega,true_and];unfold Cc;grind
 ·rw[A8];have f:Cc s=false:=by
   cases h:Cc s with
   | false=>rfl
   | true=>have:=Ri h;omega
  grind
end
end Go.Proofs.YtfkhfkjcidamaaaGreatDoor.E
