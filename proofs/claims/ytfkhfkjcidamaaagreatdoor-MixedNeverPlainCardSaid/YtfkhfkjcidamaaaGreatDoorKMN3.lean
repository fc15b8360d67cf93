/-
  Parts of the proof, merged by a program of the prover's own; no condition.
-/
import Derived.Test.YtfkhfkjcidamaaaGreatDoorKMN2
import Derived.Deep.Draws
import Derived.KernelRfl
import Derived.Laws.RangeString
import Derived.Lib.IndexMore
import Derived.Lib.ItoaNum
import Derived.Lib.Join
import Derived.Lib.LaidTab
import Derived.Lib.LaidU8
import Derived.Lib.LastIndexLaws
import Derived.Lib.RuneCount
import Derived.Lib.TrailingZeros
import Derived.Lib.ValidU
import Derived.Sort.Grow
import Derived.Test.YtfkhfkjcidamaaaGreatDoorProg
open List renaming length->a8,getD->b8,flatten->j0,replicate->j1,isEmpty->j9,getD_eq_getElem?_getD->o0,drop_of_length_le->o5,isPrefixOf->o8,map->p4,getElem?_eq_getElem->p6,drop_zero->v8,all->w8,getD_cons_zero->w9,length_singleton->x5,isPrefixOf_iff_prefix->x7,take->x9,length_append->y7,take_of_length_le->z7,drop_append_of_le_length->aa1,set->aa2,isSuffixOf->aa4,length_map->aa5,length_pos_iff->aa6,count_eq_zero->aa9,cons_append->ab2,getElem_mem->ab3,length_cons->ab4,prefix_iff_eq_take->ab5,suffix_iff_eq_drop->ab6,dropLast_eq_take->ac1,mem_of_mem_drop->ac5,drop->ac7,getD_cons_succ->ac9,mem_cons->ad0,count_cons->ae7,length_nil->ae8,map_append->ae9
open Int renaming toNat->b9,toNat_natCast->j5,eq_ofNat_of_zero_le->o7,tdiv->aa8,natCast_mul->ae6,tmod->ah5
open Eq renaming trans->j2
open Option renaming isSome->j4,isSome_some->p5,getD_some->v7
open Go.Lib renaming decDigits->j6,cut->w6,index->x8,decDigits_one->ab0,decodeL->ac3,join->ac4,occAt->ad4,index_spec->af1
open Bool renaming not_true->j7,not_false->j8,and_eq_true->x3,false_eq_true->aa7,eq_iff_iff->ab9,and_true->af4
open UInt8 renaming ofNat->k9,le_iff_toNat_le->aa0,toNat->ah8
open Go.IntKind renaming wrap->o6,bits->p7,signed->y9
open Nat renaming mod_eq_of_lt->o9,ble->p9,pow_succ->y5,le_refl->aa3,beq->ab1,le_mul_of_pos_right->ab7,le_trans->ab8,min_eq_left->ac0,one_mul->ac6,lt_of_le_of_lt->ad1,lt_of_lt_of_le->ad2,or_lt_two_pow->ad3,pow_pos->ae5,div_le_self->af0,mul_le_mul->af2,add_comm->ah0,blt->ah1,mul_comm->ah2,zero_add->ah3
open BitVec renaming ofInt->x4,ofInt_natCast->ac2
open Option.some renaming injEq->x6
open Go.Fn renaming func->y8
open Go.Proofs.Tryz renaming f128->ac8,f112->ad5,f139->ad6,f153->ad7,f173->ad8,f177->ad9,f209->ae0,f215->ae1,f219->ae2,f250->ae3,f254->ae4,f65->af3,f111->af6,f116->af7,f127->af8,f130->af9,f167->ag0,f172->ag1,f200->ag2,f204->ag3,f205->ag4,f208->ag5,f210->ag6,f233->ag7,f240->ag8,f255->ag9,f76->ah7
open Prod.mk renaming injEq->af5
open BEq renaming comm->ah4
open Go.Fence renaming wide->ah9
namespace Go.Proofs.YtfkhfkjcidamaaaGreatDoor.E
set_option linter.all false
section
open Go
section
variable {Z R : Type} {C : Cfg} {Y : G0} {L : Yh Z} {c a b : Code} {Q : St Z} {k : Out -> St Z -> Option R} {id : Nat}
theorem A0{b:Bool}{x y d e:Option R}(f:x=d)(g:y=e):cond b x y=cond b d e:=by rw[f,g]
end
def Co6{α:Type}(z:α)(f:Nat->α->α):Nat->α
 | 0=>z
 | n+1=>f n (Co6 z f n)
def A2{b:Type}:List (Nat × b)->Nat->Option b
 | [],_=>none
 | (a,l)::r,n=>cond (ab1 n a) (some l) (A2 r n)
def bds(n:Nat):List PV:=j1 n .bad
def tps(n:Nat):List PV:=j1 n (.tup [])
def gp:List (Nat × PV)->Nat->List PV
 | [],n=>bds n
 | (m,v)::r,n=>bds m++v::gp r n
abbrev LL:=List (List SV)
abbrev By:=List UInt8
def A1(n:Int):Int:=o6 .i64 n
def Ds4(n:Int):Int:=o6 .u64 n
def CA(n:Int):Int:=o6 .u32 n
def Nj(n:Int):Int:=o6 .u16 n
def wu8(n:Int):Int:=o6 .u8 n
def Av4(k:IntKind)(a b:Int):Int:=k.wrap (x4 k.bits a &&& x4 k.bits b).toNat
def bOr(k:IntKind)(a b:Int):Int:=k.wrap (x4 k.bits a ||| x4 k.bits b).toNat
def Rn(k:IntKind)(a b:Int):Int:=k.wrap (a*2 ^ min b.toNat k.bits)
def EJ(k:IntKind)(a b:Int):Int:=a.fdiv (2 ^ min b.toNat k.bits)
def inR(n:Int)(m:Nat):Bool:=decide (0<=n)&&decide (n<m)
def Lf:TI:=⟨true,false,[.int .i64]⟩
def Oa:TI:=⟨true,false,[.str]⟩
def okE(t:TI)(l:LL)(i o:Nat):Bool:=decide (i<l.length)&&okS t (l.getD i []) o
def gC(l:LL)(i j:Nat):SV:=(l.getD i []).getD j .nilp
def gE(l:LL)(i j:Nat):Int:=(gC l i j).gI
def gX(l:LL)(i j:Nat):By:=(gC l i j).gS
def bAt(s:By)(n:Int):Int:=((s.getD n.toNat 0).toNat:Int)
def I9(l h:Int)(n:Nat):Bool:=decide (0<=l)&&decide (l<=h)&&decide (h<=n)
def cut{a:Type}(s:List a)(l h:Int):List a:=(s.take h.toNat).drop l.toNat
def Dz8:Code->Bool | .rangeFunc _ _ _ _=>true|_=>false
def rgX:Code->Operand | .rangeFunc x _ _ _=>x|_=>.tmp 0
def rgP:Code->Array Tmp | .rangeFunc _ p _ _=>p|_=>#[]
theorem VK:∀(p:List Nat),cd p .skip = .skip
 | []=>rfl
 | 0::_=>rfl
 | 1::_=>rfl
 | (_+2)::_=>rfl
theorem Gw:∀(p q:List Nat) (c:Code),cd (p++q) c=cd q (cd p c)
 | [],q,c=>rfl
 | i::p,q,c=>by
  rw[ab2]
  match i,c with
  | 0,.seq a b=>exact Gw p q a
  | 1,.seq a b=>exact Gw p q b
  | 0,.cond _ a b=>exact Gw p q a
  | 1,.cond _ a b=>exact Gw p q b
  | 0,.block _ a=>exact Gw p q a
  | 0,.loop a=>exact Gw p q a
  | 0,.scope a=>exact Gw p q a
  | 0,.rangeFunc _ _ a b=>exact Gw p q a
  | 1,.rangeFunc _ _ a b=>exact Gw p q b
  | 0,.skip|0,.region _ _ _|0,.exit _|0,.label _|0,.goto _|0,.ret|0,.refuse _=>exact(VK q).symm
  | 1,.skip|1,.region _ _ _|1,.exit _|1,.scope _|1,.label _|1,.goto _|1,.ret|1,.refuse _|1,.block _ _|1,.loop _=>exact(VK q).symm
  | _+2,.skip|_+2,.region _ _ _|_+2,.exit _|_+2,.scope _|_+2,.label _|_+2,.goto _|_+2,.ret|_+2,.refuse _|_+2,.block _ _|_+2,.loop _|_+2,.seq _ _|_+2,.cond _ _ _|_+2,.rangeFunc _ _ _ _=>exact(VK q).symm
section
variable {Z R : Type} {C : Cfg} {L : G0} {Y : Yh Z} {B : Code} {Q : St Z} {k : Out -> St Z -> Option R}
theorem Dw7(p:List Nat)(h:Dz8 (cd p B)=true):A9 C L Y (cd p B) Q k=Tx C L (opnd C Q.sl (rgX (cd p B))) Q (λa=>Ju (rgP (cd p B)) a (bd C L Y (cd (p++[0]) B)) (bd C L Y (cd (p++[1]) B))) (λa=>Ay (rgP (cd p B)) a (bd C L Y (cd (p++[0]) B)) (bd C L Y (cd (p++[1]) B))) k:=by rw[Gw,Gw];cases b:cd p B<;>rw[b] at h<;>first|rfl|cases h
theorem A42{c:Bool}{x y:Option R}(h:x=y):need c x=cond c y none:=by rw[h];rfl
end
abbrev pS(l:List UInt8):PV:=.s (.str l)
abbrev pB(b:Bool):PV:=.s (.bool b)
abbrev pI(n:Int):PV:=.s (.int .i64 n)
abbrev p8(n:Int):PV:=.s (.int .u8 n)
abbrev p16(n:Int):PV:=.s (.int .u16 n)
abbrev p32(n:Int):PV:=.s (.int .u32 n)
abbrev p64(n:Int):PV:=.s (.int .u64 n)
abbrev vl{a b:Type}(e:a)(f:a->b):b:=f e
theorem A4{a R:Type}{e:a}{f g:a->Option R}(h:∀x,f x=g x):vl e f=vl e g:=h e
def L6(m n:Nat):Bool:=decide (m+n<4611686018427387904)
theorem fx1{A R:Type}{f g:A->R}(b:∀a,f a=g a):f=g:=funext b
theorem fx2{A B R:Type}{f g:A->B->R}(c:∀a b,f a b=g a b):f=g:=funext λa=>fx1 (c a)
theorem fx3{A B C R:Type}{f g:A->B->C->R}(d:∀a b c,f a b c=g a b c):f=g:=funext λa=>fx2 (d a)
theorem fx4{A B C D R:Type}{f g:A->B->C->D->R}(e:∀a b c d,f a b c d=g a b c d):f=g:=funext λa=>fx3 (e a)
theorem fx5{A B C D E R:Type}{f g:A->B->C->D->E->R}(h:∀a b c d e,f a b c d e=g a b c d e):f=g:=funext λa=>fx4 (h a)
theorem fx6{A B C D E H R:Type}{f g:A->B->C->D->E->H->R}(i:∀a b c d e h,f a b c d e h=g a b c d e h):f=g:=funext λa=>fx5 (i a)
theorem fx7{A B C D E H I R:Type}{f g:A->B->C->D->E->H->I->R}(j:∀a b c d e h i,f a b c d e h i=g a b c d e h i):f=g:=funext λa=>fx6 (j a)
theorem fx8{A B C D E H I J R:Type}{f g:A->B->C->D->E->H->I->J->R}(k:∀a b c d e h i j,f a b c d e h i j=g a b c d e h i j):f=g:=funext λa=>fx7 (k a)
theorem fx9{A B C D E H I J K R:Type}{f g:A->B->C->D->E->H->I->J->K->R}(l:∀a b c d e h i j k,f a b c d e h i j k=g a b c d e h i j k):f=g:=funext λa=>fx8 (l a)
theorem C38{A B C D E H I J K L R:Type}{f g:A->B->C->D->E->H->I->J->K->L->R}(m:∀a b c d e h i j k l,f a b c d e h i j k l=g a b c d e h i j k l):f=g:=funext λa=>fx9 (m a)
def Dx8{α a:Type}(z:α)(f:a->List a->α->α):List a->α
 | []=>z
 | x::xs=>f x xs (Dx8 z f xs)
def Rl(n:Nat):PV->PV
 | .s (.sl z t k a)=>if n=0 then .s (.sl z t k a) else if k=n then .s (.sl z t k a) else .s (.sl z t (cond z n k) a)
 | v=>v
def Oy:List Nat->List PV->List PV
 | n::r,v::l=>Rl n v::Oy r l
 | _,l=>l
def Dn9(a:List Nat):PV->PV
 | .agg l=>.agg (Oy a l)
 | v=>Rl (a.headD 0) v
def C0:List (List Nat)->List PV->List PV
 | s::r,v::l=>Dn9 s v::C0 r l
 | _,l=>l
section
variable {L : Ctx} {sh : Nat -> Option Shp} {w : World}
theorem ER{n:Nat}{v:PV}{V:Value}(h:VP L sh w v V):VP L sh w (Rl n v) V:=by
 unfold Rl;split
 ·rename_i z t k a;split
  ·exact h
  ·split
   ·exact h
   ·cases z with
    | false=>exact h
    | true=>
     have b:=h.inv_s;cases b with
     | nil=>exact .s _ _ (.nil _ _)
 ·exact h
theorem Vu:∀(a:List Nat) (l:List PV),(Oy a l).length=l.length
 | [],_=>rfl
 | _::_,[]=>rfl
 | n::r,v::l=>by simp[Oy,Vu r l]
theorem JF:∀(a:List Nat) (l:List PV) (j:Nat) (h:j<l.length) (b:j<(Oy a l).length),∃n,(Oy a l)[j]=Rl n l[j]
 | [],l,j,h,b=>⟨0,by
  have e:Oy [] l=l:=by cases l<;>rfl
  simp only[e];unfold Rl;split
  ·rename_i c;rw[c];simp
  ·rfl⟩
 | n::r,v::l,0,h,b=>⟨n,rfl⟩
 | n::r,v::l,j+1,h,b=>by
  obtain⟨m,e⟩:=JF r l j (by simpa using h) (by simpa[Oy] using b);exact⟨m,by simpa[Oy] using e⟩
theorem C34{b:List Nat}{v:PV}{V:Value}(h:VP L sh w v V):VP L sh w (Dn9 b v) V:=by
 unfold Dn9;split
 ·rename_i l;obtain⟨A,rfl,hA,f⟩:=h.inv_agg;refine VP.mk_agg (by rw[Vu];exact hA) λj c=>?_
  have a:j<l.length:=by rw[Vu] at c;exact c
  obtain⟨U,e,k⟩:=f j a;obtain⟨m,d⟩:=JF b l j a c;exact⟨U,e,by rw[d];exact ER k⟩
 ·exact ER h
theorem Ad5:∀(a:List (List Nat)) (l:List PV),(C0 a l).length=l.length
 | [],_=>rfl
 | _::_,[]=>rfl
 | n::r,v::l=>by simp[C0,Ad5 r l]
theorem C35:∀(a:List (List Nat)) (l:List PV) (V:Array Value),CR L sh w l V->CR L sh w (C0 a l) V:=by
 intro a l V h;refine⟨by rw[Ad5];exact h.1,?_⟩;have key:∀(a:List (List Nat)) (l:List PV) (b:Nat->Option Value),(∀j (h:j<l.length),∃U,b j=some U/\VP L sh w (l[j]) U)->∀j (h:j<(C0 a l).length),∃U,b j=some U/\VP L sh w ((C0 a l)[j]) U:=by
  intro a
  induction a with
  | nil=>intro l b d j c;exact d j (by cases l<;>exact c)
  | cons s r f=>
   intro l b d j c;cases l with
   | nil=>simp[C0] at c
   | cons v l=>
    cases j with
    | zero=>
     obtain⟨U,e,k⟩:=d 0 (by simp);exact⟨U,e,C34 k⟩
    | succ j=>
     have:=f l (λj=>b (j+1)) (λj h=>d (j+1) (by simpa using h)) j (by simpa[C0] using c);simpa[C0] using this
 exact key a l (λj=>V[j]?) h.2
end
theorem B3.fix{P:Program}{G:GT}{g:Nat}{pf:List PV->Tr}(szs:List (List Nat))(h:B3 P G g pf):B3 P G g (λargs=>pf (C0 szs args)):=
 λargs ret Hc hpf C hP hGe Γ w Vs hnm hH hG hc=>h (C0 szs args) ret Hc hpf C hP hGe Γ w Vs hnm hH hG (C35 szs args Vs hc)
theorem J4{v:PV}{H:List Blk}{ret:PV}{a:List Blk}(h:M5 (.ret v H)=some (ret,a)):ret=v/\a=H:=by simp only[M5,Hr,x6,af5] at h;grind
theorem C3{c:Bool}{t:Tr}{ret:PV}{a:List Blk}(h:M5 (.need c t)=some (ret,a)):c=true/\M5 t=some (ret,a):=by
 cases c with
 | true=>exact⟨rfl,h⟩
 | false=>cases h
theorem Ct9{c:Bool}{a b:Tr}{ret:PV}{d:List Blk}(h:M5 (.split c a b)=some (ret,d)):(c=true/\M5 a=some (ret,d))\/(c=false/\M5 b=some (ret,d)):=by
 cases c with
 | true=>exact .inl ⟨rfl,h⟩
 | false=>exact .inr ⟨rfl,h⟩
theorem Dj8:∃n:Nat,100000000000000000000<=n:=⟨_,aa3 _⟩
noncomputable def LF:Nat:=Classical.choose Dj8
theorem C7:100000000000000000000<=LF:=Classical.choose_spec Dj8
attribute [irreducible] LF
theorem Bw6(b:UInt8):Lw (D9 b)=b:=by simp[Lw,D9,SV.gI]
theorem Y4(l:List UInt8):(l.map D9).map Lw=l:=by
 rw[List.map_map];have:Lw ∘ D9=id:=by funext b;exact Bw6 b
 rw[this,List.map_id]
theorem By9(b:UInt8):Nz (D9 b)=true:=by have:=b.toNat_lt;simp only[Nz,D9,x3,decide_eq_true_eq];omega
theorem X7(l:List UInt8):(l.map D9).all Nz=true:=by rw[List.all_map];simp[Function.comp_def,By9]
theorem Ds3(n:Nat):o6 .u8 (n:Int)=((n % 256:Nat):Int):=by simp[o6,p7,y9]
theorem Bt8(n:Nat):o6 .u16 (n:Int)=((n % 65536:Nat):Int):=by simp[o6,p7,y9]
theorem Dg0(n:Nat):o6 .u32 (n:Int)=((n % 4294967296:Nat):Int):=by simp[o6,p7,y9]
theorem Dg1(n:Nat):o6 .u64 (n:Int)=((n % 18446744073709551616:Nat):Int):=by simp[o6,p7,y9]
theorem Df9(n:Int)(a:-9223372036854775808<=n)(b:n<9223372036854775808):o6 .i64 n=n:=by simp[o6,p7,y9];split<;>omega
theorem Ch9(n m:Nat):Int.fdiv (n:Int) (m:Int)=((n / m:Nat):Int):=by rw[Int.fdiv_eq_ediv_of_nonneg _ (by omega)];rfl
theorem N3(n m:Nat):aa8 (n:Int) (m:Int)=((n / m:Nat):Int):=by rw[Int.tdiv_eq_ediv_of_nonneg (by omega)];rfl
theorem Ic(n m:Nat):ah5 (n:Int) (m:Int)=((n % m:Nat):Int):=by rw[Int.tmod_eq_emod_of_nonneg (by omega)];rfl
theorem Dn1(w a b:Nat)(c:a<2 ^ w)(d:b<2 ^ w):(x4 w (a:Int) ||| x4 w (b:Int)).toNat=a ||| b:=by simp[ac2,o9 c,o9 d]
theorem Dl0(w a b:Nat)(c:a<2 ^ w)(d:b<2 ^ w):(x4 w (a:Int) &&& x4 w (b:Int)).toNat=a &&& b:=by simp[ac2,o9 c,o9 d]
theorem Dp4(a b i:Nat)(h:a<2 ^ i):a ||| (b*2 ^ i)=a+b*2 ^ i:=by rw[ah2 b,Nat.or_comm,ah0];exact(Nat.two_pow_add_eq_or_of_lt h b).symm
theorem Bh5(n:Nat):D9 (k9 n)=[SV.int .u8 ((n % 256:Nat):Int)]:=by simp[D9]
end
section
open Go Go.ChangeShapes Go.RowKit Go.Sort Go.WideShapes
theorem Sa{P:Program}{f:Nat}{fn:Func}{d:Array Value}{w:World}{R:Value->World->Prop}(m:P.funcs[f]? = some fn)(j:fn.body.isSome=true)(p:(fn.name == "runtime.NumGoroutine")=false)
  (h:Calls P f d w λe w'=>∃V,e = .returned V/\R V w'):T7 P ((callFunc f d).run P w) R:=by
 obtain⟨c,j⟩:=Option.isSome_iff_exists.1 j;intro q n o a next Q b
 have g:(callFunc f d).run P w = .ok (.enter f d) w:=by
  have k:¬ fn.name = "runtime.NumGoroutine":=by simpa using p
  simp[callFunc,m,j,k,Result.andThen]
 rw[g];simp only[Oper.uponIn_enter];refine⟨λh=>(by simp[H7,ah9] at h),?_⟩;have key:CallsIn ah9 (n-1) P f d w λe w'=>∃V,e = .returned V/\R V w':=callsIn_wide.2 h
 have i:CallsIn (H7 q) (n-1) P f d w λe w'=>∃V,e = .returned V/\R V w':=key
 refine i.mono ?_;rintro e w' ⟨V,rfl,l⟩;exact b V w' l
theorem Cg8{C:Cfg}{d:Ctx}{w w':World}{ret:PV}{V:Value}(a:∀b,d.nm b=none)(f:HR d [] w)(c:Below w.heap.size w w')(j:VP d (A5 []) w' ret V)(i:ret.nms=[]):Ef C I0 d [] w noΦ ret [] () V w':=by
 refine⟨d,noΦ,⟨c.os,c.tape,c.output,c.size,λ_ h=>h,λ_ h=>.inl h,λb g h=>(by rw[a] at h;cases h),λ_ h=>h.elim,λg e _ _=>c.block g e,rfl,aa3 _,λb h=>(by simp at h)⟩,
  ⟨λb k g h=>(by rw[a] at h;cases h),λb g h=>(by rw[a] at h;cases h),λg e=>ad2 (f.stlt g e) c.size,λb h=>(by simp at h),λb h=>(by simp at h)⟩,j,by rw[i];simp,λ_ h=>h,λb g h=>(by rw[a] at h;cases h)⟩
theorem Oq(w:World)(n:Nat):Below w.heap.size w (w.drewN n):=⟨rfl,rfl,rfl,aa3 _,λ_ _=>rfl⟩
theorem IE(w:World)(os:Array Obj):Below w.heap.size w (grow w os):=by refine⟨rfl,rfl,rfl,by simp[grow],λk a=>?_⟩;simp only[grow];grind
theorem Av6(w:World)(s:ByteArray)(pos:Nat):Below w.heap.size w (w.iter s pos):=(Below.refl _ w).alloc (aa3 _) _
section
variable {Γ : Ctx} {sh : Nat -> Option Shp} {w : World}
theorem CR.arr1{a:PV}{A:Array Value}(h:CR Γ sh w [a] A):∃U,A = #[U]/\VP Γ sh w a U:=by obtain⟨U,e,k⟩:=h.2 0 (by simp);refine⟨U,?_,k⟩;have hs:A.size=1:=h.1;grind
theorem CR.arr2{a b:PV}{A:Array Value}(h:CR Γ sh w [a,b] A):∃U V,A = #[U,V]/\VP Γ sh w a U/\VP Γ sh w b V:=by obtain⟨U,e,k⟩:=h.2 0 (by simp);obtain⟨V,e',k'⟩:=h.2 1 (by simp);refine⟨U,V,?_,k,k'⟩;have hs:A.size=2:=h.1;grind
theorem CR.arr3{a b c:PV}{A:Array Value}(h:CR Γ sh w [a,b,c] A):∃U V W,A = #[U,V,W]/\VP Γ sh w a U/\VP Γ sh w b V/\VP Γ sh w c W:=by obtain⟨U,e,k⟩:=h.2 0 (by simp);obtain⟨V,e',k'⟩:=h.2 1 (by simp);obtain⟨W,e'',k''⟩:=h.2 2 (by simp);refine⟨U,V,W,?_,k,k',k''⟩;have hs:A.size=3:=h.1;grind
theorem VP.mk_str(l:List UInt8):VP Γ sh w (.s (.str l)) (.string ⟨l.toArray⟩):=by have:=VP.s (Γ:=Γ) (sh:=sh) (w:=w) _ _ (VS.str (St:=Γ.St) (w:=w) ⟨l.toArray⟩);omega
theorem VP.mk_int(k:IntKind)(n:Int):VP Γ sh w (.s (.int k n)) (.int k n):=.s _ _ (.int k n)
theorem VP.mk_bool(b:Bool):VP Γ sh w (.s (.bool b)) (.bool b):=.s _ _ (.bool b)
theorem VP.mk_tup3{a b c:PV}{U V W:Value}(h:VP Γ sh w a U)(k:VP Γ sh w b V)(l:VP Γ sh w c W):VP Γ sh w (.tup [a,b,c]) (.tuple #[U,V,W]):=
 VP.mk_tup rfl λj hj=>by grind
end
theorem I7{P:Program}{G:GT}{g:Nat}{fn:Func}{k:List PV->Tr}(q:P.funcs[g]? = some fn)(d:fn.body.isSome=true)(t:(fn.name == "runtime.NumGoroutine")=false)
  (h:∀args ret b,M5 (k args)=some (ret,b)->b=[]/\ret.nms=[]/\∀C:Cfg,C.P=P->C.G=G->∀a w c,GOK C a.St w->(∀g,a.St g->g<w.heap.size)->CR a (A5 []) w args c->
   Calls P g c w λe w'=>∃V,e = .returned V/\Below w.heap.size w w'/\VP a (A5 []) w' ret V):B3 P G g k:=by
 intro args ret b i C n m a w c f j r o;obtain⟨rfl,u,l⟩:=h args ret b i;exact Sa q d t ((l C n m a w c r j.stlt o).mono λe w' ⟨V,p,d,v⟩=>⟨V,p,Cg8 f j d v u⟩)
def PV.stab(szs:List Nat)(H:List Blk):PV->PV
 | .tup l=>.tup (Oy szs (M6 H l))
 | v=>Rl (szs.headD 0) (v.snap H)
theorem VP.stab{Γ:Ctx}{H:List Blk}{w:World}(szs:List Nat)(hH:HR Γ H w){v:PV}{V:Value}(h:VP Γ (A5 H) w v V):VP Γ.all (A5 H) w (v.stab szs H) V:=by
 by_cases ht:∃l,v = .tup l
 ·obtain⟨l,rfl⟩:=ht;obtain⟨A,rfl,hA,hc⟩:=h.inv_tup;simp only[PV.stab];have hl:(Oy szs (M6 H l)).length=l.length:=by rw[Vu,Hy,aa5]
  refine VP.mk_tup (by rw[hl];exact hA) λj hj=>?_
  obtain⟨U,e,k⟩:=hc j (by omega);refine⟨U,e,?_⟩;have hj':j<(M6 H l).length:=by rw[Hy,aa5];omega
  obtain⟨n,en⟩:=JF szs (M6 H l) j hj' hj;rw[en];have e2:(M6 H l)[j]=(l[j]'(by omega)).snap H:=by
   simp only[Hy,List.getElem_map]
  rw[e2];exact ER (k.snap hH)
 ·have e:v.stab szs H=Rl (szs.headD 0) (v.snap H):=by
   cases v with
   | tup l=>exact absurd ⟨l,rfl⟩ ht
   | _=>rfl
  rw[e];exact ER (h.snap hH)
theorem J0(n:List Nat){C₀:Cfg}{g:Nat}{pf:List PV->Tr}(M:XOK C₀)(K:Ob C₀)(P:C₀.P.follows .mixedOrders=true)
  (h:∀args ret p,M5 (pf args)=some (ret,p)->C6 args=[]/\p=[]/\ret.nms=[]/\∃d c k,evC C₀ d Unit noY g args [] ()=some (c,k,())/\c.stab n k=ret):B3 C₀.P C₀.G g pf:=by
 intro args ret p A C L t Γ w F z J I N;obtain⟨y,rfl,m,d,c,k,u,rfl⟩:=h args ret p A;have G:=Qe (C₀:=C₀) (g:=g) (pf:=λa=>match evC C₀ d Unit noY g a [] () with|some (r,H,_)=>cond (C6 a).isEmpty (.ret r H) .fail|none=>.fail) M K P (λa r H j=>by
  split at j
  ·rename_i S H' _ R;cases D:(C6 a).isEmpty with
   | true=>
    rw[D] at j;simp only[cond_true,M5,Hr,x6,af5] at j;grind
   | false=>rw[D] at j;cases j
  ·cases j)
 refine(G args c k (by dsimp only;rw[u];dsimp only;rw[y];rfl) C L t Γ w F z J I N).mono ?_;rintro V w' ⟨o,B,e,i,Q,hvn,v,O⟩;let Γ2:Ctx:={ o.all with nm:=λ_=>none }
 have x:∀g,Γ2.St g->g<w'.heap.size:=λg f=>by
  rcases f with f|⟨b,l⟩
  ·exact i.stlt g f
  ·exact(i.lt b g l).2.1
 refine⟨Γ2,B,⟨e.os,e.tape,e.output,e.size,λg f=>.inl (e.sub g f),λg f=>?_,λb g h=>by simp[Γ2] at h,e.foot,e.frame,e.yv,aa3 _,λb l=>by simp at l⟩,
  Lo (λ_=>rfl) x,?_,by rw[m];simp,v,λb g h=>by simp[Γ2] at h⟩
 ·rcases f with f|⟨b,l⟩
  ·exact e.stnew g f
  ·rcases e.own b g l with⟨q,_⟩|q
   ·simp at q
   ·exact .inr q
 ·exact VP.mono (Γ:=o.all) (Γ':=Γ2) (w:=w') (w':=w') (sh:=A5 k) (ok:=λ_=>False) ⟨λ_ _=>rfl,λ_ h=>h,λ_ h=>h.elim,λ_ h=>h.elim,λ_ _ h=>h.elim,rfl⟩ (Q.stab n i) (by rw[m];simp)
def Tr.Good(szs:List Nat)(args:List PV)(e:Option (PV × List Blk × Unit)):Tr->Prop
 | .ret v H=>C6 args=[]/\H=[]/\v.nms=[]/\∃r H0,e=some (r,H0,())/\r.stab szs H0=v
 | .need c t=>c=true->Good szs args e t
 | .split c a b=>(c=true->Good szs args e a)/\(c=false->Good szs args e b)
 | .fail=>True
theorem Tr.Good.res{szs:List Nat}{args:List PV}{e:Option (PV × List Blk × Unit)}{ret:PV}{Hc:List Blk}:∀{t:Tr},t.Good szs args e->M5 t=some (ret,Hc)->C6 args=[]/\Hc=[]/\ret.nms=[]/\∃r H0,e=some (r,H0,())/\r.stab szs H0=ret
 | .ret v H,h,hr=>by
  obtain⟨rfl,rfl⟩:=J4 hr;exact h
 | .need c t,h,hr=>by
  obtain⟨h0,hr⟩:=C3 hr;exact res (h h0) hr
 | .split c a b,h,hr=>by
  rcases Ct9 hr with⟨h0,hr⟩|⟨h0,hr⟩
  ·exact res (h.1 h0) hr
  ·exact res (h.2 h0) hr
theorem xf(b:List Nat)(a:Cfg){g:Nat}(d:List PV->Tr){e:List (List Nat)}{l:List (Nat × (List PV->Tr))}{c:List Nat}(m:a.X=Aq1 l)(q:M8 a.P a.G l)(o:a.okf=okL c)(k:A46 a c=true)(n:a.P.follows .mixedOrders=true)
  (h:∀args,(d args).Good b args (evC a 1 Unit noY g args [] ())) (i:a.Y=BW []:=by rfl) (j:a.S=BW []:=by rfl):B3 a.P a.G g (λargs=>d (C0 e args)):=
 B3.fix e (J0 b (M8.ok m q i j) (I6 o k) n λargs ret y p=>by
  obtain⟨t,u,v,r,f,w,x⟩:=(h args).res p;exact⟨t,u,v,1,r,f,w,x⟩)
end
section
open Go
def A17(n:Nat)(ret:PV)(H:List Blk):Bool:=ret.nms.all (ah1 · n)&&H.all λb=>b.nms.all (ah1 · n)
theorem Ef.head{C:Cfg}{Z:Type}{I:Z->(Nat->Prop)->(Nat->Prop)->World->Prop}{Γ:Ctx}{H Hc T:List Blk}{w w':World}{Φ:Nat->Prop}{s':Z}{ret:PV}{V:Value}
  (h:Ef C I Γ H w Φ ret (Hc++T) s' V w') (hl:H.length<=Hc.length) (hok:A17 Hc.length ret Hc=true):Ef C I Γ H w Φ ret Hc s' V w':=by
 obtain⟨Γ1,Φ1,hs,hH1,hv,hvn,hi1,hd1⟩:=h;simp only[A17,x3,List.all_eq_true,Nat.blt_eq] at hok;let Γ2:Ctx:={ Γ1 with nm:=λb=>if b<Hc.length then Γ1.nm b else none }
 have hnm:∀b g,Γ2.nm b=some g->b<Hc.length/\Γ1.nm b=some g:=λb g h=>by grind
 have get:∀b (h:b<Hc.length) (h':b<(Hc++T).length),(Hc++T)[b]=Hc[b]:=λb h h'=>List.getElem_append_left h
 have shp:∀b,b<Hc.length->A5 Hc b=A5 (Hc++T) b:=λb hb=>by
  simp only[A5];grind
 have M:An Γ1 (A5 (Hc++T)) w' Γ2 (A5 Hc) w' (· < Hc.length):=⟨λ_ _=>rfl,λ_ h=>h,λb hb=>by simp only[Γ2];rw[if_pos hb],λb hb=>shp b hb,λ_ _ _ _=>rfl,rfl⟩
 refine⟨Γ2,Φ1,⟨hs.os,hs.tape,hs.output,hs.size,hs.sub,hs.stnew,λb g h=>hs.own b g (hnm b g h).2,hs.foot,hs.frame,hs.yv,hl,λb hb hf=>?_⟩,
  ⟨λb b' g h1 h2=>hH1.inj b b' g (hnm b g h1).2 (hnm b' g h2).2,λb g h=>by have:=hH1.lt b g (hnm b g h).2;exact⟨(hnm b g h).1,this.2⟩,hH1.stlt,λb hb c hc=>hok.2 _ (ab3 hb) c hc,λb hb=>?_⟩,
  hv.mono M (λb hb=>hok.1 b hb),λc hc=>hok.1 c hc,hi1,λb g h=>hd1 b g (hnm b g h).2⟩
 ·obtain⟨m1,m2,m3⟩:=hs.keep b hb hf;have hb2:b<Hc.length:=ad2 hb hl;exact⟨by simp only[Γ2];rw[if_pos hb2];exact m1,by rw[shp b hb2];exact m2,m3⟩
 ·have hb':b<(Hc++T).length:=by rw[y7];omega
  have:=hH1.blk b hb';rw[get b hb hb'] at this;exact this.mono M (M.nm b hb) (λ_ _=>rfl) (λc hc=>hok.2 _ (ab3 hb) c hc)
theorem Ga{C₀:Cfg}{g:Nat}{m:List PV->List Blk->Tr}(v:XOK C₀)(t:Ob C₀)(D:C₀.P.follows .mixedOrders=true)
  (h:∀args H ret a,M5 (m args H)=some (ret,a)->p9 H.length a.length=true/\A17 a.length ret a=true/\∀(Z:Type) (e:Yh Z) (s:Z),∃d b,evC C₀ d Z e g args H s=some (ret,b,s)/\b.take a.length=a):CD C₀.P C₀.G g m:=by
 intro C u p Z I e R r L args H s ret a i S T w n j q z A y x F;obtain⟨B,f,o⟩:=h args H ret a i;obtain⟨d,b,c,K⟩:=o Z e s;rw[<-List.take_append_drop a.length b,K] at c;refine(Kl v t D d Z I e R r L g args H s ret (a++b.drop a.length) s c S T w n j q (z.congr p.symm) A y x F).mono ?_;rintro V w' G;obtain⟨k,l,J,M,N,O,P,Q⟩:=G.head (Nat.le_of_ble_eq_true B) f;exact⟨k,l,J.congr u.symm,M,N,O,P,Q⟩
def Gq:List Int:=(List.range 32).map λi=>((if i % 2=0 then Lib.accLo (i / 2) else Lib.accHi (i / 2):Nat):Int)
def GX:GT:=⟨λg=>cond (ab1 g 1) (some (.u8,Lib.firstTab)) (cond (ab1 g 2) (some (.u8,Gq)) (cond (ab1 g 3) (some (.u64,Lib.pow10Tab)) (cond (ab1 g 5) (some (.u8,Lib.deBruijn64tab.map λn:Nat=>(n:Int))) none))),λg=>ab1 g 0⟩
def Dx5:List (Nat × Nat × Nat × Nat)->Nat->Nat->Nat × Nat
 | [],_,_=>(0,0)
 | (t,j,e,k)::r,b,a=>cond (ab1 t b&&ab1 j a) (e,k) (Dx5 r b a)
def Dl4:List (Nat × Nat)->Nat->Option Nat
 | [],_=>none
 | (a,b)::r,i=>cond (ab1 a i) (some b) (Dl4 r i)
noncomputable def B7(g:Nat)(f:List Nat)(d:Nat->Option (List Nat))(X:List (Nat × (List PV->Tr)))(b:Nat->Option (List Nat):=λ_=>none)(h:List Nat:=[])(a:Nat->Option (List Nat):=λ_=>none)(c:Option (List Nat):=none)(Y:List (Nat × (List PV->List Blk->Tr)):=[])(S:List (Nat × (List PV->List Blk->Option (Bool × List (List PV)))):=[])(e:List Nat:=[])(nt:List (Nat × Nat × Nat × Nat):=[])(rw:List (Nat × Nat):=[]):Cfg:=
 { P:=Tryz.prog,G:=GX,X:=Aq1 X,lend:=okL e,okf:=okL f,lf:=g,keep:=d,keepR:=b,xp:=okL h,keepE:=a,keepT:=c,Y:=BW Y,S:=BW S,nilT:=Dx5 nt,rowR:=Dl4 rw }
theorem follows:Tryz.prog.follows .mixedOrders=true:=by kernel_rfl
theorem B50{n:Nat}:F9 n=true↔n<=68719476736:=by simp[F9]
theorem F4{n:Nat}(h:n<=68719476736):F9 n=true:=B50.2 h
theorem B8{a b:Int}(h:a<b):ltI a b=true:=by rw[Tq];simpa using h
theorem E2{a b:Int}(h:b<=a):ltI a b=false:=by rw[Tq];simpa using h
theorem Mh{a b:Int}:ltI a b=true↔a<b:=by rw[Tq];simp
theorem Pj{a b:Int}:ltI a b=false↔b<=a:=by rw[Tq];simp
theorem C9{n:Int}(a:-9223372036854775808<=n)(b:n<9223372036854775808):A1 n=n:=Df9 n a b
theorem ZC{n:Int}(a:0<=n)(b:n<18446744073709551616):Ds4 n=n:=by obtain⟨m,rfl⟩:=o7 a;unfold Ds4;rw[Dg1,o9 (by omega)]
theorem Bu0{n:Int}(a:0<=n)(b:n<4294967296):CA n=n:=by obtain⟨m,rfl⟩:=o7 a;unfold CA;rw[Dg0,o9 (by omega)]
theorem Bt9{n:Int}(a:0<=n)(b:n<65536):Nj n=n:=by obtain⟨m,rfl⟩:=o7 a;unfold Nj;rw[Bt8,o9 (by omega)]
theorem ZD{n:Int}(a:0<=n)(b:n<256):wu8 n=n:=by obtain⟨m,rfl⟩:=o7 a;unfold wu8;rw[Ds3,o9 (by omega)]
theorem A8{a b:Int}(h:a<b:=by omega):ltI a b=true:=B8 h
theorem A6{a b:Int}(h:b<=a:=by omega):ltI a b=false:=E2 h
theorem A7{n:Int}(h:-9223372036854775808<=n:=by omega)(g:n<9223372036854775808:=by omega):A1 n=n:=C9 h g
theorem Nk{n:Int}(h:0<=n:=by omega)(g:n<4294967296:=by omega):CA n=n:=Bu0 h g
theorem Qc{n:Int}(h:0<=n:=by omega)(g:n<65536:=by omega):Nj n=n:=Bt9 h g
theorem M7{n:Int}(h:0<=n:=by omega)(g:n<256:=by omega):wu8 n=n:=ZD h g
theorem Q5{d:Sort _}{c:Prop}[Decidable c]{a b:d}(h:c:=by omega):(if c then a else b)=a:=if_pos h
theorem F7{d:Sort _}{c:Prop}[Decidable c]{a b:d}(h:¬c:=by omega):(if c then a else b)=b:=if_neg h
theorem Ar3(n:Nat):Nj (n:Int)=((n % 65536:Nat):Int):=Bt8 n
theorem YC(k:IntKind)(a m:Nat)(h:m<=k.bits):EJ k (a:Int) (m:Int)=((a / 2 ^ m:Nat):Int):=by
 unfold EJ;rw[j5,ac0 h];have:(2:Int) ^ m=((2 ^ m:Nat):Int):=by simp
 rw[this,Ch9]
theorem Cu6{n:Nat}(h:n<256):[SV.int .u8 (n:Int)]=D9 (k9 n):=by rw[Bh5,o9 h]
theorem Am{l h:Int}{n:Nat}(a:0<=l)(b:l<=h)(c:h<=n):I9 l h n=true:=by simp[I9,a,b,c]
theorem M0{i:Int}{n:Nat}(a:0<=i)(b:i<n):inR i n=true:=by simp[inR,a,b]
theorem I4{l h:Int}{n:Nat}(a:0<=l:=by omega)(b:l<=h:=by omega)(c:h<=n:=by omega):I9 l h n=true:=Am a b c
theorem E9{i:Int}{n:Nat}(a:0<=i:=by omega)(b:i<n:=by omega):inR i n=true:=M0 a b
end
section
open Go Go.Proofs
def FJ(r:Option (PV × List Blk × Unit)):Bool:=match r with
 | some (.s (.bool true),_,_)=>true
 | _=>false
theorem XQ{r:Option (PV × List Blk × Unit)}(h:FJ r=true):∃H,r=some (.s (.bool true),H,()):=by
 unfold FJ at h;split at h
 ·exact⟨_,rfl⟩
 ·cases h
theorem Bj8{C₀:Cfg}{g d:Nat}(f:XOK C₀)(c:Ob C₀)(i:C₀.P.follows .mixedOrders=true)(h:FJ (evC C₀ d Unit noY g [] [] ())=true):B3 C₀.P C₀.G g (λargs=>match args with|[]=>.ret (.s (.bool true)) []|_=>.fail):=
 ZH f c i λargs ret j b=>by
  cases args with
  | nil=>
   obtain⟨rfl,rfl⟩:=J4 b;obtain⟨H,e⟩:=XQ h;exact⟨rfl,rfl,rfl,d,_,H,e,rfl⟩
  | cons a r=>cases b
theorem UE{P:Program}{t:Nat}{v:PV}{f:Ty}(h:Rp P t v)(e:Ev P 20 t=some [f])(i:Nn P t=false):∃x,v = .s x/\f.of x:=by
 obtain⟨j,l,b,c,a⟩:=h;rw[e] at b;simp only[x6] at b;subst b;rcases a with⟨a,_⟩|⟨_,x,rfl,rfl⟩
 ·rw[i] at a;cases a
 ·simp only[Ty.ofL] at c;obtain⟨v,q,d,g,rfl⟩:=c;simp only[List.cons.injEq,and_true] at d;subst d;exact⟨_,rfl,g⟩
theorem C09{P:Program}{t:Nat}{v:PV}{k:IntKind}(h:Rp P t v)(e:Ev P 20 t=some [.int k])(c:Nn P t=false):∃n,v = .s (.int k n)/\k.min<=n/\n<=k.max:=by obtain⟨x,rfl,n,rfl,a,b⟩:=UE h e c;exact⟨n,rfl,a,b⟩
theorem C10{P:Program}{t:Nat}{v:PV}(h:Rp P t v)(e:Ev P 20 t=some [.str])(b:Nn P t=false):∃l,v = .s (.str l)/\l.length<=maxLen:=by obtain⟨x,rfl,l,rfl,a⟩:=UE h e b;exact⟨l,rfl,a⟩
theorem Ce6{P:Program}{t:Nat}{v:PV}(h:Rp P t v)(e:Ev P 20 t=some [.bool])(a:Nn P t=false):∃b,v = .s (.bool b):=by obtain⟨x,rfl,b,rfl⟩:=UE h e a;exact⟨b,rfl⟩
end
section
open Go
def D2(l:List By):LL:=l.map λs=>[SV.str s]
def D8(l:List Nat):LL:=l.map λn=>[SV.int .u16 (Int.ofNat n)]
def M4(c:UInt8):By->By->List By
 | a,[]=>[a]
 | a,b::r=>if b=c then a::M4 c [] r else M4 c (a++[b]) r
def pcs(c:UInt8)(s:By):List By:=M4 c [] s
theorem Jg(c:UInt8):∀(s a:By),(M4 c a s).length=s.count c+1
 | [],a=>rfl
 | b::r,a=>by
  simp only[M4,ae7];by_cases h:b=c
  ·simp[h,Jg c r]
  ·simp[h,Jg c r]
theorem Xz(c:UInt8):∀(s a:By),c∉s->M4 c a s=[a++s]
 | [],a,_=>by simp[M4]
 | b::r,a,h=>by
  simp only[ad0,not_or] at h;simp only[M4];rw[if_neg (λe=>h.1 e.symm),Xz c r _ h.2];simp
theorem DW(c:UInt8):∀(p a s:By),c∉p->M4 c a (p++c::s)=(a++p)::M4 c [] s
 | [],a,s,_=>by simp[M4]
 | b::r,a,s,h=>by
  simp only[ad0,not_or] at h;simp only[ab2,M4];rw[if_neg (λe=>h.1 e.symm),DW c r _ s h.2];simp
theorem Bg2(c:UInt8)(s a:By):M4 c a s≠[]:=by intro h;have:=Jg c s a;rw[h] at this;simp at this
theorem Pu(c:UInt8):∀(s a:By),c∉a->∀x∈M4 c a s,c∉x/\x.length<=a.length+s.length
 | [],a,h,x,d=>by
  simp only[M4,List.mem_singleton] at d;subst d;exact⟨h,by simp⟩
 | b::r,a,h,x,d=>by
  simp only[M4] at d;split at d
  ·rcases ad0.1 d with rfl|d
   ·exact⟨h,by simp⟩
   ·have:=Pu c r [] (by simp) x d;refine⟨this.1,?_⟩;have:=this.2;simp at this ⊢;omega
  ·rename_i e;have:=Pu c r (a++[b]) (by simp[h,Ne.symm e]) x d;refine⟨this.1,?_⟩;have:=this.2;simp at this ⊢;omega
def X4(b:UInt8):UInt8:=if 65<=b/\b<=90 then b+32 else b
def B5(s:By):By:=s.map X4
def dig(b:UInt8):Nat:=
 if 48<=b.toNat/\b.toNat<=57 then b.toNat-48 else if 97<=b.toNat/\b.toNat<=102 then b.toNat-87 else if 65<=b.toNat/\b.toNat<=70 then b.toNat-55 else 99
def W5:Nat:=1099511627776
def E8(base:Nat):Nat->By->Option Nat
 | n,[]=>some n
 | n,b::r=>if dig b<base then E8 base (min (n*base+dig b) W5) r else none
def Y2(s:By):Bool:=s.getD 0 0==48&&(s.getD 1 0==120||s.getD 1 0==88)
def Z5(s:By):Option Nat:=
 if s=[] then none else if Y2 s then E8 16 0 (s.drop 2) else if 1<s.length/\s.getD 0 0=48 then E8 8 0 (s.drop 1) else E8 10 0 s
def C5(s:By):List By:=if 1<(pcs 46 s).length/\(pcs 46 s).getLastD []=[] then (pcs 46 s).dropLast else pcs 46 s
def Cv(s:By):By:=(C5 s).getLastD []
def E7(s:By):Bool:=if Y2 (Cv s) then (E8 16 0 ((Cv s).drop 2)).isSome else !(Cv s).isEmpty&&(E8 10 0 (Cv s)).isSome
def Tv(free:Nat):Nat->List By->Option Nat
 | _,[]=>none
 | v,p::r=>match Z5 p with
  | none=>none
  | some n=>match r with
   | []=>if n<2 ^ free then some (v*2 ^ free+n) else none
   | r=>if n<=255 then Tv free (v*256+n) r else none
def pnB(s:By):Option Nat:=if 4<(C5 s).length then none else Tv (8*(5-(C5 s).length)) 0 (C5 s)
def oct(s:By):Option Nat:=match E8 10 0 s with
 | some n=>if n<=255/\j6 n=s then some n else none
 | none=>none
def KN:Nat->List By->Option Nat
 | v,[]=>some v
 | v,p::r=>match oct p with
  | some n=>KN (v*256+n) r
  | none=>none
def v4B(s:By):Option Nat:=if (pcs 46 s).length=4 then KN 0 (pcs 46 s) else none
def Ad(v:Nat):By:=j6 (v / 16777216)++46::(j6 (v / 65536 % 256)++46::(j6 (v / 256 % 256)++46::j6 (v % 256)))
def Ab:Nat->By->Option Nat
 | n,[]=>some n
 | n,b::r=>if dig b<16 then Ab (n*16+dig b) r else none
def grp(s:By):Option Nat:=if s=[]\/4<s.length then none else Ab 0 s
def Cs(last:Bool):List By->Option (List Nat)
 | []=>some []
 | x::r=>match grp x with
  | some v=>(Cs last r).map (v::·)
  | none=>match v4B x with
   | some v=>if last=true/\r=[] then some [v / 65536,v % 65536] else none
   | none=>none
def P2(s:By)(last:Bool):Option (List Nat):=if s=[] then some [] else Cs last (pcs 58 s)
def v6B(s:By):Option (List Nat):=
 match P2 (w6 s [58,58]).1 (!(w6 s [58,58]).2.2),P2 (w6 s [58,58]).2.1 true with
 | some x,some y=>if (w6 s [58,58]).2.2 then (if x.length+y.length<=7 then some (x++j1 (8-x.length-y.length) 0++y) else none)
   else if x.length+y.length=8 then some (x++y) else none
 | _,_=>none
def Uc(l:List Nat):Nat:=(l.takeWhile (· == 0)).length
def zGo:List Nat->Nat->Nat->Nat->Nat × Nat
 | [],_,z,m=>(z,m)
 | x::r,i,z,m=>if m<Uc (x::r) then zGo r (i+1) i (Uc (x::r)) else zGo r (i+1) z m
def Nx(n:Nat):UInt8:=if n<10 then k9 (48+n) else k9 (87+n)
def V5(v:Nat):By:=if h:v<16 then [Nx v] else V5 (v / 16)++[Nx (v % 16)]
 termination_by v
 decreasing_by omega
def O4(l:List Nat):By:=ac4 (l.map V5) [58]
def Cx(a:List Nat):By:=if (zGo a 0 0 0).2<2 then O4 a else O4 (a.take (zGo a 0 0 0).1)++58::58::O4 (a.drop ((zGo a 0 0 0).1+(zGo a 0 0 0).2))
def V8(n:Nat):Bool:=p9 n 1114111&&(ah1 n 55296||ah1 57343 n)
def Zm(d k:Nat):Nat:=if h:455<d then Zm (d / 35) (k+36) else k+36*d / (d+38)
 termination_by d
 decreasing_by omega
def Q9(delta count:Nat)(first:Bool):Nat:=
 let d:=if first then delta / 700 else delta / 2
 Zm (d+d / count) 0
def thr(k a:Nat):Nat:=max 1 (min 26 (36*(k+1)-a))
theorem W8(k a:Nat):1<=thr k a/\thr k a<=26:=by unfold thr;omega
def Aq(d:Nat):UInt8:=if d<26 then k9 (97+d) else k9 (22+d)
def Nw(b:UInt8):Option Nat:=
 if 97<=b.toNat/\b.toNat<=122 then some (b.toNat-97) else if 65<=b.toNat/\b.toNat<=90 then some (b.toNat-65) else if 48<=b.toNat/\b.toNat<=57 then some (b.toNat-22) else none
def Q0(q k a:Nat):By:=
 if h:q<thr k a then [Aq q] else Aq (thr k a+(q-thr k a) % (36-thr k a))::Q0 ((q-thr k a) / (36-thr k a)) (k+1) a
 termination_by q
 decreasing_by
  have:=W8 k a;exact ad1 (af0 _ _) (by omega)
structure QZ where
 delta:Nat
 bias:Nat
 done:Nat
 out:By
def H8(n a:Nat):List Nat->QZ->QZ
 | [],s=>s
 | p::r,s=>if p<n then H8 n a r { s with delta:=s.delta+1 }
  else if p=n then H8 n a r { delta:=0,bias:=Q9 s.delta (s.done+1) (s.done==a),done:=s.done+1,out:=s.out++Q0 s.delta 0 s.bias }
  else H8 n a r s
def H5(n:Nat):List Nat->Nat->Nat
 | [],m=>m
 | p::r,m=>H5 n r (if n<=p then min m p else m)
def R9(b:List Nat)(a:Nat):Nat->Nat->QZ->QZ
 | 0,_,s=>s
 | f+1,n,s=>if s.done<b.length then
   let m:=H5 n b 1114112;let c:=H8 m a b { s with delta:=s.delta+(m-n)*(s.done+1) }
   R9 b a f (m+1) { c with delta:=c.delta+1 }
  else s
def I5(a:List Nat):By:=(a.filter (· < 128)).map k9
def Dg(a:List Nat):By × Nat:=
 if 256<a.length then ([],3) else if !(a.all V8) then ([],2)
 else ((R9 a (I5 a).length 256 128 { delta:=0,bias:=72,done:=(I5 a).length,out:=if (I5 a).isEmpty then [] else I5 a++[45] }).out,0)
def D7(a:Nat):By->Nat->Nat->Nat->Nat × By × Nat
 | [],i,w,k=>(0,[],4)
 | b::r,i,w,k=>match Nw b with
  | none=>(0,[],4)
  | some x=>if W5<i+x*w then (0,[],19) else if x<thr k a then (i+x*w,r,0)
   else if W5<w*(36-thr k a) then (0,[],19) else D7 a r (i+x*w) (w*(36-thr k a)) (k+1)
theorem Qq(a:Nat):∀(s:By) (i w k:Nat),(D7 a s i w k).2.2=0->(D7 a s i w k).2.1.length<s.length
 | [],i,w,k,h=>by simp[D7] at h
 | b::r,i,w,k,h=>by
  unfold D7 at h ⊢;cases d:Nw b with
  | none=>simp[d] at h
  | some x=>
   simp only[d] at h ⊢;split at h
   ·simp at h
   ·rename_i e;rw[if_neg e];split at h
    ·rename_i c;rw[if_pos c];simp
    ·rename_i c;rw[if_neg c];split at h
     ·simp at h
     ·rename_i f;rw[if_neg f];have:=Qq a r _ _ _ h;simp only[ab4];omega
def V7(l:List Nat)(i n:Nat):List Nat:=l.take i++n::l.drop i
def G9(s:By)(b:List Nat)(n i a:Nat)(first:Bool):List Nat × Nat:=
 if e:s=[] then (b,0) else
  let q:=D7 a s i 1 0
  if d:q.2.2=0 then
   let count:=b.length+1;let c:=n+q.1 / count
   if V8 c then (if 256<count then ([],3) else G9 q.2.1 (V7 b (q.1 % count) c) c (q.1 % count+1) (Q9 (q.1-i) count first) false)
   else ([],2)
  else ([],q.2.2)
 termination_by s.length
 decreasing_by exact Qq a s i 1 0 d
def G6:By->Nat
 | []=>0
 | b::r=>if 45∈r then G6 r+1 else 0
def O0(s:By):List Nat × Nat:=
 if 1024<s.length then ([],3) else if s.any (λb=>p9 128 b.toNat) then ([],4)
 else if 256<G6 s then ([],3)
 else G9 (if G6 s=0 then s else s.drop (G6 s+1)) ((s.take (G6 s)).map (·.toNat)) 128 0 72 true
def W0:Nat->By->Option (List Nat)
 | 0,_=>some []
 | f+1,l=>if l=[] then some [] else if (ac3 l).1=65533/\(ac3 l).2=1 then none else (W0 f (l.drop (ac3 l).2)).map ((ac3 l).1::·)
def Ct(s:By):Option (List Nat):=W0 s.length s
def Ec(s:By):Bool:=
 (O0 s).2==0&&!((O0 s).1.any λp=>p9 65 p&&p9 p 90)&&((O0 s).1.any λp=>p9 128 p)&&(Dg (O0 s).1).2==0&&(Dg (O0 s).1).1==s
def L1(b:UInt8):Bool:=(p9 97 b.toNat&&p9 b.toNat 122)||(p9 48 b.toNat&&p9 b.toNat 57)||b==45||b==95
def xnB:By:=[120,110,45,45]
def K3(s:By):Bool:=
 !s.isEmpty&&p9 s.length 63&&s.getD 0 0 !=45&&s.getD (s.length-1) 0 !=45&&s.all L1&&(!(xnB.isPrefixOf s)||Ec (s.drop 4))
def H9(s:By):By × Nat:=match Ct s with
 | none=>([],4)
 | some p=>if 256<p.length then ([],3)
  else if p.length<s.length then (match Ct (B5 s) with
   | none=>([],14)
   | some q=>if (Dg q).2=0 then (if K3 (xnB++(Dg q).1) then (xnB++(Dg q).1,0) else ([],14)) else ([],14))
  else if K3 (B5 s) then (B5 s,0) else ([],14)
def R3:By->Option By
 | []=>some []
 | b::r=>if b=37 then (match r with
   | x::y::a=>if dig x<16/\dig y<16 then (R3 a).map (k9 (16*dig x+dig y)::·) else none
   | _=>none)
  else (R3 r).map (b::·)
structure B4 where
 kind:Nat
 name:By
 v4:Nat
 v6:List Nat
 deriving DecidableEq
def z8:List Nat:=[0,0,0,0,0,0,0,0]
def L4:B4:=⟨0,[],0,z8⟩
def F2:List By->List By × Nat
 | []=>([],0)
 | x::r=>if (H9 x).2=0 then ((H9 x).1::(F2 r).1,(F2 r).2) else ([],(H9 x).2)
def G5(s:By):By:=if s.getLast? = some 46 then s.dropLast else s
def C1(s:By):B4 × Nat:=
 if 1024<s.length then (L4,3)
 else if s.head? = some 91 then (if s.getLast? = some 93/\2<=s.length then (match v6B ((s.take (s.length-1)).drop 1) with
   | some a=>(⟨3,[],0,a⟩,0)
   | none=>(L4,14)) else (L4,14))
 else match R3 s with
  | none=>(L4,14)
  | some t=>if E7 (G5 t) then (match pnB (G5 t) with
    | some v=>(⟨2,[],v,z8⟩,0)
    | none=>(L4,14))
   else if (F2 (pcs 46 (G5 t))).2=0 then (
    let name:=ac4 (F2 (pcs 46 (G5 t))).1 [46]
    if 253<name.length then (L4,3) else if E7 name then (L4,14) else (⟨1,name,0,z8⟩,0))
   else (L4,(F2 (pcs 46 (G5 t))).2)
def U3(s:By):Bool:=p9 s.length 253&&!(E7 s)&&(pcs 46 s).all K3
def K2(h:B4):Bool:=
 if h.kind=1 then U3 h.name&&h.v4==0&&h.v6==z8 else if h.kind=2 then h.name.isEmpty&&h.v6==z8 else if h.kind=3 then h.name.isEmpty&&h.v4==0 else false
def U0(h:B4):By:=if K2 h then (if h.kind=1 then h.name else if h.kind=2 then Ad h.v4 else 91::(Cx h.v6++[93])) else []
def Ce(a b:By):Bool:=U3 a&&U3 b&&(a==b||(46::a).isSuffixOf b)
def A3(n:Nat):Bool:=decide (n<=1000000000)
theorem QO{n:Nat}:A3 n=true↔n<=1000000000:=by simp[A3]
def isS:List SV->Bool|[.str _]=>true|_=>false
def elS(a:List SV):By:=(a.getD 0 .nilp).gS
def N5(o:Option Nat):Nat:=o.getD 0
def u8n(c:Int):UInt8:=k9 c.toNat
def YS(s p:By):By:=if p.isSuffixOf s then s.take (s.length-p.length) else s
def Ha(s p:By):By:=if p.isPrefixOf s then s.drop p.length else s
def ltN(v:Int)(n:Nat):Bool:=match v with
 | .ofNat m=>p9 (m+1) n
 | .negSucc _=>false
theorem E6{v:Int}{n:Nat}:ltN v n=true↔0<=v/\v<(n:Int):=by
 cases v with
 | ofNat m=>
  simp only[ltN,Nat.ble_eq,Int.ofNat_eq_natCast];omega
 | negSucc m=>
  refine⟨λh=>(by cases h),λh=>?_⟩;have:=Int.negSucc_lt_zero m;omega
def Ij(b:Nat):List PV->Tr
 | [.s (.int .i64 n)]=>.need (ltN n b) (.ret (.s (.str (j6 (b9 n)))) [])
 | _=>.fail
def Lj(b:Nat)(args:List PV):Tr:=Ij b (C0 [[0]] args)
def gvs(s:By)(last:Bool):List Nat:=(P2 s last).getD []
def v6c(i:Nat)(s:By):Nat:=((v6B s).getD z8).getD i 0
def n8(a b c d e f g h:Int):List Nat:=[a.toNat,b.toNat,c.toNat,d.toNat,e.toNat,f.toNat,g.toNat,h.toNat]
def ok8(a b c d e f g h:Int):Bool:=[a,b,c,d,e,f,g,h].all λx=>ltN x 65536
def Wi:List SV->Bool|[.int .u16 n]=>ltN n 65536|_=>false
def elN(a:List SV):Nat:=(a.getD 0 .nilp).gI.toNat
def IX(s:By):Int:=x8 s [58,58]
def ptI(n:Int):Bool:=match n with | .ofNat m=>V8 m | .negSucc _=>false
def E0(b:UInt8):Int:=match Nw b with|some n=>n|none=>-1
def L5(k b:Int):Int:=max 1 (min 26 (k+36-b))
def Nr:List SV->Bool|[.int .i64 _]=>true|_=>false
def elI(a:List SV):Int:=(a.getD 0 .nilp).gI
def X3(l:List Int):By × Nat:=if 256<l.length then ([],3) else if l.all ptI then Dg (l.map b9) else ([],2)
def U5(b:Int):By->Int->Int->Int->Int × By × Int
 | [],i,w,k=>(4,[],i)
 | c::r,i,w,k=>if E0 c<0 then (4,c::r,i) else if 1099511627776<i+E0 c*w then (19,r,i+E0 c*w)
  else if E0 c<L5 k b then (0,r,i+E0 c*w) else if 1099511627776<w*(36-L5 k b) then (19,r,i+E0 c*w)
  else U5 b r (i+E0 c*w) (w*(36-L5 k b)) (k+36)
def KK(b:Int)(s:By)(i:Int):Int:=(U5 b s i 1 0).1
def KM(b:Int)(s:By)(i:Int):By:=(U5 b s i 1 0).2.1
def Tu(b:Int)(s:By)(i:Int):Int:=(U5 b s i 1 0).2.2
def Mc(l:List (List SV))(i:Nat)(n:Int):List (List SV):=l.take i++[SV.int .i64 n]::l.drop i
structure DS where
 rest:By
 n:Int
 i:Int
 b:Int
 st:Bool
 l:List (List SV)
def F3(s:DS):Int × DS:=
 if KK s.b s.rest s.i=0 then
  let c:Int:=s.l.length+1;let x:=Tu s.b s.rest s.i;let d:DS:={ rest:=KM s.b s.rest s.i,n:=s.n+aa8 x c,i:=ah5 x c,b:=Q9 (x-s.i).toNat c.toNat (!s.st),st:=true,l:=s.l }
  if ptI d.n then (if 256<c then (3,d) else (0,{ d with i:=d.i+1,l:=Mc s.l d.i.toNat d.n })) else (2,d)
 else (KK s.b s.rest s.i,{ s with rest:=KM s.b s.rest s.i,i:=Tu s.b s.rest s.i })
def K8(c:UInt8):By->Int
 | []=>-1
 | b::r=>if K8 c r<0 then (if b=c then 0 else -1) else K8 c r+1
def Mj(l:List Nat):List (List SV):=l.map λx:Nat=>[SV.int .i64 (x:Int)]
def Rm(s:By):List Nat:=(Ct s).getD []
def Fh(b:UInt8):Int:=if dig b<16 then dig b else -1
def Fp(s:By):By:=(R3 s).getD []
def Q4(s:By):B4 × Nat:=if s.getLast? = some 93/\2<=s.length then (match v6B ((s.take (s.length-1)).drop 1) with
 | some a=>(⟨3,[],0,a⟩,0)
 | none=>(L4,14)) else (L4,14)
def mkH(b:Int)(c:By)(v4:Int)(a:List Nat):B4:=⟨if ltN b 4 then b.toNat else 0,c,v4.toNat,a⟩
def Fc(n:Int)(l:List By):Bool:=l.all λs=>!(ltI n (s.length:Int))
def Cj7(s:By):Bool:=([91]:By).isPrefixOf s
end
section
open Go Go.Proofs
set_option maxRecDepth 100000
section
def Se:List PV->Tr
 | [.s (.str s),.s (.str p),.s (.int .i64 v),.s (.int .i64 n)]=>.need (A3 (a8 s)) (.need ((a8 p)==1) (.need (v==(0:Int)) (.need (n==((-1):Int)) (.ret (.vw 0 0 (a8 (pcs (b8 p 0 0) s))) [.arr false 9 1 (D2 (pcs (b8 p 0 0) s))]))))
 | _=>.fail
def Yq(args:List PV):Tr:=Se (C0 [[0],[0],[0],[0]] args)
def So:List PV->Tr
 | [.s (.str s),.s (.str p)]=>.need (A3 (a8 s)) (.need ((a8 p)==1) (.ret (.vw 0 0 (a8 (pcs (b8 p 0 0) s))) [.arr false 9 1 (D2 (pcs (b8 p 0 0) s))]))
 | _=>.fail
def NS(args:List PV):Tr:=So (C0 [[0],[0]] args)
def SC:List PV->Tr
 | [.s (.str s),.s (.str p)]=>.need (A3 (a8 s)) (.ret (.s (.bool (o8 p s))) [])
 | _=>.fail
def RZ(args:List PV):Tr:=SC (C0 [[0],[0]] args)
def RQ:List PV->Tr
 | [.s (.str s),.s (.str p)]=>.need (A3 (a8 s)) (.ret (.s (.bool (o8 p s))) [])
 | _=>.fail
def FZ(args:List PV):Tr:=RQ (C0 [[0],[0]] args)
def SG:List PV->Tr
 | [.s (.str s),.s (.str p)]=>.need (A3 (a8 s)) (.ret (.s (.bool (aa4 p s))) [])
 | _=>.fail
def As9(args:List PV):Tr:=SG (C0 [[0],[0]] args)
def RR:List PV->Tr
 | [.s (.str s),.s (.str p)]=>.need (A3 (a8 s)) (.ret (.s (.bool (aa4 p s))) [])
 | _=>.fail
def Cc2(args:List PV):Tr:=RR (C0 [[0],[0]] args)
def GJ:List PV->Tr
 | [.s (.str s),.s (.str p)]=>.need (A3 (a8 s)) (.ret (.s (.str (YS s p))) [])
 | _=>.fail
def Bl0(args:List PV):Tr:=GJ (C0 [[0],[0]] args)
def HQ:List PV->Tr
 | [.s (.str s),.s (.str p)]=>.need (A3 (a8 s)) (.ret (.s (.str (YS s p))) [])
 | _=>.fail
def Bm8(args:List PV):Tr:=HQ (C0 [[0],[0]] args)
def GE:List PV->Tr
 | [.s (.str s),.s (.str p)]=>.need (A3 (a8 s)) (.ret (.tup [.s (.str (Ha s p)),.s (.bool (o8 p s))]) [])
 | _=>.fail
def Bk7(args:List PV):Tr:=GE (C0 [[0],[0]] args)
def RC:List PV->Tr
 | [.s (.str s),.s (.str p)]=>.need (A3 (a8 s)) (.ret (.tup [.s (.str (Ha s p)),.s (.bool (o8 p s))]) [])
 | _=>.fail
def As2(args:List PV):Tr:=RC (C0 [[0],[0]] args)
def TN:List PV->Tr
 | [.s (.str s),.s (.str p)]=>.need (A3 (a8 s)) (.ret (.s (.int .i64 (x8 s p))) [])
 | _=>.fail
def HK(args:List PV):Tr:=TN (C0 [[0],[0]] args)
def TL:List PV->Tr
 | [.s (.str s),.s (.str p)]=>.need ((a8 p)==1) (.ret (.s (.int .i64 (↑(List.count (b8 p 0 0) s):Int))) [])
 | _=>.fail
def Au0(args:List PV):Tr:=TL (C0 [[0],[0]] args)
def FU:List PV->Tr
 | [.s (.str s),.s (.int .i64 n)]=>.fail
 | _=>.fail
def Ka(args:List PV):Tr:=FU (C0 [[0],[0]] args)
def Yp:List PV->Tr
 | [.s (.str s),.s (.str p),.s (.int .i64 v),.s (.int .i64 n)]=>.need (A3 (a8 s)) (.need ((a8 p)==1) (.need (v==(0:Int)) (.need (n==((-1):Int)) (.ret (.s (.sl false false 1 (D2 (pcs (b8 p 0 0) s)))) []))))
 | _=>.fail
def ZO(args:List PV):Tr:=Yp (C0 [[0],[0],[0],[0]] args)
def Zg:List PV->Tr
 | [.s (.str s),.s (.str p)]=>.need (A3 (a8 s)) (.need ((a8 p)==1) (.ret (.s (.sl false false 1 (D2 (pcs (b8 p 0 0) s)))) []))
 | _=>.fail
def Uz(args:List PV):Tr:=Zg (C0 [[0],[0]] args)
def RW:List PV->Tr
 | [.s (.int .i64 n)]=>.need (ltN n 4294967296) (.ret (.s (.str (j6 (b9 n)))) [])
 | _=>.fail
def As7(args:List PV):Tr:=RW (C0 [[0]] args)
def RY:List PV->Tr
 | [.s (.str s)]=>.need (A3 (a8 s)) (.ret (.s (.str (B5 s))) [])
 | _=>.fail
def As8(args:List PV):Tr:=RY (C0 [[0]] args)
def RO:List PV->Tr
 | [.s (.str s)]=>.need (A3 (a8 s)) (.ret (.s (.bool (Y2 s))) [])
 | _=>.fail
def As4(args:List PV):Tr:=RO (C0 [[0]] args)
def RF:List PV->Tr
 | [.s (.str s),.s (.int .i64 base)]=>.need (A3 (a8 s)) (.need (ltN base 17) (.ret (.tup [.s (.int .i64 (↑(N5 (E8 (b9 base) 0 s)):Int)),.s (.bool (j4 (E8 (b9 base) 0 s)))]) []))
 | _=>.fail
def RE(args:List PV):Tr:=RF (C0 [[0],[0]] args)
def At0:List PV->Tr
 | [.s (.str s)]=>.need (A3 (a8 s)) (.ret (.tup [.s (.int .i64 (↑(N5 (Z5 s)):Int)),.s (.bool (j4 (Z5 s)))]) [])
 | _=>.fail
def Cc5(args:List PV):Tr:=At0 (C0 [[0]] args)
def GN:List PV->Tr
 | [.s (.str s)]=>.need (A3 (a8 s)) (.ret (.s (.sl false false 1 (D2 (C5 s)))) [])
 | _=>.fail
def SM(args:List PV):Tr:=GN (C0 [[0]] args)
def Sf:List PV->Tr
 | [.s (.str s)]=>.need (A3 (a8 s)) (.ret (.s (.bool (E7 s))) [])
 | _=>.fail
def Qg(args:List PV):Tr:=Sf (C0 [[0]] args)
def SQ:List PV->Tr
 | [.s (.str s)]=>.need (A3 (a8 s)) (.ret (.tup [.s (.int .u32 (↑(N5 (pnB s)):Int)),.s (.bool (j4 (pnB s)))]) [])
 | _=>.fail
def Cc7(args:List PV):Tr:=SQ (C0 [[0]] args)
def Au5:List PV->Tr
 | [.s (.str s)]=>.need (A3 (a8 s)) (.ret (.tup [.s (.int .u32 (↑(N5 (v4B s)):Int)),.s (.bool (j4 (v4B s)))]) [])
 | _=>.fail
def Dk2(args:List PV):Tr:=Au5 (C0 [[0]] args)
def Au4:List PV->Tr
 | [.s (.int .u32 v)]=>.need (ltN v 4294967296) (.ret (.s (.str (Ad (b9 v)))) [])
 | _=>.fail
def Dk1(args:List PV):Tr:=Au4 (C0 [[0]] args)
def Sg:List PV->Tr
 | [.s (.str s)]=>.need (A3 (a8 s)) (.ret (.s (.bool ((not (j9 s))&&(j4 (E8 10 0 s))))) [])
 | _=>.fail
def NO(args:List PV):Tr:=Sg (C0 [[0]] args)
def TB:List PV->Tr
 | [.s (.str s)]=>.need (A3 (a8 s)) (.ret (.s (.str (B5 s))) [])
 | _=>.fail
def At7(args:List PV):Tr:=TB (C0 [[0]] args)
def Zc:List PV->Tr
 | [.s (.str s),.s (.int .u8 c)]=>.need (A3 (a8 s)) (.need (inR c 256) (.ret (.s (.sl false false 1 (D2 (pcs (u8n c) s)))) []))
 | _=>.fail
def Kb(args:List PV):Tr:=Zc (C0 [[0],[0]] args)
def As3:List PV->Tr
 | [.s (.int .i64 n)]=>.need (ltN n 4294967296) (.ret (.s (.str (j6 (b9 n)))) [])
 | _=>.fail
def NN(args:List PV):Tr:=As3 (C0 [[0]] args)
def SX:List PV->Tr
 | [.s (.int .u8 b)]=>.need (inR b 256) (.ret (.s (.int .i64 (↑(dig (u8n b)):Int))) [])
 | _=>.fail
def Cc9(args:List PV):Tr:=SX (C0 [[0]] args)
def TD:List PV->Tr
 | [.s (.str s)]=>.need (A3 (a8 s)) (.ret (.tup [.s (.int .i64 (↑(N5 (Z5 s)):Int)),.s (.bool (j4 (Z5 s)))]) [])
 | _=>.fail
def At8(args:List PV):Tr:=TD (C0 [[0]] args)
def Za:List PV->Tr
 | [.s (.str s)]=>.need (A3 (a8 s)) (.ret (.s (.sl false false 1 (D2 (C5 s)))) [])
 | _=>.fail
def HA(args:List PV):Tr:=Za (C0 [[0]] args)
def Og:List PV->Tr
 | [.s (.str s)]=>.need (A3 (a8 s)) (.ret (.s (.bool (E7 s))) [])
 | _=>.fail
def Sl(args:List PV):Tr:=Og (C0 [[0]] args)
def HC:List PV->Tr
 | [.s (.str s)]=>.need (A3 (a8 s)) (.ret (.tup [.s (.int .u32 (↑(N5 (pnB s)):Int)),.s (.bool (j4 (pnB s)))]) [])
 | _=>.fail
def Bm0(args:List PV):Tr:=HC (C0 [[0]] args)
def SW:List PV->Tr
 | [.s (.str s)]=>.need (A3 (a8 s)) (.ret (.tup [.s (.int .i64 (↑(N5 (oct s)):Int)),.s (.bool (j4 (oct s)))]) [])
 | _=>.fail
def Cc8(args:List PV):Tr:=SW (C0 [[0]] args)
def TH:List PV->Tr
 | [.s (.str s)]=>.need (A3 (a8 s)) (.ret (.tup [.s (.int .u32 (↑(N5 (v4B s)):Int)),.s (.bool (j4 (v4B s)))]) [])
 | _=>.fail
def Cd2(args:List PV):Tr:=TH (C0 [[0]] args)
def RK:List PV->Tr
 | [.s (.str s)]=>.need (A3 (a8 s)) (.ret (.tup [.s (.int .u16 (↑(N5 (grp s)):Int)),.s (.bool (j4 (grp s)))]) [])
 | _=>.fail
def Cb8(args:List PV):Tr:=RK (C0 [[0]] args)
def FX:List PV->Tr
 | [.s (.str s),.s (.bool last)]=>.need (A3 (a8 s)) (.ret (.tup [.s (.sl (j9 (gvs s last)) (j9 (gvs s last)) 1 (D8 (gvs s last))),.s (.bool (j4 (P2 s last)))]) [])
 | _=>.fail
def Bk4(args:List PV):Tr:=FX (C0 [[0],[0]] args)
def Au8:List PV->Tr
 | [.s (.str s)]=>.need (A3 (a8 s)) (.ret (.tup [.agg [.s (.int .u16 (↑(v6c 0 s):Int)),.s (.int .u16 (↑(v6c 1 s):Int)),.s (.int .u16 (↑(v6c 2 s):Int)),.s (.int .u16 (↑(v6c 3 s):Int)),.s (.int .u16 (↑(v6c 4 s):Int)),.s (.int .u16 (↑(v6c 5 s):Int)),.s (.int .u16 (↑(v6c 6 s):Int)),.s (.int .u16 (↑(v6c 7 s):Int))],.s (.bool (j4 (v6B s)))]) [])
 | _=>.fail
def Dk5(args:List PV):Tr:=Au8 (C0 [[0]] args)
def HW:List PV->Tr
 | [.agg [.s (.int .u16 a),.s (.int .u16 b),.s (.int .u16 c),.s (.int .u16 d),.s (.int .u16 e),.s (.int .u16 f),.s (.int .u16 g),.s (.int .u16 h)]]=>.need (ok8 a b c d e f g h) (.ret (.tup [.s (.int .i64 (↑((zGo (n8 a b c d e f g h) 0 0 0)).1:Int)),.s (.int .i64 (↑((zGo (n8 a b c d e f g h) 0 0 0)).2:Int))]) [])
 | _=>.fail
def Bm9(args:List PV):Tr:=HW (C0 [[0,0,0,0,0,0,0,0]] args)
def Cd6:List PV->Tr
 | [.s (.int .u64 x)]=>.need (x==(16:Int)) (.ret (.s (.int .i64 (4:Int))) [])
 | _=>.fail
def Dm3(args:List PV):Tr:=Cd6 (C0 [[0]] args)
def GB:List PV->Tr
 | [.s (.int .i64 x)]=>.need (x==(16:Int)) (.ret (.s (.bool true)) [])
 | _=>.fail
def RV(args:List PV):Tr:=GB (C0 [[0]] args)
def FW:List PV->Tr
 | [.s (.sl c a 0 ds),.s (.int .u64 v),.s (.int .i64 b),.s (.bool neg),.s (.bool app)]=>.need (ltN v 65536) (.need (b==(16:Int)) (.need (not neg) (.need (not app) (.ret (.tup [.s (.sl true true 1 List.nil),.s (.str (V5 (b9 v)))]) []))))
 | _=>.fail
def RH(args:List PV):Tr:=FW (C0 [[0],[0],[0],[0],[0]] args)
def GA:List PV->Tr
 | [.s (.int .u64 v),.s (.int .i64 b)]=>.need (ltN v 65536) (.need (b==(16:Int)) (.ret (.s (.str (V5 (b9 v)))) []))
 | _=>.fail
def RU(args:List PV):Tr:=GA (C0 [[0],[0]] args)
def RJ:List PV->Tr
 | [.s (.int .u64 v),.s (.int .i64 b)]=>.need (ltN v 65536) (.need (b==(16:Int)) (.ret (.s (.str (V5 (b9 v)))) []))
 | _=>.fail
def Cb7(args:List PV):Tr:=RJ (C0 [[0],[0]] args)
def HN:List PV->Tr
 | [.s (.sl b a 1 l),.s (.str p)]=>.need (w8 l isS) (.need (A3 (a8 (ac4 (p4 elS l) p))) (.need (A3 (a8 l)) (.ret (.s (.str (ac4 (p4 elS l) p))) [])))
 | _=>.fail
def TQ(args:List PV):Tr:=HN (C0 [[1],[0]] args)
def TM:List PV->Tr
 | [.s (.str s),.s (.str p)]=>.need (A3 (a8 s)) (.ret (.tup [.s (.str ((w6 s p)).1),.s (.str (((w6 s p)).2).1),.s (.bool (((w6 s p)).2).2)]) [])
 | _=>.fail
def Au1(args:List PV):Tr:=TM (C0 [[0],[0]] args)
def Au7:List PV->Tr
 | [.s (.sl b a 1 l)]=>.need (w8 l Wi) (.need (p9 (a8 l) 8) (.ret (.s (.str (O4 (p4 elN l)))) []))
 | _=>.fail
def Dk4(args:List PV):Tr:=Au7 (C0 [[1]] args)
def Au6:List PV->Tr
 | [.agg [.s (.int .u16 a),.s (.int .u16 b),.s (.int .u16 c),.s (.int .u16 d),.s (.int .u16 e),.s (.int .u16 f),.s (.int .u16 g),.s (.int .u16 h)]]=>.need (ok8 a b c d e f g h) (.ret (.s (.str (Cx (n8 a b c d e f g h)))) [])
 | _=>.fail
def Dk3(args:List PV):Tr:=Au6 (C0 [[0,0,0,0,0,0,0,0]] args)
def SZ:List PV->Tr
 | [.s (.str s)]=>.need (A3 (a8 s)) (.ret (.tup [.s (.int .u16 (↑(N5 (grp s)):Int)),.s (.bool (j4 (grp s)))]) [])
 | _=>.fail
def Cd0(args:List PV):Tr:=SZ (C0 [[0]] args)
def GR:List PV->Tr
 | [.s (.str s),.s (.bool last)]=>.need (A3 (a8 s)) (.ret (.tup [.s (.sl (j9 (gvs s last)) (j9 (gvs s last)) 1 (D8 (gvs s last))),.s (.bool (j4 (P2 s last)))]) [])
 | _=>.fail
def Bl4(args:List PV):Tr:=GR (C0 [[0],[0]] args)
def Si:List PV->Tr
 | [.s (.str s)]=>.need (A3 (a8 s)) (.ret (.s (.int .i64 (IX s))) [])
 | _=>.fail
def NP(args:List PV):Tr:=Si (C0 [[0]] args)
def TJ:List PV->Tr
 | [.s (.str s)]=>.need (A3 (a8 s)) (.ret (.tup [.agg [.s (.int .u16 (↑(v6c 0 s):Int)),.s (.int .u16 (↑(v6c 1 s):Int)),.s (.int .u16 (↑(v6c 2 s):Int)),.s (.int .u16 (↑(v6c 3 s):Int)),.s (.int .u16 (↑(v6c 4 s):Int)),.s (.int .u16 (↑(v6c 5 s):Int)),.s (.int .u16 (↑(v6c 6 s):Int)),.s (.int .u16 (↑(v6c 7 s):Int))],.s (.bool (j4 (v6B s)))]) [])
 | _=>.fail
def Cd3(args:List PV):Tr:=TJ (C0 [[0]] args)
def Yw:List PV->Tr
 | [.s (.int .i64 n)]=>.ret (.s (.bool (ptI n))) []
 | _=>.fail
def Of(args:List PV):Tr:=Yw (C0 [[0]] args)
def Yv:List PV->Tr
 | [.s (.int .i64 d),.s (.int .i64 c),.s (.bool f)]=>.need (ltN d 1152921504606846976) (.need (ltN c 1000000) (.need (ltI (0:Int) c) (.ret (.s (.int .i64 (↑(Q9 (b9 d) (b9 c) f):Int))) [])))
 | _=>.fail
def Oe(args:List PV):Tr:=Yv (C0 [[0],[0],[0]] args)
def SO:List PV->Tr
 | [.s (.int .i64 d)]=>.need (ltN d 36) (.ret (.s (.int .u8 (↑(ah8 (Aq (b9 d))):Int))) [])
 | _=>.fail
def At1(args:List PV):Tr:=SO (C0 [[0]] args)
def SU:List PV->Tr
 | [.s (.int .u8 b)]=>.need (inR b 256) (.ret (.s (.int .i64 (E0 (u8n b)))) [])
 | _=>.fail
def At3(args:List PV):Tr:=SU (C0 [[0]] args)
def ST:List PV->Tr
 | [.s (.int .i64 b)]=>.ret (.fnr (y8 253) [] [.ptr 1 0 0,.ptr 0 0 0]) [.box [.s (.int .i64 b)],.box [.s (.int .i64 (0:Int))]]
 | _=>.fail
def GO(args:List PV):Tr:=ST (C0 [[0]] args)
def Qh:List PV->List Blk->Tr
 | [.ptr 0 0 0,.ptr 1 0 0],[.box [.s (.int .i64 k)],.box [.s (.int .i64 b)]]=>.need (ltN k 1000000000000) (.need (ltN b 1000000) (.ret (.s (.int .i64 (L5 k b))) [.box [.s (.int .i64 (Int.add k (36:Int)))],.box [.s (.int .i64 b)]]))
 | _,_=>.fail
def SL:List PV->List Blk->Tr
 | [.fl 0,.s (.int .i64 q),.s (.int .i64 b)],[.arr z 5 1 l]=>.need (ltN q 1152921504606846976) (.need (ltN b 1000000) (.need (p9 (a8 l) 100000) (.ret (.fl 0) [.arr z 5 1 (List.append l (p4 D9 (Q0 (b9 q) 0 (b9 b))))])))
 | _,_=>.fail
def SP:List PV->Tr
 | [.s (.sl b a 1 p)]=>.need (w8 p Nr) (.ret (.tup [.s (.str ((X3 (p4 elI p))).1),.s (.int .i64 (↑((X3 (p4 elI p))).2:Int))]) [])
 | _=>.fail
def At2(args:List PV):Tr:=SP (C0 [[1]] args)
def TP:List PV->List Blk->Tr
 | [.fl 0,.s (.int .i64 i),.fl 1],[.arr z 3 1 l,.arr false 3 1 [[.int .i64 n]]]=>.need (ltN i (Nat.add (a8 l) 1)) (.need (p9 (a8 l) 100000) (.ret (.fl 0) [.arr z 3 1 (Mc l (b9 i) n),.arr false 3 1 [[.int .i64 n]]]))
 | _,_=>.fail
def RG:List PV->List Blk->Tr
 | [.ptr 0 0 0],[.box [.s (.str a),.fl 1,.s (.int .i64 n),.s (.int .i64 i),.s (.int .i64 b),.s (.bool c)],.arr z 3 1 l]=>.need (A3 (a8 a)) (.need (ltN b 1000000) (.need (ltN i 1099511627777) (.ret (.s (.int .i64 (KK b a i))) [.box [.s (.str (KM b a i)),.fl 1,.s (.int .i64 n),.s (.int .i64 (Tu b a i)),.s (.int .i64 b),.s (.bool c)],.arr z 3 1 l])))
 | _,_=>.fail
def EL:List PV->List Blk->Tr
 | [.ptr 0 0 0],[.box [.s (.str a),.fl 1,.s (.int .i64 n),.s (.int .i64 i),.s (.int .i64 b),.s (.bool c)],.arr z 3 1 l]=>.need (A3 (a8 a)) (.need (ltN b 1000000) (.need (ltN i 1099511627777) (.need (ltN n 1152921504606846976) (.need (p9 (a8 l) 100000) (.ret (.s (.int .i64 ((F3 (DS.mk a n i b c l))).1)) [.box [.s (.str (DS.rest ((F3 (DS.mk a n i b c l))).2)),.fl 1,.s (.int .i64 (DS.n ((F3 (DS.mk a n i b c l))).2)),.s (.int .i64 (DS.i ((F3 (DS.mk a n i b c l))).2)),.s (.int .i64 (DS.b ((F3 (DS.mk a n i b c l))).2)),.s (.bool (DS.st ((F3 (DS.mk a n i b c l))).2))],.arr z 3 1 (DS.l ((F3 (DS.mk a n i b c l))).2)])))))
 | _,_=>.fail
def Ys:List PV->Tr
 | [.s (.str s),.s (.int .u8 c)]=>.need (A3 (a8 s)) (.need (inR c 256) (.ret (.s (.int .i64 (K8 (u8n c) s))) []))
 | _=>.fail
def ZQ(args:List PV):Tr:=Ys (C0 [[0],[0]] args)
def GD:List PV->Tr
 | [.s (.str s),.s (.int .u8 c)]=>.need (A3 (a8 s)) (.need (inR c 256) (.ret (.s (.int .i64 (K8 (u8n c) s))) []))
 | _=>.fail
def EM(args:List PV):Tr:=GD (C0 [[0],[0]] args)
def SN:List PV->Tr
 | [.s (.str s)]=>.need (A3 (a8 s)) (.ret (.tup [.s (.sl (j9 ((O0 s)).1) (j9 ((O0 s)).1) 1 (Mj ((O0 s)).1)),.s (.int .i64 (↑((O0 s)).2:Int))]) [])
 | _=>.fail
def Cc6(args:List PV):Tr:=SN (C0 [[0]] args)
def ZN:List PV->Tr
 | [.s (.str t)]=>.fail
 | _=>.fail
def Uw(args:List PV):Tr:=ZN (C0 [[0]] args)
def GH:List PV->Tr
 | [.s (.str t),.s (.str p),.s (.int .i64 n)]=>.ret (.fnr (y8 177) [] [.ptr 1 0 0,.ptr 0 0 0,.ptr 2 0 0]) [.box [.s (.str t)],.box [.s (.str p)],.box [.s (.int .i64 n)]]
 | _=>.fail
def SE(args:List PV):Tr:=GH (C0 [[0],[0],[0]] args)
def TR:List PV->Tr
 | [.s (.str t),.s (.str p)]=>.ret (.fnr (y8 177) [] [.ptr 1 0 0,.ptr 0 0 0,.ptr 2 0 0]) [.box [.s (.str t)],.box [.s (.str p)],.box [.s (.int .i64 (0:Int))]]
 | _=>.fail
def Au2(args:List PV):Tr:=TR (C0 [[0],[0]] args)
def EN:List PV->List Blk->Option (Bool × List (List PV))
 | [.yd,.ptr 0 0 0,.ptr 1 0 0,.ptr 2 0 0],[.box [.s (.str p)],.box [.s (.str t)],.box [.s (.int .i64 n)]]=>some (((A3 (a8 t))&&(((a8 p)==1)&&(n==(0:Int)))),p4 (λ(x:By)=>([.s (.str x)]:List PV)) (pcs (b8 p 0 0) t))
 | _,_=>none
def Zb:List PV->Tr
 | [.s (.int .i64 n)]=>.ret (.s (.bool (ptI n))) []
 | _=>.fail
def Ux(args:List PV):Tr:=Zb (C0 [[0]] args)
def Yx:List PV->Tr
 | [.s (.int .i64 d),.s (.int .i64 c),.s (.bool f)]=>.need (ltN d 1152921504606846976) (.need (ltN c 1000000) (.need (ltI (0:Int) c) (.ret (.s (.int .i64 (↑(Q9 (b9 d) (b9 c) f):Int))) [])))
 | _=>.fail
def GP(args:List PV):Tr:=Yx (C0 [[0],[0],[0]] args)
def TF:List PV->Tr
 | [.s (.int .i64 k),.s (.int .i64 b)]=>.need (ltN k 10000000000) (.need (ltN b 1000000) (.ret (.s (.int .i64 (L5 (Int.mul (36:Int) k) b))) []))
 | _=>.fail
def At9(args:List PV):Tr:=TF (C0 [[0],[0]] args)
def GQ:List PV->Tr
 | [.s (.int .i64 d)]=>.need (ltN d 36) (.ret (.s (.int .u8 (↑(ah8 (Aq (b9 d))):Int))) [])
 | _=>.fail
def Bl3(args:List PV):Tr:=GQ (C0 [[0]] args)
def TK:List PV->Tr
 | [.s (.int .u8 b)]=>.need (inR b 256) (.ret (.s (.int .i64 (E0 (u8n b)))) [])
 | _=>.fail
def Cd4(args:List PV):Tr:=TK (C0 [[0]] args)
def SY:List PV->Tr
 | [.s (.sl b a 1 p)]=>.need (w8 p Nr) (.ret (.tup [.s (.str ((X3 (p4 elI p))).1),.s (.int .i64 (↑((X3 (p4 elI p))).2:Int))]) [])
 | _=>.fail
def At4(args:List PV):Tr:=SY (C0 [[1]] args)
def HB:List PV->Tr
 | [.s (.str s)]=>.need (A3 (a8 s)) (.ret (.tup [.s (.sl (j9 ((O0 s)).1) (j9 ((O0 s)).1) 1 (Mj ((O0 s)).1)),.s (.int .i64 (↑((O0 s)).2:Int))]) [])
 | _=>.fail
def Bl9(args:List PV):Tr:=HB (C0 [[0]] args)
def GF:List PV->Tr
 | [.s (.str s)]=>.need (A3 (a8 s)) (.ret (.s (.bool (Ec s))) [])
 | _=>.fail
def Bk8(args:List PV):Tr:=GF (C0 [[0]] args)
def SJ:List PV->Tr
 | [.s (.str s)]=>.need (A3 (a8 s)) (.ret (.s (.bool (K3 s))) [])
 | _=>.fail
def SH(args:List PV):Tr:=SJ (C0 [[0]] args)
def Zj:List PV->Tr
 | [.s (.str s)]=>.need (A3 (a8 s)) (.ret (.s (.bool (j4 (Ct s)))) [])
 | _=>.fail
def ZZ(args:List PV):Tr:=Zj (C0 [[0]] args)
def Zh:List PV->Tr
 | [.s (.str s)]=>.need (A3 (a8 s)) (.ret (.s (.int .i64 (↑(Lib.runeCountL s):Int))) [])
 | _=>.fail
def ZX(args:List PV):Tr:=Zh (C0 [[0]] args)
def RX:List PV->Tr
 | [.s (.str s)]=>.need (A3 (a8 s)) (.ret (.tup [.s (.str ((H9 s)).1),.s (.int .i64 (↑((H9 s)).2:Int))]) [])
 | _=>.fail
def Cc4(args:List PV):Tr:=RX (C0 [[0]] args)
def TE:List PV->Tr
 | [.s (.str s)]=>.need (A3 (a8 s)) (.ret (.tup [.s (.sl (j9 (Rm s)) (j9 (Rm s)) 1 (Mj (Rm s))),.s (.bool (j4 (Ct s)))]) [])
 | _=>.fail
def Cd1(args:List PV):Tr:=TE (C0 [[0]] args)
def HD:List PV->Tr
 | [.s (.str s)]=>.need (A3 (a8 s)) (.ret (.s (.bool (Ec s))) [])
 | _=>.fail
def Bm1(args:List PV):Tr:=HD (C0 [[0]] args)
def GY:List PV->Tr
 | [.s (.str s)]=>.need (A3 (a8 s)) (.ret (.s (.bool (K3 s))) [])
 | _=>.fail
def TC(args:List PV):Tr:=GY (C0 [[0]] args)
def GW:List PV->Tr
 | [.s (.str s)]=>.need (A3 (a8 s)) (.ret (.tup [.s (.str ((H9 s)).1),.s (.int .i64 (↑((H9 s)).2:Int))]) [])
 | _=>.fail
def Bl8(args:List PV):Tr:=GW (C0 [[0]] args)
def RN:List PV->Tr
 | [.s (.int .u8 b)]=>.need (inR b 256) (.ret (.s (.int .i64 (Fh (u8n b)))) [])
 | _=>.fail
def Cc1(args:List PV):Tr:=RN (C0 [[0]] args)
def RM:List PV->Tr
 | [.s (.str s)]=>.need (A3 (a8 s)) (.ret (.tup [.s (.str (Fp s)),.s (.bool (j4 (R3 s)))]) [])
 | _=>.fail
def Cc0(args:List PV):Tr:=RM (C0 [[0]] args)
def FY:List PV->Tr
 | [.s (.str s)]=>.need (A3 (a8 s)) (.need (Cj7 s) (.ret (.tup [.agg [.s (.int .i64 (↑(B4.kind ((Q4 s)).1):Int)),.s (.str (B4.name ((Q4 s)).1)),.s (.int .u32 (↑(B4.v4 ((Q4 s)).1):Int)),.s (.int .u16 (↑(b8 (B4.v6 ((Q4 s)).1) 0 0):Int)),.s (.int .u16 (↑(b8 (B4.v6 ((Q4 s)).1) 1 0):Int)),.s (.int .u16 (↑(b8 (B4.v6 ((Q4 s)).1) 2 0):Int)),.s (.int .u16 (↑(b8 (B4.v6 ((Q4 s)).1) 3 0):Int)),.s (.int .u16 (↑(b8 (B4.v6 ((Q4 s)).1) 4 0):Int)),.s (.int .u16 (↑(b8 (B4.v6 ((Q4 s)).1) 5 0):Int)),.s (.int .u16 (↑(b8 (B4.v6 ((Q4 s)).1) 6 0):Int)),.s (.int .u16 (↑(b8 (B4.v6 ((Q4 s)).1) 7 0):Int))],.s (.int .i64 (↑((Q4 s)).2:Int))]) []))
 | _=>.fail
def Bk5(args:List PV):Tr:=FY (C0 [[0]] args)
def Yr:List PV->Tr
 | [.s (.str s)]=>.need (A3 (a8 s)) (.ret (.tup [.agg [.s (.int .i64 (↑(B4.kind ((C1 s)).1):Int)),.s (.str (B4.name ((C1 s)).1)),.s (.int .u32 (↑(B4.v4 ((C1 s)).1):Int)),.s (.int .u16 (↑(b8 (B4.v6 ((C1 s)).1) 0 0):Int)),.s (.int .u16 (↑(b8 (B4.v6 ((C1 s)).1) 1 0):Int)),.s (.int .u16 (↑(b8 (B4.v6 ((C1 s)).1) 2 0):Int)),.s (.int .u16 (↑(b8 (B4.v6 ((C1 s)).1) 3 0):Int)),.s (.int .u16 (↑(b8 (B4.v6 ((C1 s)).1) 4 0):Int)),.s (.int .u16 (↑(b8 (B4.v6 ((C1 s)).1) 5 0):Int)),.s (.int .u16 (↑(b8 (B4.v6 ((C1 s)).1) 6 0):Int)),.s (.int .u16 (↑(b8 (B4.v6 ((C1 s)).1) 7 0):Int))],.s (.int .i64 (↑((C1 s)).2:Int))]) [])
 | _=>.fail
def ZP(args:List PV):Tr:=Yr (C0 [[0]] args)
def As6:List PV->Tr
 | [.s (.str s)]=>.need (A3 (a8 s)) (.ret (.s (.bool (U3 s))) [])
 | _=>.fail
def Cc3(args:List PV):Tr:=As6 (C0 [[0]] args)
def RT:List PV->Tr
 | [.agg [.s (.int .i64 j),.s (.str i),.s (.int .u32 v4),.s (.int .u16 a),.s (.int .u16 b),.s (.int .u16 c),.s (.int .u16 d),.s (.int .u16 e),.s (.int .u16 f),.s (.int .u16 g),.s (.int .u16 h)]]=>.need (A3 (a8 i)) (.need (ltN v4 4294967296) (.need (ok8 a b c d e f g h) (.ret (.s (.bool (K2 (mkH j i v4 (n8 a b c d e f g h))))) [])))
 | _=>.fail
def RS(args:List PV):Tr:=RT (C0 [[0,0,0,0,0,0,0,0,0,0,0]] args)
def RP:List PV->Tr
 | [.agg [.s (.int .i64 j),.s (.str i),.s (.int .u32 v4),.s (.int .u16 a),.s (.int .u16 b),.s (.int .u16 c),.s (.int .u16 d),.s (.int .u16 e),.s (.int .u16 f),.s (.int .u16 g),.s (.int .u16 h)]]=>.need (A3 (a8 i)) (.need (ltN v4 4294967296) (.need (ok8 a b c d e f g h) (.ret (.s (.str (U0 (mkH j i v4 (n8 a b c d e f g h))))) [])))
 | _=>.fail
def As5(args:List PV):Tr:=RP (C0 [[0,0,0,0,0,0,0,0,0,0,0]] args)
def RL:List PV->Tr
 | [.s (.str p),.s (.str s)]=>.need (A3 (a8 p)) (.need (A3 (a8 s)) (.ret (.s (.bool (Ce p s))) []))
 | _=>.fail
def Cb9(args:List PV):Tr:=RL (C0 [[0],[0]] args)
def At6:List PV->Tr
 | [.s (.int .u8 b)]=>.need (inR b 256) (.ret (.s (.int .i64 (Fh (u8n b)))) [])
 | _=>.fail
def Dk0(args:List PV):Tr:=At6 (C0 [[0]] args)
def GU:List PV->Tr
 | [.s (.str s)]=>.need (A3 (a8 s)) (.ret (.tup [.s (.str (Fp s)),.s (.bool (j4 (R3 s)))]) [])
 | _=>.fail
def Bl6(args:List PV):Tr:=GU (C0 [[0]] args)
def Sk:List PV->Tr
 | [.s (.str s)]=>.need (A3 (a8 s)) (.ret (.tup [.agg [.s (.int .i64 (↑(B4.kind ((C1 s)).1):Int)),.s (.str (B4.name ((C1 s)).1)),.s (.int .u32 (↑(B4.v4 ((C1 s)).1):Int)),.s (.int .u16 (↑(b8 (B4.v6 ((C1 s)).1) 0 0):Int)),.s (.int .u16 (↑(b8 (B4.v6 ((C1 s)).1) 1 0):Int)),.s (.int .u16 (↑(b8 (B4.v6 ((C1 s)).1) 2 0):Int)),.s (.int .u16 (↑(b8 (B4.v6 ((C1 s)).1) 3 0):Int)),.s (.int .u16 (↑(b8 (B4.v6 ((C1 s)).1) 4 0):Int)),.s (.int .u16 (↑(b8 (B4.v6 ((C1 s)).1) 5 0):Int)),.s (.int .u16 (↑(b8 (B4.v6 ((C1 s)).1) 6 0):Int)),.s (.int .u16 (↑(b8 (B4.v6 ((C1 s)).1) 7 0):Int))],.s (.int .i64 (↑((C1 s)).2:Int))]) [])
 | _=>.fail
def NQ(args:List PV):Tr:=Sk (C0 [[0]] args)
def TA:List PV->Tr
 | [.s (.str s)]=>.need (A3 (a8 s)) (.ret (.s (.bool (U3 s))) [])
 | _=>.fail
def At5(args:List PV):Tr:=TA (C0 [[0]] args)
def GV:List PV->Tr
 | [.agg [.s (.int .i64 j),.s (.str i),.s (.int .u32 v4),.s (.int .u16 a),.s (.int .u16 b),.s (.int .u16 c),.s (.int .u16 d),.s (.int .u16 e),.s (.int .u16 f),.s (.int .u16 g),.s (.int .u16 h)]]=>.need (A3 (a8 i)) (.need (ltN v4 4294967296) (.need (ok8 a b c d e f g h) (.ret (.s (.bool (K2 (mkH j i v4 (n8 a b c d e f g h))))) [])))
 | _=>.fail
def Bl7(args:List PV):Tr:=GV (C0 [[0,0,0,0,0,0,0,0,0,0,0]] args)
def GS:List PV->Tr
 | [.s (.str p),.s (.str s)]=>.need (A3 (a8 p)) (.need (A3 (a8 s)) (.ret (.s (.bool (Ce p s))) []))
 | _=>.fail
def Bl5(args:List PV):Tr:=GS (C0 [[0],[0]] args)
def Yt:List PV->Tr
 | [.s (.int .i64 n),.s (.sl b a 1 l)]=>.need (w8 l isS) (.need (A3 (a8 l)) (.ret (.s (.bool (Fc n (p4 elS l)))) []))
 | _=>.fail
def ZR(args:List PV):Tr:=Yt (C0 [[0],[1]] args)
end
section
variable {Z R : Type} (Y : Nat) (W : G0) (Q : Yh Z) (s : Z) (k : Out -> St Z -> Option R)
noncomputable def US(Y:Nat):Cfg:=B7 Y [140] (A2 []) [] (A2 [(1,[6]),(0,[3,0,0])]) [] (A2 []) (some [6]) [] [] []
noncomputable def Ck8{R:Type}(Y:Nat)(d b:By)(a:Int)(c:By->By->Int->Option R):Option R:=c d b a
theorem Ck9(d:Nat)(a sep1 sepSave2):evC (US Y) (d+1) Z Q 140 [pS a,pS sep1,pI sepSave2] [] s=Ck8 Y a sep1 sepSave2 (λa c b=>some (.fnr (y8 177) [] [.ptr 1 0 0,.ptr 0 0 0,.ptr 2 0 0],[.box [pS a],.box [pS c],.box [pI b]],s)):=by refine(evE (fn:=Tryz.f140) (by kernel_rfl)).trans ?_;generalize evC (US Y) d=W;unfold Ck8;kernel_rfl
noncomputable def Ax7(Y:Nat):Cfg:=B7 Y [103] (A2 []) [(140,SE)] (A2 [(1,[4]),(0,[0,0])]) [] (A2 []) (some [4]) [] [] []
noncomputable def Dq6{R:Type}(Y:Nat)(c a:By)(b:By->By->Option R):Option R:=b c a
theorem Dd5(d:Nat)(a sep1):evC (Ax7 Y) (d+1) Z Q 103 [pS a,pS sep1] [] s=Dq6 Y a sep1 (λa b=>some (.fnr (y8 177) [] [.ptr 1 0 0,.ptr 0 0 0,.ptr 2 0 0],[.box [pS a],.box [pS b],.box [pI (0:Int)]],s)):=by refine(evE (fn:=Tryz.f103) (by kernel_rfl)).trans ?_;generalize evC (Ax7 Y) d=W;unfold Dq6;kernel_rfl
noncomputable abbrev NY:Code:=C8 af3
noncomputable def Ot(Y:Nat):Cfg:=B7 Y [65] (A2 []) [(102,Qg),(103,Au2),(104,SH)] (A2 [(7,[2]),(6,[2]),(5,[2,13]),(4,[2,0]),(3,[2,9]),(2,[2]),(1,[0,1,7]),(0,[0,1])]) [102,104] (A2 [(0,[2]),(1,[2])]) (some [2]) [] [(177,EN)] []
noncomputable def EV{R:Type}(Y:Nat)(a:By)(xs:List By)(self:Unit->Option R)(c:Unit->Option R)(b:Unit->Option R):Option R:=cond (A3 a.length) (cond (not (K3 a)) (b ()) (self ())) none
noncomputable def JP{R:Type}(Y:Nat)(L:List By)(b:Unit->Option R)(c:Unit->Option R):Option R:=Dx8 (α:=Unit->Option R) (λ_=>b ()) (λa xs self _=>EV Y a xs self  b c) L ()
theorem Af1{R:Type}(Y:Nat)(a:By)(xs:List By)(b:Unit->Option R)(c:Unit->Option R):JP Y (a::xs)  b c=EV Y a xs (λ_=>JP Y xs  b c)  b c:=rfl
theorem By3(L:List By):Ay #[13] (gp [(2,.ptr 0 0 0),(9,.fnr (y8 177) [] [.bad,.bad,.bad])] 4) (bd (Ot Y) W Q (cd [1,1,0,1,0,0] NY)) (bd (Ot Y) W Q (cd [1,1,0,1,0,1] NY)) (L.map (λ(a:By)=>([pS a]:List PV))) [.box [pB false],.dead,.dead,.dead] s (rgK (gp [(2,.ptr 0 0 0),(9,.fnr (y8 177) [] [.bad,.bad,.bad])] 4) (λH=>Be H [2,1,3] [.box [.bad],.box [.bad],.box [.bad]]) k) =
 JP Y L  (λ_=>k .normal ⟨gp [(2,.ptr 0 0 0),(9,.fnr (y8 177) [] [.bad,.bad,.bad])] 4,[.box [pB false],.box [.bad],.box [.bad],.box [.bad]],s⟩) (λ_=>k .ret ⟨gp [(2,.ptr 0 0 0),(9,.fnr (y8 177) [] [.bad,.bad,.bad])] 4,[.box [pB false],.box [.bad],.box [.bad],.box [.bad]],s⟩):=by
 induction L with
 | nil=>rfl
 | cons a xs b=>rw[Af1];unfold EV;exact(j2 (by kernel_rfl) (A0 (A0 rfl b) rfl))
noncomputable def VY{R:Type}(Y:Nat)(a:By)(b:Unit->Option R)(c:Unit->Option R):Option R:=cond ((A3 a.length)&&((1==1)&&((0:Int)==0))) (JP Y (pcs (b8 ([46]:List UInt8) 0 0) a)  b c) none
abbrev Af0(b:Code):Prop:=∀(k:Out->St Z->Option R) s0,A9 (Ot Y) W Q b ⟨gp [(2,.ptr 0 0 0),(9,.fnr (y8 177) [] [.ptr 2 0 0,.ptr 1 0 0,.ptr 3 0 0])] 4,[.box [pB false],.box [pS s0],.box [pS ([46]:List UInt8)],.box [pI (0:Int)]],s⟩ k=VY Y s0 (λ_=>k .normal ⟨gp [(2,.ptr 0 0 0),(9,.fnr (y8 177) [] [.bad,.bad,.bad])] 4,[.box [pB false],.box [.bad],.box [.bad],.box [.bad]],s⟩) (λ_=>k .ret ⟨gp [(2,.ptr 0 0 0),(9,.fnr (y8 177) [] [.bad,.bad,.bad])] 4,[.box [pB false],.box [.bad],.box [.bad],.box [.bad]],s⟩)
theorem By2:Af0 (R:=R) Y W Q s (cd [1,1,0,1,0] NY):=by intro k a;unfold VY;exact((Dw7 [1,1,0,1,0] (by kernel_rfl)).trans (by kernel_rfl)).trans (A42 (By3 Y W Q s k (pcs (b8 ([46]:List UInt8) 0 0) a) ))
noncomputable def hvn{R:Type}(Y:Nat)(a:By)(b:Unit->Option R)(c:Bool->Bool->Option R):Option R:=cond (ltI 253 (a.length:Int)) (b ()) (cond (A3 a.length) (cond (E7 a) (b ()) (VY Y a (λ_=>c true true) (λ_=>c false false))) none)
theorem Do0(a:Code)(c:Af0 (R:=PV × List Blk × Z) Y W Q s a)(b:By):A9 (Ot Y) W Q (cd [] (G4 [1,1,0,1,0] a NY)) ⟨[pS b]++tps 16,[],s⟩ (F6 (Ot Y) af3)=hvn Y b (λ_=>some (pB false,[.box [pB false]],s)) (λe d=>some (pB e,[.box [pB d],.box [.bad],.box [.bad],.box [.bad]],s)):=by unfold hvn;exact(j2 (by kernel_rfl) (A0 rfl (A0 (A0 rfl ((c (E5 0 (E4 (Ot Y) W Q (cd [1,1,1] NY) (F6 (Ot Y) af3))) b).trans (by kernel_rfl))) rfl)))
theorem Do1(d:Nat)(name0):evC (Ot Y) (d+1) Z Q 65 [pS name0] [] s=hvn Y name0 (λ_=>some (pB false,[.box [pB false]],s)) (λb a=>some (pB b,[.box [pB a],.box [.bad],.box [.bad],.box [.bad]],s)):=
 (evE (fn:=af3) (by kernel_rfl)).trans (j2 (by kernel_rfl) (Do0 Y (evC (Ot Y) d) Q s (cd [1,1,0,1,0] NY) (By2 Y (evC (Ot Y) d) Q s) name0))
noncomputable abbrev Ve:Code:=C8 ad9
noncomputable def Av(Y:Nat):Cfg:=B7 Y [177] (A2 [(5,[0,0,0,0]),(1,[0,1])]) [(178,Uw),(179,HK)] (A2 [(10,[]),(9,[0,0,0,0]),(8,[0,0,0,0,3,34]),(7,[0,0,0,0,3,0]),(6,[0,0,0,0,3,25]),(5,[0,0,0,0,3]),(4,[0,1]),(3,[0,1,3,18]),(2,[0,1,3]),(1,[0,1,11]),(0,[0,0,0,0,7])]) [179] (A2 [(2,[0,1]),(3,[0,0,0,0]),(0,[]),(1,[0,1])]) (some []) [] [] []
noncomputable def MB{Z R:Type}(Q:Yh Z)(Y n:Nat)(d a:By)(c:Int)(s:Z)(b:By->By->Int->Z->Option R):Option R:=match n with|0=>none|n+1=>cond (ltI 0 (a.length:Int)) none (b d a c s)
theorem Ap4(n:Nat)(b c:By)(a:Int)(s:Z):D0 3 ((Av Y).keep 1) (bd (Av Y) W Q (cd [0,1,0,0,0,0] Ve)) n ⟨gp [(0,.yd),(1,.ptr 1 0 0)] 49,[.box [pS b],.box [pS c],.box [pI a]],s⟩ k =
 MB Q Y n b c a s (λb c a s=>k (.exit 0) ⟨gp [] 52,[.box [pS b],.box [pS c],.box [pI a]],s⟩):=by
 induction n generalizing b c a s with
 | zero=>rfl
 | succ n d=>rw[MB];kernel_rfl
noncomputable def U2{Z R:Type}(Q:Yh Z)(Y n:Nat)(c a:By)(g:Int)(s:Z)(i:By->By->Int->Z->Option R)(j:By->By->Int->Z->Option R):Option R:=match n with
 | 0=>none
 | n+1=>
  cond (A3 a.length)
   (cond (ltI (x8 a c) (0:Int))
   (i c a g s)
   (vl (A1 ((x8 a c)+g)) λe=>
    cond (I9 0 e a.length)
    (ydK (Q [pS (cut a 0 e)] s) λd b=>
     (cond (not d)
     (j c a g b)
     (vl (A1 ((x8 a c)+(c.length:Int))) λf=>
      cond (I9 f (a.length:Int) a.length)
      (vl (cut a f (a.length:Int)) λh=>
       U2 Q Y n c h g b i j)
      none)))
    none))
   none
theorem Ap5(n:Nat)(b c:By)(a:Int)(s:Z):D0 3 ((Av Y).keep 5) (bd (Av Y) W Q (cd [1,0,0,0] Ve)) n ⟨gp [(0,.yd),(0,.ptr 0 0 0),(0,.ptr 1 0 0),(0,.ptr 2 0 0)] 48,[.box [pS b],.box [pS c],.box [pI a]],s⟩ k =
 U2 Q Y n b c a s (λb c a s=>k (.exit 2) ⟨gp [(0,.yd),(1,.ptr 1 0 0)] 49,[.box [pS b],.box [pS c],.box [pI a]],s⟩) (λb c a s=>k .ret ⟨gp [] 52,[.box [pS b],.box [pS c],.box [pI a]],s⟩):=by
 induction n generalizing b c a s with
 | zero=>rfl
 | succ n d=>rw[U2];simp only[<-d];kernel_rfl
noncomputable def Ap3{Z R:Type}(Q:Yh Z)(Y:Nat)(p t:By)(n:Int)(s:Z)(j:By->By->Int->Z->Option R):Option R:=
 cond ((p.length:Int)==0)
 (MB Q Y Y p t n s (λm o l q=>j m o l q))
 (U2 Q Y Y p t n s (λr a c e=>ydK (Q [pS a] e) λi b=>
  (j r a c b)) (λf g d h=>j f g d h))
theorem Cs7(d:Nat)(p t n s):evC (Av Y) (d+1) Z Q 177 [.yd,.ptr 0 0 0,.ptr 1 0 0,.ptr 2 0 0] [.box [pS p],.box [pS t],.box [pI n]] s=Ap3 Q Y p t n s (λb c a s=>some (.tup [],[.box [pS b],.box [pS c],.box [pI a]],s)):=by refine(evE (fn:=ad9) (by kernel_rfl)).trans ?_;generalize evC (Av Y) d=W;unfold Ap3;exact(j2 (by kernel_rfl) (A0 ((Ap4 Y W Q (E5 0 (E4 (Av Y) W Q (cd [0,1,0,1] Ve) (E4 (Av Y) W Q (cd [1] Ve) (F6 (Av Y) ad9)))) Y p t n s).trans (by kernel_rfl)) ((Ap5 Y W Q (E5 2 (E4 (Av Y) W Q (cd [1,1] Ve) (F6 (Av Y) ad9))) Y p t n s).trans (by kernel_rfl))))
end
section
variable {Z R : Type} (L : Nat) (Q : G0) (Y : Yh Z) (s : Z) (k : Out -> St Z -> Option R)
noncomputable abbrev Cz:Code:=C8 ae4
noncomputable def Af(L:Nat):Cfg:=B7 L [254] (A2 [(5,[0,1,0,0,10,0])]) [] (A2 [(16,[2,0]),(15,[0,3,10,0]),(10,[0,3,10,0]),(12,[0,3,10,0]),(14,[0,3,10,0]),(8,[2,0]),(13,[0,3,1,8,0,32]),(11,[0,3,1,8,0,18]),(9,[0,3,1,8,0,5]),(7,[0,3,1,8,0]),(6,[0,3,0,9,0]),(5,[0,3,10,0,0]),(4,[0,3,10,0]),(3,[0,3]),(2,[2,0]),(1,[0,12]),(0,[0])]) [] (A2 [(0,[4]),(1,[0,3,10,0]),(2,[0,3,10,0])]) (some [2,0]) [] [] []
noncomputable def Vy{R:Type}(i:By)(v1 c g h:Int)(d:Bool)(e:By->Int->Int->Int->Option R)(f:Unit->Option R):Option R:=cond d (vl (wu8 ((wu8 (c-65))+10)) λa=>vl (bOr .u16 (Rn .u16 v1 (4:Int)) (Nj a)) λb=>e i b g h) (f ())
abbrev OU(b:Code):Prop:=∀(k:Out->St Z->Option R) c v1 b2 a n4 b5,A9 (Af L) Q Y b ⟨gp [(0,pS c),(3,p16 v1),(1,p8 b2),(8,pI a),(0,pI n4),(32,pB b5)] 15,[],s⟩ k=Vy c v1 b2 a n4 b5 (λc v1 d a=>k .normal ⟨gp [(0,pS c),(3,p16 v1),(10,pI d),(0,pI a)] 48,[],s⟩) (λ_=>k .ret ⟨gp [(2,p16 (0:Int)),(0,pB false)] 61,[],s⟩)
theorem A04:OU (R:=R) L Q Y s (cd [1,1,1,0,1,0,0,1,1,0,0,1,1,0,1,1,1,1,1] Cz):=by intro k e v1 a c d b;unfold Vy;kernel_rfl
noncomputable def Vz{R:Type}(o:By)(v1 a l m:Int)(r:Bool)(f:By->Int->Int->Int->Option R)(q:Unit->Option R):Option R:=cond r (vl (wu8 ((wu8 (a-97))+10)) λg=>vl (bOr .u16 (Rn .u16 v1 (4:Int)) (Nj g)) λh=>f o h l m) (cond (not (ltI a 65)) (Vy o v1 a l m (not (ltI 70 a)) (λn p i j=>f n p i j) (λ_=>q ())) (Vy o v1 a l m false (λd e b c=>f d e b c) (λ_=>q ())))
abbrev AO(b:Code):Prop:=∀(k:Out->St Z->Option R) c v1 b2 a n4 b5,A9 (Af L) Q Y b ⟨gp [(0,pS c),(3,p16 v1),(1,p8 b2),(8,pI a),(0,pI n4),(18,pB b5)] 29,[],s⟩ k=Vz c v1 b2 a n4 b5 (λc v1 d a=>k .normal ⟨gp [(0,pS c),(3,p16 v1),(10,pI d),(0,pI a)] 48,[],s⟩) (λ_=>k .ret ⟨gp [(2,p16 (0:Int)),(0,pB false)] 61,[],s⟩)
theorem A05(a:Code)(b:OU (R:=R) L Q Y s a):AO (R:=R) L Q Y s (cd [1,1,1,0,1,0,0,1,1,0,0,1,1,0,1,1,1] (G4 [1,1,1,0,1,0,0,1,1,0,0,1,1,0,1,1,1,1,1] a Cz)):=by intro k g v1 c e f d;unfold Vz;simp only[<-b k];kernel_rfl
theorem A06:AO (R:=R) L Q Y s (cd [1,1,1,0,1,0,0,1,1,0,0,1,1,0,1,1,1] Cz):=by intro k e v1 a c d b;exact j2 (by kernel_rfl) (A05 L Q Y s (cd [1,1,1,0,1,0,0,1,1,0,0,1,1,0,1,1,1,1,1] Cz) (A04 L Q Y s) k e v1 a c d b)
noncomputable def Wa{R:Type}(p:By)(v1 a n o:Int)(r:Bool)(j:By->Int->Int->Int->Option R)(q:Unit->Option R):Option R:=cond r (vl (Nj (wu8 (a-48))) λl=>vl (bOr .u16 (Rn .u16 v1 (4:Int)) l) λm=>j p m n o) (cond (not (ltI a 97)) (Vz p v1 a n o (not (ltI 102 a)) (λf h b c=>j f h b c) (λ_=>q ())) (Vz p v1 a n o false (λg i d e=>j g i d e) (λ_=>q ())))
abbrev Qt(b:Code):Prop:=∀(k:Out->St Z->Option R) c v1 b2 a n4 b5,A9 (Af L) Q Y b ⟨gp [(0,pS c),(3,p16 v1),(1,p8 b2),(8,pI a),(0,pI n4),(5,pB b5)] 42,[],s⟩ k=Wa c v1 b2 a n4 b5 (λc v1 d a=>k .normal ⟨gp [(0,pS c),(3,p16 v1),(10,pI d),(0,pI a)] 48,[],s⟩) (λ_=>k .ret ⟨gp [(2,p16 (0:Int)),(0,pB false)] 61,[],s⟩)
theorem A07(a:Code)(b:AO (R:=R) L Q Y s a):Qt (R:=R) L Q Y s (cd [1,1,1,0,1,0,0,1,1,0,0,1,1,0,1] (G4 [1,1,1,0,1,0,0,1,1,0,0,1,1,0,1,1,1] a Cz)):=by intro k g v1 c e f d;unfold Wa;simp only[<-b k];kernel_rfl
theorem A08:Qt (R:=R) L Q Y s (cd [1,1,1,0,1,0,0,1,1,0,0,1,1,0,1] Cz):=by intro k e v1 a c d b;exact j2 (by kernel_rfl) (A07 L Q Y s (cd [1,1,1,0,1,0,0,1,1,0,0,1,1,0,1,1,1] Cz) (A06 L Q Y s) k e v1 a c d b)
noncomputable def Fj{R:Type}(L n:Nat)(b:By)(v1 q a:Int)(o:Unit->Option R)(p:Int->Option R):Option R:=match n with|0=>none|n+1=>cond (ltI a q) (cond (inR a b.length) (cond (not (ltI (bAt b a) (48:Int))) (Wa b v1 (bAt b a) q a (not (ltI 57 (bAt b a))) (λi l c d=>vl (A1 (d+1)) λe=>Fj L n i l c e o p) (λ_=>o ())) (Wa b v1 (bAt b a) q a false (λj m f g=>vl (A1 (g+1)) λh=>Fj L n j m f h o p) (λ_=>o ()))) none) (p v1)
theorem A09(a:Code)(b:Qt (R:=R) L Q Y s a)(n:Nat)(d:By)(v1 i c:Int):D0 0 ((Af L).keep 5) (bd (Af L) Q Y (cd [1,1,1,0,1,0,0] (G4 [1,1,1,0,1,0,0,1,1,0,0,1,1,0,1] a Cz))) n ⟨gp [(0,pS d),(3,p16 v1),(10,pI i),(0,pI c)] 48,[],s⟩ k =
 Fj L n d v1 i c (λ_=>k .ret ⟨gp [(2,p16 (0:Int)),(0,pB false)] 61,[],s⟩) (λv0=>k (.exit 0) ⟨gp [(4,p16 v0)] 60,[],s⟩):=by
 induction n generalizing d v1 i c with
 | zero=>rfl
 | succ n q=>rw[Fj];exact let p:=(E5 2 (E5 1 (E4 (Af L) Q Y (cd [1,1,1,0,1,0,0,1,1,1] Cz) (lpK 0 ((Af L).keep 5) (bd (Af L) Q Y (cd [1,1,1,0,1,0,0] (G4 [1,1,1,0,1,0,0,1,1,0,0,1,1,0,1] a Cz))) n k))));(j2 (by kernel_rfl) (A0 (A0 (A0 ((b p d v1 (bAt d c) i c (not (ltI 57 (bAt d c)))).trans (congr (congr rfl (fx4 λj m e r=>(j2 (by kernel_rfl) (A4 λf=>(q j m e f))))) (by kernel_rfl))) ((b p d v1 (bAt d c) i c false).trans (congr (congr rfl (fx4 λl o g t=>(j2 (by kernel_rfl) (A4 λh=>(q l o g h))))) (by kernel_rfl)))) rfl) rfl))
noncomputable def Ci5{R:Type}(L:Nat)(c:By)(b:Int->Bool->Option R):Option R:=cond (c==[]) (b 0 false) (cond (ltI 4 (c.length:Int)) (b 0 false) (Fj L L c 0 (c.length:Int) 0 (λ_=>b 0 false) (λa=>b a true)))
theorem C41(a:Code)(b:Qt (R:=PV × List Blk × Z) L Q Y s a)(c:By):A9 (Af L) Q Y (cd [] (G4 [1,1,1,0,1,0,0,1,1,0,0,1,1,0,1] a Cz)) ⟨[pS c]++tps 64,[],s⟩ (F6 (Af L) ae4)=Ci5 L c (λd e=>some (.tup [p16 d,pB e],[],s)):=by unfold Ci5;exact(j2 (by kernel_rfl) (A0 rfl (A0 rfl ((A09 L Q Y s (E5 0 (E4 (Af L) Q Y (cd [1,1,1,1] Cz) (F6 (Af L) ae4))) a b L c 0 (c.length:Int) 0).trans (by kernel_rfl)))))
theorem C42(d:Nat)(s0):evC (Af L) (d+1) Z Y 254 [pS s0] [] s=Ci5 L s0 (λa b=>some (.tup [p16 a,pB b],[],s)):=
 (evE (fn:=ae4) (by kernel_rfl)).trans (j2 (by kernel_rfl) (C41 L (evC (Af L) d) Y s (cd [1,1,1,0,1,0,0,1,1,0,0,1,1,0,1] Cz) (A08 L (evC (Af L) d) Y s) s0))
noncomputable abbrev Bn2:Code:=C8 ag8
noncomputable def Lp(L:Nat):Cfg:=B7 L [240] (A2 [(6,[1,2,0,0,0,10,0,0])]) [(176,Uz),(254,Cb8),(255,Dk2)] (A2 [(16,[4,0]),(15,[1,4,0,10,0,0]),(14,[6]),(13,[4,0]),(12,[6,5,39]),(11,[1,4,0,0,3,0]),(10,[1,4,0,10,0,0]),(9,[1,4,0,0,0,0,7,0,0,9]),(8,[1,4,0,0,0,0,0,6,0,0]),(7,[1,4,0,0,0,8,0,0]),(6,[1,4,0,10,0,0,0]),(5,[1,4,0,10,0,0]),(4,[1,4,0]),(3,[0,0,4]),(2,[4,0]),(1,[0,0,13]),(0,[0,0])]) [254,255] (A2 [(0,[6]),(1,[1,4,0,10,0,0])]) (some [4,0]) [] [] []
noncomputable def Ek{R:Type}(L n:Nat)(a:Bool)(c:LL)(l b:Int)(d:LL)(f:LL->Option R)(g:LL->Option R):Option R:=match n with|0=>none|n+1=>cond (ltI b l) (cond (inR b c.length) (cond (okE Oa c (b9 b) 0) (cond (A3 (a8 (gX c (b9 b) 0))) (vl (↑(N5 (grp (gX c (b9 b) 0))):Int) λh=>cond (j4 (grp (gX c (b9 b) 0))) (cond (F9 (d.length+1)) (Ek L n a c l (A1 (b+1)) (d++[[(SV.int .u16 h)]]) f g) none) (cond (A3 (a8 (gX c (b9 b) 0))) (vl (↑(N5 (v4B (gX c (b9 b) 0))):Int) λe=>cond (not (j4 (v4B (gX c (b9 b) 0)))) (f d) (cond (not a) (f d) (vl (A1 ((c.length:Int)-1)) λi=>cond (ltI b i) (f d) (vl (EJ .u32 e (16:Int)) λj=>cond (F9 (d.length+2)) (g (d++[[(SV.int .u16 (Nj j))],[(SV.int .u16 (Nj e))]])) none)))) none)) none) none) none) (g d)
theorem Ae4(n last0 l1 n2 n3 l4):D0 1 ((Lp L).keep 6) (bd (Lp L) Q Y (cd [1,0,1,1,1,1,0,1,0,0] Bn2)) n ⟨gp [(1,pB last0),(4,.fl 0),(0,.s (.sl false false 1 l1)),(10,.s (.sl false false 1 l1)),(0,pI n2),(0,pI n3)] 42,[.arr true 25 1 l4],s⟩ k =
 Ek L n last0 l1 n2 n3 l4 (λa=>k .ret ⟨gp [(4,.fl 1),(0,pB false)] 57,[.arr true 25 1 a,.arr true 25 1 []],s⟩) (λa=>k (.exit 0) ⟨gp [(6,.fl 0)] 56,[.arr true 25 1 a],s⟩):=by
 induction n generalizing last0 l1 n2 n3 l4 with
 | zero=>rfl
 | succ n b=>rw[Ek];simp only[<-b];kernel_rfl
noncomputable def Bo6{R:Type}(L:Nat)(e:By)(a:Bool)(f:LL->Option R)(g:LL->Option R):Option R:=cond (e==[]) (f []) (cond (A3 e.length) (cond (1==1) (vl (D2 (pcs (b8 ([58]:List UInt8) 0 0) e)) λb=>Ek L L a b (b.length:Int) 0 [] (λd=>g d) (λc=>f c)) none) none)
theorem Ci6(d:Nat)(s0 last1):evC (Lp L) (d+1) Z Y 240 [pS s0,pB last1] [] s=Bo6 L s0 last1 (λb=>some (.tup [.fl 0,pB true],[.arr true 25 1 b],s)) (λb=>some (.tup [.fl 1,pB false],[.arr true 25 1 b,.arr true 25 1 []],s)):=by refine(evE (fn:=ag8) (by kernel_rfl)).trans ?_;generalize evC (Lp L) d=Q;unfold Bo6;exact(j2 (by kernel_rfl) (A0 rfl (A0 (A0 (A4 λa=>((Ae4 L Q Y s (E5 0 (E4 (Lp L) Q Y (cd [1,0,1,1,1,1,1] Bn2) (F6 (Lp L) ag8))) L last1 a (a.length:Int) 0 []).trans (by kernel_rfl))) rfl) rfl)))
noncomputable abbrev Cf9:Code:=C8 ae2
noncomputable def CG(L:Nat):Cfg:=B7 L [219] (A2 []) [(73,Au1),(240,Bk4)] (A2 [(10,[2,0]),(9,[2,1]),(8,[2,1,5]),(7,[2,0]),(6,[2,1,3,1,45]),(5,[2,1,2,0,0,0,0,0]),(4,[2,1,2,0,0,0,0]),(3,[2,1,1,0,0,0]),(2,[2,1,0,0,0]),(1,[0,1,1]),(0,[0,1])]) [73] (A2 []) (some [2,0]) [] [] []
noncomputable def Qa{R:Type}(p o d:LL)(q:LL->LL->Option R):Option R:=cond (decide (d.length=8)) (cond (decide (8<=d.length)) (vl ((x9 0 d)++((x9 8 p)++(ac7 (0+(min p.length 8)) d))) λc=>vl (A1 ((8:Int)-(o.length:Int))) λb=>cond (decide (c.length=8)) (cond (I9 b (8:Int) 8) (cond (decide (((b9 b)+(8-(b9 b)))<=c.length)) (vl ((x9 (b9 b) c)++((x9 (8-(b9 b)) o)++(ac7 ((b9 b)+(min o.length (8-(b9 b)))) c))) λa=>cond ((decide (8=(a.length*1)))&&(okS ⟨true,true,[.int .u16,.int .u16,.int .u16,.int .u16,.int .u16,.int .u16,.int .u16,.int .u16]⟩ (j0 a) 0)) (vl (SV.gI (b8 (j0 a) 0 SV.nilp)) λf=>vl (SV.gI (b8 (j0 a) 1 SV.nilp)) λg=>vl (SV.gI (b8 (j0 a) 2 SV.nilp)) λh=>vl (SV.gI (b8 (j0 a) 3 SV.nilp)) λi=>vl (SV.gI (b8 (j0 a) 4 SV.nilp)) λj=>vl (SV.gI (b8 (j0 a) 5 SV.nilp)) λl=>vl (SV.gI (b8 (j0 a) 6 SV.nilp)) λm=>vl (SV.gI (b8 (j0 a) 7 SV.nilp)) λn=>cond (decide (8=(d.length*1))) (vl (T8 1 d.length [(SV.int .u16 f),(SV.int .u16 g),(SV.int .u16 h),(SV.int .u16 i),(SV.int .u16 j),(SV.int .u16 l),(SV.int .u16 m),(SV.int .u16 n)]) λe=>q e a) none) none) none) none) none) none) none
abbrev Aq8(b:Code):Prop:=∀(k:Out->St Z->Option R) x_z0 x1 y_z2 y3 b4 l5,A9 (CG L) Q Y b ⟨gp [(2,.ptr 0 0 0),(1,.ptr 1 0 0),(3,.s (.sl x_z0 x_z0 1 x1)),(1,.s (.sl y_z2 y_z2 1 y3)),(45,pB b4)] 11,[.arr false 26 1 l5,.arr false 26 1 l5],s⟩ k=Qa x1 y3 l5 (λa c=>k .ret ⟨gp [(2,.ptr 0 0 0),(0,pB true)] 64,[.arr false 26 1 a,.arr false 26 1 c],s⟩)
theorem B98:Aq8 (R:=R) L Q Y s (cd [1,1,1,1,1,1,1] Cf9):=by intro k a e b f c d;unfold Qa;kernel_rfl
noncomputable def v6p{R:Type}(L:Nat)(h:By)(g:Int->Int->Int->Int->Int->Int->Int->Int->Bool->LL->LL->Option R):Option R:=cond (A3 h.length) (vl ((w6 h ([58,58]:List UInt8))).1 λj=>vl (((w6 h ([58,58]:List UInt8))).2).1 λe=>cond (A3 j.length) (vl (D8 (gvs j (not (((w6 h ([58,58]:List UInt8))).2).2))) λf=>cond (A3 e.length) (vl (A1 ((f.length:Int)+(↑(a8 (D8 (gvs e true))):Int))) λi=>cond (not (j4 (P2 j (not (((w6 h ([58,58]:List UInt8))).2).2)))) (g 0 0 0 0 0 0 0 0 false (j1 8 [(SV.int .u16 (0:Int))]) (j1 8 [(SV.int .u16 (0:Int))])) (cond (not (j4 (P2 e true))) (g 0 0 0 0 0 0 0 0 false (j1 8 [(SV.int .u16 (0:Int))]) (j1 8 [(SV.int .u16 (0:Int))])) (cond (not (((w6 h ([58,58]:List UInt8))).2).2) (cond (i !=8) (g 0 0 0 0 0 0 0 0 false (j1 8 [(SV.int .u16 (0:Int))]) (j1 8 [(SV.int .u16 (0:Int))])) (cond (((w6 h ([58,58]:List UInt8))).2).2 (cond (ltI 7 i) (g 0 0 0 0 0 0 0 0 false (j1 8 [(SV.int .u16 (0:Int))]) (j1 8 [(SV.int .u16 (0:Int))])) (Qa f (D8 (gvs e true)) (j1 8 [(SV.int .u16 (0:Int))]) (λa l=>cond ((decide (8=(a.length*1)))&&(okS ⟨true,true,[.int .u16,.int .u16,.int .u16,.int .u16,.int .u16,.int .u16,.int .u16,.int .u16]⟩ (j0 a) 0)) (g (SV.gI (b8 (j0 a) 0 SV.nilp)) (SV.gI (b8 (j0 a) 1 SV.nilp)) (SV.gI (b8 (j0 a) 2 SV.nilp)) (SV.gI (b8 (j0 a) 3 SV.nilp)) (SV.gI (b8 (j0 a) 4 SV.nilp)) (SV.gI (b8 (j0 a) 5 SV.nilp)) (SV.gI (b8 (j0 a) 6 SV.nilp)) (SV.gI (b8 (j0 a) 7 SV.nilp)) true a l) none))) (Qa f (D8 (gvs e true)) (j1 8 [(SV.int .u16 (0:Int))]) (λb m=>cond ((decide (8=(b.length*1)))&&(okS ⟨true,true,[.int .u16,.int .u16,.int .u16,.int .u16,.int .u16,.int .u16,.int .u16,.int .u16]⟩ (j0 b) 0)) (g (SV.gI (b8 (j0 b) 0 SV.nilp)) (SV.gI (b8 (j0 b) 1 SV.nilp)) (SV.gI (b8 (j0 b) 2 SV.nilp)) (SV.gI (b8 (j0 b) 3 SV.nilp)) (SV.gI (b8 (j0 b) 4 SV.nilp)) (SV.gI (b8 (j0 b) 5 SV.nilp)) (SV.gI (b8 (j0 b) 6 SV.nilp)) (SV.gI (b8 (j0 b) 7 SV.nilp)) true b m) none)))) (cond (((w6 h ([58,58]:List UInt8))).2).2 (cond (ltI 7 i) (g 0 0 0 0 0 0 0 0 false (j1 8 [(SV.int .u16 (0:Int))]) (j1 8 [(SV.int .u16 (0:Int))])) (Qa f (D8 (gvs e true)) (j1 8 [(SV.int .u16 (0:Int))]) (λc n=>cond ((decide (8=(c.length*1)))&&(okS ⟨true,true,[.int .u16,.int .u16,.int .u16,.int .u16,.int .u16,.int .u16,.int .u16,.int .u16]⟩ (j0 c) 0)) (g (SV.gI (b8 (j0 c) 0 SV.nilp)) (SV.gI (b8 (j0 c) 1 SV.nilp)) (SV.gI (b8 (j0 c) 2 SV.nilp)) (SV.gI (b8 (j0 c) 3 SV.nilp)) (SV.gI (b8 (j0 c) 4 SV.nilp)) (SV.gI (b8 (j0 c) 5 SV.nilp)) (SV.gI (b8 (j0 c) 6 SV.nilp)) (SV.gI (b8 (j0 c) 7 SV.nilp)) true c n) none))) (Qa f (D8 (gvs e true)) (j1 8 [(SV.int .u16 (0:Int))]) (λd o=>cond ((decide (8=(d.length*1)))&&(okS ⟨true,true,[.int .u16,.int .u16,.int .u16,.int .u16,.int .u16,.int .u16,.int .u16,.int .u16]⟩ (j0 d) 0)) (g (SV.gI (b8 (j0 d) 0 SV.nilp)) (SV.gI (b8 (j0 d) 1 SV.nilp)) (SV.gI (b8 (j0 d) 2 SV.nilp)) (SV.gI (b8 (j0 d) 3 SV.nilp)) (SV.gI (b8 (j0 d) 4 SV.nilp)) (SV.gI (b8 (j0 d) 5 SV.nilp)) (SV.gI (b8 (j0 d) 6 SV.nilp)) (SV.gI (b8 (j0 d) 7 SV.nilp)) true d o) none)))))) none) none) none
theorem Ds0(b:Code)(a:Aq8 (R:=PV × List Blk × Z) L Q Y s b)(f:By):A9 (CG L) Q Y (cd [] (G4 [1,1,1,1,1,1,1] b Cf9)) ⟨[pS f]++tps 67,[],s⟩ (F6 (CG L) ae2)=v6p L f (λj l m n o p q r r8 i l10=>some (.tup [.agg [p16 j,p16 l,p16 m,p16 n,p16 o,p16 p,p16 q,p16 r],pB r8],[.arr false 26 1 i,.arr false 26 1 l10],s)):=by unfold v6p;exact let h:=(F6 (CG L) ae2);(j2 (by kernel_rfl) (A0 (A4 λe=>(A4 λc=>(A0 (A4 λd=>(A0 (A4 λg=>(A0 rfl (A0 rfl (A0 (A0 rfl (A0 (A0 rfl ((a h (j9 (gvs e (not (((w6 f ([58,58]:List UInt8))).2).2))) d (j9 (gvs c true)) (D8 (gvs c true)) (ltI 7 g) (j1 8 [(SV.int .u16 (0:Int))])).trans (by kernel_rfl))) ((a h (j9 (gvs e (not (((w6 f ([58,58]:List UInt8))).2).2))) d (j9 (gvs c true)) (D8 (gvs c true)) false (j1 8 [(SV.int .u16 (0:Int))])).trans (by kernel_rfl)))) (A0 (A0 rfl ((a h (j9 (gvs e (not (((w6 f ([58,58]:List UInt8))).2).2))) d (j9 (gvs c true)) (D8 (gvs c true)) (ltI 7 g) (j1 8 [(SV.int .u16 (0:Int))])).trans (by kernel_rfl))) ((a h (j9 (gvs e (not (((w6 f ([58,58]:List UInt8))).2).2))) d (j9 (gvs c true)) (D8 (gvs c true)) false (j1 8 [(SV.int .u16 (0:Int))])).trans (by kernel_rfl))))))) rfl)) rfl))) rfl))
theorem Ds1(d:Nat)(s0):evC (CG L) (d+1) Z Y 219 [pS s0] [] s=v6p L s0 (λb c e f g h i j r8 a l10=>some (.tup [.agg [p16 b,p16 c,p16 e,p16 f,p16 g,p16 h,p16 i,p16 j],pB r8],[.arr false 26 1 a,.arr false 26 1 l10],s)):=
 (evE (fn:=ae2) (by kernel_rfl)).trans (j2 (by kernel_rfl) (Ds0 L (evC (CG L) d) Y s (cd [1,1,1,1,1,1,1] Cf9) (B98 L (evC (CG L) d) Y s) s0))
noncomputable abbrev Qm:Code:=C8 ag3
noncomputable def Z1(L:Nat):Cfg:=B7 L [204] (A2 [(6,[1,0,0,0,0,0,0,0]),(3,[1,0,0,0,0,2])]) [] (A2 [(11,[2,0]),(10,[1,2,0,2]),(9,[1,2,0,2]),(8,[1,2,0,0,0,0,18]),(7,[1,2,0,0,0,0]),(6,[1,2,0,0,0,0,13]),(5,[1,2,0,0,0,0]),(4,[1,2,0,0,1]),(3,[1,2,0,2,0]),(2,[1,2,0,2]),(1,[1,2,0]),(0,[1])]) [] (A2 [(0,[4,0]),(1,[1,2,0,2]),(2,[1,2,0,0,0,0]),(3,[1,2,0,0,0,0])]) (some [2,0]) [] [] []
noncomputable def Ii{R:Type}(L n:Nat)(b a c d:Int)(e:LL)(f:Int->Int->Int->Int->LL->Option R):Option R:=match n with|0=>none|n+1=>cond (ltI (A1 (c+d)) (8:Int)) (cond (inR (A1 (c+d)) 8) (cond (okE ⟨true,false,[.int .u16]⟩ e (b9 (A1 (c+d))) 0) (vl (gE e (b9 (A1 (c+d))) 0) λg=>cond (g==0) (Ii L n b a c (A1 (d+1)) e f) (f b a c d e)) none) none) (f b a c d e)
theorem Ar9(n b a c e d):D0 1 ((Z1 L).keep 6) (bd (Z1 L) Q Y (cd [1,1,0,1,0,0,1,1,0,0,1,1,0,0,0] Qm)) n ⟨gp [(1,.ptr 0 0 0),(2,pI b),(0,pI a),(0,pI c),(0,pI e),(0,pI c)] 24,[.arr false 26 1 d],s⟩ k =
 Ii L n b a c e d (λb a c e d=>k (.exit 2) ⟨gp [(1,.ptr 0 0 0),(2,pI b),(0,pI a),(0,pI c),(0,pI e),(0,pI c)] 24,[.arr false 26 1 d],s⟩):=by
 induction n generalizing b a c e d with
 | zero=>rfl
 | succ n f=>rw[Ii];simp only[<-f];kernel_rfl
noncomputable def Ew{R:Type}(L n:Nat)(e b j:Int)(i:LL)(h:Int->Int->LL->Option R):Option R:=match n with|0=>none|n+1=>cond (ltI j 8) (Ii L L e b j 0 i (λd a c g f=>cond (ltI a g) (Ew L n c g (A1 (c+1)) f h) (Ew L n d a (A1 (c+1)) f h))) (h e b i)
theorem As0(n b a n2 l3):D0 1 ((Z1 L).keep 3) (bd (Z1 L) Q Y (cd [1,1,0,1,0,0] Qm)) n ⟨gp [(1,.ptr 0 0 0),(2,pI b),(0,pI a),(2,pI n2)] 24,[.arr false 26 1 l3],s⟩ k =
 Ew L n b a n2 l3 (λb a i=>k (.exit 0) ⟨gp [(4,pI b),(0,pI a)] 27,[.arr false 26 1 i],s⟩):=by
 induction n generalizing b a n2 l3 with
 | zero=>rfl
 | succ n h=>rw[Ew];exact(j2 (by kernel_rfl) (A0 ((Ar9 L Q Y s (E5 2 (E4 (Z1 L) Q Y (cd [1,1,0,1,0,0,1,1,0,0,1,1,1] Qm) (E5 1 (E4 (Z1 L) Q Y (cd [1,1,0,1,0,0,1,1,1] Qm) (lpK 1 ((Z1 L).keep 3) (bd (Z1 L) Q Y (cd [1,1,0,1,0,0] Qm)) n k))))) L b a n2 0 l3).trans (congr rfl (fx5 λe c d g f=>(j2 (by kernel_rfl) (A0 (h d g (A1 (d+1)) f) (h e c (A1 (d+1)) f)))))) rfl))
noncomputable def Bu8{R:Type}(L:Nat)(d e f g h i j l:Int)(m:Int->Int->LL->Option R):Option R:=Ew L L 0 0 0 [[(SV.int .u16 d)],[(SV.int .u16 e)],[(SV.int .u16 f)],[(SV.int .u16 g)],[(SV.int .u16 h)],[(SV.int .u16 i)],[(SV.int .u16 j)],[(SV.int .u16 l)]] (λb a c=>m b a c)
theorem Cz9(d:Nat)(a0 a1 a2 a3 a4 a5 a6 a7):evC (Z1 L) (d+1) Z Y 204 [.agg [p16 a0,p16 a1,p16 a2,p16 a3,p16 a4,p16 a5,p16 a6,p16 a7]] [] s=Bu8 L a0 a1 a2 a3 a4 a5 a6 a7 (λb c a=>some (.tup [pI b,pI c],[.arr false 26 1 a],s)):=by refine(evE (fn:=ag3) (by kernel_rfl)).trans ?_;generalize evC (Z1 L) d=Q;unfold Bu8;exact(j2 (by kernel_rfl) ((As0 L Q Y s (E5 0 (E4 (Z1 L) Q Y (cd [1,1,1] Qm) (F6 (Z1 L) ag3))) L 0 0 0 [[(SV.int .u16 a0)],[(SV.int .u16 a1)],[(SV.int .u16 a2)],[(SV.int .u16 a3)],[(SV.int .u16 a4)],[(SV.int .u16 a5)],[(SV.int .u16 a6)],[(SV.int .u16 a7)]]).trans (by kernel_rfl)))
noncomputable abbrev Dk9:Code:=C8 ag4
noncomputable def IQ(L:Nat):Cfg:=B7 L [205] (A2 [(3,[2,0,2,0,0])]) [(227,Cb7),(202,TQ)] (A2 [(7,[2]),(6,[3,2,0,0]),(5,[3,2,0,0]),(4,[3,1,0,0,0]),(3,[3,2,0,0,0]),(2,[3,2,0,0]),(1,[0,2]),(0,[0])]) [227,202] (A2 [(0,[3]),(1,[3,2,0,0])]) (some [2]) [] [] []
noncomputable def Ut{R:Type}(L n:Nat)(h g:Bool)(c:LL)(f b:Int)(d:LL)(e:LL->Option R):Option R:=match n with|0=>none|n+1=>cond (ltI b f) (cond (inR b c.length) (cond (okE ⟨true,false,[.int .u16]⟩ c (b9 b) 0) (vl (Ds4 (gE c (b9 b) 0)) λa=>cond (ltN a 65536) (cond ((16:Int)==16) (cond (F9 (d.length+1)) (Ut L n h g c f (A1 (b+1)) (d++[[(SV.str (V5 (b9 a)))]]) e) none) none) none) none) none) (e d)
theorem B97(n z0 t1 l2 n3 n4 l5):D0 1 ((IQ L).keep 3) (bd (IQ L) Q Y (cd [1,1,0,1,0,0] Dk9)) n ⟨gp [(3,.fl 0),(2,.s (.sl z0 t1 1 l2)),(0,pI n3),(0,pI n4)] 12,[.arr true 9 1 l5],s⟩ k =
 Ut L n z0 t1 l2 n3 n4 l5 (λb=>k (.exit 0) ⟨gp [(3,.fl 0)] 17,[.arr true 9 1 b],s⟩):=by
 induction n generalizing z0 t1 l2 n3 n4 l5 with
 | zero=>rfl
 | succ n a=>rw[Ut];simp only[<-a];kernel_rfl
noncomputable def v6j{R:Type}(L:Nat)(c b:Bool)(e:LL)(f:By->LL->Option R):Option R:=Ut L L c b e (e.length:Int) 0 [] (λa=>cond (w8 a isS) (cond (A3 (a8 (ac4 (p4 elS a) ([58]:List UInt8)))) (cond (A3 a.length) (vl (ac4 (p4 elS a) ([58]:List UInt8)) λd=>f d a) none) none) none)
theorem Dr8(d:Nat)(l_z0 l_t1 l2):evC (IQ L) (d+1) Z Y 205 [.s (.sl l_z0 l_t1 1 l2)] [] s=v6j L l_z0 l_t1 l2 (λb a=>some (pS b,[.arr true 9 1 a],s)):=by refine(evE (fn:=ag4) (by kernel_rfl)).trans ?_;generalize evC (IQ L) d=Q;unfold v6j;exact(j2 (by kernel_rfl) ((B97 L Q Y s (E5 0 (E4 (IQ L) Q Y (cd [1,1,1] Dk9) (F6 (IQ L) ag4))) L l_z0 l_t1 l2 (l2.length:Int) 0 []).trans (by kernel_rfl)))
noncomputable def Cg4(L:Nat):Cfg:=B7 L [168] (A2 []) [(204,Bm9),(205,Dk4)] (A2 [(4,[2]),(3,[2]),(2,[1,1,0,6]),(1,[1,1,0]),(0,[1])]) [204,205] (A2 []) (some [2]) [] [] []
noncomputable def v6f{R:Type}(L:Nat)(c d e f g h i j:Int)(p:By->LL->Option R):Option R:=cond (ok8 c d e f g h i j) (vl (↑((zGo (n8 c d e f g h i j) 0 0 0)).1:Int) λa=>vl (↑((zGo (n8 c d e f g h i j) 0 0 0)).2:Int) λb=>cond (ltI b 2) (cond (w8 [[(SV.int .u16 c)],[(SV.int .u16 d)],[(SV.int .u16 e)],[(SV.int .u16 f)],[(SV.int .u16 g)],[(SV.int .u16 h)],[(SV.int .u16 i)],[(SV.int .u16 j)]] Wi) (cond (p9 8 8) (vl (O4 (p4 elN [[(SV.int .u16 c)],[(SV.int .u16 d)],[(SV.int .u16 e)],[(SV.int .u16 f)],[(SV.int .u16 g)],[(SV.int .u16 h)],[(SV.int .u16 i)],[(SV.int .u16 j)]])) λo=>p o [[(SV.int .u16 c)],[(SV.int .u16 d)],[(SV.int .u16 e)],[(SV.int .u16 f)],[(SV.int .u16 g)],[(SV.int .u16 h)],[(SV.int .u16 i)],[(SV.int .u16 j)]]) none) none) (cond (I9 0 a 8) (cond (w8 (x9 ((b9 a)-0) [[(SV.int .u16 c)],[(SV.int .u16 d)],[(SV.int .u16 e)],[(SV.int .u16 f)],[(SV.int .u16 g)],[(SV.int .u16 h)],[(SV.int .u16 i)],[(SV.int .u16 j)]]) Wi) (cond (p9 (a8 (x9 ((b9 a)-0) [[(SV.int .u16 c)],[(SV.int .u16 d)],[(SV.int .u16 e)],[(SV.int .u16 f)],[(SV.int .u16 g)],[(SV.int .u16 h)],[(SV.int .u16 i)],[(SV.int .u16 j)]])) 8) (vl (O4 (p4 elN (x9 ((b9 a)-0) [[(SV.int .u16 c)],[(SV.int .u16 d)],[(SV.int .u16 e)],[(SV.int .u16 f)],[(SV.int .u16 g)],[(SV.int .u16 h)],[(SV.int .u16 i)],[(SV.int .u16 j)]]))) λl=>cond (L6 l.length 2) (vl (l++[58,58]) λm=>cond (I9 (A1 (a+b)) (8:Int) 8) (cond (w8 (x9 (8-(b9 (A1 (a+b)))) (ac7 (b9 (A1 (a+b))) [[(SV.int .u16 c)],[(SV.int .u16 d)],[(SV.int .u16 e)],[(SV.int .u16 f)],[(SV.int .u16 g)],[(SV.int .u16 h)],[(SV.int .u16 i)],[(SV.int .u16 j)]])) Wi) (cond (p9 (a8 (x9 (8-(b9 (A1 (a+b)))) (ac7 (b9 (A1 (a+b))) [[(SV.int .u16 c)],[(SV.int .u16 d)],[(SV.int .u16 e)],[(SV.int .u16 f)],[(SV.int .u16 g)],[(SV.int .u16 h)],[(SV.int .u16 i)],[(SV.int .u16 j)]]))) 8) (vl (O4 (p4 elN (x9 (8-(b9 (A1 (a+b)))) (ac7 (b9 (A1 (a+b))) [[(SV.int .u16 c)],[(SV.int .u16 d)],[(SV.int .u16 e)],[(SV.int .u16 f)],[(SV.int .u16 g)],[(SV.int .u16 h)],[(SV.int .u16 i)],[(SV.int .u16 j)]])))) λn=>cond (L6 m.length n.length) (p (m++n) [[(SV.int .u16 c)],[(SV.int .u16 d)],[(SV.int .u16 e)],[(SV.int .u16 f)],[(SV.int .u16 g)],[(SV.int .u16 h)],[(SV.int .u16 i)],[(SV.int .u16 j)]]) none) none) none) none) none) none) none) none)) none
theorem Dr6(d:Nat)(a0 a1 a2 a3 a4 a5 a6 a7):evC (Cg4 L) (d+1) Z Y 168 [.agg [p16 a0,p16 a1,p16 a2,p16 a3,p16 a4,p16 a5,p16 a6,p16 a7]] [] s=v6f L a0 a1 a2 a3 a4 a5 a6 a7 (λb a=>some (pS b,[.arr false 26 1 a],s)):=by refine(evE (fn:=Tryz.f168) (by kernel_rfl)).trans ?_;generalize evC (Cg4 L) d=Q;unfold v6f;kernel_rfl
noncomputable abbrev Da:Code:=C8 ae0
noncomputable def Ah(L:Nat):Cfg:=B7 L [209] (A2 [(5,[0,1,0,0,0])]) [] (A2 [(15,[2,0]),(6,[0,3,0]),(10,[0,3,0]),(12,[0,3,0]),(14,[0,3,0]),(8,[2,0]),(13,[0,3,0,0,44]),(11,[0,3,0,0,30]),(9,[0,3,0,0,17]),(7,[0,3,0,0]),(5,[0,3,0,12]),(4,[0,3,0]),(3,[0,3]),(2,[2,0]),(1,[0,13]),(0,[0])]) [] (A2 [(0,[4]),(1,[0,3,0]),(2,[0,3,0])]) (some [2,0]) [] [] []
noncomputable def Xd{R:Type}(j:By)(i f d:Int)(e:Bool)(g:By->Int->Int->Option R)(h:Unit->Option R):Option R:=cond e (vl (A1 (wu8 (d-65))) λa=>vl (A1 ((A1 (i*16))+a)) λb=>vl (A1 (b+10)) λc=>g j c f) (h ())
abbrev QB(b:Code):Prop:=∀(k:Out->St Z->Option R) d c a b3 b4,A9 (Ah L) Q Y b ⟨gp [(0,pS d),(3,pI c),(0,pI a),(0,p8 b3),(44,pB b4)] 15,[],s⟩ k=Xd d c a b3 b4 (λd c a=>k .normal ⟨gp [(0,pS d),(3,pI c),(0,pI a)] 61,[],s⟩) (λ_=>k .ret ⟨gp [(2,p16 (0:Int)),(0,pB false)] 63,[],s⟩)
theorem A94:QB (R:=R) L Q Y s (cd [1,1,1,0,1,0,0,1,0,0,1,0,1,1,1,1,1] Da):=by intro k e d c a b;unfold Xd;kernel_rfl
noncomputable def Xe{R:Type}(o:By)(m f a:Int)(q:Bool)(g:By->Int->Int->Option R)(p:Unit->Option R):Option R:=cond q (vl (A1 (wu8 (a-97))) λh=>vl (A1 ((A1 (m*16))+h)) λi=>vl (A1 (i+10)) λj=>g o j f) (cond (not (ltI a 65)) (Xd o m f a (not (ltI 70 a)) (λn l b=>g n l b) (λ_=>p ())) (Xd o m f a false (λe d c=>g e d c) (λ_=>p ())))
abbrev BK(b:Code):Prop:=∀(k:Out->St Z->Option R) d c a b3 b4,A9 (Ah L) Q Y b ⟨gp [(0,pS d),(3,pI c),(0,pI a),(0,p8 b3),(30,pB b4)] 29,[],s⟩ k=Xe d c a b3 b4 (λd c a=>k .normal ⟨gp [(0,pS d),(3,pI c),(0,pI a)] 61,[],s⟩) (λ_=>k .ret ⟨gp [(2,p16 (0:Int)),(0,pB false)] 63,[],s⟩)
theorem A95(a:Code)(b:QB (R:=R) L Q Y s a):BK (R:=R) L Q Y s (cd [1,1,1,0,1,0,0,1,0,0,1,0,1,1,1] (G4 [1,1,1,0,1,0,0,1,0,0,1,0,1,1,1,1,1] a Da)):=by intro k g f e c d;unfold Xe;simp only[<-b k];kernel_rfl
theorem A96:BK (R:=R) L Q Y s (cd [1,1,1,0,1,0,0,1,0,0,1,0,1,1,1] Da):=by intro k e d c a b;exact j2 (by kernel_rfl) (A95 L Q Y s (cd [1,1,1,0,1,0,0,1,0,0,1,0,1,1,1,1,1] Da) (A94 L Q Y s) k e d c a b)
noncomputable def Xf{R:Type}(n:By)(m h a:Int)(p:Bool)(i:By->Int->Int->Option R)(o:Unit->Option R):Option R:=cond p (vl (A1 (wu8 (a-48))) λj=>vl (A1 ((A1 (m*16))+j)) λl=>i n l h) (cond (not (ltI a 97)) (Xe n m h a (not (ltI 102 a)) (λf d b=>i f d b) (λ_=>o ())) (Xe n m h a false (λg e c=>i g e c) (λ_=>o ())))
abbrev Rb(b:Code):Prop:=∀(k:Out->St Z->Option R) d c a b3 b4,A9 (Ah L) Q Y b ⟨gp [(0,pS d),(3,pI c),(0,pI a),(0,p8 b3),(17,pB b4)] 42,[],s⟩ k=Xf d c a b3 b4 (λd c a=>k .normal ⟨gp [(0,pS d),(3,pI c),(0,pI a)] 61,[],s⟩) (λ_=>k .ret ⟨gp [(2,p16 (0:Int)),(0,pB false)] 63,[],s⟩)
theorem A97(a:Code)(b:BK (R:=R) L Q Y s a):Rb (R:=R) L Q Y s (cd [1,1,1,0,1,0,0,1,0,0,1,0,1] (G4 [1,1,1,0,1,0,0,1,0,0,1,0,1,1,1] a Da)):=by intro k g f e c d;unfold Xf;simp only[<-b k];kernel_rfl
theorem A98:Rb (R:=R) L Q Y s (cd [1,1,1,0,1,0,0,1,0,0,1,0,1] Da):=by intro k e d c a b;exact j2 (by kernel_rfl) (A97 L Q Y s (cd [1,1,1,0,1,0,0,1,0,0,1,0,1,1,1] Da) (A96 L Q Y s) k e d c a b)
noncomputable def Ft{R:Type}(L n:Nat)(b:By)(o a:Int)(l:Unit->Option R)(m:Int->Option R):Option R:=match n with|0=>none|n+1=>cond (ltI a (b.length:Int)) (cond (inR a b.length) (cond (not (ltI (bAt b a) (48:Int))) (Xf b o a (bAt b a) (not (ltI 57 (bAt b a))) (λi e c=>vl (A1 (c+1)) λf=>Ft L n i e f l m) (λ_=>l ())) (Xf b o a (bAt b a) false (λj g d=>vl (A1 (d+1)) λh=>Ft L n j g h l m) (λ_=>l ()))) none) (m o)
theorem A99(a:Code)(b:Rb (R:=R) L Q Y s a)(n:Nat)(d:By)(i c:Int):D0 0 ((Ah L).keep 5) (bd (Ah L) Q Y (cd [1,1,1,0,1,0,0] (G4 [1,1,1,0,1,0,0,1,0,0,1,0,1] a Da))) n ⟨gp [(0,pS d),(3,pI i),(0,pI c)] 61,[],s⟩ k =
 Ft L n d i c (λ_=>k .ret ⟨gp [(2,p16 (0:Int)),(0,pB false)] 63,[],s⟩) (λn0=>k (.exit 0) ⟨gp [(4,pI n0)] 62,[],s⟩):=by
 induction n generalizing d i c with
 | zero=>rfl
 | succ n q=>rw[Ft];exact let m:=(E5 2 (E5 1 (E4 (Ah L) Q Y (cd [1,1,1,0,1,0,0,1,1] Da) (lpK 0 ((Ah L).keep 5) (bd (Ah L) Q Y (cd [1,1,1,0,1,0,0] (G4 [1,1,1,0,1,0,0,1,0,0,1,0,1] a Da))) n k))));(j2 (by kernel_rfl) (A0 (A0 (A0 ((b m d i c (bAt d c) (not (ltI 57 (bAt d c)))).trans (congr (congr rfl (fx3 λj e o=>(j2 (by kernel_rfl) (A4 λf=>(q j e f))))) (by kernel_rfl))) ((b m d i c (bAt d c) false).trans (congr (congr rfl (fx3 λl g p=>(j2 (by kernel_rfl) (A4 λh=>(q l g h))))) (by kernel_rfl)))) rfl) rfl))
noncomputable def Cp0{R:Type}(L:Nat)(c:By)(b:Int->Bool->Option R):Option R:=cond (ltI (c.length:Int) (1:Int)) (b 0 false) (cond (ltI 4 (c.length:Int)) (b 0 false) (Ft L L c 0 0 (λ_=>b 0 false) (λa=>b (Nj a) true)))
theorem Db2(a:Code)(b:Rb (R:=PV × List Blk × Z) L Q Y s a)(c:By):A9 (Ah L) Q Y (cd [] (G4 [1,1,1,0,1,0,0,1,0,0,1,0,1] a Da)) ⟨[pS c]++tps 66,[],s⟩ (F6 (Ah L) ae0)=Cp0 L c (λd e=>some (.tup [p16 d,pB e],[],s)):=by unfold Cp0;exact(j2 (by kernel_rfl) (A0 rfl (A0 rfl ((A99 L Q Y s (E5 0 (E4 (Ah L) Q Y (cd [1,1,1,1] Da) (F6 (Ah L) ae0))) a b L c 0 0).trans (by kernel_rfl)))))
theorem Db3(d:Nat)(s0):evC (Ah L) (d+1) Z Y 209 [pS s0] [] s=Cp0 L s0 (λa b=>some (.tup [p16 a,pB b],[],s)):=
 (evE (fn:=ae0) (by kernel_rfl)).trans (j2 (by kernel_rfl) (Db2 L (evC (Ah L) d) Y s (cd [1,1,1,0,1,0,0,1,0,0,1,0,1] Da) (A98 L (evC (Ah L) d) Y s) s0))
noncomputable abbrev Fg:Code:=C8 ad8
noncomputable def S8(L:Nat):Cfg:=B7 L [173] (A2 [(6,[1,2,0,0,0,0])]) [(76,Kb),(208,Cd2),(209,Cd0)] (A2 [(15,[4,0]),(7,[1,4,0,0]),(14,[1,4,0,0]),(13,[4,0]),(12,[1,4,0,0,2,47]),(11,[1,4,0,0,2,0]),(10,[1,4,0,0]),(9,[1,4,0,0,0,31]),(8,[1,4,0,0,0,0]),(6,[1,4,0,0,11]),(5,[1,4,0,0]),(4,[1,4,0]),(3,[0,0,4]),(2,[4,0]),(1,[0,0,12]),(0,[0,0])]) [208,209] (A2 [(0,[6]),(1,[1,4,0,0])]) (some [4,0]) [] [] []
noncomputable def Kv{R:Type}(a:Bool)(g:LL)(f d:Int)(e:Bool)(c:LL)(h:Bool->LL->Int->LL->Option R)(i:Bool->LL->Int->Int->Bool->LL->Option R):Option R:=cond e (vl (EJ .u32 d (16:Int)) λb=>cond (F9 (c.length+2)) (h a g f (c++[[(SV.int .u16 (Nj b))],[(SV.int .u16 (Nj d))]])) none) (i a g f d e c)
abbrev Ua(b:Code):Prop:=∀(k:Out->St Z->Option R) a d c g e f,A9 (S8 L) Q Y b ⟨gp [(1,pB a),(4,.fl 0),(0,.s (.sl false false 1 d)),(0,pI c),(0,p32 g),(31,pB e)] 23,[.arr true 25 1 f],s⟩ k=Kv a d c g e f (λa d c h=>k (.exit 1) ⟨gp [(1,pB a),(4,.fl 0),(0,.s (.sl false false 1 d)),(0,pI c)] 56,[.arr true 25 1 h],s⟩) (λa d c g e f=>k .normal ⟨gp [(1,pB a),(4,.fl 0),(0,.s (.sl false false 1 d)),(0,pI c),(0,p32 g),(31,pB e)] 23,[.arr true 25 1 f],s⟩)
theorem Aj5:Ua (R:=R) L Q Y s (cd [1,1,1,1,0,1,0,0,1,0,0,0,1,1] Fg):=by intro k a e c f b d;unfold Kv;kernel_rfl
noncomputable def Kw{R:Type}(a:Bool)(c:LL)(b:Int)(e:LL)(f:LL->Option R)(g:Bool->LL->Int->LL->Option R):Option R:=cond (inR b c.length) (cond (okE Oa c (b9 b) 0) (cond (A3 (a8 (gX c (b9 b) 0))) (vl (↑(N5 (grp (gX c (b9 b) 0))):Int) λd=>cond (not (j4 (grp (gX c (b9 b) 0)))) (f e) (cond (F9 (e.length+1)) (g a c b (e++[[(SV.int .u16 d)]])) none)) none) none) none
abbrev Ub(b:Code):Prop:=∀(k:Out->St Z->Option R) a d c v3 b4 l5,A9 (S8 L) Q Y b ⟨gp [(1,pB a),(4,.fl 0),(0,.s (.sl false false 1 d)),(0,pI c),(0,p32 v3),(31,pB b4)] 23,[.arr true 25 1 l5],s⟩ k=Kw a d c l5 (λe=>k .ret ⟨gp [(4,.fl 1),(0,pB false)] 59,[.arr true 25 1 e,.arr true 25 1 []],s⟩) (λa d c f=>k .normal ⟨gp [(1,pB a),(4,.fl 0),(0,.s (.sl false false 1 d)),(0,pI c)] 56,[.arr true 25 1 f],s⟩)
theorem Aj6:Ub (R:=R) L Q Y s (cd [1,1,1,1,0,1,0,0,1,0,0,1] Fg):=by intro k a e c f b d;unfold Kw;kernel_rfl
noncomputable def R4{R:Type}(L n:Nat)(a:Bool)(m:LL)(l:Int)(l3:LL)(o:LL->Option R)(p:LL->Option R):Option R:=match n with|0=>none|n+1=>cond (ltI l (m.length:Int)) (cond (inR l m.length) (cond (okE Oa m (b9 l) 0) (cond (A3 (a8 (gX m (b9 l) 0))) (vl (↑(N5 (v4B (gX m (b9 l) 0))):Int) λq=>cond (j4 (v4B (gX m (b9 l) 0))) (cond a (vl (A1 ((m.length:Int)-1)) λa9=>Kv a m l q (l==a9) l3 (λb X r B=>vl (A1 (r+1)) λP=>R4 L n b X P B o p) (λc a0 t b3 b0 C=>Kw c a0 t C (λD=>o D) (λd a1 u F=>vl (A1 (u+1)) λS=>R4 L n d a1 S F o p))) (Kv a m l q false l3 (λe a2 v G=>vl (A1 (v+1)) λT=>R4 L n e a2 T G o p) (λf a3 w b4 b1 H=>Kw f a3 w H (λI=>o I) (λg a4 x J=>vl (A1 (x+1)) λU=>R4 L n g a4 U J o p)))) (Kv a m l q false l3 (λh a5 y K=>vl (A1 (y+1)) λV=>R4 L n h a5 V K o p) (λi a6 z b5 b2 M=>Kw i a6 z M (λN=>o N) (λj a7 A O=>vl (A1 (A+1)) λW=>R4 L n j a7 W O o p)))) none) none) none) (p l3)
theorem Aj7(b:Code)(c:Ua (R:=R) L Q Y s b)(a:Code)(d:Ub (R:=R) L Q Y s a)(n:Nat)(e:Bool)(v:LL)(q:Int)(u:LL):D0 1 ((S8 L).keep 6) (bd (S8 L) Q Y (cd [1,1,1,1,0,1,0,0] (G4 [1,1,1,1,0,1,0,0,1,0,0,1] a (G4 [1,1,1,1,0,1,0,0,1,0,0,0,1,1] b Fg)))) n ⟨gp [(1,pB e),(4,.fl 0),(0,.s (.sl false false 1 v)),(0,pI q)] 56,[.arr true 25 1 u],s⟩ k =
 R4 L n e v q u (λl0=>k .ret ⟨gp [(4,.fl 1),(0,pB false)] 59,[.arr true 25 1 l0,.arr true 25 1 []],s⟩) (λl0=>k (.exit 0) ⟨gp [(6,.fl 0)] 58,[.arr true 25 1 l0],s⟩):=by
 induction n generalizing e v q u with
 | zero=>rfl
 | succ n t=>rw[R4];exact let K0:=(E5 1 (E4 (S8 L) Q Y (cd [1,1,1,1,0,1,0,0,1,1] Fg) (lpK 1 ((S8 L).keep 6) (bd (S8 L) Q Y (cd [1,1,1,1,0,1,0,0] (G4 [1,1,1,1,0,1,0,0,1,0,0,1] a (G4 [1,1,1,1,0,1,0,0,1,0,0,0,1,1] b Fg)))) n k)));let K1:=(E4 (S8 L) Q Y a K0);(j2 (by kernel_rfl) (A0 (A0 (A0 (A0 (A4 λr=>(A0 (A0 (A4 λb0=>((c K1 e v q r (q==b0) u).trans (congr (congr rfl (fx4 λf V b1 C=>(j2 (by kernel_rfl) (A4 λN=>(t f V N C))))) (fx6 λg W z a6 w D=>(j2 (by kernel_rfl) ((d K0 g W z a6 w D).trans (congr (congr rfl (by kernel_rfl)) (fx4 λh X b2 F=>(j2 (by kernel_rfl) (A4 λO=>(t h X O F))))))))))) ((c K1 e v q r false u).trans (congr (congr rfl (fx4 λi a0 b3 G=>(j2 (by kernel_rfl) (A4 λP=>(t i a0 P G))))) (fx6 λj a1 A a7 x H=>(j2 (by kernel_rfl) ((d K0 j a1 A a7 x H).trans (congr (congr rfl (by kernel_rfl)) (fx4 λl a2 b4 I=>(j2 (by kernel_rfl) (A4 λS=>(t l a2 S I))))))))))) ((c K1 e v q r false u).trans (congr (congr rfl (fx4 λm a3 b5 J=>(j2 (by kernel_rfl) (A4 λT=>(t m a3 T J))))) (fx6 λo a4 B a9 y K=>(j2 (by kernel_rfl) ((d K0 o a4 B a9 y K).trans (congr (congr rfl (by kernel_rfl)) (fx4 λp a5 b6 M=>(j2 (by kernel_rfl) (A4 λU=>(t p a5 U M)))))))))))) rfl) rfl) rfl) rfl))
noncomputable def Aj4{R:Type}(L:Nat)(e:By)(a:Bool)(f:LL->Option R)(g:LL->Option R):Option R:=cond (e==[]) (f []) (cond (A3 e.length) (vl (D2 (pcs (u8n (58:Int)) e)) λd=>R4 L L a d 0 [] (λb=>g b) (λc=>f c)) none)
theorem Cp1(a:Code)(c:Ua (R:=PV × List Blk × Z) L Q Y s a)(b:Code)(d:Ub (R:=PV × List Blk × Z) L Q Y s b)(h:By)(e:Bool):A9 (S8 L) Q Y (cd [] (G4 [1,1,1,1,0,1,0,0,1,0,0,1] b (G4 [1,1,1,1,0,1,0,0,1,0,0,0,1,1] a Fg))) ⟨[pS h,pB e]++tps 63,[],s⟩ (F6 (S8 L) ad8)=Aj4 L h e (λg=>some (.tup [.fl 0,pB true],[.arr true 25 1 g],s)) (λg=>some (.tup [.fl 1,pB false],[.arr true 25 1 g,.arr true 25 1 []],s)):=by unfold Aj4;exact(j2 (by kernel_rfl) (A0 rfl (A0 (A4 λf=>((Aj7 L Q Y s (E5 0 (E4 (S8 L) Q Y (cd [1,1,1,1,1] Fg) (F6 (S8 L) ad8))) a c b d L e f 0 []).trans (by kernel_rfl))) rfl)))
theorem Cp2(d:Nat)(s0 last1):evC (S8 L) (d+1) Z Y 173 [pS s0,pB last1] [] s=Aj4 L s0 last1 (λa=>some (.tup [.fl 0,pB true],[.arr true 25 1 a],s)) (λa=>some (.tup [.fl 1,pB false],[.arr true 25 1 a,.arr true 25 1 []],s)):=
 (evE (fn:=ad8) (by kernel_rfl)).trans (j2 (by kernel_rfl) (Cp1 L (evC (S8 L) d) Y s (cd [1,1,1,1,0,1,0,0,1,0,0,0,1,1] Fg) (Aj5 L (evC (S8 L) d) Y s) (cd [1,1,1,1,0,1,0,0,1,0,0,1] Fg) (Aj6 L (evC (S8 L) d) Y s) s0 last1))
noncomputable abbrev OA:Code:=C8 ag1
noncomputable def Dd(L:Nat):Cfg:=B7 L [172] (A2 [(2,[0,1,0])]) [] (A2 [(6,[2]),(3,[0,2]),(5,[2]),(4,[0,2,17]),(2,[0,2,4]),(1,[0,2]),(0,[0])]) [] (A2 [(0,[]),(1,[0,2])]) (some [2]) [] [] []
noncomputable def V3{R:Type}(L n:Nat)(b:By)(a:Int)(c:Int->Option R)(d:Unit->Option R):Option R:=match n with|0=>none|n+1=>cond (ltI (A1 (a+1)) (b.length:Int)) (cond (inR a b.length) (cond ((bAt b a)==58) (cond (inR (A1 (a+1)) b.length) (vl (bAt b (A1 (a+1))) λe=>cond (e==58) (c a) (V3 L n b (A1 (a+1)) c d)) none) (V3 L n b (A1 (a+1)) c d)) none) (d ())
theorem MY(n s0 i1):D0 0 ((Dd L).keep 2) (bd (Dd L) Q Y (cd [1,0,1,0,0] OA)) n ⟨gp [(0,pS s0),(2,pI i1)] 19,[],s⟩ k =
 V3 L n s0 i1 (λn0=>k .ret ⟨gp [(2,pI n0)] 20,[],s⟩) (λ_=>k (.exit 0) ⟨gp [] 23,[],s⟩):=by
 induction n generalizing s0 i1 with
 | zero=>rfl
 | succ n a=>rw[V3];simp only[<-a];kernel_rfl
noncomputable def FG{R:Type}(L:Nat)(c:By)(b:Int->Option R):Option R:=V3 L L c 0 (λa=>b a) (λ_=>b (-1))
theorem A81(d:Nat)(s0):evC (Dd L) (d+1) Z Y 172 [pS s0] [] s=FG L s0 (λa=>some (pI a,[],s)):=by refine(evE (fn:=ag1) (by kernel_rfl)).trans ?_;generalize evC (Dd L) d=Q;unfold FG;exact(j2 (by kernel_rfl) ((MY L Q Y s (E5 0 (E4 (Dd L) Q Y (cd [1,1] OA) (F6 (Dd L) ag1))) L s0 0).trans (by kernel_rfl)))
noncomputable abbrev Sy:Code:=C8 ac8
noncomputable def Ai(L:Nat):Cfg:=B7 L [128] (A2 [(21,[2,0,0,6,2]),(17,[2,0,0,4,1,1]),(8,[2,0,0,1,1])]) [(172,NP),(173,Bl4)] (A2 [(24,[2,0]),(22,[2,1,6,2]),(23,[2,1,6,2]),(21,[2,1,6,2,73]),(20,[2,1,6,2]),(18,[2,1,4,1,1]),(19,[2,1,4,1,1]),(17,[2,1,4,1,1,62]),(16,[2,1,4,1,1]),(15,[2,0]),(14,[2,1,4,1,59]),(13,[2,1,4,0,0,0]),(12,[0,1,1,0,3,0]),(11,[2,0]),(9,[2,1,1,1]),(10,[2,1,1,1]),(8,[2,1,1,1,24]),(7,[2,1,1,1]),(6,[2,0]),(5,[2,1,1,23]),(4,[2,1,1,0]),(3,[0,1,1,0,12]),(2,[0,1,1,0]),(1,[0,1,1]),(0,[0,1])]) [172] (A2 [(4,[2,1]),(5,[2,1,6,2]),(2,[2,1,6]),(3,[2,1,4,1,1]),(0,[2,1]),(1,[2,1,1,1])]) (some [2,0]) [] [] []
noncomputable def My{R:Type}(L n:Nat)(b:Bool)(c:LL)(a:Int)(g d:LL)(f:LL->LL->Option R):Option R:=match n with|0=>none|n+1=>cond (ltI a 8) (cond (inR a c.length) (cond (okE ⟨true,false,[.int .u16]⟩ c (b9 a) 0) (cond (inR a 8) (cond (decide ((b9 a)<d.length)) (vl (aa2 d (b9 a) (G1 (b8 d (b9 a) []) 0 [(SV.int .u16 (gE c (b9 a) 0))])) λe=>My L n b c (A1 (a+1)) g e f) none) none) none) none) (f g d)
theorem Bf2(n l_z0 a i2 l3 l4):D0 2 ((Ai L).keep 8) (bd (Ai L) Q Y (cd [1,1,1,0,1,0,1,1,0,1,0,0] Sy)) n ⟨gp [(2,.ptr 0 0 0),(1,.ptr 1 0 0),(1,.s (.sl l_z0 l_z0 1 a)),(1,pI i2)] 93,[.arr false 26 1 l3,.arr false 26 1 l4],s⟩ k =
 My L n l_z0 a i2 l3 l4 (λc a=>k (.exit 0) ⟨gp [(2,.ptr 0 0 0),(1,.ptr 1 0 0)] 97,[.arr false 26 1 c,.arr false 26 1 a],s⟩):=by
 induction n generalizing l_z0 a i2 l3 l4 with
 | zero=>rfl
 | succ n b=>rw[My];simp only[<-b];kernel_rfl
noncomputable def Mz{R:Type}(L n:Nat)(e:Bool)(d:LL)(b:Bool)(i:LL)(a:Int)(h f:LL)(g:Bool->LL->LL->LL->Option R):Option R:=match n with|0=>none|n+1=>cond (ltI a (d.length:Int)) (cond (inR a d.length) (cond (okE ⟨true,false,[.int .u16]⟩ d (b9 a) 0) (cond (inR a 8) (cond (decide ((b9 a)<f.length)) (vl (aa2 f (b9 a) (G1 (b8 f (b9 a) []) 0 [(SV.int .u16 (gE d (b9 a) 0))])) λc=>Mz L n e d b i (A1 (a+1)) h c g) none) none) none) none) (g b i h f)
theorem Bf3(n l_z0 l1 r_z2 r3 i4 l5 l6):D0 2 ((Ai L).keep 17) (bd (Ai L) Q Y (cd [1,1,1,1,1,1,1,0,1,0,0] Sy)) n ⟨gp [(2,.ptr 0 0 0),(1,.ptr 1 0 0),(4,.s (.sl l_z0 l_z0 1 l1)),(1,.s (.sl r_z2 r_z2 1 r3)),(1,pI i4)] 88,[.arr false 26 1 l5,.arr false 26 1 l6],s⟩ k =
 Mz L n l_z0 l1 r_z2 r3 i4 l5 l6 (λa e c d=>k (.exit 2) ⟨gp [(2,.ptr 0 0 0),(1,.ptr 1 0 0),(6,.s (.sl a a 1 e))] 90,[.arr false 26 1 c,.arr false 26 1 d],s⟩):=by
 induction n generalizing l_z0 l1 r_z2 r3 i4 l5 l6 with
 | zero=>rfl
 | succ n b=>rw[Mz];simp only[<-b];kernel_rfl
noncomputable def Na{R:Type}(L n:Nat)(e:Bool)(c:LL)(b:Int)(h f:LL)(g:LL->LL->Option R):Option R:=match n with|0=>none|n+1=>cond (ltI b (c.length:Int)) (vl (A1 ((8:Int)-(c.length:Int))) λa=>cond (inR b c.length) (cond (okE ⟨true,false,[.int .u16]⟩ c (b9 b) 0) (cond (inR (A1 (a+b)) 8) (cond (decide ((b9 (A1 (a+b)))<f.length)) (vl (aa2 f (b9 (A1 (a+b))) (G1 (b8 f (b9 (A1 (a+b))) []) 0 [(SV.int .u16 (gE c (b9 b) 0))])) λd=>Na L n e c (A1 (b+1)) h d g) none) none) none) none) (g h f)
theorem Bf4(n r_z0 r1 i2 l3 l4):D0 2 ((Ai L).keep 21) (bd (Ai L) Q Y (cd [1,1,1,1,1,1,1,1,0,1,0,0] Sy)) n ⟨gp [(2,.ptr 0 0 0),(1,.ptr 1 0 0),(6,.s (.sl r_z0 r_z0 1 r1)),(2,pI i2)] 87,[.arr false 26 1 l3,.arr false 26 1 l4],s⟩ k =
 Na L n r_z0 r1 i2 l3 l4 (λb c=>k (.exit 4) ⟨gp [(2,.ptr 0 0 0),(1,.ptr 1 0 0)] 97,[.arr false 26 1 b,.arr false 26 1 c],s⟩):=by
 induction n generalizing r_z0 r1 i2 l3 l4 with
 | zero=>rfl
 | succ n a=>rw[Na];simp only[<-a];kernel_rfl
noncomputable def Cr9{R:Type}(L:Nat)(e:By)(j:Int->Int->Int->Int->Int->Int->Int->Int->Bool->LL->LL->Option R):Option R:=cond (A3 e.length) (cond (ltI (IX e) (0:Int)) (cond (A3 e.length) (cond (not (j4 (P2 e true))) (j 0 0 0 0 0 0 0 0 false (j1 8 [(SV.int .u16 (0:Int))]) (j1 8 [(SV.int .u16 (0:Int))])) (cond ((↑(a8 (D8 (gvs e true))):Int)!=8) (j 0 0 0 0 0 0 0 0 false (j1 8 [(SV.int .u16 (0:Int))]) (j1 8 [(SV.int .u16 (0:Int))])) (My L L (j9 (gvs e true)) (D8 (gvs e true)) 0 (j1 8 [(SV.int .u16 (0:Int))]) (j1 8 [(SV.int .u16 (0:Int))]) (λn a=>cond ((decide (8=(a.length*1)))&&(okS ⟨true,true,[.int .u16,.int .u16,.int .u16,.int .u16,.int .u16,.int .u16,.int .u16,.int .u16]⟩ (j0 a) 0)) (vl (SV.gI (b8 (j0 a) 0 SV.nilp)) λo=>vl (SV.gI (b8 (j0 a) 1 SV.nilp)) λp=>vl (SV.gI (b8 (j0 a) 2 SV.nilp)) λq=>vl (SV.gI (b8 (j0 a) 3 SV.nilp)) λr=>vl (SV.gI (b8 (j0 a) 4 SV.nilp)) λt=>vl (SV.gI (b8 (j0 a) 5 SV.nilp)) λu=>vl (SV.gI (b8 (j0 a) 6 SV.nilp)) λv=>vl (SV.gI (b8 (j0 a) 7 SV.nilp)) λw=>cond (decide (8=(n.length*1))) (vl (T8 1 n.length [(SV.int .u16 o),(SV.int .u16 p),(SV.int .u16 q),(SV.int .u16 r),(SV.int .u16 t),(SV.int .u16 u),(SV.int .u16 v),(SV.int .u16 w)]) λb=>cond ((decide (8=(b.length*1)))&&(okS ⟨true,true,[.int .u16,.int .u16,.int .u16,.int .u16,.int .u16,.int .u16,.int .u16,.int .u16]⟩ (j0 b) 0)) (j (SV.gI (b8 (j0 b) 0 SV.nilp)) (SV.gI (b8 (j0 b) 1 SV.nilp)) (SV.gI (b8 (j0 b) 2 SV.nilp)) (SV.gI (b8 (j0 b) 3 SV.nilp)) (SV.gI (b8 (j0 b) 4 SV.nilp)) (SV.gI (b8 (j0 b) 5 SV.nilp)) (SV.gI (b8 (j0 b) 6 SV.nilp)) (SV.gI (b8 (j0 b) 7 SV.nilp)) true b a) none) none) none)))) none) (cond (I9 0 (IX e) e.length) (vl (cut e 0 (IX e)) λf=>cond (A3 f.length) (vl (A1 ((IX e)+2)) λG=>cond (I9 G (e.length:Int) e.length) (vl (cut e G (e.length:Int)) λg=>cond (A3 g.length) (cond (not (j4 (P2 f false))) (j 0 0 0 0 0 0 0 0 false (j1 8 [(SV.int .u16 (0:Int))]) (j1 8 [(SV.int .u16 (0:Int))])) (cond (not (j4 (P2 g true))) (j 0 0 0 0 0 0 0 0 false (j1 8 [(SV.int .u16 (0:Int))]) (j1 8 [(SV.int .u16 (0:Int))])) (vl (A1 ((↑(a8 (D8 (gvs f false))):Int)+(↑(a8 (D8 (gvs g true))):Int))) λI=>cond (ltI 7 I) (j 0 0 0 0 0 0 0 0 false (j1 8 [(SV.int .u16 (0:Int))]) (j1 8 [(SV.int .u16 (0:Int))])) (Mz L L (j9 (gvs f false)) (D8 (gvs f false)) (j9 (gvs g true)) (D8 (gvs g true)) 0 (j1 8 [(SV.int .u16 (0:Int))]) (j1 8 [(SV.int .u16 (0:Int))]) (λh H l m=>Na L L h H 0 l m (λi c=>cond ((decide (8=(c.length*1)))&&(okS ⟨true,true,[.int .u16,.int .u16,.int .u16,.int .u16,.int .u16,.int .u16,.int .u16,.int .u16]⟩ (j0 c) 0)) (vl (SV.gI (b8 (j0 c) 0 SV.nilp)) λx=>vl (SV.gI (b8 (j0 c) 1 SV.nilp)) λy=>vl (SV.gI (b8 (j0 c) 2 SV.nilp)) λz=>vl (SV.gI (b8 (j0 c) 3 SV.nilp)) λA=>vl (SV.gI (b8 (j0 c) 4 SV.nilp)) λB=>vl (SV.gI (b8 (j0 c) 5 SV.nilp)) λC=>vl (SV.gI (b8 (j0 c) 6 SV.nilp)) λD=>vl (SV.gI (b8 (j0 c) 7 SV.nilp)) λF=>cond (decide (8=(i.length*1))) (vl (T8 1 i.length [(SV.int .u16 x),(SV.int .u16 y),(SV.int .u16 z),(SV.int .u16 A),(SV.int .u16 B),(SV.int .u16 C),(SV.int .u16 D),(SV.int .u16 F)]) λd=>cond ((decide (8=(d.length*1)))&&(okS ⟨true,true,[.int .u16,.int .u16,.int .u16,.int .u16,.int .u16,.int .u16,.int .u16,.int .u16]⟩ (j0 d) 0)) (j (SV.gI (b8 (j0 d) 0 SV.nilp)) (SV.gI (b8 (j0 d) 1 SV.nilp)) (SV.gI (b8 (j0 d) 2 SV.nilp)) (SV.gI (b8 (j0 d) 3 SV.nilp)) (SV.gI (b8 (j0 d) 4 SV.nilp)) (SV.gI (b8 (j0 d) 5 SV.nilp)) (SV.gI (b8 (j0 d) 6 SV.nilp)) (SV.gI (b8 (j0 d) 7 SV.nilp)) true d c) none) none) none)))))) none) none) none) none)) none
theorem Dc9(d:Nat)(s0):evC (Ai L) (d+1) Z Y 128 [pS s0] [] s=Cr9 L s0 (λl m n o p q r t r8 h l10=>some (.tup [.agg [p16 l,p16 m,p16 n,p16 o,p16 p,p16 q,p16 r,p16 t],pB r8],[.arr false 26 1 h,.arr false 26 1 l10],s)):=by refine(evE (fn:=ac8) (by kernel_rfl)).trans ?_;generalize evC (Ai L) d=Q;unfold Cr9;exact(j2 (by kernel_rfl) (A0 (A0 (A0 (A0 rfl (A0 rfl ((Bf2 L Q Y s (E5 0 (E4 (Ai L) Q Y (cd [1,1,1,0,1,0,1,1,1] Sy) (E4 (Ai L) Q Y (cd [1,1,1,1] Sy) (F6 (Ai L) ac8)))) L (j9 (gvs s0 true)) (D8 (gvs s0 true)) 0 (j1 8 [(SV.int .u16 (0:Int))]) (j1 8 [(SV.int .u16 (0:Int))])).trans (by kernel_rfl)))) rfl) (A0 (A4 λf=>(A0 (A4 λi=>(A0 (A4 λg=>(A0 (A0 rfl (A0 rfl (A4 λj=>(A0 rfl ((Bf3 L Q Y s (E5 2 (E4 (Ai L) Q Y (cd [1,1,1,1,1,1,1,1] Sy) (F6 (Ai L) ac8))) L (j9 (gvs f false)) (D8 (gvs f false)) (j9 (gvs g true)) (D8 (gvs g true)) 0 (j1 8 [(SV.int .u16 (0:Int))]) (j1 8 [(SV.int .u16 (0:Int))])).trans (congr rfl (fx4 λa e b c=>(j2 (by kernel_rfl) ((Bf4 L Q Y s (E5 4 (E4 (Ai L) Q Y (cd [1,1,1,1,1,1,1,1,1] Sy) (F6 (Ai L) ac8))) L a e 0 b c).trans (by kernel_rfl)))))))))) rfl)) rfl)) rfl)) rfl)) rfl))
noncomputable def II(L:Nat):Cfg:=B7 L [213] (A2 []) [] (A2 [(1,[2]),(0,[0])]) [] (A2 []) (some [2]) [] [] []
noncomputable def XG{R:Type}(L:Nat)(n0:Int)(a:Bool->Option R):Option R:=cond (not (ltI n0 0)) (cond (not (ltI 1114111 n0)) (cond (ltI n0 55296) (a true) (a (ltI 57343 n0))) (a false)) (a false)
theorem B26(d:Nat)(n0):evC (II L) (d+1) Z Y 213 [pI n0] [] s=XG L n0 (λa=>some (pB a,[],s)):=by refine(evE (fn:=Tryz.f213) (by kernel_rfl)).trans ?_;generalize evC (II L) d=Q;unfold XG;kernel_rfl
noncomputable abbrev Om:Code:=C8 ae1
noncomputable def X9(L:Nat):Cfg:=B7 L [215] (A2 [(6,[0,5,0])]) [] (A2 [(9,[6]),(8,[0,6]),(7,[0,6]),(6,[0,6,11]),(5,[0,6]),(4,[0]),(2,[0,0]),(3,[0,0]),(1,[0,0,6]),(0,[0,0,0])]) [] (A2 [(0,[0,6]),(1,[0,6])]) (some [6]) [] [] []
noncomputable def Gk{R:Type}(L n:Nat)(a b:Int)(e:Int->Int->Option R):Option R:=match n with|0=>none|n+1=>cond (ltI 455 a) (vl (A1 (aa8 a (35:Int))) λc=>vl (A1 (b+36)) λd=>Gk L n c d e) (e a b)
theorem XB(n a b):D0 0 ((X9 L).keep 6) (bd (X9 L) Q Y (cd [1,1,1,1,0,0,0] Om)) n ⟨gp [(0,pI a),(6,pI b)] 23,[],s⟩ k =
 Gk L n a b (λa b=>k (.exit 0) ⟨gp [(0,pI a),(6,pI b)] 23,[],s⟩):=by
 induction n generalizing a b with
 | zero=>rfl
 | succ n c=>rw[Gk];simp only[<-c];kernel_rfl
noncomputable def Gj{R:Type}(L:Nat)(c b:Int)(i:Int->Option R):Option R:=cond (b !=0) (vl (A1 (aa8 c b)) λh=>Gk L L (A1 (c+h)) 0 (λa e=>vl (A1 ((36:Int)*a)) λf=>vl (A1 (a+38)) λd=>cond (d !=0) (vl (A1 (aa8 f d)) λg=>i (A1 (e+g))) none)) none
abbrev DB(b:Code):Prop:=∀(k:Out->St Z->Option R) delta0 count1,A9 (X9 L) Q Y b ⟨gp [(0,pI delta0),(0,pI count1)] 29,[],s⟩ k=Gj L delta0 count1 (λn0=>k .ret ⟨gp [(6,pI n0)] 24,[],s⟩)
theorem XA:DB (R:=R) L Q Y s (cd [1,1] Om):=by intro k a b;unfold Gj;exact(j2 (by kernel_rfl) (A0 (A4 λc=>((XB L Q Y s (E5 0 (E4 (X9 L) Q Y (cd [1,1,1,1,1] Om) k)) L (A1 (a+c)) 0).trans (by kernel_rfl))) rfl))
noncomputable def KT{R:Type}(L:Nat)(b a:Int)(c:Bool)(h:Int->Option R):Option R:=cond c (vl (A1 (aa8 b (700:Int))) λf=>Gj L f a (λd=>h d)) (vl (A1 (aa8 b (2:Int))) λg=>Gj L g a (λe=>h e))
theorem B11(e:Code)(a:DB (R:=PV × List Blk × Z) L Q Y s e)(c b:Int)(d:Bool):A9 (X9 L) Q Y (cd [] (G4 [1,1] e Om)) ⟨[pI c,pI b,pB d]++tps 28,[],s⟩ (F6 (X9 L) ae1)=KT L c b d (λi=>some (pI i,[],s)):=by unfold KT;exact let h:=(F6 (X9 L) ae1);(j2 (by kernel_rfl) (A0 (A4 λf=>((a h f b).trans (by kernel_rfl))) (A4 λg=>((a h g b).trans (by kernel_rfl)))))
theorem B12(d:Nat)(delta0 count1 first2):evC (X9 L) (d+1) Z Y 215 [pI delta0,pI count1,pB first2] [] s=KT L delta0 count1 first2 (λa=>some (pI a,[],s)):=
 (evE (fn:=ae1) (by kernel_rfl)).trans (j2 (by kernel_rfl) (B11 L (evC (X9 L) d) Y s (cd [1,1] Om) (XA L (evC (X9 L) d) Y s) delta0 count1 first2))
noncomputable def Ax4(L:Nat):Cfg:=B7 L [239] (A2 []) [] (A2 [(3,[2]),(2,[2]),(1,[0,3]),(0,[0])]) [] (A2 []) (some [2]) [] [] []
noncomputable def C91{R:Type}(L:Nat)(a:Int)(d:Int->Option R):Option R:=cond (ltI a 26) (vl (wu8 (A1 ((97:Int)+a))) λb=>d b) (vl (A1 ((A1 ((48:Int)+a))-26)) λc=>d (wu8 c))
theorem C92(d:Nat)(d0):evC (Ax4 L) (d+1) Z Y 239 [pI d0] [] s=C91 L d0 (λa=>some (p8 a,[],s)):=by refine(evE (fn:=Tryz.f239) (by kernel_rfl)).trans ?_;generalize evC (Ax4 L) d=Q;unfold C91;kernel_rfl
noncomputable abbrev Sw:Code:=C8 ae3
noncomputable def Jl(L:Nat):Cfg:=B7 L [250] (A2 []) [] (A2 [(7,[2]),(2,[2]),(4,[2]),(6,[2]),(5,[0,22]),(3,[0,12]),(1,[0,2]),(0,[0])]) [] (A2 [(0,[])]) (some [2]) [] [] []
noncomputable def Wy{R:Type}(a:Int)(g:Bool)(e:Int->Option R)(f:Int->Bool->Option R):Option R:=cond g (vl (A1 (wu8 (a-65))) λb=>e b) (cond (not (ltI a 48)) (cond (not (ltI 57 a)) (vl (A1 (wu8 (a-48))) λc=>vl (A1 (c+26)) λd=>e d) (f a (not (ltI 57 a)))) (f a false))
abbrev PW(b:Code):Prop:=∀(k:Out->St Z->Option R) a c,A9 (Jl L) Q Y b ⟨gp [(0,p8 a),(12,pB c)] 20,[],s⟩ k=Wy a c (λn0=>k .ret ⟨gp [(2,pI n0)] 31,[],s⟩) (λa c=>k .normal ⟨gp [(0,p8 a),(22,pB c)] 10,[],s⟩)
theorem A70:PW (R:=R) L Q Y s (cd [1,0,0,1,1,1] Sw):=by intro k a b;unfold Wy;kernel_rfl
noncomputable def Wz{R:Type}(a:Int)(l:Bool)(f:Int->Option R)(j:Int->Bool->Option R):Option R:=cond l (vl (A1 (wu8 (a-97))) λg=>f g) (cond (not (ltI a 65)) (Wy a (not (ltI 90 a)) (λh=>f h) (λb c=>j b c)) (Wy a false (λi=>f i) (λd e=>j d e)))
abbrev BH(b:Code):Prop:=∀(k:Out->St Z->Option R) a c,A9 (Jl L) Q Y b ⟨gp [(0,p8 a),(2,pB c)] 30,[],s⟩ k=Wz a c (λn0=>k .ret ⟨gp [(2,pI n0)] 31,[],s⟩) (λa c=>k .normal ⟨gp [(0,p8 a),(22,pB c)] 10,[],s⟩)
theorem A71(a:Code)(b:PW (R:=R) L Q Y s a):BH (R:=R) L Q Y s (cd [1,0,0,1] (G4 [1,0,0,1,1,1] a Sw)):=by intro k c d;unfold Wz;simp only[<-b k];kernel_rfl
theorem A72:BH (R:=R) L Q Y s (cd [1,0,0,1] Sw):=by intro k a b;exact j2 (by kernel_rfl) (A71 L Q Y s (cd [1,0,0,1,1,1] Sw) (A70 L Q Y s) k a b)
noncomputable def Co1{R:Type}(L:Nat)(c:Int)(d:Int->Option R):Option R:=cond (not (ltI c 97)) (Wz c (not (ltI 122 c)) (λa=>d a) (λe f=>d (-1))) (Wz c false (λb=>d b) (λg h=>d (-1)))
theorem Da2(b:Code)(a:BH (R:=PV × List Blk × Z) L Q Y s b)(c:Int):A9 (Jl L) Q Y (cd [] (G4 [1,0,0,1] b Sw)) ⟨[p8 c]++tps 33,[],s⟩ (F6 (Jl L) ae3)=Co1 L c (λe=>some (pI e,[],s)):=by unfold Co1;exact let d:=(E5 0 (E4 (Jl L) Q Y (cd [1,1] Sw) (F6 (Jl L) ae3)));(j2 (by kernel_rfl) (A0 ((a d c (not (ltI 122 c))).trans (by kernel_rfl)) ((a d c false).trans (by kernel_rfl))))
theorem Da3(d:Nat)(b0):evC (Jl L) (d+1) Z Y 250 [p8 b0] [] s=Co1 L b0 (λa=>some (pI a,[],s)):=
 (evE (fn:=ae3) (by kernel_rfl)).trans (j2 (by kernel_rfl) (Da2 L (evC (Jl L) d) Y s (cd [1,0,0,1] Sw) (A72 L (evC (Jl L) d) Y s) b0))
end
section
variable {Z R : Type} (L : Nat) (Q : G0) (Y : Yh Z) (s : Z) (k : Out -> St Z -> Option R)
noncomputable def Ax1(L:Nat):Cfg:=B7 L [163] (A2 []) [] (A2 [(1,[4]),(0,[0,0])]) [] (A2 []) (some [4]) [] [] []
noncomputable def C73{R:Type}(L:Nat)(c a:By)(d:Bool->Option R):Option R:=cond (not (ltI (c.length:Int) (a.length:Int))) (cond (I9 0 (a.length:Int) c.length) (vl (cut c 0 (a.length:Int)) λb=>d (b==a)) none) (d false)
theorem C74(d:Nat)(s0 prefix1):evC (Ax1 L) (d+1) Z Y 163 [pS s0,pS prefix1] [] s=C73 L s0 prefix1 (λa=>some (pB a,[],s)):=by refine(evE (fn:=Tryz.f163) (by kernel_rfl)).trans ?_;generalize evC (Ax1 L) d=Q;unfold C73;kernel_rfl
noncomputable def Aw8(L:Nat):Cfg:=B7 L [120] (A2 []) [(163,RZ)] (A2 [(1,[4]),(0,[0,0])]) [163] (A2 []) (some [4]) [] [] []
noncomputable def Pc{R:Type}(L:Nat)(b a:By)(c:Bool->Option R):Option R:=cond (A3 b.length) (c (o8 a b)) none
theorem C54(d:Nat)(s0 prefix1):evC (Aw8 L) (d+1) Z Y 120 [pS s0,pS prefix1] [] s=Pc L s0 prefix1 (λa=>some (pB a,[],s)):=by refine(evE (fn:=Tryz.f120) (by kernel_rfl)).trans ?_;generalize evC (Aw8 L) d=Q;unfold Pc;kernel_rfl
noncomputable def Ax2(L:Nat):Cfg:=B7 L [232] (A2 []) [] (A2 [(1,[4]),(0,[0,0])]) [] (A2 []) (some [4]) [] [] []
noncomputable def C75{R:Type}(L:Nat)(b a:By)(e:Bool->Option R):Option R:=cond (not (ltI (b.length:Int) (a.length:Int))) (vl (A1 ((b.length:Int)-(a.length:Int))) λc=>cond (I9 c (b.length:Int) b.length) (vl (cut b c (b.length:Int)) λd=>e (d==a)) none) (e false)
theorem C76(d:Nat)(s0 suffix1):evC (Ax2 L) (d+1) Z Y 232 [pS s0,pS suffix1] [] s=C75 L s0 suffix1 (λa=>some (pB a,[],s)):=by refine(evE (fn:=Tryz.f232) (by kernel_rfl)).trans ?_;generalize evC (Ax2 L) d=Q;unfold C75;kernel_rfl
noncomputable def Aw9(L:Nat):Cfg:=B7 L [207] (A2 []) [(232,As9)] (A2 [(1,[4]),(0,[0,0])]) [232] (A2 []) (some [4]) [] [] []
noncomputable def C55{R:Type}(L:Nat)(b a:By)(c:Bool->Option R):Option R:=cond (A3 b.length) (c (aa4 a b)) none
theorem C56(d:Nat)(s0 suffix1):evC (Aw9 L) (d+1) Z Y 207 [pS s0,pS suffix1] [] s=C55 L s0 suffix1 (λa=>some (pB a,[],s)):=by refine(evE (fn:=Tryz.f207) (by kernel_rfl)).trans ?_;generalize evC (Aw9 L) d=Q;unfold C55;kernel_rfl
noncomputable def UU(L:Nat):Cfg:=B7 L [221] (A2 []) [(232,As9)] (A2 [(3,[4]),(2,[4]),(1,[0,0,5]),(0,[0,0])]) [232] (A2 []) (some [4]) [] [] []
noncomputable def Bq4{R:Type}(L:Nat)(b a:By)(d:By->Option R):Option R:=cond (A3 b.length) (cond (aa4 a b) (vl (A1 ((b.length:Int)-(a.length:Int))) λc=>cond (I9 0 c b.length) (d (cut b 0 c)) none) (d b)) none
theorem Cl1(d:Nat)(s0 suffix1):evC (UU L) (d+1) Z Y 221 [pS s0,pS suffix1] [] s=Bq4 L s0 suffix1 (λa=>some (pS a,[],s)):=by refine(evE (fn:=Tryz.f221) (by kernel_rfl)).trans ?_;generalize evC (UU L) d=Q;unfold Bq4;kernel_rfl
noncomputable def VF(L:Nat):Cfg:=B7 L [199] (A2 []) [(221,Bl0)] (A2 [(1,[4]),(0,[0,0])]) [221] (A2 []) (some [4]) [] [] []
noncomputable def Bt2{R:Type}(L:Nat)(b a:By)(c:By->Option R):Option R:=cond (A3 b.length) (c (YS b a)) none
theorem Cu2(d:Nat)(s0 suffix1):evC (VF L) (d+1) Z Y 199 [pS s0,pS suffix1] [] s=Bt2 L s0 suffix1 (λa=>some (pS a,[],s)):=by refine(evE (fn:=Tryz.f199) (by kernel_rfl)).trans ?_;generalize evC (VF L) d=Q;unfold Bt2;kernel_rfl
noncomputable def UQ(L:Nat):Cfg:=B7 L [158] (A2 []) [(163,RZ)] (A2 [(3,[4,0]),(2,[4,0]),(1,[0,0,7]),(0,[0,0])]) [163] (A2 []) (some [4,0]) [] [] []
noncomputable def Bp7{R:Type}(L:Nat)(b a:By)(d:By->Bool->Option R):Option R:=cond (A3 b.length) (cond (not (o8 a b)) (d b false) (cond (I9 (a.length:Int) (b.length:Int) b.length) (vl (cut b (a.length:Int) (b.length:Int)) λc=>d c true) none)) none
theorem Ck3(d:Nat)(s0 prefix1):evC (UQ L) (d+1) Z Y 158 [pS s0,pS prefix1] [] s=Bp7 L s0 prefix1 (λa b=>some (.tup [pS a,pB b],[],s)):=by refine(evE (fn:=Tryz.f158) (by kernel_rfl)).trans ?_;generalize evC (UQ L) d=Q;unfold Bp7;kernel_rfl
noncomputable def Aw2(L:Nat):Cfg:=B7 L [118] (A2 []) [(158,Bk7)] (A2 [(1,[4,0]),(0,[0,0])]) [158] (A2 []) (some [4,0]) [] [] []
noncomputable def C17{R:Type}(L:Nat)(b a:By)(c:By->Bool->Option R):Option R:=cond (A3 b.length) (c (Ha b a) (o8 a b)) none
theorem C18(d:Nat)(s0 prefix1):evC (Aw2 L) (d+1) Z Y 118 [pS s0,pS prefix1] [] s=C17 L s0 prefix1 (λa b=>some (.tup [pS a,pB b],[],s)):=by refine(evE (fn:=Tryz.f118) (by kernel_rfl)).trans ?_;generalize evC (Aw2 L) d=Q;unfold C17;kernel_rfl
noncomputable abbrev Aa3:Code:=C8 ag6
noncomputable def Eg(L:Nat):Cfg:=B7 L [210] (A2 [(11,[0,0,0,0,4,0,0])]) [(234,Ka),(235,Au0),(179,HK)] (A2 [(18,[8]),(17,[9,0]),(16,[0,0,0,0,5,0]),(15,[0,0,0,0,5,0]),(14,[0,0,0,0,5,0,0]),(13,[0,0,0,0,5,0,0,29]),(12,[0,0,0,0,5,0,0]),(11,[0,0,0,0,5,0,25]),(10,[0,0,0,0,5,0]),(9,[0,0,0,0,5]),(8,[0,0,0,0,5]),(7,[0,0,0,0]),(6,[0,0,0,0]),(5,[0,0,0,0,16]),(4,[8]),(3,[0,0,0,0,11]),(2,[8]),(1,[0,0,0,0,9]),(0,[0,0,0,0])]) [235,179] (A2 [(0,[0,8,0]),(1,[0,0,0,0,5,0])]) (some [8]) [] [] []
noncomputable def Bj{R:Type}(L n:Nat)(c b:By)(a l d:Int)(g:LL)(j:By->Int->LL->Option R):Option R:=match n with|0=>none|n+1=>cond (ltI d l) (cond (A3 c.length) (cond (ltI (x8 c b) (0:Int)) (j c d g) (vl (A1 ((x8 c b)+a)) λe=>cond (I9 0 e c.length) (cond (inR d g.length) (cond (decide ((b9 d)<g.length)) (vl (aa2 g (b9 d) (G1 (b8 g (b9 d) []) 0 [(SV.str (cut c 0 e))])) λh=>vl (A1 ((x8 c b)+(b.length:Int))) λf=>cond (I9 f (c.length:Int) c.length) (vl (cut c f (c.length:Int)) λi=>Bj L n i b a l (A1 (d+1)) h j) none) none) none) none)) none) (j c d g)
theorem Wb(n a sep1 sepSave2 n3 i4 l5):D0 1 ((Eg L).keep 11) (bd (Eg L) Q Y (cd [1,1,1,1,1,1,1,1,0,0,0] Aa3)) n ⟨gp [(0,pS a),(0,pS sep1),(0,pI sepSave2),(0,pI n3),(5,.fl 0),(0,pI i4)] 55,[.arr false 9 1 l5],s⟩ k =
 Bj L n a sep1 sepSave2 n3 i4 l5 (λa b d=>k (.exit 0) ⟨gp [(0,pS a),(8,.fl 0),(0,pI b)] 55,[.arr false 9 1 d],s⟩):=by
 induction n generalizing a sep1 sepSave2 n3 i4 l5 with
 | zero=>rfl
 | succ n c=>rw[Bj];simp only[<-c];kernel_rfl
noncomputable def JK{R:Type}(L:Nat)(t d:By)(a u:Int)(w:Unit->Option R)(v:Nat->LL->Option R):Option R:=cond (u==0) (w ()) (cond (d==[]) none (cond (ltI u 0) (cond (d.length==1) (vl (↑(List.count (b8 d 0 0) t):Int) λn=>vl (A1 ((t.length:Int)+1)) λo=>vl (if (o<(A1 (n+1))) then o else (A1 (n+1))) λg=>cond (((decide ((0:Int)<=g))&&(decide (g<=g)))&&(F9 (b9 g))) (Bj L L t d a (A1 (g-1)) 0 (j1 (b9 g) [(SV.str ([]:List UInt8))]) (λq b e=>cond (inR b e.length) (cond (decide ((b9 b)<e.length)) (vl (aa2 e (b9 b) (G1 (b8 e (b9 b) []) 0 [(SV.str q)])) λi=>vl (A1 (b+1)) λl=>cond (I9 0 l i.length) (v ((b9 l)-0) i) none) none) none)) none) none) (vl (A1 ((t.length:Int)+1)) λp=>vl (if (p<u) then p else u) λh=>cond (((decide ((0:Int)<=h))&&(decide (h<=h)))&&(F9 (b9 h))) (Bj L L t d a (A1 (h-1)) 0 (j1 (b9 h) [(SV.str ([]:List UInt8))]) (λr c f=>cond (inR c f.length) (cond (decide ((b9 c)<f.length)) (vl (aa2 f (b9 c) (G1 (b8 f (b9 c) []) 0 [(SV.str r)])) λj=>vl (A1 (c+1)) λm=>cond (I9 0 m j.length) (v ((b9 m)-0) j) none) none) none)) none)))
theorem OW(d:Nat)(s0 sep1 sepSave2 n3):evC (Eg L) (d+1) Z Y 210 [pS s0,pS sep1,pI sepSave2,pI n3] [] s=JK L s0 sep1 sepSave2 n3 (λ_=>some (.fl 0,[.arr true 9 1 []],s)) (λc f=>some (.vw 0 0 c,[.arr false 9 1 f],s)):=by refine(evE (fn:=ag6) (by kernel_rfl)).trans ?_;generalize evC (Eg L) d=Q;unfold JK;exact let e:=(E5 0 (E4 (Eg L) Q Y (cd [1,1,1,1,1,1,1,1,1] Aa3) (F6 (Eg L) ag6)));(j2 (by kernel_rfl) (A0 rfl (A0 rfl (A0 (A0 (A4 λg=>(A4 λh=>(A4 λa=>(A0 ((Wb L Q Y s e L s0 sep1 sepSave2 (A1 (a-1)) 0 (j1 (b9 a) [(SV.str ([]:List UInt8))])).trans (by kernel_rfl)) rfl)))) rfl) (A4 λi=>(A4 λb=>(A0 ((Wb L Q Y s e L s0 sep1 sepSave2 (A1 (b-1)) 0 (j1 (b9 b) [(SV.str ([]:List UInt8))])).trans (by kernel_rfl)) rfl)))))))
noncomputable def IN(L:Nat):Cfg:=B7 L [176] (A2 []) [(210,ZO)] (A2 [(1,[4]),(0,[0,0])]) [] (A2 []) (some [4]) [] [] []
noncomputable def YL{R:Type}(L:Nat)(c a:By)(d:LL->Option R):Option R:=cond (A3 c.length) (cond (a.length==1) (cond ((0:Int)==0) (cond (((-1):Int)==((-1):Int)) (vl (D2 (pcs (b8 a 0 0) c)) λb=>d b) none) none) none) none
theorem B77(d:Nat)(s0 sep1):evC (IN L) (d+1) Z Y 176 [pS s0,pS sep1] [] s=YL L s0 sep1 (λa=>some (.s (.sl false false 1 a),[],s)):=by refine(evE (fn:=Tryz.f176) (by kernel_rfl)).trans ?_;generalize evC (IN L) d=Q;unfold YL;kernel_rfl
noncomputable abbrev Cf0:Code:=C8 af7
noncomputable def Tc(L:Nat):Cfg:=B7 L [116] (A2 [(3,[0,1,0,6,0])]) [] (A2 [(10,[2]),(9,[0,2,6,0]),(8,[0,2,6,0]),(7,[0,2,1,4,0]),(6,[0,2,1,4,0,10]),(5,[0,2,1,4,0]),(4,[0,2,0,5,0]),(3,[0,2,6,0,0]),(2,[0,2,6,0]),(1,[0,2]),(0,[0])]) [] (A2 [(0,[3]),(1,[0,2,6,0])]) (some [2]) [] [] []
noncomputable def Fl{R:Type}(L n:Nat)(b:By)(e a:Int)(c:LL)(d:LL->Option R):Option R:=match n with|0=>none|n+1=>cond (ltI a e) (cond (inR a b.length) (cond (not (ltI (bAt b a) (65:Int))) (cond (not (ltI 90 (bAt b a))) (vl (wu8 ((bAt b a)+32)) λf=>cond (F9 (c.length+1)) (Fl L n b e (A1 (a+1)) (c++[[(SV.int .u8 f)]]) d) none) (cond (F9 (c.length+1)) (Fl L n b e (A1 (a+1)) (c++[[(SV.int .u8 (bAt b a))]]) d) none)) (cond (F9 (c.length+1)) (Fl L n b e (A1 (a+1)) (c++[[(SV.int .u8 (bAt b a))]]) d) none)) none) (d c)
theorem A32(n s0 n1 n2 l3):D0 1 ((Tc L).keep 3) (bd (Tc L) Q Y (cd [1,1,0,1,0,0] Cf0)) n ⟨gp [(0,pS s0),(2,.fl 0),(6,pI n1),(0,pI n2)] 20,[.arr false 5 1 l3],s⟩ k =
 Fl L n s0 n1 n2 l3 (λb=>k (.exit 0) ⟨gp [(3,.fl 0)] 28,[.arr false 5 1 b],s⟩):=by
 induction n generalizing s0 n1 n2 l3 with
 | zero=>rfl
 | succ n a=>rw[Fl];simp only[<-a];kernel_rfl
noncomputable def C71{R:Type}(L:Nat)(b:By)(c:By->LL->Option R):Option R:=cond ((decide ((0:Int)<=(b.length:Int)))&&(F9 (b9 (b.length:Int)))) (Fl L L b (b.length:Int) 0 [] (λa=>cond (w8 a Nz) (c (p4 Lw a) a) none)) none
theorem C72(d:Nat)(s0):evC (Tc L) (d+1) Z Y 116 [pS s0] [] s=C71 L s0 (λb a=>some (pS b,[.arr false 5 1 a],s)):=by refine(evE (fn:=af7) (by kernel_rfl)).trans ?_;generalize evC (Tc L) d=Q;unfold C71;exact(j2 (by kernel_rfl) (A0 ((A32 L Q Y s (E5 0 (E4 (Tc L) Q Y (cd [1,1,1] Cf0) (F6 (Tc L) af7))) L s0 (s0.length:Int) 0 []).trans (by kernel_rfl)) rfl))
noncomputable def Aw6(L:Nat):Cfg:=B7 L [137] (A2 []) [(120,FZ)] (A2 [(1,[2]),(0,[0])]) [120] (A2 []) (some [2]) [] [] []
noncomputable def C49{R:Type}(L:Nat)(a:By)(b:Bool->Option R):Option R:=cond (A3 a.length) (cond (o8 ([48,120]:List UInt8) a) (b true) (cond (A3 a.length) (b (o8 ([48,88]:List UInt8) a)) none)) none
theorem C50(d:Nat)(s0):evC (Aw6 L) (d+1) Z Y 137 [pS s0] [] s=C49 L s0 (λa=>some (pB a,[],s)):=by refine(evE (fn:=Tryz.f137) (by kernel_rfl)).trans ?_;generalize evC (Aw6 L) d=Q;unfold C49;kernel_rfl
noncomputable abbrev Ez:Code:=C8 ad6
noncomputable def X2(L:Nat):Cfg:=B7 L [139] (A2 [(3,[0,0,2,0,0,4,0])]) [] (A2 [(18,[4,0]),(17,[0,0,4,4,0]),(16,[0,0,4,4,0]),(15,[4,0]),(14,[0,0,4,1,2,0,39]),(9,[0,0,4,1,2,0]),(11,[0,0,4,1,2,0]),(13,[0,0,4,1,2,0]),(7,[4,0]),(12,[0,0,4,2,1,0,26]),(10,[0,0,4,2,1,0,15]),(8,[0,0,4,2,1,0,5]),(6,[0,0,4,2,1,0]),(5,[0,0,4,0,3,0]),(4,[0,0,4,0,3,0]),(3,[0,0,4,4,0,0]),(2,[0,0,4,4,0]),(1,[0,0,4]),(0,[0,0])]) [] (A2 [(0,[6]),(1,[0,0,4,4,0]),(2,[0,0,4,1,2,0])]) (some [4,0]) [] [] []
noncomputable def Vj{R:Type}(m:By)(a i b j l:Int)(n:Bool)(g:By->Int->Int->Int->Int->Int->Option R)(h:Unit->Option R):Option R:=cond n (vl (A1 (wu8 (b-97))) λc=>vl (A1 (c+10)) λd=>g m a i d j l) (cond (not (ltI b 65)) (cond (not (ltI 70 b)) (vl (A1 (wu8 (b-65))) λe=>vl (A1 (e+10)) λf=>g m a i f j l) (h ())) (h ()))
abbrev ON(b:Code):Prop:=∀(k:Out->St Z->Option R) f a c b3 d e b6,A9 (X2 L) Q Y b ⟨gp [(0,pS f),(0,pI a),(4,pI c),(2,p8 b3),(1,pI d),(0,pI e),(15,pB b6)] 32,[],s⟩ k=Vj f a c b3 d e b6 (λf a c g d e=>k .normal ⟨gp [(0,pS f),(0,pI a),(4,pI c),(1,pI g),(2,pI d),(0,pI e)] 48,[],s⟩) (λ_=>k .ret ⟨gp [(4,pI (0:Int)),(0,pB false)] 55,[],s⟩)
theorem Ay9:ON (R:=R) L Q Y s (cd [1,1,0,1,0,0,1,1,0,0,1,1,0,1,0,1,1,1] Ez):=by intro k g a d b e f c;unfold Vj;kernel_rfl
noncomputable def Vk{R:Type}(v:By)(a q d r t:Int)(x:Bool)(m:By->Int->Int->Int->Int->Int->Option R)(w:Unit->Option R):Option R:=cond x (vl (A1 (wu8 (d-48))) λn=>m v a q n r t) (cond (not (ltI d 97)) (Vj v a q d r t (not (ltI 102 d)) (λu c o l p f=>m u c o l p f) (λ_=>w ())) (Vj v a q d r t false (λj b g e h i=>m j b g e h i) (λ_=>w ())))
abbrev Qr(b:Code):Prop:=∀(k:Out->St Z->Option R) f a c b3 d e b6,A9 (X2 L) Q Y b ⟨gp [(0,pS f),(0,pI a),(4,pI c),(2,p8 b3),(1,pI d),(0,pI e),(5,pB b6)] 42,[],s⟩ k=Vk f a c b3 d e b6 (λf a c g d e=>k .normal ⟨gp [(0,pS f),(0,pI a),(4,pI c),(1,pI g),(2,pI d),(0,pI e)] 48,[],s⟩) (λ_=>k .ret ⟨gp [(4,pI (0:Int)),(0,pB false)] 55,[],s⟩)
theorem Az0(a:Code)(b:ON (R:=R) L Q Y s a):Qr (R:=R) L Q Y s (cd [1,1,0,1,0,0,1,1,0,0,1,1,0,1,0,1] (G4 [1,1,0,1,0,0,1,1,0,0,1,1,0,1,0,1,1,1] a Ez)):=by intro k i c f d g h e;unfold Vk;simp only[<-b k];kernel_rfl
theorem Az1:Qr (R:=R) L Q Y s (cd [1,1,0,1,0,0,1,1,0,0,1,1,0,1,0,1] Ez):=by intro k g a d b e f c;exact j2 (by kernel_rfl) (Az0 L Q Y s (cd [1,1,0,1,0,0,1,1,0,0,1,1,0,1,0,1,1,1] Ez) (Ay9 L Q Y s) k g a d b e f c)
noncomputable def Vl{R:Type}(j:By)(a g d h i:Int)(e:Unit->Option R)(f:By->Int->Int->Int->Int->Option R):Option R:=cond (not (ltI d a)) (e ()) (vl (A1 ((A1 (g*a))+d)) λb=>vl (if ((1099511627776:Int)<b) then (1099511627776:Int) else b) λc=>f j a c h i)
abbrev AF(b:Code):Prop:=∀(k:Out->St Z->Option R) e a c d3 d n5,A9 (X2 L) Q Y b ⟨gp [(0,pS e),(0,pI a),(4,pI c),(1,pI d3),(2,pI d),(0,pI n5)] 48,[],s⟩ k=Vl e a c d3 d n5 (λ_=>k .ret ⟨gp [(4,pI (0:Int)),(0,pB false)] 55,[],s⟩) (λe a c f d=>k .normal ⟨gp [(0,pS e),(0,pI a),(4,pI c),(4,pI f),(0,pI d)] 48,[],s⟩)
theorem Az2:AF (R:=R) L Q Y s (cd [1,1,0,1,0,0,1,1,0,0,1,1,1] Ez):=by intro k f a c b d e;unfold Vl;kernel_rfl
noncomputable def Iq{R:Type}(L n:Nat)(g:By)(e H I f:Int)(h:Unit->Option R)(G:Int->Option R):Option R:=match n with|0=>none|n+1=>cond (ltI f I) (cond (inR f g.length) (cond (not (ltI (bAt g f) (48:Int))) (Vk g e H (bAt g f) I f (not (ltI 57 (bAt g f))) (λB a l i m o=>Vl B a l i m o (λ_=>h ()) (λC b p q r=>vl (A1 (r+1)) λt=>Iq L n C b p q t h G)) (λ_=>h ())) (Vk g e H (bAt g f) I f false (λD c u j v w=>Vl D c u j v w (λ_=>h ()) (λF d x y z=>vl (A1 (z+1)) λA=>Iq L n F d x y A h G)) (λ_=>h ()))) none) (G H)
theorem Az3(b:Code)(d:Qr (R:=R) L Q Y s b)(a:Code)(e:AF (R:=R) L Q Y s a)(n:Nat)(l:By)(c C D j:Int):D0 0 ((X2 L).keep 3) (bd (X2 L) Q Y (cd [1,1,0,1,0,0] (G4 [1,1,0,1,0,0,1,1,0,0,1,1,1] a (G4 [1,1,0,1,0,0,1,1,0,0,1,1,0,1,0,1] b Ez)))) n ⟨gp [(0,pS l),(0,pI c),(4,pI C),(4,pI D),(0,pI j)] 48,[],s⟩ k =
 Iq L n l c C D j (λ_=>k .ret ⟨gp [(4,pI (0:Int)),(0,pB false)] 55,[],s⟩) (λn0=>k (.exit 0) ⟨gp [(6,pI n0)] 54,[],s⟩):=by
 induction n generalizing l c C D j with
 | zero=>rfl
 | succ n M=>rw[Iq];exact let J:=(E5 1 (E4 (X2 L) Q Y (cd [1,1,0,1,0,0,1,1,1] Ez) (lpK 0 ((X2 L).keep 3) (bd (X2 L) Q Y (cd [1,1,0,1,0,0] (G4 [1,1,0,1,0,0,1,1,0,0,1,1,1] a (G4 [1,1,0,1,0,0,1,1,0,0,1,1,0,1,0,1] b Ez)))) n k)));let K:=(E5 2 (E4 (X2 L) Q Y a J));(j2 (by kernel_rfl) (A0 (A0 (A0 ((d K l c C (bAt l j) D j (not (ltI 57 (bAt l j)))).trans (congr (congr rfl (fx6 λF f p m q r=>(j2 (by kernel_rfl) ((e J F f p m q r).trans (congr (congr rfl (by kernel_rfl)) (fx5 λG g t u N=>(j2 (by kernel_rfl) (A4 λv=>(M G g t u v))))))))) (by kernel_rfl))) ((d K l c C (bAt l j) D j false).trans (congr (congr rfl (fx6 λH h w o x y=>(j2 (by kernel_rfl) ((e J H h w o x y).trans (congr (congr rfl (by kernel_rfl)) (fx5 λI i z A O=>(j2 (by kernel_rfl) (A4 λB=>(M I i z A B))))))))) (by kernel_rfl)))) rfl) rfl))
noncomputable def Ch2{R:Type}(L:Nat)(d:By)(a:Int)(c:Int->Bool->Option R):Option R:=Iq L L d a 0 (d.length:Int) 0 (λ_=>c 0 false) (λb=>c b true)
theorem C28(a:Code)(d:Qr (R:=PV × List Blk × Z) L Q Y s a)(b:Code)(e:AF (R:=PV × List Blk × Z) L Q Y s b)(f:By)(c:Int):A9 (X2 L) Q Y (cd [] (G4 [1,1,0,1,0,0,1,1,0,0,1,1,1] b (G4 [1,1,0,1,0,0,1,1,0,0,1,1,0,1,0,1] a Ez))) ⟨[pS f,pI c]++tps 59,[],s⟩ (F6 (X2 L) ad6)=Ch2 L f c (λg h=>some (.tup [pI g,pB h],[],s)):=by unfold Ch2;exact(j2 (by kernel_rfl) ((Az3 L Q Y s (E5 0 (E4 (X2 L) Q Y (cd [1,1,1] Ez) (F6 (X2 L) ad6))) a d b e L f c 0 (f.length:Int) 0).trans (by kernel_rfl)))
theorem C29(d:Nat)(s0 base1):evC (X2 L) (d+1) Z Y 139 [pS s0,pI base1] [] s=Ch2 L s0 base1 (λa b=>some (.tup [pI a,pB b],[],s)):=
 (evE (fn:=ad6) (by kernel_rfl)).trans (j2 (by kernel_rfl) (C28 L (evC (X2 L) d) Y s (cd [1,1,0,1,0,0,1,1,0,0,1,1,0,1,0,1] Ez) (Az1 L (evC (X2 L) d) Y s) (cd [1,1,0,1,0,0,1,1,0,0,1,1,1] Ez) (Az2 L (evC (X2 L) d) Y s) s0 base1))
noncomputable def Cg3(L:Nat):Cfg:=B7 L [138] (A2 []) [(137,As4),(139,RE)] (A2 [(7,[2,0]),(2,[2,0]),(4,[2,0]),(6,[2,0]),(5,[0,14]),(3,[0,6]),(1,[0,3]),(0,[0])]) [137,139] (A2 [(0,[0])]) (some [2,0]) [] [] []
noncomputable def num{R:Type}(L:Nat)(a:By)(d:Int->Bool->Option R):Option R:=cond (a==[]) (d 0 false) (cond (A3 a.length) (cond (Y2 a) (cond (I9 2 (a.length:Int) a.length) (vl (cut a 2 (a.length:Int)) λb=>cond (A3 b.length) (cond (ltN 16 17) (vl (↑(N5 (E8 16 0 b)):Int) λe=>d e (j4 (E8 16 0 b))) none) none) none) (cond (ltI 1 (a.length:Int)) (cond (inR 0 a.length) (cond ((bAt a (0:Int))==48) (cond (I9 1 (a.length:Int) a.length) (vl (cut a 1 (a.length:Int)) λc=>cond (A3 c.length) (cond (ltN 8 17) (vl (↑(N5 (E8 8 0 c)):Int) λf=>d f (j4 (E8 8 0 c))) none) none) none) (cond (A3 a.length) (cond (ltN 10 17) (vl (↑(N5 (E8 10 0 a)):Int) λg=>d g (j4 (E8 10 0 a))) none) none)) none) (cond (A3 a.length) (cond (ltN 10 17) (vl (↑(N5 (E8 10 0 a)):Int) λh=>d h (j4 (E8 10 0 a))) none) none))) none)
theorem Dp2(d:Nat)(s0):evC (Cg3 L) (d+1) Z Y 138 [pS s0] [] s=num L s0 (λa b=>some (.tup [pI a,pB b],[],s)):=by refine(evE (fn:=Tryz.f138) (by kernel_rfl)).trans ?_;generalize evC (Cg3 L) d=Q;unfold num;kernel_rfl
noncomputable def UW(L:Nat):Cfg:=B7 L [136] (A2 []) [(176,Uz)] (A2 [(5,[2]),(4,[3]),(3,[3,0,13]),(2,[3,0]),(1,[3]),(0,[0])]) [] (A2 []) (some [2]) [] [] []
noncomputable def parts{R:Type}(L:Nat)(e:By)(c:LL->Option R):Option R:=cond (A3 e.length) (cond (1==1) (vl (D2 (pcs (b8 ([46]:List UInt8) 0 0) e)) λa=>vl (A1 ((a.length:Int)-1)) λb=>cond (ltI 0 b) (cond (inR b a.length) (cond (okE Oa a (b9 b) 0) (vl (gX a (b9 b) 0) λd=>cond (d==[]) (cond (I9 0 b a.length) (c (cut a 0 b)) none) (c a)) none) none) (c a)) none) none
theorem Cn4(d:Nat)(s0):evC (UW L) (d+1) Z Y 136 [pS s0] [] s=parts L s0 (λa=>some (.s (.sl false false 1 a),[],s)):=by refine(evE (fn:=Tryz.f136) (by kernel_rfl)).trans ?_;generalize evC (UW L) d=Q;unfold parts;kernel_rfl
noncomputable def Zu(L:Nat):Cfg:=B7 L [102] (A2 []) [(136,SM),(137,As4),(138,Cc5),(139,RE)] (A2 [(7,[2]),(6,[4,3]),(5,[2]),(4,[6]),(3,[4,13]),(2,[4]),(1,[3]),(0,[0])]) [137,138,139] (A2 []) (some [2]) [] [] []
noncomputable def EY{R:Type}(L:Nat)(c:By)(d:Bool->Option R):Option R:=cond (A3 c.length) (vl (A1 ((↑(a8 (D2 (C5 c))):Int)-1)) λb=>cond (inR b (a8 (D2 (C5 c)))) (cond (okE Oa (D2 (C5 c)) (b9 b) 0) (vl (gX (D2 (C5 c)) (b9 b) 0) λa=>cond (A3 a.length) (cond (Y2 a) (cond (A3 a.length) (vl (↑(N5 (Z5 a)):Int) λe=>d (j4 (Z5 a))) none) (cond (A3 a.length) (cond (ltN 10 17) (vl (↑(N5 (E8 10 0 a)):Int) λf=>cond (j4 (E8 10 0 a)) (d (not (a==[]))) (d false)) none) none)) none) none) none) none
theorem A45(d:Nat)(s0):evC (Zu L) (d+1) Z Y 102 [pS s0] [] s=EY L s0 (λa=>some (pB a,[],s)):=by refine(evE (fn:=Tryz.f102) (by kernel_rfl)).trans ?_;generalize evC (Zu L) d=Q;unfold EY;kernel_rfl
noncomputable abbrev Cf2:Code:=C8 ag2
noncomputable def Te(L:Nat):Cfg:=B7 L [200] (A2 [(6,[2,0,0,0,10,0,0])]) [(136,SM),(138,Cc5)] (A2 [(20,[2,0]),(19,[4,0,10,0,0]),(18,[4,0,10,0,0]),(17,[2,0]),(16,[4,0,2,1,5,0,0,29]),(15,[4,0,2,1,5,0,0]),(14,[4,0,10,0,0]),(13,[2,0]),(12,[4,0,2,7,0,0,17]),(11,[4,0,2,7,0,0,15]),(10,[2,0]),(9,[4,0,0,1,7,0,0,10]),(8,[4,0,0,1,0,6,0,0]),(7,[4,0,0,0,8,0,0]),(6,[4,0,10,0,0,0]),(5,[4,0,10,0,0]),(4,[4,0]),(3,[2,0]),(2,[4,10]),(1,[4]),(0,[0])]) [138] (A2 [(0,[5]),(1,[4,0,10,0,0])]) (some [2,0]) [] [] []
noncomputable def Jb{R:Type}(L n:Nat)(a:LL)(v1 l d:Int)(e:Unit->Option R)(h:Int->Option R):Option R:=match n with|0=>none|n+1=>cond (ltI d l) (cond (inR d a.length) (cond (okE Oa a (b9 d) 0) (cond (A3 (a8 (gX a (b9 d) 0))) (vl (↑(N5 (Z5 (gX a (b9 d) 0))):Int) λb=>cond (not (j4 (Z5 (gX a (b9 d) 0)))) (e ()) (vl (A1 ((a.length:Int)-1)) λi=>cond (ltI d i) (cond (ltI 255 b) (e ()) (vl (bOr .i64 (Rn .i64 v1 (8:Int)) b) λj=>Jb L n a j l (A1 (d+1)) e h)) (vl (A1 ((5:Int)-(a.length:Int))) λc=>cond (decide ((0:Int)<=(A1 ((8:Int)*c)))) (vl (Rn .i64 (1:Int) (A1 ((8:Int)*c))) λf=>cond (not (ltI b f)) (e ()) (cond (decide ((0:Int)<=(A1 ((8:Int)*c)))) (vl (Rn .i64 v1 (A1 ((8:Int)*c))) λg=>Jb L n a (bOr .i64 g b) l (A1 (d+1)) e h) none)) none))) none) none) none) (h v1)
theorem A67(n l0 v1 n2 n3):D0 0 ((Te L).keep 6) (bd (Te L) Q Y (cd [1,0,1,1,1,1,0,1,0,0] Cf2)) n ⟨gp [(4,.s (.sl false false 1 l0)),(0,pI v1),(10,.s (.sl false false 1 l0)),(0,pI n2),(0,pI n3)] 38,[],s⟩ k =
 Jb L n l0 v1 n2 n3 (λ_=>k .ret ⟨gp [(2,p32 (0:Int)),(0,pB false)] 53,[],s⟩) (λv0=>k (.exit 0) ⟨gp [(5,pI v0)] 51,[],s⟩):=by
 induction n generalizing l0 v1 n2 n3 with
 | zero=>rfl
 | succ n a=>rw[Jb];simp only[<-a];kernel_rfl
noncomputable def C96{R:Type}(L:Nat)(b:By)(c:Int->Bool->Option R):Option R:=cond (A3 b.length) (cond (ltI 4 (↑(a8 (D2 (C5 b))):Int)) (c 0 false) (Jb L L (D2 (C5 b)) 0 (↑(a8 (D2 (C5 b))):Int) 0 (λ_=>c 0 false) (λa=>c (CA a) true))) none
theorem C97(d:Nat)(s0):evC (Te L) (d+1) Z Y 200 [pS s0] [] s=C96 L s0 (λa b=>some (.tup [p32 a,pB b],[],s)):=by refine(evE (fn:=ag2) (by kernel_rfl)).trans ?_;generalize evC (Te L) d=Q;unfold C96;exact(j2 (by kernel_rfl) (A0 (A0 rfl ((A67 L Q Y s (E5 0 (E4 (Te L) Q Y (cd [1,0,1,1,1,1,1] Cf2) (F6 (Te L) ag2))) L (D2 (C5 s0)) 0 (↑(a8 (D2 (C5 s0))):Int) 0).trans (by kernel_rfl))) rfl))
noncomputable abbrev Dk8:Code:=C8 ag9
noncomputable def IP(L:Nat):Cfg:=B7 L [255] (A2 [(6,[2,0,1,9,0,0])]) [(176,Uz),(139,RE),(123,As7)] (A2 [(13,[2,0]),(12,[5,9,0,0]),(11,[5,9,0,0]),(10,[2,0]),(9,[5,2,6,0,0,19]),(8,[5,1,0,0,5,0,0]),(7,[5,1,7,0,0]),(6,[5,9,0,0,0]),(5,[5,9,0,0]),(4,[4,0]),(3,[2,0]),(2,[4,9]),(1,[4]),(0,[0])]) [139,123] (A2 [(0,[5]),(1,[5,9,0,0])]) (some [2,0]) [] [] []
noncomputable def Ur{R:Type}(L n:Nat)(v0:Int)(c:LL)(h b:Int)(d:Unit->Option R)(g:Int->Option R):Option R:=match n with|0=>none|n+1=>cond (ltI b h) (cond (inR b c.length) (cond (okE Oa c (b9 b) 0) (cond (A3 (a8 (gX c (b9 b) 0))) (cond (ltN 10 17) (vl (↑(N5 (E8 10 0 (gX c (b9 b) 0))):Int) λa=>cond (not (j4 (E8 10 0 (gX c (b9 b) 0)))) (d ()) (cond (ltI 255 a) (d ()) (cond (ltN a 4294967296) (vl (j6 (b9 a)) λf=>cond (not (f==(gX c (b9 b) 0))) (d ()) (vl (bOr .u32 (Rn .u32 v0 (8:Int)) (CA a)) λe=>Ur L n e c h (A1 (b+1)) d g)) none))) none) none) none) none) (g v0)
theorem B96(n v0 l1 n2 n3):D0 0 ((IP L).keep 6) (bd (IP L) Q Y (cd [1,1,1,1,0,1,0,0] Dk8)) n ⟨gp [(5,p32 v0),(9,.s (.sl false false 1 l1)),(0,pI n2),(0,pI n3)] 27,[],s⟩ k =
 Ur L n v0 l1 n2 n3 (λ_=>k .ret ⟨gp [(2,p32 (0:Int)),(0,pB false)] 41,[],s⟩) (λv0=>k (.exit 0) ⟨gp [(5,p32 v0)] 39,[],s⟩):=by
 induction n generalizing v0 l1 n2 n3 with
 | zero=>rfl
 | succ n a=>rw[Ur];simp only[<-a];kernel_rfl
noncomputable def v4p{R:Type}(L:Nat)(d:By)(b:Int->Bool->Option R):Option R:=cond (A3 d.length) (cond (1==1) (vl (D2 (pcs (b8 ([46]:List UInt8) 0 0) d)) λa=>cond ((a.length:Int)!=4) (b 0 false) (Ur L L 0 a (a.length:Int) 0 (λ_=>b 0 false) (λc=>b c true))) none) none
theorem Dr4(d:Nat)(s0):evC (IP L) (d+1) Z Y 255 [pS s0] [] s=v4p L s0 (λb c=>some (.tup [p32 b,pB c],[],s)):=by refine(evE (fn:=ag9) (by kernel_rfl)).trans ?_;generalize evC (IP L) d=Q;unfold v4p;exact(j2 (by kernel_rfl) (A0 (A0 (A4 λa=>(A0 rfl ((B96 L Q Y s (E5 0 (E4 (IP L) Q Y (cd [1,1,1,1,1] Dk8) (F6 (IP L) ag9))) L 0 a (a.length:Int) 0).trans (by kernel_rfl)))) rfl) rfl))
noncomputable abbrev Dk7:Code:=C8 ag0
noncomputable def IO(L:Nat):Cfg:=B7 L [167] (A2 [(3,[0,1,0,0])]) [(123,As7)] (A2 [(6,[2]),(4,[0,2,0]),(5,[0,2,0]),(3,[0,2,0,1]),(2,[0,2,0]),(1,[0,2]),(0,[0])]) [123] (A2 [(0,[3]),(1,[0,2,0])]) (some [2]) [] [] []
noncomputable def Ig{R:Type}(L n:Nat)(v0:Int)(a:By)(e:Int)(f:By->Option R):Option R:=match n with|0=>none|n+1=>cond (not (ltI e 0)) (cond (decide ((0:Int)<=e)) (vl (Av4 .u32 (EJ .u32 v0 e) (255:Int)) λb=>cond (ltN (A1 b) 4294967296) (vl (j6 (b9 (A1 b))) λc=>cond (L6 c.length 1) (vl (c++[46]) λd=>cond (L6 a.length d.length) (Ig L n v0 (a++d) (A1 (e-8)) f) none) none) none) none) (f a)
theorem B95(n v0 out1 i2):D0 0 ((IO L).keep 3) (bd (IO L) Q Y (cd [1,1,0,1,0,0] Dk7)) n ⟨gp [(0,p32 v0),(2,pS out1),(0,pI i2)] 18,[],s⟩ k =
 Ig L n v0 out1 i2 (λa=>k (.exit 0) ⟨gp [(3,pS a)] 19,[],s⟩):=by
 induction n generalizing v0 out1 i2 with
 | zero=>rfl
 | succ n b=>rw[Ig];simp only[<-b];kernel_rfl
noncomputable def v4f{R:Type}(L:Nat)(v0:Int)(d:By->Option R):Option R:=Ig L L v0 ([]:List UInt8) 24 (λa=>vl (A1 ((a.length:Int)-1)) λb=>cond (I9 0 b a.length) (vl (cut a 0 b) λc=>d c) none)
theorem Dr3(d:Nat)(v0):evC (IO L) (d+1) Z Y 167 [p32 v0] [] s=v4f L v0 (λa=>some (pS a,[],s)):=by refine(evE (fn:=ag0) (by kernel_rfl)).trans ?_;generalize evC (IO L) d=Q;unfold v4f;exact(j2 (by kernel_rfl) ((B95 L Q Y s (E5 0 (E4 (IO L) Q Y (cd [1,1,1] Dk7) (F6 (IO L) ag0))) L v0 ([]:List UInt8) 24).trans (by kernel_rfl)))
noncomputable abbrev NZ:Code:=C8 af6
noncomputable def Dc(L:Nat):Cfg:=B7 L [111] (A2 [(2,[0,1,0])]) [] (A2 [(6,[2]),(3,[0,2]),(5,[2]),(4,[0,2,15]),(2,[0,2,3]),(1,[0,2]),(0,[0])]) [] (A2 [(0,[0]),(1,[0,2])]) (some [2]) [] [] []
noncomputable def Bc{R:Type}(L n:Nat)(a:By)(b:Int)(c:Unit->Option R)(d:By->Option R):Option R:=match n with|0=>none|n+1=>cond (ltI b (a.length:Int)) (cond (inR b a.length) (cond (ltI (bAt a b) (48:Int)) (c ()) (cond (inR b a.length) (cond (ltI 57 (bAt a b)) (c ()) (Bc L n a (A1 (b+1)) c d)) none)) none) (d a)
theorem MW(n a i1):D0 0 ((Dc L).keep 2) (bd (Dc L) Q Y (cd [1,0,1,0,0] NZ)) n ⟨gp [(0,pS a),(2,pI i1)] 18,[],s⟩ k =
 Bc L n a i1 (λ_=>k .ret ⟨gp [(2,pB false)] 19,[],s⟩) (λa=>k (.exit 0) ⟨gp [(0,pS a)] 21,[],s⟩):=by
 induction n generalizing a i1 with
 | zero=>rfl
 | succ n b=>rw[Bc];simp only[<-b];kernel_rfl
noncomputable def FF{R:Type}(L:Nat)(c:By)(b:Bool->Option R):Option R:=Bc L L c 0 (λ_=>b false) (λa=>b (not (a==[])))
theorem A80(d:Nat)(s0):evC (Dc L) (d+1) Z Y 111 [pS s0] [] s=FF L s0 (λa=>some (pB a,[],s)):=by refine(evE (fn:=af6) (by kernel_rfl)).trans ?_;generalize evC (Dc L) d=Q;unfold FF;exact(j2 (by kernel_rfl) ((MW L Q Y s (E5 0 (E4 (Dc L) Q Y (cd [1,1] NZ) (F6 (Dc L) af6))) L s0 0).trans (by kernel_rfl)))
noncomputable abbrev Cf5:Code:=C8 af8
noncomputable def Th(L:Nat):Cfg:=B7 L [127] (A2 [(3,[0,1,0,0])]) [] (A2 [(9,[2]),(4,[0,2,0]),(8,[0,2,0]),(7,[0,2,0,0]),(6,[0,2,0,0,14]),(5,[0,2,0,0]),(3,[0,2,0,4]),(2,[0,2,0]),(1,[0,2]),(0,[0])]) [] (A2 [(0,[3]),(1,[0,2,0])]) (some [2]) [] [] []
noncomputable def Fu{R:Type}(L n:Nat)(b:By)(a:Int)(c:LL)(d:LL->Option R):Option R:=match n with|0=>none|n+1=>cond (ltI a (b.length:Int)) (cond (inR a b.length) (cond (not (ltI (bAt b a) (65:Int))) (cond (not (ltI 90 (bAt b a))) (vl (wu8 ((bAt b a)+32)) λe=>cond (F9 (c.length+1)) (Fu L n b (A1 (a+1)) (c++[[(SV.int .u8 e)]]) d) none) (cond (F9 (c.length+1)) (Fu L n b (A1 (a+1)) (c++[[(SV.int .u8 (bAt b a))]]) d) none)) (cond (F9 (c.length+1)) (Fu L n b (A1 (a+1)) (c++[[(SV.int .u8 (bAt b a))]]) d) none)) none) (d c)
theorem Ba9(n s0 i1 l2):D0 1 ((Th L).keep 3) (bd (Th L) Q Y (cd [1,1,0,1,0,0] Cf5)) n ⟨gp [(0,pS s0),(2,.fl 0),(0,pI i1)] 24,[.arr true 5 1 l2],s⟩ k =
 Fu L n s0 i1 l2 (λb=>k (.exit 0) ⟨gp [(3,.fl 0)] 25,[.arr true 5 1 b],s⟩):=by
 induction n generalizing s0 i1 l2 with
 | zero=>rfl
 | succ n a=>rw[Fu];simp only[<-a];kernel_rfl
noncomputable def Db6{R:Type}(L:Nat)(c:By)(b:By->LL->Option R):Option R:=Fu L L c 0 [] (λa=>cond (w8 a Nz) (b (p4 Lw a) a) none)
theorem Db7(d:Nat)(s0):evC (Th L) (d+1) Z Y 127 [pS s0] [] s=Db6 L s0 (λb a=>some (pS b,[.arr true 5 1 a],s)):=by refine(evE (fn:=af8) (by kernel_rfl)).trans ?_;generalize evC (Th L) d=Q;unfold Db6;exact(j2 (by kernel_rfl) ((Ba9 L Q Y s (E5 0 (E4 (Th L) Q Y (cd [1,1,1] Cf5) (F6 (Th L) af8))) L s0 0 []).trans (by kernel_rfl)))
noncomputable abbrev Aa7:Code:=C8 ah7
noncomputable def Gu(L:Nat):Cfg:=B7 L [76] (A2 [(4,[0,0,2,0,0,0])]) [] (A2 [(9,[4]),(5,[0,0,3,0,0]),(8,[0,0,3,0,0]),(7,[0,0,3,1]),(6,[0,0,3,0,0,16]),(4,[0,0,3,0,0,3]),(3,[0,0,3,0,0]),(2,[0,0,3,0]),(1,[0,0,3]),(0,[0,0])]) [] (A2 [(0,[5]),(1,[0,0,3,0,0])]) (some [4]) [] [] []
noncomputable def W7{R:Type}(L n:Nat)(c:By)(d a b:Int)(e:LL)(f:LL->Option R):Option R:=match n with|0=>none|n+1=>cond (not (ltI (c.length:Int) b)) (cond (b==(c.length:Int)) (cond (I9 a b c.length) (cond (F9 (e.length+1)) (W7 L n c d (A1 (b+1)) (A1 (b+1)) (e++[[(SV.str (cut c a b))]]) f) none) none) (cond (inR b c.length) (cond ((bAt c b)==d) (cond (I9 a b c.length) (cond (F9 (e.length+1)) (W7 L n c d (A1 (b+1)) (A1 (b+1)) (e++[[(SV.str (cut c a b))]]) f) none) none) (W7 L n c d a (A1 (b+1)) e f)) none)) (f e)
theorem XW(n s0 at1 from2 i3 l4):D0 1 ((Gu L).keep 4) (bd (Gu L) Q Y (cd [1,1,1,0,1,0,0] Aa7)) n ⟨gp [(0,pS s0),(0,p8 at1),(3,.fl 0),(0,pI from2),(0,pI i3)] 27,[.arr true 9 1 l4],s⟩ k =
 W7 L n s0 at1 from2 i3 l4 (λb=>k (.exit 0) ⟨gp [(5,.fl 0)] 29,[.arr true 9 1 b],s⟩):=by
 induction n generalizing s0 at1 from2 i3 l4 with
 | zero=>rfl
 | succ n a=>rw[W7];simp only[<-a];kernel_rfl
noncomputable def LK{R:Type}(L:Nat)(d:By)(a:Int)(c:LL->Option R):Option R:=W7 L L d a 0 0 [] (λb=>c b)
theorem B58(d:Nat)(s0 at1):evC (Gu L) (d+1) Z Y 76 [pS s0,p8 at1] [] s=LK L s0 at1 (λa=>some (.fl 0,[.arr true 9 1 a],s)):=by refine(evE (fn:=ah7) (by kernel_rfl)).trans ?_;generalize evC (Gu L) d=Q;unfold LK;exact(j2 (by kernel_rfl) ((XW L Q Y s (E5 0 (E4 (Gu L) Q Y (cd [1,1,1,1] Aa7) (F6 (Gu L) ah7))) L s0 at1 0 0 []).trans (by kernel_rfl)))
noncomputable def Zt(L:Nat):Cfg:=B7 L [95] (A2 []) [(95,(Lj L))] (A2 [(3,[2]),(2,[2]),(1,[0,3]),(0,[0])]) [95] (A2 []) (some [2]) [] [] []
noncomputable def ES{R:Type}(L:Nat)(n0:Int)(g:By->Option R):Option R:=cond (ltI n0 10) (vl (wu8 (A1 ((48:Int)+n0))) λa=>cond (w8 [[(SV.int .u8 a)]] Nz) (vl (p4 Lw [[(SV.int .u8 a)]]) λf=>g f) none) (vl (A1 (aa8 n0 (10:Int))) λb=>cond (ltN b L) (vl (j6 (b9 b)) λd=>vl (A1 ((48:Int)+(ah5 n0 (10:Int)))) λc=>cond (w8 [[(SV.int .u8 (wu8 c))]] Nz) (vl (p4 Lw [[(SV.int .u8 (wu8 c))]]) λe=>cond (L6 d.length e.length) (g (d++e)) none) none) none)
theorem A02(d:Nat)(n0):evC (Zt L) (d+1) Z Y 95 [pI n0] [] s=ES L n0 (λa=>some (pS a,[],s)):=by refine(evE (fn:=Tryz.f95) (by kernel_rfl)).trans ?_;generalize evC (Zt L) d=Q;unfold ES;kernel_rfl
noncomputable abbrev Sx:Code:=C8 ad7
noncomputable def Jm(L:Nat):Cfg:=B7 L [153] (A2 []) [] (A2 [(7,[2]),(2,[2]),(4,[2]),(6,[2]),(5,[0,23]),(3,[0,12]),(1,[0,2]),(0,[0])]) [] (A2 [(0,[])]) (some [2]) [] [] []
noncomputable def Xb{R:Type}(a:Int)(h:Bool)(f:Int->Option R)(g:Int->Bool->Option R):Option R:=cond h (vl (A1 (wu8 (a-97))) λb=>vl (A1 (b+10)) λc=>f c) (cond (not (ltI a 65)) (cond (not (ltI 70 a)) (vl (A1 (wu8 (a-65))) λd=>vl (A1 (d+10)) λe=>f e) (g a (not (ltI 70 a)))) (g a false))
abbrev PX(b:Code):Prop:=∀(k:Out->St Z->Option R) a c,A9 (Jm L) Q Y b ⟨gp [(0,p8 a),(12,pB c)] 21,[],s⟩ k=Xb a c (λn0=>k .ret ⟨gp [(2,pI n0)] 32,[],s⟩) (λa c=>k .normal ⟨gp [(0,p8 a),(23,pB c)] 10,[],s⟩)
theorem A77:PX (R:=R) L Q Y s (cd [1,0,0,1,1,1] Sx):=by intro k a b;unfold Xb;kernel_rfl
noncomputable def Xc{R:Type}(b:Int)(l:Bool)(f:Int->Option R)(j:Int->Bool->Option R):Option R:=cond l (vl (A1 (wu8 (b-48))) λg=>f g) (cond (not (ltI b 97)) (Xb b (not (ltI 102 b)) (λh=>f h) (λc d=>j c d)) (Xb b false (λi=>f i) (λe a=>j e a)))
abbrev BI(b:Code):Prop:=∀(k:Out->St Z->Option R) a c,A9 (Jm L) Q Y b ⟨gp [(0,p8 a),(2,pB c)] 31,[],s⟩ k=Xc a c (λn0=>k .ret ⟨gp [(2,pI n0)] 32,[],s⟩) (λa c=>k .normal ⟨gp [(0,p8 a),(23,pB c)] 10,[],s⟩)
theorem A78(a:Code)(b:PX (R:=R) L Q Y s a):BI (R:=R) L Q Y s (cd [1,0,0,1] (G4 [1,0,0,1,1,1] a Sx)):=by intro k c d;unfold Xc;simp only[<-b k];kernel_rfl
theorem A79:BI (R:=R) L Q Y s (cd [1,0,0,1] Sx):=by intro k a b;exact j2 (by kernel_rfl) (A78 L Q Y s (cd [1,0,0,1,1,1] Sx) (A77 L Q Y s) k a b)
noncomputable def Co4{R:Type}(L:Nat)(c:Int)(d:Int->Option R):Option R:=cond (not (ltI c 48)) (Xc c (not (ltI 57 c)) (λa=>d a) (λe f=>d 99)) (Xc c false (λb=>d b) (λg h=>d 99))
theorem Da6(b:Code)(a:BI (R:=PV × List Blk × Z) L Q Y s b)(c:Int):A9 (Jm L) Q Y (cd [] (G4 [1,0,0,1] b Sx)) ⟨[p8 c]++tps 34,[],s⟩ (F6 (Jm L) ad7)=Co4 L c (λe=>some (pI e,[],s)):=by unfold Co4;exact let d:=(E5 0 (E4 (Jm L) Q Y (cd [1,1] Sx) (F6 (Jm L) ad7)));(j2 (by kernel_rfl) (A0 ((a d c (not (ltI 57 c))).trans (by kernel_rfl)) ((a d c false).trans (by kernel_rfl))))
theorem Da7(d:Nat)(b0):evC (Jm L) (d+1) Z Y 153 [p8 b0] [] s=Co4 L b0 (λa=>some (pI a,[],s)):=
 (evE (fn:=ad7) (by kernel_rfl)).trans (j2 (by kernel_rfl) (Da6 L (evC (Jm L) d) Y s (cd [1,0,0,1] Sx) (A79 L (evC (Jm L) d) Y s) b0))
noncomputable abbrev Db:Code:=C8 ad5
noncomputable def P8(L:Nat):Cfg:=B7 L [112] (A2 [(10,[0,1,0,0,0,0])]) [(153,Cc9)] (A2 [(16,[2,0]),(11,[0,3,0,0]),(15,[0,3,0,0]),(14,[2,0]),(13,[0,3,0,0,0,44]),(12,[0,3,0,0,0]),(10,[0,3,0,0,36]),(9,[0,3,0,0]),(8,[0,3,0]),(5,[0,3]),(7,[0,3]),(6,[0,3,32]),(4,[0,3,22]),(3,[0,3]),(2,[2,0]),(1,[0,8]),(0,[0])]) [153] (A2 [(0,[5]),(1,[0,3,0,0])]) (some [2,0]) [] [] []
noncomputable def FK{R:Type}(a:By)(c:By->Option R):Option R:=cond (I9 2 (a.length:Int) a.length) (vl (cut a 2 (a.length:Int)) λb=>c b) none
abbrev QC(b:Code):Prop:=∀(k:Out->St Z->Option R) a,A9 (P8 L) Q Y b ⟨gp [(0,pS a),(3,pI (10:Int)),(22,pB true)] 32,[],s⟩ k=FK a (λa=>k .normal ⟨gp [(0,pS a),(3,pI (16:Int))] 55,[],s⟩)
theorem Bb2:QC (R:=R) L Q Y s (cd [1,1,1,0,1] Db):=by intro k a;unfold FK;kernel_rfl
noncomputable def Jd{R:Type}(L n:Nat)(d:By)(h a:Int)(f:Unit->Option R)(g:Int->Option R):Option R:=match n with|0=>none|n+1=>cond (ltI a (d.length:Int)) (cond (inR a d.length) (cond (inR (bAt d a) 256) (vl (↑(dig (u8n (bAt d a))):Int) λb=>cond (not (ltI b 16)) (f ()) (vl (A1 ((A1 (h*16))+b)) λc=>vl (if ((1099511627776:Int)<c) then (1099511627776:Int) else c) λe=>Jd L n d e (A1 (a+1)) f g)) none) none) (g h)
theorem Bb7(n s0 n1 i2):D0 0 ((P8 L).keep 10) (bd (P8 L) Q Y (cd [1,1,1,1,1,0,1,0,0] Db)) n ⟨gp [(0,pS s0),(3,pI (16:Int)),(0,pI n1),(0,pI i2)] 53,[],s⟩ k =
 Jd L n s0 n1 i2 (λ_=>k .ret ⟨gp [(2,pI (0:Int)),(0,pB false)] 56,[],s⟩) (λn0=>k (.exit 0) ⟨gp [(5,pI n0)] 54,[],s⟩):=by
 induction n generalizing s0 n1 i2 with
 | zero=>rfl
 | succ n a=>rw[Jd];simp only[<-a];kernel_rfl
noncomputable def FL{R:Type}(L:Nat)(c:By)(b:Int->Bool->Option R):Option R:=Jd L L c 0 0 (λ_=>b 0 false) (λa=>b a true)
abbrev QD(b:Code):Prop:=∀(k:Out->St Z->Option R) s0,A9 (P8 L) Q Y b ⟨gp [(0,pS s0),(3,pI (16:Int))] 55,[],s⟩ k=FL L s0 (λn0 a=>k .ret ⟨gp [(2,pI n0),(0,pB a)] 56,[],s⟩)
theorem Bb3:QD (R:=R) L Q Y s (cd [1,1,1,1] Db):=by intro k a;unfold FL;exact(j2 (by kernel_rfl) ((Bb7 L Q Y s (E5 0 (E4 (P8 L) Q Y (cd [1,1,1,1,1,1] Db) k)) L a 0 0).trans (by kernel_rfl)))
noncomputable def Rc{R:Type}(a:By)(f:Bool)(d:By->Int->Option R)(e:By->Bool->Option R):Option R:=cond f (cond (I9 2 (a.length:Int) a.length) (vl (cut a 2 (a.length:Int)) λc=>d c 16) none) (cond (not (ltI (a.length:Int) (2:Int))) (cond (inR 0 a.length) (cond ((bAt a (0:Int))==48) (cond (I9 1 (a.length:Int) a.length) (vl (cut a 1 (a.length:Int)) λb=>d b 8) none) (e a ((bAt a (0:Int))==48))) none) (e a false))
abbrev QE(b:Code):Prop:=∀(k:Out->St Z->Option R) c d,A9 (P8 L) Q Y b ⟨gp [(0,pS c),(3,pI (10:Int)),(22,pB d)] 32,[],s⟩ k=Rc c d (λc a=>k .normal ⟨gp [(0,pS c),(3,pI a)] 55,[],s⟩) (λc d=>k .normal ⟨gp [(0,pS c),(3,pI (10:Int)),(32,pB d)] 22,[],s⟩)
theorem Bb4:QE (R:=R) L Q Y s (cd [1,1,1,0,1] Db):=by intro k b a;unfold Rc;kernel_rfl
noncomputable def Fv{R:Type}(L n:Nat)(f:By)(a i d:Int)(g:Unit->Option R)(h:Int->Option R):Option R:=match n with|0=>none|n+1=>cond (ltI d (f.length:Int)) (cond (inR d f.length) (cond (inR (bAt f d) 256) (vl (↑(dig (u8n (bAt f d))):Int) λb=>cond (not (ltI b a)) (g ()) (vl (A1 ((A1 (i*a))+b)) λc=>vl (if ((1099511627776:Int)<c) then (1099511627776:Int) else c) λe=>Fv L n f a e (A1 (d+1)) g h)) none) none) (h i)
theorem LJ(n s0 base1 n2 i3):D0 0 ((P8 L).keep 10) (bd (P8 L) Q Y (cd [1,1,1,1,1,0,1,0,0] Db)) n ⟨gp [(0,pS s0),(3,pI base1),(0,pI n2),(0,pI i3)] 53,[],s⟩ k =
 Fv L n s0 base1 n2 i3 (λ_=>k .ret ⟨gp [(2,pI (0:Int)),(0,pB false)] 56,[],s⟩) (λn0=>k (.exit 0) ⟨gp [(5,pI n0)] 54,[],s⟩):=by
 induction n generalizing s0 base1 n2 i3 with
 | zero=>rfl
 | succ n a=>rw[Fv];simp only[<-a];kernel_rfl
noncomputable def Rd{R:Type}(L:Nat)(d:By)(a:Int)(c:Int->Bool->Option R):Option R:=Fv L L d a 0 0 (λ_=>c 0 false) (λb=>c b true)
abbrev QG(b:Code):Prop:=∀(k:Out->St Z->Option R) s0 base1,A9 (P8 L) Q Y b ⟨gp [(0,pS s0),(3,pI base1)] 55,[],s⟩ k=Rd L s0 base1 (λn0 a=>k .ret ⟨gp [(2,pI n0),(0,pB a)] 56,[],s⟩)
theorem Bb5:QG (R:=R) L Q Y s (cd [1,1,1,1] Db):=by intro k b a;unfold Rd;exact(j2 (by kernel_rfl) ((LJ L Q Y s (E5 0 (E4 (P8 L) Q Y (cd [1,1,1,1,1,1] Db) k)) L b a 0 0).trans (by kernel_rfl)))
noncomputable def Re{R:Type}(L:Nat)(c:By)(b:Int->Bool->Option R):Option R:=Fv L L c 10 0 0 (λ_=>b 0 false) (λa=>b a true)
abbrev QH(b:Code):Prop:=∀(k:Out->St Z->Option R) s0 a,A9 (P8 L) Q Y b ⟨gp [(0,pS s0),(3,pI (10:Int)),(32,pB a)] 22,[],s⟩ k=Re L s0 (λn0 a=>k .ret ⟨gp [(2,pI n0),(0,pB a)] 56,[],s⟩)
theorem Bb6:QH (R:=R) L Q Y s (cd [1,1,1,1] Db):=by intro k a b;unfold Re;exact(j2 (by kernel_rfl) ((LJ L Q Y s (E5 0 (E4 (P8 L) Q Y (cd [1,1,1,1,1,1] Db) k)) L a 10 0 0).trans (by kernel_rfl)))
noncomputable def Cq2{R:Type}(L:Nat)(a:By)(e:Int->Bool->Option R):Option R:=cond (a==[]) (e 0 false) (cond (not (ltI (a.length:Int) (2:Int))) (cond (inR 0 a.length) (cond ((bAt a (0:Int))==48) (cond (inR 1 a.length) (cond ((bAt a (1:Int))==120) (FK a (λB=>FL L B (λA z=>e A z))) (cond (inR 1 a.length) (Rc a ((bAt a (1:Int))==88) (λt b=>Rd L t b (λm f=>e m f)) (λu C=>Re L u (λn g=>e n g))) none)) none) (Rc a false (λv c=>Rd L v c (λo h=>e o h)) (λw D=>Re L w (λp i=>e p i)))) none) (Rc a false (λx d=>Rd L x d (λq j=>e q j)) (λy F=>Re L y (λr l=>e r l))))
theorem Db8(e:Code)(f:QC (R:=PV × List Blk × Z) L Q Y s e)(a:QE (R:=PV × List Blk × Z) L Q Y s e)(d:Code)(g:QD (R:=PV × List Blk × Z) L Q Y s d)(b:QG (R:=PV × List Blk × Z) L Q Y s d)(c:QH (R:=PV × List Blk × Z) L Q Y s d)(m:By):A9 (P8 L) Q Y (cd [] (G4 [1,1,1,1] d (G4 [1,1,1,0,1] e Db))) ⟨[pS m]++tps 59,[],s⟩ (F6 (P8 L) ad5)=Cq2 L m (λz A=>some (.tup [pI z,pB A],[],s)):=by unfold Cq2;exact let l:=(F6 (P8 L) ad5);let x:=(E4 (P8 L) Q Y d l);(j2 (by kernel_rfl) (A0 rfl (A0 (A0 (A0 (A0 (A0 ((f x m).trans (congr rfl (fx1 λy=>(j2 (by kernel_rfl) ((g l y).trans (by kernel_rfl)))))) (A0 ((a x m ((bAt m (1:Int))==88)).trans (congr (congr rfl (fx2 λq h=>(j2 (by kernel_rfl) ((b l q h).trans (by kernel_rfl))))) (fx2 λr n=>(j2 (by kernel_rfl) ((c l r n).trans (by kernel_rfl)))))) rfl)) rfl) ((a x m false).trans (congr (congr rfl (fx2 λt i=>(j2 (by kernel_rfl) ((b l t i).trans (by kernel_rfl))))) (fx2 λu o=>(j2 (by kernel_rfl) ((c l u o).trans (by kernel_rfl))))))) rfl) ((a x m false).trans (congr (congr rfl (fx2 λv j=>(j2 (by kernel_rfl) ((b l v j).trans (by kernel_rfl))))) (fx2 λw p=>(j2 (by kernel_rfl) ((c l w p).trans (by kernel_rfl)))))))))
theorem Db9(d:Nat)(s0):evC (P8 L) (d+1) Z Y 112 [pS s0] [] s=Cq2 L s0 (λa b=>some (.tup [pI a,pB b],[],s)):=
 (evE (fn:=ad5) (by kernel_rfl)).trans (j2 (by kernel_rfl) (Db8 L (evC (P8 L) d) Y s (cd [1,1,1,0,1] Db) (Bb2 L (evC (P8 L) d) Y s) (Bb4 L (evC (P8 L) d) Y s) (cd [1,1,1,1] Db) (Bb3 L (evC (P8 L) d) Y s) (Bb5 L (evC (P8 L) d) Y s) (Bb6 L (evC (P8 L) d) Y s) s0))
noncomputable def IK(L:Nat):Cfg:=B7 L [110] (A2 []) [(76,Kb)] (A2 [(4,[2]),(3,[3]),(2,[3,13]),(1,[3]),(0,[0])]) [] (A2 []) (some [2]) [] [] []
noncomputable def XU{R:Type}(L:Nat)(f:By)(d:LL->Option R):Option R:=cond (A3 f.length) (vl (D2 (pcs (u8n (46:Int)) f)) λa=>cond (ltI 1 (a.length:Int)) (vl (A1 ((a.length:Int)-1)) λb=>cond (inR b a.length) (cond (okE Oa a (b9 b) 0) (vl (gX a (b9 b) 0) λe=>cond (e==[]) (vl (A1 ((a.length:Int)-1)) λc=>cond (I9 0 c a.length) (d (cut a 0 c)) none) (d a)) none) none) (d a)) none
theorem B52(d:Nat)(s0):evC (IK L) (d+1) Z Y 110 [pS s0] [] s=XU L s0 (λa=>some (.s (.sl false false 1 a),[],s)):=by refine(evE (fn:=Tryz.f110) (by kernel_rfl)).trans ?_;generalize evC (IK L) d=Q;unfold XU;kernel_rfl
noncomputable def Ti(L:Nat):Cfg:=B7 L [75] (A2 []) [(110,HA),(111,NO),(112,At8)] (A2 [(6,[2]),(5,[4,1]),(4,[2]),(3,[4,11]),(2,[4]),(1,[3]),(0,[0])]) [111,112] (A2 []) (some [2]) [] [] []
noncomputable def Xk{R:Type}(L:Nat)(d:By)(c:Bool->Option R):Option R:=cond (A3 d.length) (vl (A1 ((↑(a8 (D2 (C5 d))):Int)-1)) λb=>cond (inR b (a8 (D2 (C5 d)))) (cond (okE Oa (D2 (C5 d)) (b9 b) 0) (vl (gX (D2 (C5 d)) (b9 b) 0) λa=>cond (A3 a.length) (cond ((not (j9 a))&&(j4 (E8 10 0 a))) (c true) (cond (A3 a.length) (vl (↑(N5 (Z5 a)):Int) λe=>cond (j4 (Z5 a)) (cond (not (ltI (a.length:Int) (2:Int))) (cond (inR 1 a.length) (cond ((bAt a (1:Int))==120) (c true) (cond (inR 1 a.length) (c ((bAt a (1:Int))==88)) none)) none) (c false)) (c false)) none)) none) none) none) none
theorem Ak2(d:Nat)(s0):evC (Ti L) (d+1) Z Y 75 [pS s0] [] s=Xk L s0 (λa=>some (pB a,[],s)):=by refine(evE (fn:=Tryz.f75) (by kernel_rfl)).trans ?_;generalize evC (Ti L) d=Q;unfold Xk;kernel_rfl
noncomputable abbrev Bn6:Code:=C8 af9
noncomputable def Lt(L:Nat):Cfg:=B7 L [130] (A2 [(6,[2,0,0,0,0])]) [(110,HA),(112,At8)] (A2 [(18,[2,0]),(7,[4,0,0]),(17,[4,0,0]),(16,[2,0]),(15,[4,0,0,0,38]),(14,[4,0,0]),(13,[2,0]),(12,[4,0,0,0,33]),(11,[4,0,0,0,26]),(10,[2,0]),(9,[4,0,0,0,21]),(8,[4,0,0,0,0]),(6,[4,0,0,10]),(5,[4,0,0]),(4,[4,0]),(3,[2,0]),(2,[4,8]),(1,[4]),(0,[0])]) [112] (A2 [(0,[5]),(1,[4,0,0])]) (some [2,0]) [] [] []
noncomputable def Eo{R:Type}(L n:Nat)(b:LL)(v1 a:Int)(e:Unit->Option R)(h:Int->Option R):Option R:=match n with|0=>none|n+1=>cond (ltI a (b.length:Int)) (cond (inR a b.length) (cond (okE Oa b (b9 a) 0) (cond (A3 (a8 (gX b (b9 a) 0))) (vl (↑(N5 (Z5 (gX b (b9 a) 0))):Int) λc=>cond (not (j4 (Z5 (gX b (b9 a) 0)))) (e ()) (vl (A1 ((b.length:Int)-1)) λi=>cond (a==i) (vl (A1 ((5:Int)-(b.length:Int))) λg=>cond (decide ((0:Int)<=(A1 ((8:Int)*g)))) (vl (Rn .i64 (1:Int) (A1 ((8:Int)*g))) λj=>cond (not (ltI c j)) (e ()) (Eo L n b (A1 (v1+c)) (A1 (a+1)) e h)) none) (cond (ltI 255 c) (e ()) (vl (A1 ((24:Int)-(A1 ((8:Int)*a)))) λd=>cond (decide ((0:Int)<=d)) (vl (A1 (v1+(Rn .i64 c d))) λf=>Eo L n b f (A1 (a+1)) e h) none)))) none) none) none) (h v1)
theorem Ak9(n p0 v1 i2):D0 0 ((Lt L).keep 6) (bd (Lt L) Q Y (cd [1,1,1,1,0,1,0,0] Bn6)) n ⟨gp [(4,.s (.sl false false 1 p0)),(0,pI v1),(0,pI i2)] 49,[],s⟩ k =
 Eo L n p0 v1 i2 (λ_=>k .ret ⟨gp [(2,p32 (0:Int)),(0,pB false)] 52,[],s⟩) (λv0=>k (.exit 0) ⟨gp [(5,pI v0)] 50,[],s⟩):=by
 induction n generalizing p0 v1 i2 with
 | zero=>rfl
 | succ n a=>rw[Eo];simp only[<-a];kernel_rfl
noncomputable def Bs4{R:Type}(L:Nat)(c:By)(b:Int->Bool->Option R):Option R:=cond (A3 c.length) (cond (ltI 4 (↑(a8 (D2 (C5 c))):Int)) (b 0 false) (Eo L L (D2 (C5 c)) 0 0 (λ_=>b 0 false) (λa=>b (CA a) true))) none
theorem Cq6(d:Nat)(s0):evC (Lt L) (d+1) Z Y 130 [pS s0] [] s=Bs4 L s0 (λa b=>some (.tup [p32 a,pB b],[],s)):=by refine(evE (fn:=af9) (by kernel_rfl)).trans ?_;generalize evC (Lt L) d=Q;unfold Bs4;exact(j2 (by kernel_rfl) (A0 (A0 rfl ((Ak9 L Q Y s (E5 0 (E4 (Lt L) Q Y (cd [1,1,1,1,1] Bn6) (F6 (Lt L) af9))) L (D2 (C5 s0)) 0 0).trans (by kernel_rfl))) rfl))
noncomputable abbrev Cf3:Code:=C8 ag7
noncomputable def Tf(L:Nat):Cfg:=B7 L [233] (A2 [(2,[0,1,0,0])]) [(95,NN)] (A2 [(6,[2,0]),(3,[0,3]),(5,[2,0]),(4,[0,3,7]),(2,[0,3,1]),(1,[0,3]),(0,[0])]) [95] (A2 [(0,[]),(1,[0,3])]) (some [2,0]) [] [] []
noncomputable def Mo{R:Type}(L n:Nat)(e:By)(a:Int)(c:Int->Option R)(d:Unit->Option R):Option R:=match n with|0=>none|n+1=>cond (ltI a 256) (cond (ltN a 4294967296) (vl (j6 (b9 a)) λb=>cond (b==e) (c a) (Mo L n e (A1 (a+1)) c d)) none) (d ())
theorem A75(n s0 n1):D0 0 ((Tf L).keep 2) (bd (Tf L) Q Y (cd [1,0,1,0,0] Cf3)) n ⟨gp [(0,pS s0),(3,pI n1)] 9,[],s⟩ k =
 Mo L n s0 n1 (λn0=>k .ret ⟨gp [(2,pI n0),(0,pB true)] 10,[],s⟩) (λ_=>k (.exit 0) ⟨gp [] 14,[],s⟩):=by
 induction n generalizing s0 n1 with
 | zero=>rfl
 | succ n a=>rw[Mo];simp only[<-a];kernel_rfl
noncomputable def Da4{R:Type}(L:Nat)(c:By)(b:Int->Bool->Option R):Option R:=Mo L L c 0 (λa=>b a true) (λ_=>b 0 false)
theorem Da5(d:Nat)(s0):evC (Tf L) (d+1) Z Y 233 [pS s0] [] s=Da4 L s0 (λa b=>some (.tup [pI a,pB b],[],s)):=by refine(evE (fn:=ag7) (by kernel_rfl)).trans ?_;generalize evC (Tf L) d=Q;unfold Da4;exact(j2 (by kernel_rfl) ((A75 L Q Y s (E5 0 (E4 (Tf L) Q Y (cd [1,1] Cf3) (F6 (Tf L) ag7))) L s0 0).trans (by kernel_rfl)))
noncomputable abbrev Cf6:Code:=C8 ag5
noncomputable def Tj(L:Nat):Cfg:=B7 L [208] (A2 [(6,[2,0,0,0,0])]) [(76,Kb),(233,Cc8)] (A2 [(12,[2,0]),(7,[4,0,0]),(11,[4,0,0]),(10,[2,0]),(9,[4,0,0,0,19]),(8,[4,0,0,0,0]),(6,[4,0,0,8]),(5,[4,0,0]),(4,[4,0]),(3,[2,0]),(2,[4,8]),(1,[4]),(0,[0])]) [233] (A2 [(0,[5]),(1,[4,0,0])]) (some [2,0]) [] [] []
noncomputable def Mx{R:Type}(L n:Nat)(b:LL)(v1 a:Int)(f:Unit->Option R)(g:Int->Option R):Option R:=match n with|0=>none|n+1=>cond (ltI a 4) (cond (inR a b.length) (cond (okE Oa b (b9 a) 0) (cond (A3 (a8 (gX b (b9 a) 0))) (vl (↑(N5 (oct (gX b (b9 a) 0))):Int) λc=>cond (not (j4 (oct (gX b (b9 a) 0)))) (f ()) (vl (CA (v1*256)) λd=>vl (CA (d+(CA c))) λe=>Mx L n b e (A1 (a+1)) f g)) none) none) none) (g v1)
theorem Bf1(n p0 v1 i2):D0 0 ((Tj L).keep 6) (bd (Tj L) Q Y (cd [1,1,1,1,0,1,0,0] Cf6)) n ⟨gp [(4,.s (.sl false false 1 p0)),(0,p32 v1),(0,pI i2)] 27,[],s⟩ k =
 Mx L n p0 v1 i2 (λ_=>k .ret ⟨gp [(2,p32 (0:Int)),(0,pB false)] 30,[],s⟩) (λv0=>k (.exit 0) ⟨gp [(5,p32 v0)] 28,[],s⟩):=by
 induction n generalizing p0 v1 i2 with
 | zero=>rfl
 | succ n a=>rw[Mx];simp only[<-a];kernel_rfl
noncomputable def Dc7{R:Type}(L:Nat)(d:By)(b:Int->Bool->Option R):Option R:=cond (A3 d.length) (vl (D2 (pcs (u8n (46:Int)) d)) λa=>cond ((a.length:Int)!=4) (b 0 false) (Mx L L a 0 0 (λ_=>b 0 false) (λc=>b c true))) none
theorem Dc8(d:Nat)(s0):evC (Tj L) (d+1) Z Y 208 [pS s0] [] s=Dc7 L s0 (λb c=>some (.tup [p32 b,pB c],[],s)):=by refine(evE (fn:=ag5) (by kernel_rfl)).trans ?_;generalize evC (Tj L) d=Q;unfold Dc7;exact(j2 (by kernel_rfl) (A0 (A4 λa=>(A0 rfl ((Bf1 L Q Y s (E5 0 (E4 (Tj L) Q Y (cd [1,1,1,1,1] Cf6) (F6 (Tj L) ag5))) L a 0 0).trans (by kernel_rfl)))) rfl))
noncomputable def Zz(L:Nat):Cfg:=B7 L [176] (A2 []) [(210,Yq)] (A2 [(1,[4]),(0,[0,0])]) [] (A2 []) (some [4]) [] [] []
noncomputable def FN{R:Type}(L:Nat)(c a:By)(d:Nat->LL->Option R):Option R:=cond (A3 c.length) (cond (a.length==1) (cond ((0:Int)==0) (cond (((-1):Int)==((-1):Int)) (vl (D2 (pcs (b8 a 0 0) c)) λb=>d (a8 (pcs (b8 a 0 0) c)) b) none) none) none) none
theorem Bg9(d:Nat)(s0 sep1):evC (Zz L) (d+1) Z Y 176 [pS s0,pS sep1] [] s=FN L s0 sep1 (λa b=>some (.vw 0 0 a,[.arr false 9 1 b],s)):=by refine(evE (fn:=Tryz.f176) (by kernel_rfl)).trans ?_;generalize evC (Zz L) d=Q;unfold FN;kernel_rfl
end
end
section
open Go
attribute [simp] B8 E2 C9 ZC Bu0 Bt9 ZD Am M0 F4
attribute [simp] vl
@[simp] theorem E1{n:Nat}(h:n<=1000000000):A3 n=true:=QO.2 h
@[simp] theorem Wm{v:Int}{n:Nat}(h:0<=v)(a:v<n):ltN v n=true:=E6.2 ⟨h,a⟩
theorem K4{n:Nat}(h:n<=1000000000:=by omega):A3 n=true:=E1 h
theorem O5{v:Int}{n:Nat}(h:0<=v:=by omega)(g:v<n:=by omega):ltN v n=true:=Wm h g
@[simp] theorem M9{m n:Nat}(h:m+n<4611686018427387904):L6 m n=true:=by simp[L6,h]
abbrev rv(v:PV)(H:List Blk):Option (PV × List Blk × Unit):=some (v,H,())
theorem L3{n:Nat}(h:A3 n=true):n<=1000000000:=QO.1 h
theorem D4(s:By)(i:Nat)(h:i<s.length):s.drop i=s.getD i 0::s.drop (i+1):=by rw[o0,p6 h,v7,List.getElem_cons_drop]
theorem QS(s:By)(i:Nat)(h:i<s.length):s.take (i+1)=s.take i++[s.getD i 0]:=by rw[List.take_add_one,o0,p6 h];rfl
theorem KF(s:By)(i:Nat)(h:i<s.length):(B5 (s.take (i+1))).map D9=(B5 (s.take i)).map D9++[D9 (X4 (s.getD i 0))]:=by unfold B5;rw[QS s i h,ae9,ae9];rfl
theorem K5(b:UInt8):(b.toNat<65/\X4 b=b)\/(90<b.toNat/\X4 b=b)\/(65<=b.toNat/\b.toNat<=90/\((X4 b).toNat=b.toNat+32)):=by
 unfold X4;by_cases a:b.toNat<65
 ·refine .inl ⟨a,if_neg ?_⟩;intro h;have:=aa0.1 h.1;simp at this;omega
 ·by_cases c:90<b.toNat
  ·refine .inr (.inl ⟨c,if_neg ?_⟩);intro h;have:=aa0.1 h.2;simp at this;omega
  ·refine .inr (.inr ⟨by omega,by omega,?_⟩);rw[if_pos (by constructor<;>(rw[aa0];simp;omega)),UInt8.toNat_add];simp;omega
@[simp] theorem D3(s:By)(i:Nat):bAt s (i:Int)=((s.getD i 0).toNat:Int):=by simp[bAt]
@[simp] theorem Ao(s:By):bAt s 0=((s.getD 0 0).toNat:Int):=by simp[bAt]
@[simp] theorem Bn0(s:By):bAt s 1=((s.getD 1 0).toNat:Int):=by simp[bAt]
theorem Ip{c:Type}(s:List c)(a b:Nat):cut s (a:Int) (b:Int)=(s.take b).drop a:=by simp[cut]
@[simp] theorem P9{b:Type}(s:List b)(a:Int):cut s a (s.length:Int)=s.drop a.toNat:=by simp[cut]
@[simp] theorem K7{a:Type}(s:List a)(b:Int):cut s 0 b=s.take b.toNat:=by simp[cut]
@[simp] theorem F0(l:List By):(D2 l).length=l.length:=by simp[D2]
@[simp] theorem U7(l:List By)(i:Nat):gX (D2 l) i 0=l.getD i []:=by
 unfold gX gC D2;by_cases h:i<l.length
 ·simp[o0,p6 h,SV.gS]
 ·simp[o0,List.getElem?_eq_none (show l.length<=i by omega),SV.gS]
@[simp] theorem R2{l:List By}{i:Nat}(h:i<l.length):okE Oa (D2 l) i 0=true:=by unfold okE D2;simp[o0,p6 h,h,Oa,okS,SV.has]
theorem Yb(a b:List By):D2 (a++b)=D2 a++D2 b:=by simp[D2]
theorem Ji(b:UInt8):u8n (b.toNat:Int)=b:=by simp[u8n]
theorem YV(b:UInt8):inR (b.toNat:Int) 256=true:=by have:=b.toNat_lt;exact E9
theorem Dl9{a b:UInt8}:((a.toNat:Int)==(b.toNat:Int))=(a==b):=by
 rw[ab9];simp only[beq_iff_eq];constructor
 ·intro h;exact UInt8.toNat_inj.1 (by omega)
 ·intro h;rw[h]
theorem R5(a:UInt8)(n:Nat)(h:n<256):((a.toNat:Int)==(n:Int))=(a==k9 n):=by rw[<-Dl9];simp[o9 h]
theorem Fb(p s:By):p.isPrefixOf s=(decide (p.length<=s.length)&&(s.take p.length==p)):=by
 rw[ab9];simp only[x7,x3,decide_eq_true_eq,beq_iff_eq];constructor
 ·intro h;exact⟨h.length_le,(ab5.1 h).symm⟩
 ·rintro⟨_,h⟩;exact ab5.2 h.symm
theorem Ns(p s:By):p.isSuffixOf s=(decide (p.length<=s.length)&&(s.drop (s.length-p.length)==p)):=by
 rw[ab9];simp only[List.isSuffixOf_iff_suffix,x3,decide_eq_true_eq,beq_iff_eq];constructor
 ·intro h;exact⟨h.length_le,(ab6.1 h).symm⟩
 ·rintro⟨_,h⟩;exact ab6.2 h.symm
theorem Df(b:UInt8):(48<=b.toNat/\b.toNat<=57/\dig b=b.toNat-48)\/(97<=b.toNat/\b.toNat<=102/\dig b=b.toNat-87)\/(65<=b.toNat/\b.toNat<=70/\dig b=b.toNat-55)\/(¬(48<=b.toNat/\b.toNat<=57)/\¬(97<=b.toNat/\b.toNat<=102)/\¬(65<=b.toNat/\b.toNat<=70)/\dig b=99):=by
 unfold dig;split
 ·rename_i h;exact .inl ⟨h.1,h.2,rfl⟩
 ·split
  ·rename_i h;exact .inr (.inl ⟨h.1,h.2,rfl⟩)
  ·split
   ·rename_i h;exact .inr (.inr (.inl ⟨h.1,h.2,rfl⟩))
   ·exact .inr (.inr (.inr ⟨by assumption,by assumption,by assumption,rfl⟩))
theorem Cs1(m:Nat):(if (1099511627776:Int)<(m:Int) then (1099511627776:Int) else (m:Int))=((min m W5:Nat):Int):=by unfold W5;split<;>omega
theorem IY{base:Nat}:∀{s:By} {n v:Nat},n<=W5->E8 base n s=some v->v<=W5
 | [],n,v,h,e=>by simp only[E8,x6] at e;omega
 | b::r,n,v,h,e=>by
  simp only[E8] at e;split at e
  ·exact IY (by omega) e
  ·cases e
theorem Bq9{s:By}{v:Nat}(h:Z5 s=some v):v<=W5:=by
 unfold Z5 at h
 repeat' split at h
 all_goals first|(cases h;done)|exact IY (by unfold W5;omega) h
theorem OM(base:Nat):∀(x y:By) (n:Nat),E8 base n (x++y)=(E8 base n x).bind λm=>E8 base m y
 | [],y,n=>rfl
 | b::r,y,n=>by
  simp only[ab2,E8];split
  ·exact OM base r y _
  ·rfl
theorem W6(u:Nat)(h:¬u<10):j6 u=j6 (u / 10)++[k9 (48+u % 10)]:=by rw[j6,dif_neg h]
theorem Dl2(d:Nat)(h:d<10):dig (k9 (48+d))=d:=by
 unfold dig;have:(k9 (48+d)).toNat=48+d:=by simp;omega
 rw[this,Q5];omega
theorem AD:∀u:Nat,u<=W5->E8 10 0 (j6 u)=some u:=by
 intro u
 induction u using Nat.strongRecOn with
 | _ u a=>
  intro b;by_cases h:u<10
  ·rw[ab0 h];simp only[E8,Dl2 u h];rw[if_pos h];unfold W5;simp;omega
  ·rw[W6 u h,OM,a (u / 10) (by omega) (by omega)];simp only[Option.bind_some,E8,Dl2 (u % 10) (by omega)];rw[Q5];unfold W5 at *;simp;omega
theorem Cf(u:Nat):j6 u≠[]:=by intro h;have:=Lib.decDigits_length u;have a:=Lib.nDigits_pos u;rw[h] at this;simp at this;omega
theorem Kj:∀(k u:Nat),0<k->u<10 ^ k->(j6 u).length<=k
 | 0,u,h,_=>by omega
 | k+1,u,_,h=>by
  by_cases b:u<10
  ·rw[ab0 b];simp
  ·rw[W6 u b,y7,x5];have a:0<k:=by
    rcases Nat.eq_zero_or_pos k with rfl|a
    ·rw[ah3,Nat.pow_one] at h;omega
    ·exact a
   have:=Kj k (u / 10) a (by rw[y5] at h;omega);omega
theorem I8(u:Nat)(h:u<4294967296):(j6 u).length<=10:=Kj 10 u (by omega) (by omega)
theorem Wu{s:By}{n:Nat}:oct s=some n↔n<256/\j6 n=s:=by
 unfold oct;constructor
 ·intro h;split at h
  ·rename_i m c;split at h
   ·rename_i a;cases h;exact⟨by omega,a.2⟩
   ·cases h
  ·cases h
 ·rintro⟨b,rfl⟩;rw[AD n (by unfold W5;omega)];exact if_pos ⟨by omega,rfl⟩
theorem Dk6(a b:Nat)(c:a<9223372036854775808)(d:b<9223372036854775808):bOr .i64 (a:Int) (b:Int)=((a ||| b:Nat):Int):=by
 unfold bOr;rw[show p7 .i64=64 from rfl,Dn1 64 a b (by omega) (by omega)];have:a ||| b<2 ^ 63:=ad3 (by omega) (by omega)
 exact A7
theorem Dw3(a b:Nat)(c:a<4294967296)(d:b<4294967296):bOr .u32 (a:Int) (b:Int)=((a ||| b:Nat):Int):=by
 unfold bOr;rw[show p7 .u32=32 from rfl,Dn1 32 a b (by omega) (by omega)];have:a ||| b<2 ^ 32:=ad3 (by omega) (by omega)
 exact Nk
theorem Dm7(a b:Nat)(c:a<4294967296)(d:b<4294967296):Av4 .u32 (a:Int) (b:Int)=((a &&& b:Nat):Int):=by unfold Av4;rw[show p7 .u32=32 from rfl,Dl0 32 a b (by omega) (by omega)];have:a &&& b<2 ^ 32:=Nat.and_lt_two_pow _ (by omega);exact Nk
theorem Dm6(x:Nat):x &&& 255=x % 256:=Nat.and_two_pow_sub_one_eq_mod x 8
theorem Ao5(a m:Nat)(h:a*2 ^ m<9223372036854775808)(b:m<=64):Rn .i64 (a:Int) (m:Int)=((a*2 ^ m:Nat):Int):=by
 unfold Rn;rw[j5,show p7 .i64=64 from rfl,ac0 b];have:(a:Int)*2 ^ m=((a*2 ^ m:Nat):Int):=by simp
 rw[this];exact A7
theorem Dy1(a m:Nat)(h:a*2 ^ m<4294967296)(b:m<=32):Rn .u32 (a:Int) (m:Int)=((a*2 ^ m:Nat):Int):=by
 unfold Rn;rw[j5,show p7 .u32=32 from rfl,ac0 b];have:(a:Int)*2 ^ m=((a*2 ^ m:Nat):Int):=by simp
 rw[this];exact Nk
theorem FC(v n m:Nat)(h:n<2 ^ m):v*2 ^ m ||| n=v*2 ^ m+n:=by rw[Nat.or_comm,Dp4 n v m h,ah0]
theorem Ku{c:UInt8}{s:By}(h:c∉s):pcs c s=[s]:=by unfold pcs;rw[Xz c s [] h];rfl
theorem FD{c:UInt8}{p r:By}(h:c∉p):pcs c (p++c::r)=p::pcs c r:=by unfold pcs;rw[DW c p [] r h];rfl
theorem Iy(c:UInt8)(s:By):(pcs c s).length=s.count c+1:=Jg c s []
theorem XC(c:UInt8)(s:By):pcs c s≠[]:=Bg2 c s []
theorem Ck{c:UInt8}{s x:By}(h:x∈pcs c s):c∉x/\x.length<=s.length:=by have:=Pu c s [] (by simp) x h;simpa using this
theorem Gz(c:UInt8)(s:By):s.count c<=s.length:=List.count_le_length
theorem Q7(c:UInt8):∀s:By,c∉s\/∃p r,s=p++c::r/\c∉p
 | []=>.inl (by simp)
 | b::s=>by
  by_cases h:b=c
  ·subst h;exact .inr ⟨[],s,rfl,by simp⟩
  ·rcases Q7 c s with a|⟨p,r,rfl,d⟩
   ·exact .inl (by simp[a,Ne.symm h])
   ·exact .inr ⟨b::p,r,rfl,by simp[d,Ne.symm h]⟩
theorem To{c:UInt8}{s:By}(h:c∉s):x8 s [c]=-1:=by
 rcases af1 s [c] with a|⟨i,a,e,b,f⟩
 ·exact a.1
 ·exfalso;simp only[ad4,x7] at b;obtain⟨t,d⟩:=b;have:c∈s.drop i:=by rw[<-d];simp
  exact h (ac5 this)
theorem AU{c:UInt8}{p r:By}(h:c∉p):x8 (p++c::r) [c]=(p.length:Int):=by
 rcases af1 (p++c::r) [c] with d|⟨i,d,m,f,g⟩
 ·exfalso;have:=d.2 p.length (by simp);simp[ad4] at this
 ·rw[d];have n:¬p.length<i:=by
   intro a;have:=g p.length a;simp[ad4] at this
  have k:¬i<p.length:=by
   intro a;simp only[ad4,x7] at f;obtain⟨t,b⟩:=f;have j:(p++c::r).drop i=p.drop i++c::r:=by rw[aa1 (by omega)]
   rw[j] at b;cases e:p.drop i with
   | nil=>have:=List.length_drop (i:=i) (l:=p);rw[e] at this;simp at this;omega
   | cons x y=>
    rw[e] at b;simp at b;have:x∈p:=ac5 (i:=i) (by rw[e];simp);rw[<-b.1] at this;exact h this
  omega
theorem B18(s:By):C5 s≠[]:=by
 unfold C5;split
 ·rename_i h;intro e;have:=congrArg a8 e;simp at this;omega
 ·exact XC _ _
theorem Ml{s x:By}(h:x∈C5 s):x.length<=s.length:=by
 unfold C5 at h;split at h
 ·exact(Ck ((List.dropLast_sublist _).subset h)).2
 ·exact(Ck h).2
theorem Bb(s:By):1<=(C5 s).length/\(C5 s).length<=s.length+1:=by
 have a:=aa6.2 (B18 s);have b:=Iy 46 s;have c:=Gz 46 s;refine⟨a,?_⟩;unfold C5;split
 ·rw[List.length_dropLast];omega
 ·omega
theorem BA(s:By):(C5 s).getD ((C5 s).length-1) []=Cv s:=by unfold Cv;rw[List.getLastD_eq_getLast?,List.getLast?_eq_getElem?,o0]
theorem PH(s:By):Cv s∈C5 s:=by have h:=(Bb s).1;rw[<-BA,o0,p6 (by omega)];exact ab3 _
theorem Jp{base:Nat}:∀{s:By} {n i:Nat},i<s.length->base<=dig (s.getD i 0)->E8 base n s=none
 | [],n,i,h,_=>by simp at h
 | b::r,n,0,h,a=>by
  simp only[w9] at a;simp only[E8];rw[F7]
 | b::r,n,i+1,h,a=>by
  simp only[ac9] at a;simp only[E8];split
  ·exact Jp (i:=i) (by simpa using h) a
  ·rfl
theorem Gf(s:By):Y2 s=true↔s.getD 0 0=48/\(s.getD 1 0=120\/s.getD 1 0=88):=by simp[Y2]
theorem Ko{s:By}(h:Y2 s=true):2<=s.length:=by
 rw[Gf] at h
 match s with
 | []=>simp at h
 | [a]=>simp at h
 | a::b::r=>simp
theorem Cm6(l:By):(if Y2 l then (E8 16 0 (l.drop 2)).isSome else !l.isEmpty&&(E8 10 0 l).isSome) =
  (if (!l.isEmpty&&(E8 10 0 l).isSome)=true then true else (if (Z5 l).isSome=true then decide (2<=l.length)&&(l.getD 1 0==120||l.getD 1 0==88) else false)):=by
 by_cases b:Y2 l=true
 ·have g:=Ko b;have j:=(Gf l).1 b;have f:E8 10 0 l=none:=Jp (i:=1) (by omega) (by rcases j.2 with h|h<;>rw[h]<;>decide);have d:Z5 l=E8 16 0 (l.drop 2):=by
   unfold Z5;rw[if_neg (by intro e;rw[e] at g;simp at g),if_pos b]
  rw[if_pos b,f,d];have c:(l.getD 1 0==120||l.getD 1 0==88)=true:=by simpa using j.2
  rw[c];simp[g]
 ·rw[if_neg b];cases n:(!l.isEmpty&&(E8 10 0 l).isSome) with
  | true=>rfl
  | false=>
   rw[if_neg (by simp)];cases d:Z5 l with
   | none=>rfl
   | some v=>
    rw[show(some v).isSome=true from rfl,if_pos rfl]
    symm
    rw[Bool.and_eq_false_iff];by_cases c:2<=l.length
    ·right
     apply Classical.byContradiction;intro a;have a:l.getD 1 0=120\/l.getD 1 0=88:=by
      cases k:(l.getD 1 0==120||l.getD 1 0==88) with
      | false=>exact absurd k a
      | true=>simpa using k
     have m:¬l.getD 0 0=48:=λh=>b ((Gf l).2 ⟨h,a⟩)
     have f:E8 10 0 l=none:=Jp (i:=1) (by omega) (by rcases a with h|h<;>rw[h]<;>decide);unfold Z5 at d;rw[if_neg (by intro e;rw[e] at c;simp at c),if_neg b,if_neg (by intro h;exact m h.2),f] at d;cases d
    ·left;simpa using c
end
section
open Go Go.Proofs
theorem B02{R:Type}{a:Bool->Option R}(s p:By)(b:A3 s.length=true):C73 LF s p a=a (p.isPrefixOf s):=by
 have:=L3 b;unfold C73;rw[Fb];by_cases h:p.length<=s.length
 ·simp_all
 ·simp (disch:=omega) [h]
theorem By0{R:Type}{a:Bool->Option R}(s p:By)(b:A3 s.length=true):Pc LF s p a=a (p.isPrefixOf s):=by unfold Pc;rw[b];rfl
theorem B03{R:Type}{a:Bool->Option R}(s p:By)(b:A3 s.length=true):C75 LF s p a=a (p.isSuffixOf s):=by
 have:=L3 b;unfold C75;rw[Ns];by_cases h:p.length<=s.length
 ·have e:((s.length:Int)-(p.length:Int)).toNat=s.length-p.length:=by omega
  simp (disch:=omega) [h,e]
 ·simp (disch:=omega) [h]
theorem By1{R:Type}{a:Bool->Option R}(s p:By)(b:A3 s.length=true):C55 LF s p a=a (p.isSuffixOf s):=by unfold C55;rw[b];rfl
theorem A38{R:Type}{b:By->Option R}(s p:By)(a:A3 s.length=true):Bq4 LF s p b=b (YS s p):=by
 have:=L3 a;unfold Bq4 YS;rw[a];cases h:p.isSuffixOf s with
 | false=>simp
 | true=>
  have:p.length<=s.length:=by rw[Ns] at h;simp at h;exact h.1
  have e:((s.length:Int)-(p.length:Int)).toNat=s.length-p.length:=by omega
  simp (disch:=omega) [e]
theorem Bh2{R:Type}{a:By->Option R}(s p:By)(b:A3 s.length=true):Bt2 LF s p a=a (YS s p):=by unfold Bt2;rw[b];rfl
theorem A27{R:Type}{b:By->Bool->Option R}(s p:By)(a:A3 s.length=true):Bp7 LF s p b=b (Ha s p) (p.isPrefixOf s):=by
 have:=L3 a;unfold Bp7 Ha;rw[a];cases h:p.isPrefixOf s with
 | false=>simp
 | true=>
  have:p.length<=s.length:=by rw[Fb] at h;simp at h;exact h.1
  simp_all
theorem Bv5{R:Type}{a:By->Bool->Option R}(s p:By)(b:A3 s.length=true):C17 LF s p a=a (Ha s p) (p.isPrefixOf s):=by unfold C17;rw[b];rfl
theorem Ap7{R:Type}{a:LL->Option R}(s p:By)(b:A3 s.length=true)(c:(p.length==1)=true):YL LF s p a=a (D2 (pcs (p.getD 0 0) s)):=by unfold YL;rw[b,c];rfl
theorem Bz9{R:Type}{k0:LL->Option R}(s:By)(o:s.length<=1000000000):∀(r i n:Nat),i+r=s.length->r<n->Fl LF n s (s.length:Int) (i:Int) ((B5 (s.take i)).map D9) k0=k0 ((B5 s).map D9):=by
 intro r
 induction r with
 | zero=>
  intro i n g j;obtain⟨n,rfl⟩:∃m,n=m+1:=⟨n-1,by omega⟩
  rw[Fl];rw[A6,z7 (by omega)];rfl
 | succ r a=>
  intro i n g j;obtain⟨n,rfl⟩:∃m,n=m+1:=⟨n-1,by omega⟩
  rw[Fl];have h:(B5 (s.take i)).length=i:=by simp[B5];omega
  have a:=a (i+1) n (by omega) (by omega);rw[KF s i (by omega)] at a;rw[D3];have l:=(s.getD i 0).toNat_lt;generalize s.getD i 0=b at *;have c:((i:Int)+1)=((i+1:Nat):Int):=by omega
  simp (disch:=omega) only[B8,M0,cond_true,vl,aa5,h,F4,C9];rw[c];rcases K5 b with⟨d,e⟩|⟨d,e⟩|⟨d,k,e⟩
  ·simp (disch:=omega) only[B8,j7,cond_false];rw[e] at a;exact a
  ·simp (disch:=omega) only[E2,B8,j7,j8,cond_false,cond_true];rw[e] at a;exact a
  ·have f:wu8 ((b.toNat:Int)+32)=((X4 b).toNat:Int):=by
    rw[M7];omega
   simp (disch:=omega) only[E2,j8,cond_true,f];exact a
theorem B00{R:Type}{k0:By->LL->Option R}(s:By)(b:A3 s.length=true):C71 LF s k0=k0 (B5 s) ((B5 s).map D9):=by have c:=L3 b;have:=C7;unfold C71;simp (disch:=omega) only[j5,F4,af4];rw[show(decide ((0:Int)<=(s.length:Int)))=true by simp];have:=Bz9 (k0:=λa=>cond (w8 a Nz) (k0 (p4 Lw a) a) none) s c s.length 0 LF (by omega) (by omega);simp only[List.take_zero,B5,List.map_nil] at this;rw[cond_true];refine j2 this ?_;rw[show(p4 X4 s).map D9=(B5 s).map D9 from rfl,X7,Y4];rfl
theorem B45{R:Type}{k0:LL->Option R}(s:By)(o:s.length<=1000000000):∀(r i n:Nat),i+r=s.length->r<n->Fu LF n s (i:Int) ((B5 (s.take i)).map D9) k0=k0 ((B5 s).map D9):=by
 intro r
 induction r with
 | zero=>
  intro i n g j;obtain⟨n,rfl⟩:∃m,n=m+1:=⟨n-1,by omega⟩
  rw[Fu];rw[A6,z7 (by omega)];rfl
 | succ r a=>
  intro i n g j;obtain⟨n,rfl⟩:∃m,n=m+1:=⟨n-1,by omega⟩
  rw[Fu];have h:(B5 (s.take i)).length=i:=by simp[B5];omega
  have a:=a (i+1) n (by omega) (by omega);rw[KF s i (by omega)] at a;rw[D3];have l:=(s.getD i 0).toNat_lt;generalize s.getD i 0=b at *;have c:((i:Int)+1)=((i+1:Nat):Int):=by omega
  simp (disch:=omega) only[B8,M0,cond_true,vl,aa5,h,F4,C9];rw[c];rcases K5 b with⟨d,e⟩|⟨d,e⟩|⟨d,k,e⟩
  ·simp (disch:=omega) only[B8,j7,cond_false];rw[e] at a;exact a
  ·simp (disch:=omega) only[E2,B8,j7,j8,cond_false,cond_true];rw[e] at a;exact a
  ·have f:wu8 ((b.toNat:Int)+32)=((X4 b).toNat:Int):=by
    rw[M7];omega
   simp (disch:=omega) only[E2,j8,cond_true,f];exact a
theorem B46{R:Type}{k0:By->LL->Option R}(s:By)(b:A3 s.length=true):Db6 LF s k0=k0 (B5 s) ((B5 s).map D9):=by have c:=L3 b;have:=C7;unfold Db6;have:=B45 (k0:=λa=>cond (w8 a Nz) (k0 (p4 Lw a) a) none) s c s.length 0 LF (by omega) (by omega);refine j2 this ?_;rw[X7,Y4];rfl
theorem Bx7{R:Type}{c:Bool->Option R}(s:By)(d:A3 s.length=true):C49 LF s c=c (Y2 s):=by
 unfold C49;have key:Y2 s=(([48,120]:By).isPrefixOf s||([48,88]:By).isPrefixOf s):=by
  match s with
  | []=>rfl
  | [a]=>simp[Y2,o8]
  | a::b::r=>
   simp only[Y2,o8,w9,ac9,af4];rw[ah4 (a:=(48:UInt8)),ah4 (a:=(120:UInt8)),ah4 (a:=(88:UInt8))];cases (a==48)<;>simp
 grind
theorem Bw0{R:Type}{k0:Unit->Option R}{k1:Int->Option R}(s:By)(C:s.length<=1000000000)(base:Nat)(B:base<=16):∀(r i a n:Nat),i+r=s.length->r<n->a<=W5->
  Iq LF n s (base:Int) (a:Int) (s.length:Int) (i:Int) k0 k1=match E8 base a (s.drop i) with|some v=>k1 (v:Int)|none=>k0 ():=by
 intro r
 induction r with
 | zero=>
  intro i a n u w q;obtain⟨n,rfl⟩:∃m,n=m+1:=⟨n-1,by omega⟩
  rw[Iq];rw[A6,o5 (by omega)];rfl
 | succ r l=>
  intro i a n u w q;obtain⟨n,rfl⟩:∃m,n=m+1:=⟨n-1,by omega⟩
  rw[Iq,D4 s i (by omega)];rw[D3];have t:=(s.getD i 0).toNat_lt;generalize s.getD i 0=b at *;have k:((i:Int)+1)=((i+1:Nat):Int):=by omega
  have o:W5=1099511627776:=rfl;have step:∀d:Nat,d<base->(a*base+d<100000000000000/\A1 (A1 ((a:Int)*(base:Int))+(d:Int))=((a*base+d:Nat):Int)):=by
   intro d c;have h:a*base<=1099511627776*16:=af2 (by omega) (by omega);refine⟨by omega,?_⟩;have p:A1 ((a*base:Nat):Int)=((a*base:Nat):Int):=A7;rw[<-ae6,p,A7];rfl
  simp (disch:=omega) only[B8,M0,cond_true,vl,C9,Vl,Vk,Vj];rw[k];simp only[E8];rcases Df b with⟨h,j,e⟩|⟨h,j,e⟩|⟨h,j,e⟩|⟨h,j,A,e⟩
  ·have f:wu8 ((b.toNat:Int)-48)=((dig b:Nat):Int):=by rw[M7];omega
   simp (disch:=omega) only[B8,E2,j7,j8,cond_false,cond_true,f,C9];by_cases c:dig b<base
   ·rw[if_pos c,A8,(step _ c).2,Cs1];exact l (i+1) _ n (by omega) (by omega) (by omega)
   ·rw[if_neg c,A6];rfl
  ·have f:wu8 ((b.toNat:Int)-97)+10=((dig b:Nat):Int):=by rw[M7];omega
   have g:wu8 ((b.toNat:Int)-97)=((b.toNat:Int)-97):=M7;rw[g] at f;simp (disch:=omega) only[B8,E2,j7,j8,cond_false,cond_true,g,C9,f];by_cases c:dig b<base
   ·rw[if_pos c,A8,(step _ c).2,Cs1];exact l (i+1) _ n (by omega) (by omega) (by omega)
   ·rw[if_neg c,A6];rfl
  ·have f:wu8 ((b.toNat:Int)-65)+10=((dig b:Nat):Int):=by rw[M7];omega
   have g:wu8 ((b.toNat:Int)-65)=((b.toNat:Int)-65):=M7;rw[g] at f;simp (disch:=omega) only[B8,E2,j7,j8,cond_false,cond_true,g,C9,f];by_cases c:dig b<base
   ·rw[if_pos c,A8,(step _ c).2,Cs1];exact l (i+1) _ n (by omega) (by omega) (by omega)
   ·rw[if_neg c,A6];rfl
  ·rw[if_neg (show ¬dig b<base by omega)];by_cases x:b.toNat<48
   ·simp (disch:=omega) only[B8,E2,j7,j8,cond_false,cond_true]
   ·by_cases y:b.toNat<65
    ·simp (disch:=omega) only[B8,E2,j7,j8,cond_false,cond_true]
    ·by_cases z:b.toNat<97
     ·simp (disch:=omega) only[B8,E2,j7,j8,cond_false,cond_true]
     ·simp (disch:=omega) only[B8,E2,j7,j8,cond_false,cond_true]
theorem Bw1{R:Type}{k0:Int->Bool->Option R}(s:By)(base:Int)(c:A3 s.length=true)(d:ltN base 17=true):Ch2 LF s base k0=k0 (N5 (E8 base.toNat 0 s):Int) (E8 base.toNat 0 s).isSome:=by have f:=L3 c;have:=C7;obtain⟨a,e⟩:=E6.1 d;obtain⟨b,rfl⟩:=o7 a;unfold Ch2;have:=Bw0 (k0:=λ_=>k0 0 false) (k1:=λn=>k0 n true) s f b (by omega) s.length 0 0 LF (by omega) (by omega) (by unfold W5;omega);refine j2 this ?_;rw[v8,j5];cases E8 b 0 s<;>rfl
theorem Cm5{R:Type}{f:Int->Bool->Option R}(s:By)(d:A3 s.length=true):num LF s f=f (N5 (Z5 s):Int) (Z5 s).isSome:=by
 have k:=L3 d;unfold num Z5;rw[d];by_cases a:s=[]
 ·subst a;rfl
 have c:(s==([]:By))=false:=by simpa using a
 have j:0<s.length:=aa6.2 a;rw[if_neg a,c];simp only[cond_true,cond_false,vl];cases h:Y2 s with
 | true=>
  have:=Ko h;simp (disch:=first|omega|(simp;omega)) only[cond_true,if_true,Am,P9,E1,Wm];rfl
 | false=>
  simp only[cond_false,aa7,if_false];have i:(E8 10 0 s)=E8 10 0 s:=rfl;by_cases g:1<s.length
  ·simp (disch:=omega) only[B8,M0,cond_true,Ao,g,true_and];have e:=R5 (s.getD 0 0) 48 (by omega);rw[show((48:Nat):Int)=48 from rfl] at e;rw[e];by_cases b:s.getD 0 0=48
   ·rw[if_pos b,b,show((48:UInt8)==k9 48)=true from rfl];simp (disch:=first|omega|(simp;omega)) only[Am,P9,E1,Wm,cond_true];rfl
   ·rw[if_neg b,show(s.getD 0 0==k9 48)=false from beq_eq_false_iff_ne.2 b];rfl
  ·rw[A6,F7];rfl
theorem WT{R:Type}{b:Bool->Option R}(s:By)(a:A3 s.length=true):EY LF s b=b (E7 s):=by
 have i:=L3 a;have h:=Bb s;have g:=Ml (PH s);have d:=BA s;have c:((C5 s).length:Int)-1=(((C5 s).length-1:Nat):Int):=by omega
 unfold EY E7;rw[a];simp (disch:=omega) only[cond_true,vl,F0,c,C9,M0,j5,R2,U7,d,E1];cases f:Y2 (Cv s) with
 | true=>
  have:=Ko f;have e:Z5 (Cv s)=E8 16 0 ((Cv s).drop 2):=by
   unfold Z5;grind
  simp[e]
 | false=>
  simp only[cond_false,aa7,if_false];cases E8 10 0 (Cv s) with
  | none=>simp
  | some v=>cases Cv s<;>rfl
theorem NG{R:Type}{c:Bool->Option R}(s:By)(a:A3 s.length=true):Xk LF s c=c (E7 s):=by
 have j:=L3 a;have i:=Bb s;have h:=Ml (PH s);have e:=BA s;have d:((C5 s).length:Int)-1=(((C5 s).length-1:Nat):Int):=by omega
 unfold Xk E7;rw[a,Cm6];simp (disch:=omega) only[cond_true,vl,F0,d,C9,M0,j5,R2,U7,e,E1];generalize Cv s=l at *;cases (!l.isEmpty&&(E8 10 0 l).isSome) with
 | true=>rfl
 | false=>
  simp only[cond_false,aa7,if_false];cases Z5 l with
  | none=>rfl
  | some v=>
   simp only[p5,cond_true,if_true,Bn0];by_cases b:2<=l.length
   ·simp (disch:=omega) only[E2,M0,j8,cond_true,b,decide_true,Bool.true_and];have f:=R5 (l.getD 1 0) 120 (by omega);have g:=R5 (l.getD 1 0) 88 (by omega);grind
   ·rw[A8];simp[b]
theorem VV{R:Type}{e:By->Option R}(b:Nat)(j:b<=9223372036854775808)(n:Int)(f:ltN n (b+1)=true):ES b n e=e (j6 n.toNat):=by
 obtain⟨a,g⟩:=E6.1 f;obtain⟨m,rfl⟩:=o7 a;have key:∀d:Nat,d<10->wu8 (A1 (48+(d:Int)))=((48+d:Nat):Int):=by
  intro d i;rw[A7,M7];rfl
 have c:∀d:Nat,d<10->[[SV.int .u8 ((48+d:Nat):Int)]]=[k9 (48+d)].map D9:=by
  intro d i;rw[Cu6 (by omega)];rfl
 unfold ES;rw[j5];by_cases h:m<10
 ·rw[A8,key m h,ab0 h];simp only[cond_true,vl];rw[c m h,X7,Y4];rfl
 ·have l:=Kj 19 (m / 10) (by omega) (by omega);rw[A6,show(10:Int)=((10:Nat):Int) from rfl,N3,Ic];simp (disch:=omega) only[cond_false,vl,C9,cond_true,j5];rw[O5];simp only[cond_true];have k:=key (m % 10) (by omega);rw[A7] at k;rw[k,c (m % 10) (by omega),X7,Y4,M9 (by simp;omega),W6 m h];rfl
theorem B33{R:Type}{f:Int->Option R}{c:Unit->Option R}(s:By):∀(r m n:Nat),m+r=256->r<n->Mo LF n s (m:Int) f c=match oct s with|some v=>(if m<=v then f (v:Int) else c ())|none=>c ():=by
 intro r
 induction r with
 | zero=>
  intro m n g i;obtain⟨n,rfl⟩:∃m,n=m+1:=⟨n-1,by omega⟩
  rw[Mo];rw[A6];cases h:oct s with
  | none=>rfl
  | some v=>have:=(Wu.1 h).1;simp only[cond_false];rw[F7]
 | succ r j=>
  intro m n g i;obtain⟨n,rfl⟩:∃m,n=m+1:=⟨n-1,by omega⟩
  rw[Mo];have b:((m:Int)+1)=((m+1:Nat):Int):=by omega
  simp (disch:=omega) only[B8,Wm,cond_true,vl,C9,j5];by_cases a:j6 m=s
  ·rw[show(j6 m==s)=true by simpa using a,Wu.2 ⟨by omega,a⟩];simp
  ·rw[show(j6 m==s)=false by simpa using a,cond_false,b,j (m+1) n (by omega) (by omega)];cases h:oct s with
   | none=>rfl
   | some v=>
    have:=(Wu.1 h).2;have:v≠m:=by intro e;subst e;exact a this
    simp only[];by_cases d:m<=v
    ·rw[if_pos d,Q5]
    ·rw[if_neg d,F7]
theorem B34{R:Type}{a:Int->Bool->Option R}(s:By)(b:A3 s.length=true):Da4 LF s a=a (N5 (oct s):Int) (oct s).isSome:=by have:=C7;unfold Da4;refine j2 (B33 s 256 0 LF (by omega) (by omega)) ?_;cases oct s<;>rfl
theorem Dw4(s:By)(a b:Nat)(h:a<=b)(c:b<s.length):cut s (a:Int) ((b+1:Nat):Int)=cut s (a:Int) (b:Int)++[s.getD b 0]:=by rw[Ip,Ip,QS s b c,aa1 (by rw[List.length_take];omega)]
theorem Cg9(s:By)(a:Nat):cut s (a:Int) (a:Int)=[]:=by rw[Ip];grind
theorem Al2{R:Type}{k0:LL->Option R}(s:By)(p:s.length<=1000000000)(c:UInt8):∀(r i a n:Nat) (l:List By),i+r=s.length->r+1<n->a<=i->l.length<=i->
  W7 LF n s (c.toNat:Int) (a:Int) (i:Int) (D2 l) k0=k0 (D2 (l++M4 c (cut s (a:Int) (i:Int)) (s.drop i))):=by
 intro r
 induction r with
 | zero=>
  intro i a n l j o f k;obtain⟨n,rfl⟩:∃m,n=m+1:=⟨n-1,by omega⟩
  obtain⟨n,rfl⟩:∃m,n=m+1:=⟨n-1,by omega⟩
  have b:i=s.length:=by omega
  subst b;rw[W7];simp (disch:=omega) only[E2,j8,cond_true,beq_self_eq_true,Am,F0,F4,C9];rw[W7];rw[A8,List.drop_length];simp only[j7,cond_false,M4,Yb];rfl
 | succ r g=>
  intro i a n l j o f k;obtain⟨n,rfl⟩:∃m,n=m+1:=⟨n-1,by omega⟩
  rw[W7];have d:((i:Int)+1)=((i+1:Nat):Int):=by omega
  have e:((i:Int)==(s.length:Int))=false:=by rw[beq_eq_false_iff_ne];omega
  simp (disch:=omega) only[E2,j8,cond_true,cond_false,e,M0,D3,Dl9,Am,F0,F4,C9];rw[d,D4 s i (by omega)];simp only[M4];by_cases h:s.getD i 0=c
  ·rw[show(s.getD i 0==c)=true by simpa using h,if_pos h,cond_true];have:=g (i+1) (i+1) n (l++[cut s (a:Int) (i:Int)]) (by omega) (by omega) (by omega) (by simp<;>omega);rw[Yb] at this;refine j2 this ?_;rw[Cg9];simp
  ·rw[show(s.getD i 0==c)=false from beq_eq_false_iff_ne.2 h,if_neg h,cond_false];rw[g (i+1) a n l (by omega) (by omega) (by omega) (by omega),Dw4 s a i f (by omega)]
theorem Be2{R:Type}{k0:LL->Option R}(s:By)(c:Int)(a:A3 s.length=true)(d:inR c 256=true):LK LF s c k0=k0 (D2 (pcs (u8n c) s)):=by
 have f:=L3 a;have:=C7;simp only[inR,x3,decide_eq_true_eq] at d;have e:c=((u8n c).toNat:Int):=by
  unfold u8n;simp;omega
 unfold LK;generalize u8n c=b at *;subst e;have:=Al2 (k0:=k0) s f b s.length 0 0 LF [] (by omega) (by omega) (by omega) (by simp);refine j2 this ?_;rw[Cg9];rfl
theorem Ap9(c:UInt8)(s:By):(D2 (pcs c s)).isEmpty=false:=by
 cases h:pcs c s with
 | nil=>exact absurd h (XC c s)
 | cons a r=>rfl
theorem Al3(s:By)(c:Int)(a:A3 s.length=true)(b:inR c 256=true):∃r H,LK LF s c (λl=>rv (.fl 0) [.arr true 9 1 l])=rv r H/\r.stab [1] H = .s (.sl false false 1 (D2 (pcs (u8n c) s))):=by refine⟨_,_,Be2 s c a b,?_⟩;simp[PV.stab,Rl,PV.snap,Ap9]
theorem Cs2(d:List By)(x:By)(m:Nat):aa2 (D2 (d++j1 (m+1) [])) d.length (G1 (b8 (D2 (d++j1 (m+1) [])) d.length []) 0 [SV.str x])=D2 ((d++[x])++j1 m []):=by
 have a:b8 (D2 (d++j1 (m+1) [])) d.length []=[SV.str []]:=by
  unfold D2;grind
 rw[a];simp only[G1,List.set_cons_zero,Yb];rw[show d.length=(D2 d).length by simp,List.set_append_right _ _ (by omega),Nat.sub_self,List.replicate_succ];simp[D2]
theorem Ae5{R:Type}{k0:By->Int->LL->Option R}(c:UInt8):∀(m n:Nat) (s:By) (d:List By),s.length<=1000000000->m=s.count c->d.length+m<=1000000000->m<n->
  ∃(f:List By) (e:By),pcs c s=f++[e]/\e.length<=s.length/\Bj LF n s [c] 0 ((d.length+m:Nat):Int) (d.length:Int) (D2 (d++j1 (m+1) [])) k0=k0 e ((d.length+m:Nat):Int) (D2 ((d++f)++[[]])):=by
 intro m
 induction m with
 | zero=>
  intro n s d k b x y;obtain⟨n,rfl⟩:∃m,n=m+1:=⟨n-1,by omega⟩
  have a:c∉s:=aa9.1 b.symm;refine⟨[],s,Ku a,aa3 _,?_⟩;rw[Bj];rw[A6];simp
 | succ m z=>
  intro n s d k b x y;obtain⟨n,rfl⟩:∃m,n=m+1:=⟨n-1,by omega⟩
  rcases Q7 c s with a|⟨p,r,rfl,a⟩
  ·rw[aa9.2 a] at b;omega
  ·have i:m=r.count c:=by
    rw[List.count_append,ae7,aa9.2 a] at b;simp at b;omega
   simp only[y7,ab4] at k;obtain⟨f,e,w,B,j⟩:=z n r (d++[p]) (by omega) i (by simp<;>omega) (by omega);refine⟨p::f,e,by rw[FD a,w];rfl,by simp<;>omega,?_⟩;rw[Bj];have l:((p.length:Int)+1)=((p.length+1:Nat):Int):=by omega
   have o:(d.length:Int)+1=((d.length+1:Nat):Int):=by omega
   have q:((p.length+1:Nat):Int).toNat=p.length+1:=by omega
   have A:(((p++c::r).length:Nat):Int)=((p.length+(r.length+1):Nat):Int):=by simp
   have t:(p++c::r).take p.length=p:=List.take_left' rfl;have u:(p++c::r).drop (p.length+1)=r:=by
    rw[show p++c::r=(p++[c])++r by simp,List.drop_left' (by simp)]
   rw[AU a];have v:(D2 (d++j1 (m+1+1) [])).length=d.length+(m+2):=by simp<;>omega
   simp (disch:=first|omega|(simp;omega)) only[B8,E2,E1,cond_true,cond_false,vl,Int.add_zero,C9,Am,M0,v,j5,x5,P9,K7,t,Cs2];rw[decide_eq_true (show d.length<d.length+(m+2) by omega),cond_true,show((1:Nat):Int)=1 from rfl,l];simp (disch:=first|omega|(simp;omega)) only[C9,Am,cond_true,P9,q,u,o];have g:((((d++[p]).length+m:Nat):Int))=((d.length+(m+1):Nat):Int):=by simp<;>omega
   have h:(((d++[p]).length:Nat):Int)=((d.length+1:Nat):Int):=by simp
   rw[g,h] at j;rw[j];simp
theorem JL{R:Type}{k0:Unit->Option R}{g:Nat->LL->Option R}(s p:By)(v n:Int)(w:A3 s.length=true)(x:(p.length==1)=true)(y:(v==0)=true)(z:(n==(-1))=true) :
  JK LF s p v n k0 g=g (pcs (p.getD 0 0) s).length (D2 (pcs (p.getD 0 0) s)):=by
 have C:=L3 w;have:=C7;obtain⟨c,rfl⟩:∃c,p=[c]:=by
  match p,x with
  | [c],_=>exact⟨c,rfl⟩
 have:v=0:=by simpa using y
 subst this;have:n=-1:=by simpa using z
 subst this;have G:=Gz c s;have B:=Iy c s;obtain⟨d,D,u,F,h⟩:=Ae5 (R:=R) (k0:=λf a b=>cond (inR a (a8 b))
     (cond (decide ((b9 a)<(a8 b)))
      (vl (A1 (a+(1))) λe=>
      cond (I9 (0) e (a8 (aa2 b (b9 a) (G1 (b8 b (b9 a) []) 0 [(SV.str f)]))))
       (g ((b9 e)-0) (aa2 b (b9 a) (G1 (b8 b (b9 a) []) 0 [(SV.str f)])))
       (none))
      (none))
     (none)) c (s.count c) LF s [] C rfl (by simp<;>omega) (by omega)
 unfold JK;have i:A1 ((s.count c:Int)+1)=((s.count c+1:Nat):Int):=A7;have j:A1 ((s.length:Int)+1)=((s.length+1:Nat):Int):=A7;have k:(if ((s.length+1:Nat):Int)<((s.count c+1:Nat):Int) then ((s.length+1:Nat):Int) else ((s.count c+1:Nat):Int))=((s.count c+1:Nat):Int):=F7;have l:((s.count c+1:Nat):Int)-1=(s.count c:Int):=by omega
 have m:(j1 (s.count c+1) [SV.str ([]:By)])=D2 ([]++j1 (s.count c+1) []):=by simp[D2]
 simp only[w9,vl,x5,i,j,k,j5,m];rw[show((-1:Int)==0)=false from rfl,show([c]==([]:By))=false from rfl,show ltI (-1) 0=true from rfl,decide_eq_true (show(0:Int)<=((s.count c+1:Nat):Int) by omega),decide_eq_true (show((s.count c+1:Nat):Int)<=((s.count c+1:Nat):Int) by omega),F4 (by omega),l,A7];simp only[cond_true,cond_false,beq_self_eq_true,Bool.and_self];simp only[ae8,ah3] at h;refine j2 h ?_;have o:(D2 ((([]:List By)++d)++[[]]))=D2 (d++j1 (0+1) []):=by simp
 have A:d.length=s.count c:=by grind
 have q:=Cs2 d D 0;rw[<-A,o];have t:(D2 (d++j1 (0+1) ([]:By))).length=d.length+1:=by simp
 have r:A1 ((d.length:Int)+1)=((d.length+1:Nat):Int):=A7;simp only[j5,q,t,vl,r];rw[E9,decide_eq_true (show d.length<d.length+1 by omega),Am (by omega) (by omega) (by simp),u];simp
theorem Ae6(s p:By)(v n:Int)(a:A3 s.length=true)(b:(p.length==1)=true)(c:(v==0)=true)(d:(n==(-1))=true) :
  ∃r H,JK LF s p v n (λ_=>rv (.fl 0) [.arr true 9 1 []]) (λi l=>rv (.vw 0 0 i) [.arr false 9 1 l])=rv r H/\r.stab [1] H = .s (.sl false false 1 (D2 (pcs (p.getD 0 0) s))):=by
 refine⟨_,_,JL s p v n a b c d,?_⟩;simp[PV.stab,Rl,PV.snap,z7]
theorem YM{R:Type}{a:Nat->LL->Option R}(s p:By)(b:A3 s.length=true)(c:(p.length==1)=true):FN LF s p a=a (pcs (p.getD 0 0) s).length (D2 (pcs (p.getD 0 0) s)):=by unfold FN;rw[b,c];rfl
theorem PP{l:List By}{i:Nat}(h:i<l.length):l.getD i []∈l:=by grind
theorem A53{R:Type}{d:LL->Option R}(s:By)(b:A3 s.length=true):parts LF s d=d (D2 (C5 s)):=by
 have j:=L3 b;have g:=Iy 46 s;have i:=Gz 46 s;unfold parts;rw[b];have e:A1 (((pcs 46 s).length:Int)-1)=(((pcs 46 s).length-1:Nat):Int):=by rw[A7];omega
 simp only[cond_true,vl,w9,show((1:Nat)==1)=true from rfl,F0,e,j5];by_cases c:1<(pcs 46 s).length
 ·rw[A8,E9,R2 (by omega),U7];have f:(pcs 46 s).getD ((pcs 46 s).length-1) []=(pcs 46 s).getLastD []:=by grind
  rw[f];by_cases a:(pcs 46 s).getLastD []=[]
  ·rw[a,show(([]:By)==[])=true from rfl,I4];have:C5 s=(pcs 46 s).dropLast:=by unfold C5;rw[if_pos ⟨c,a⟩]
   rw[this,ac1,K7,j5];simp[D2]
  ·rw[show((pcs 46 s).getLastD []==[])=false from beq_eq_false_iff_ne.2 a];have:C5 s=pcs 46 s:=by unfold C5;rw[if_neg (λh=>a h.2)]
   grind
 ·rw[A6];have:C5 s=pcs 46 s:=by unfold C5;rw[if_neg (λh=>c h.1)]
  grind
theorem Ak3{R:Type}{d:LL->Option R}(s:By)(b:A3 s.length=true):XU LF s d=d (D2 (C5 s)):=by
 have j:=L3 b;have g:=Iy 46 s;have i:=Gz 46 s;unfold XU;rw[b];have e:A1 (((pcs 46 s).length:Int)-1)=(((pcs 46 s).length-1:Nat):Int):=by rw[A7];omega
 simp only[cond_true,vl,show u8n 46=46 from rfl,F0,e,j5];by_cases c:1<(pcs 46 s).length
 ·rw[A8,E9,R2 (by omega),U7];have f:(pcs 46 s).getD ((pcs 46 s).length-1) []=(pcs 46 s).getLastD []:=by grind
  rw[f];by_cases a:(pcs 46 s).getLastD []=[]
  ·rw[a,show(([]:By)==[])=true from rfl,I4];have:C5 s=(pcs 46 s).dropLast:=by unfold C5;rw[if_pos ⟨c,a⟩]
   rw[this,ac1,K7,j5];simp[D2]
  ·rw[show((pcs 46 s).getLastD []==[])=false from beq_eq_false_iff_ne.2 a];have:C5 s=pcs 46 s:=by unfold C5;rw[if_neg (λh=>a h.2)]
   grind
 ·rw[A6];have:C5 s=pcs 46 s:=by unfold C5;rw[if_neg (λh=>c h.1)]
  grind
theorem Jt(l:List By)(i:Nat)(h:i<l.length):l.drop i=l.getD i []::l.drop (i+1):=by simp_all
theorem B23{R:Type}{g:Unit->Option R}{j:Int->Option R}(l:List By)(B:1<=l.length)(L:l.length<=4)(A:∀x∈l,x.length<=1000000000):∀(r i v n:Nat),i+r=l.length->0<r->r<n->v<256 ^ i->
  Jb LF n (D2 l) (v:Int) (l.length:Int) (i:Int) g j=match Tv (8*(5-l.length)) v (l.drop i) with|some w=>j (w:Int)|none=>g ():=by
 intro r
 induction r with
 | zero=>intro i v n _ h;omega
 | succ r J=>
  intro i v n K _ M H;obtain⟨n,rfl⟩:∃m,n=m+1:=⟨n-1,by omega⟩
  rw[Jb,Jt l i (by omega)];have N:=A _ (PP (show i<l.length by omega));have f:W5=1099511627776:=rfl;have C:256 ^ i<=16777216:=by
   have:i=0\/i=1\/i=2\/i=3:=by omega
   rcases this with rfl|rfl|rfl|rfl<;>decide
  simp (disch:=omega) only[B8,F0,M0,cond_true,j5,R2,U7,E1,vl];simp only[Tv];have c:((i:Int)+1)=((i+1:Nat):Int):=by omega
  cases D:Z5 (l.getD i []) with
  | none=>rfl
  | some q=>
   have F:=Bq9 D;have p:A1 ((l.length:Int)-1)=((l.length-1:Nat):Int):=by rw[A7];omega
   simp only[p5,j7,cond_false,N5,v7,p];by_cases G:r=0
   ·subst G;have t:l.drop (i+1)=[]:=o5 (by omega);have o:A1 (8*A1 (5-(l.length:Int)))=((8*(5-l.length):Nat):Int):=by
     rw[C9 (n:=5-(l.length:Int)) (by omega) (by omega),A7];omega
    have b:2 ^ (8*(5-l.length))*256 ^ i=4294967296:=by
     have:l.length=1\/l.length=2\/l.length=3\/l.length=4:=by omega
     grind
    have u:1*2 ^ (8*(5-l.length))<=4294967296:=by
     rw[<-b,ac6];exact ab7 _ (ae5 (by omega))
    rw[t,A6,o,decide_eq_true (show(0:Int)<=((8*(5-l.length):Nat):Int) by omega)];simp only[cond_false,cond_true];have k:=Ao5 1 (8*(5-l.length)) (by omega) (by omega);have I:v*2 ^ (8*(5-l.length))<4294967296:=by
     rw[<-b,ah2];exact Nat.mul_lt_mul_of_pos_left H (ae5 (by omega))
    have e:=Ao5 v (8*(5-l.length)) (by omega) (by omega);rw[show((1:Nat):Int)=1 from rfl] at k;rw[k,e,ac6];by_cases a:q<2 ^ (8*(5-l.length))
    ·rw[A8,if_pos a,Dk6 _ _ (by omega) (by omega),FC v q _ a];simp only[j7,cond_false];obtain⟨n,rfl⟩:∃m,n=m+1:=⟨n-1,by omega⟩
     rw[Jb];rw[c,A7,A6];rfl
    ·rw[A6,if_neg a];rfl
   ·obtain⟨y,z,d⟩:∃y z,l.drop (i+1)=y::z:=⟨_,_,Jt l (i+1) (by omega)⟩
    rw[d,A8];simp only[cond_true];by_cases a:q<=255
    ·have e:=Ao5 v 8 (by omega) (by omega);rw[show((8:Nat):Int)=8 from rfl] at e;rw[A6,if_pos a,e,Dk6 _ _ (by omega) (by omega),FC v q 8 (by omega),c,A7];rw[<-d];exact J (i+1) _ n (by omega) (by omega) (by omega) (by rw[y5];omega)
    ·rw[A8,if_neg a];rfl
theorem Br4(free m:Nat):∀(l:List By) (v w:Nat),v<256 ^ m->Tv free v l=some w->w<256 ^ (m+(l.length-1))*2 ^ free
 | [],v,w,b,h=>by cases h
 | p::r,v,w,b,h=>by
  simp only[Tv] at h;cases a:Z5 p with
  | none=>simp[a] at h
  | some q=>
   simp only[a] at h;cases r with
   | nil=>
    simp only at h;split at h
    ·rename_i c;cases h;simp only[ab4,ae8,Nat.add_sub_cancel,Nat.add_zero];have:(v+1)*2 ^ free<=256 ^ m*2 ^ free:=Nat.mul_le_mul_right _ b;grind
    grind
   | cons y z=>
    simp only at h;split at h
    ·rename_i c;have:=Br4 free (m+1) (y::z) (v*256+q) w (by rw[y5];omega) h;grind
    grind
theorem Cn8{s:By}{w:Nat}(h:pnB s=some w):w<4294967296:=by
 unfold pnB at h;split at h
 ·cases h
 ·rename_i a;have b:=Bb s;have:=Br4 _ 0 (C5 s) 0 w (by decide) h;have e:(C5 s).length=1\/(C5 s).length=2\/(C5 s).length=3\/(C5 s).length=4:=by omega
  grind
theorem B24{R:Type}{b:Int->Bool->Option R}(s:By)(a:A3 s.length=true):C96 LF s b=b (N5 (pnB s):Int) (pnB s).isSome:=by
 have f:=L3 a;have:=C7;have c:=Bb s;unfold C96;rw[a,F0];by_cases h:4<(C5 s).length
 ·rw[A8];unfold pnB;rw[if_pos h];rfl
 ·rw[A6];simp only[cond_true,cond_false];refine j2 (B23 (C5 s) c.1 (by omega) (λx g=>ab8 (Ml g) f) (C5 s).length 0 0 LF (by omega) (by omega) (by omega) (by decide)) ?_;have e:pnB s=Tv (8*(5-(C5 s).length)) 0 (C5 s):=by unfold pnB;rw[if_neg h]
  rw[v8,<-e];cases d:pnB s with
  | none=>rfl
  | some w=>
   have:=Cn8 d;simp only[N5,v7,p5];rw[Nk]
theorem Bc7{R:Type}{k0:Unit->Option R}{k1:Int->Option R}(l:List By)(F:1<=l.length)(L:l.length<=4)(D:∀x∈l,x.length<=1000000000):∀(r i v n:Nat),i+r=l.length->0<r->r<n->v<256 ^ i->
  Eo LF n (D2 l) ((v*2 ^ (32-8*i):Nat):Int) (i:Int) k0 k1=match Tv (8*(5-l.length)) v (l.drop i) with|some w=>k1 (w:Int)|none=>k0 ():=by
 intro r
 induction r with
 | zero=>intro i v n _ h;omega
 | succ r J=>
  intro i v n K _ M N;obtain⟨n,rfl⟩:∃m,n=m+1:=⟨n-1,by omega⟩
  rw[Eo,Jt l i (by omega)];have O:=D _ (PP (show i<l.length by omega));have k:W5=1099511627776:=rfl;have a:v*2 ^ (32-8*i)<4294967296:=by
   have:i=0\/i=1\/i=2\/i=3:=by omega
   rcases this with rfl|rfl|rfl|rfl
   all_goals omega
  simp (disch:=omega) only[B8,F0,M0,cond_true,j5,R2,U7,E1,vl];simp only[Tv];have c:((i:Int)+1)=((i+1:Nat):Int):=by omega
  cases G:Z5 (l.getD i []) with
  | none=>rfl
  | some q=>
   have H:=Bq9 G;have A:A1 ((l.length:Int)-1)=((l.length-1:Nat):Int):=by rw[A7];omega
   simp only[p5,j7,cond_false,N5,v7,A];by_cases I:r=0
   ·subst I;have B:l.drop (i+1)=[]:=o5 (by omega);have u:A1 (8*A1 (5-(l.length:Int)))=((8*(5-l.length):Nat):Int):=by
     rw[C9 (n:=5-(l.length:Int)) (by omega) (by omega),A7];omega
    have f:2 ^ (8*(5-l.length))*256 ^ i=4294967296:=by
     have:l.length=1\/l.length=2\/l.length=3\/l.length=4:=by omega
     grind
    have C:1*2 ^ (8*(5-l.length))<=4294967296:=by
     rw[<-f,ac6];exact ab7 _ (ae5 (by omega))
    have e:((i:Int)==((l.length-1:Nat):Int))=true:=by rw[beq_iff_eq];omega
    rw[B,e,u,decide_eq_true (show(0:Int)<=((8*(5-l.length):Nat):Int) by omega)];simp only[cond_true];have o:=Ao5 1 (8*(5-l.length)) (by omega) (by omega);rw[show((1:Nat):Int)=1 from rfl] at o;rw[o,ac6];by_cases b:q<2 ^ (8*(5-l.length))
    ·rw[A8,if_pos b];simp only[j7,cond_false];obtain⟨n,rfl⟩:∃m,n=m+1:=⟨n-1,by omega⟩
     rw[Eo];rw[c,C9 (n:=((i+1:Nat):Int)) (by omega) (by omega),F0,A6];have:32-8*i=8*(5-l.length):=by omega
     rw[this] at a ⊢;rw[cond_false,A7];rfl
    ·rw[A6,if_neg b];rfl
   ·obtain⟨y,z,d⟩:∃y z,l.drop (i+1)=y::z:=⟨_,_,Jt l (i+1) (by omega)⟩
    have e:((i:Int)==((l.length-1:Nat):Int))=false:=by rw[beq_eq_false_iff_ne];omega
    rw[d,e];simp only[cond_false];by_cases b:q<=255
    ·have j:A1 (24-A1 (8*(i:Int)))=((24-8*i:Nat):Int):=by
      rw[C9 (n:=8*(i:Int)) (by omega) (by omega),A7];omega
     have g:q*2 ^ (24-8*i)<4294967296:=by
      have:i=0\/i=1\/i=2:=by omega
      clear a;rcases this with rfl|rfl|rfl
      ·show q*16777216<_;omega
      ·show q*65536<_;omega
      ·show q*256<_;omega
     have p:=Ao5 q (24-8*i) (by omega) (by omega);rw[A6,if_pos b,j,decide_eq_true (show(0:Int)<=((24-8*i:Nat):Int) by omega),p,c,C9 (n:=((i+1:Nat):Int)) (by omega) (by omega)];have t:A1 (((v*2 ^ (32-8*i):Nat):Int)+((q*2 ^ (24-8*i):Nat):Int))=(((v*256+q)*2 ^ (32-8*(i+1)):Nat):Int):=by
      rw[A7];have:i=0\/i=1\/i=2:=by omega
      clear a g p j;rcases this with rfl|rfl|rfl
      ·show((v*4294967296:Nat):Int)+((q*16777216:Nat):Int)=(((v*256+q)*16777216:Nat):Int);omega
      ·show((v*16777216:Nat):Int)+((q*65536:Nat):Int)=(((v*256+q)*65536:Nat):Int);omega
      ·show((v*65536:Nat):Int)+((q*256:Nat):Int)=(((v*256+q)*256:Nat):Int);omega
     rw[t,<-d];exact J (i+1) _ n (by omega) (by omega) (by omega) (by rw[y5];omega)
    ·rw[A8,if_neg b];rfl
theorem Bc8{R:Type}{k0:Int->Bool->Option R}(s:By)(a:A3 s.length=true):Bs4 LF s k0=k0 (N5 (pnB s):Int) (pnB s).isSome:=by
 have f:=L3 a;have:=C7;have c:=Bb s;unfold Bs4;rw[a,F0];by_cases h:4<(C5 s).length
 ·rw[A8];unfold pnB;rw[if_pos h];rfl
 ·rw[A6];simp only[cond_true,cond_false];have b:=Bc7 (k0:=λ_=>k0 0 false) (k1:=λv=>k0 (CA v) true) (C5 s) c.1 (by omega) (λx g=>ab8 (Ml g) f) (C5 s).length 0 0 LF (by omega) (by omega) (by omega) (by decide);rw[Nat.zero_mul] at b;refine j2 b ?_;have e:pnB s=Tv (8*(5-(C5 s).length)) 0 (C5 s):=by unfold pnB;rw[if_neg h]
  rw[v8,<-e];cases d:pnB s with
  | none=>rfl
  | some w=>
   have:=Cn8 d;simp only[N5,v7,p5];rw[Nk]
theorem Br0:∀(l:List By) (v w m:Nat),v<256 ^ m->KN v l=some w->w<256 ^ (m+l.length)
 | [],v,w,m,b,h=>by simp only[KN,x6] at h;subst h;simpa using b
 | p::r,v,w,m,b,h=>by
  simp only[KN] at h;cases a:oct p with
  | none=>simp[a] at h
  | some q=>
   simp only[a] at h;have c:=(Wu.1 a).1;have:=Br0 r (v*256+q) w (m+1) (by rw[y5];omega) h;grind
theorem C85(s:By):oct s=match E8 10 0 s with|some n=>(if n<=255 then (if j6 n=s then some n else none) else none)|none=>none:=by unfold oct;grind
theorem Cv6{R:Type}{e:Unit->Option R}{f:Int->Option R}(l:List By)(z:l.length=4)(j:∀x∈l,x.length<=1000000000):∀(r i v n:Nat),i+r=4->r<n->v<256 ^ i->
  Ur LF n (v:Int) (D2 l) 4 (i:Int) e f=match KN v (l.drop i) with|some w=>f (w:Int)|none=>e ():=by
 intro r
 induction r with
 | zero=>
  intro i v n h k u;obtain⟨n,rfl⟩:∃m,n=m+1:=⟨n-1,by omega⟩
  rw[Ur];rw[A6,o5 (by omega)];rfl
 | succ r y=>
  intro i v n h k u;obtain⟨n,rfl⟩:∃m,n=m+1:=⟨n-1,by omega⟩
  rw[Ur,Jt l i (by omega)];have A:=j _ (PP (show i<l.length by omega));have o:256 ^ i<=16777216:=by
   have:i=0\/i=1\/i=2\/i=3:=by omega
   grind
  simp (disch:=omega) only[B8,F0,M0,cond_true,j5,R2,U7,E1,Wm,vl];simp only[KN];have b:((i:Int)+1)=((i+1:Nat):Int):=by omega
  rw[C85];cases p:E8 10 0 (l.getD i []) with
  | none=>rfl
  | some q=>
   have t:=IY (by unfold W5;omega) p;have d:W5=1099511627776:=rfl;simp only[p5,j7,cond_false,N5,v7,j5];by_cases c:q<=255
   ·rw[A6,if_pos c,O5];simp only[cond_false,cond_true];by_cases a:j6 q=l.getD i []
    ·have g:=Dy1 v 8 (by omega) (by omega);rw[show((8:Nat):Int)=8 from rfl] at g;rw[show(j6 q==l.getD i [])=true by simpa using a,if_pos a,g,Nk,Dw3 _ _ (by omega) (by omega),FC v q 8 (by omega),b,A7];exact y (i+1) _ n (by omega) (by omega) (by rw[y5];omega)
    ·rw[show(j6 q==l.getD i [])=false from beq_eq_false_iff_ne.2 a,if_neg a];rfl
   ·rw[A8,if_neg c];rfl
theorem Cv7{R:Type}{b:Int->Bool->Option R}(s:By)(a:A3 s.length=true):v4p LF s b=b (N5 (v4B s):Int) (v4B s).isSome:=by
 have c:=L3 a;have:=C7;unfold v4p v4B;rw[a];simp only[cond_true,vl,w9,F0,show((1:Nat)==1)=true from rfl];by_cases h:(pcs 46 s).length=4
 ·rw[if_pos h,h,show(((4:Nat):Int)!=4)=false from rfl,cond_false];refine j2 (Cv6 (pcs 46 s) h (λx d=>ab8 (Ck d).2 c) 4 0 0 LF (by omega) (by omega) (by decide)) ?_;rw[v8];cases KN 0 (pcs 46 s)<;>rfl
 ·rw[if_neg h,show(((pcs 46 s).length:Int)!=4)=true by simp<;>omega];rfl
theorem B63{R:Type}{b:Unit->Option R}{c:Int->Option R}(l:List By)(y:l.length=4)(h:∀x∈l,x.length<=1000000000):∀(r i v n:Nat),i+r=4->r<n->v<256 ^ i->
  Mx LF n (D2 l) (v:Int) (i:Int) b c=match KN v (l.drop i) with|some w=>c (w:Int)|none=>b ():=by
 intro r
 induction r with
 | zero=>
  intro i v n g j t;obtain⟨n,rfl⟩:∃m,n=m+1:=⟨n-1,by omega⟩
  rw[Mx];rw[A6,o5 (by omega)];rfl
 | succ r u=>
  intro i v n g j t;obtain⟨n,rfl⟩:∃m,n=m+1:=⟨n-1,by omega⟩
  rw[Mx,Jt l i (by omega)];have z:=h _ (PP (show i<l.length by omega));have k:256 ^ i<=16777216:=by
   have:i=0\/i=1\/i=2\/i=3:=by omega
   grind
  simp (disch:=omega) only[B8,F0,M0,cond_true,j5,R2,U7,E1,Wm,vl];simp only[KN];have a:((i:Int)+1)=((i+1:Nat):Int):=by omega
  cases o:oct (l.getD i []) with
  | none=>rfl
  | some q=>
   have p:=(Wu.1 o).1;simp only[p5,j7,cond_false,N5,v7];have d:CA ((v:Int)*256)=((v*256:Nat):Int):=by rw[Nk];simp
   have e:CA (q:Int)=(q:Int):=Nk;have f:CA (((v*256:Nat):Int)+(q:Int))=((v*256+q:Nat):Int):=by rw[Nk];simp
   rw[d,e,f,a,A7];exact u (i+1) _ n (by omega) (by omega) (by rw[y5];omega)
theorem B64{R:Type}{b:Int->Bool->Option R}(s:By)(a:A3 s.length=true):Dc7 LF s b=b (N5 (v4B s):Int) (v4B s).isSome:=by
 have c:=L3 a;have:=C7;unfold Dc7 v4B;rw[a];simp only[cond_true,vl,show u8n 46=46 from rfl,F0];by_cases h:(pcs 46 s).length=4
 ·rw[if_pos h,h,show(((4:Nat):Int)!=4)=false from rfl,cond_false];refine j2 (B63 (pcs 46 s) h (λx d=>ab8 (Ck d).2 c) 4 0 0 LF (by omega) (by omega) (by decide)) ?_;rw[v8];cases KN 0 (pcs 46 s)<;>rfl
 ·rw[if_neg h,show(((pcs 46 s).length:Int)!=4)=true by simp<;>omega];rfl
theorem Cv5{R:Type}{j:By->Option R}(v:Int)(o:ltN v 4294967296=true):v4f LF v j=j (Ad v.toNat):=by
 obtain⟨c,p⟩:=E6.1 o;obtain⟨m,rfl⟩:=o7 c;have:=C7;obtain⟨f,q⟩:∃f,LF=f+1+1+1+1+1:=⟨LF-5,by omega⟩
 have step:∀(n:Nat) (i:Nat) (out:By) (K:By->Option R),i<=24->out.length<=1000->Ig LF (n+1) (m:Int) out (i:Int) K=Ig LF n (m:Int) (out++(j6 (m / 2 ^ i % 256)++[46])) ((i:Int)-8) K:=by
  intro n i out K y A;rw[Ig];have g:m / 2 ^ i<4294967296:=ad1 (af0 _ _) (by omega);have k:Av4 .u32 (EJ .u32 (m:Int) (i:Int)) 255=((m / 2 ^ i % 256:Nat):Int):=by
   rw[YC .u32 m i (by show i<=32;omega),show(255:Int)=((255:Nat):Int) from rfl,Dm7 _ _ g (by omega),Dm6]
  have z:=I8 (m / 2 ^ i % 256) (by omega);have l:A1 ((m / 2 ^ i % 256:Nat):Int)=((m / 2 ^ i % 256:Nat):Int):=A7;rw[A6,decide_eq_true (show(0:Int)<=(i:Int) by omega),k];simp only[vl,l,j5,j8,cond_true];rw[O5,M9 (by omega),M9 (by simp<;>omega),A7];rfl
 have b:∀(n:Nat) (out:By) (K:By->Option R),Ig LF (n+1) (m:Int) out (-8) K=K out:=by
  intro n out K;rw[Ig];simp_all
 have x:=I8 (m / 2 ^ 24 % 256) (by omega);have w:=I8 (m / 2 ^ 16 % 256) (by omega);have D:=I8 (m / 2 ^ 8 % 256) (by omega);have C:=I8 (m / 2 ^ 0 % 256) (by omega);have u:=I8 (m / 16777216 % 256) (by omega);have t:=I8 (m / 65536 % 256) (by omega);have B:=I8 (m / 256 % 256) (by omega);have r:=I8 (m % 256) (by omega);unfold v4f;rw[show Ig LF LF=Ig LF (f+1+1+1+1+1) by rw[<-q]];rw[show(24:Int)=((24:Nat):Int) from rfl,step _ 24 _ _ (by omega) (by simp)];rw[show((24:Nat):Int)-8=((16:Nat):Int) from rfl,step _ 16 _ _ (by omega) (by simp<;>omega)];rw[show((16:Nat):Int)-8=((8:Nat):Int) from rfl,step _ 8 _ _ (by omega) (by simp<;>omega)];rw[show((8:Nat):Int)-8=((0:Nat):Int) from rfl,step _ 0 _ _ (by omega) (by simp<;>omega)];rw[show((0:Nat):Int)-8=-8 from rfl,b];have h:m / 2 ^ 24 % 256=m / 16777216:=by omega
 have e:(([]:By)++(j6 (m / 2 ^ 24 % 256)++[46])++(j6 (m / 2 ^ 16 % 256)++[46])++(j6 (m / 2 ^ 8 % 256)++[46])++(j6 (m / 2 ^ 0 % 256)++[46]))=Ad m++[46]:=by
  unfold Ad;grind
 have a:(Ad m++[46]).length<=1000:=by rw[<-e];simp;omega
 rw[e];have d:((Ad m++[46]).length:Int)-1=((Ad m).length:Int):=by simp<;>omega
 simp only[vl,d];simp only[y7,x5] at a;rw[A7,Am (by omega) (by omega) (by simp<;>omega),K7,j5,j5];grind
theorem XJ{R:Type}{g:Unit->Option R}{h:By->Option R}(s:By)(q:s.length<=1000000000):∀(r i n v:Nat),i+r=s.length->r<n->Bc LF n s (i:Int) g h=if (E8 10 v (s.drop i)).isSome then h s else g ():=by
 intro r
 induction r with
 | zero=>
  intro i n v k l;obtain⟨n,rfl⟩:∃m,n=m+1:=⟨n-1,by omega⟩
  rw[Bc];rw[A6,o5 (by omega)];rfl
 | succ r o=>
  intro i n v k l;obtain⟨n,rfl⟩:∃m,n=m+1:=⟨n-1,by omega⟩
  rw[Bc,D4 s i (by omega)];rw[D3];have j:=(s.getD i 0).toNat_lt;generalize s.getD i 0=b at *;have f:((i:Int)+1)=((i+1:Nat):Int):=by omega
  simp (disch:=omega) only[B8,M0,cond_true,C9];simp only[E8];rw[f,o (i+1) n (min (v*10+dig b) W5) (by omega) (by omega)];rcases Df b with⟨a,d,e⟩|⟨a,d,e⟩|⟨a,d,e⟩|⟨a,d,p,e⟩
  ·simp only[if_pos (show dig b<10 by omega)];rw[A6,A6];rfl
  ·simp only[if_neg (show ¬dig b<10 by omega)];rw[A6,A8];rfl
  ·simp only[if_neg (show ¬dig b<10 by omega)];rw[A6,A8];rfl
  ·simp only[if_neg (show ¬dig b<10 by omega)];by_cases c:b.toNat<48
   ·rw[A8];rfl
   ·rw[A6,A8];rfl
theorem XK{R:Type}{a:Bool->Option R}(s:By)(b:A3 s.length=true):FF LF s a=a (!s.isEmpty&&(E8 10 0 s).isSome):=by
 have c:=L3 b;have:=C7;unfold FF;refine j2 (XJ s c s.length 0 LF 0 (by omega) (by omega)) ?_;rw[v8];cases d:E8 10 0 s with
 | none=>simp
 | some v=>cases s<;>rfl
theorem B35{R:Type}{g:Int->Option R}(b:Int)(h:inR b 256=true):Co4 LF b g=g (dig (u8n b):Int):=by
 simp only[inR,x3,decide_eq_true_eq] at h;have j:b=((u8n b).toNat:Int):=by
  unfold u8n;simp;omega
 generalize u8n b=c at *;subst j;have i:=c.toNat_lt;unfold Co4;simp only[Xc,Xb,vl];rcases Df c with⟨d,f,e⟩|⟨d,f,e⟩|⟨d,f,e⟩|⟨d,f,o,e⟩
 ·have a:A1 (wu8 ((c.toNat:Int)-48))=((dig c:Nat):Int):=by
   rw[M7,A7];omega
  simp (disch:=omega) only[B8,E2,j7,j8,cond_false,cond_true,a]
 ·have a:A1 (A1 (wu8 ((c.toNat:Int)-97))+10)=((dig c:Nat):Int):=by
   rw[M7,C9 (n:=(c.toNat:Int)-97) (by omega) (by omega),A7];omega
  simp (disch:=omega) only[B8,E2,j7,j8,cond_false,cond_true,a]
 ·have a:A1 (A1 (wu8 ((c.toNat:Int)-65))+10)=((dig c:Nat):Int):=by
   rw[M7,C9 (n:=(c.toNat:Int)-65) (by omega) (by omega),A7];omega
  simp (disch:=omega) only[B8,E2,j7,j8,cond_false,cond_true,a]
 ·rw[e];by_cases k:c.toNat<48
  ·simp (disch:=omega) only[B8,E2,j7,j8,cond_false,cond_true];rfl
  ·by_cases l:c.toNat<65
   ·simp (disch:=omega) only[B8,E2,j7,j8,cond_false,cond_true];rfl
   ·by_cases m:c.toNat<97
    ·simp (disch:=omega) only[B8,E2,j7,j8,cond_false,cond_true];rfl
    ·simp (disch:=omega) only[B8,E2,j7,j8,cond_false,cond_true];rfl
theorem Ak1{R:Type}{g:Unit->Option R}{h:Int->Option R}(s:By)(p:s.length<=1000000000):∀(r i a n:Nat),i+r=s.length->r<n->a<=W5->
  Jd LF n s (a:Int) (i:Int) g h=match E8 16 a (s.drop i) with|some v=>h (v:Int)|none=>g ():=by
 intro r
 induction r with
 | zero=>
  intro i a n k l j;obtain⟨n,rfl⟩:∃m,n=m+1:=⟨n-1,by omega⟩
  rw[Jd];rw[A6,o5 (by omega)];rfl
 | succ r o=>
  intro i a n k l j;obtain⟨n,rfl⟩:∃m,n=m+1:=⟨n-1,by omega⟩
  rw[Jd,D4 s i (by omega)];rw[D3,Ji,YV];generalize s.getD i 0=b at *;have c:((i:Int)+1)=((i+1:Nat):Int):=by omega
  have f:W5=1099511627776:=rfl;simp (disch:=omega) only[B8,M0,cond_true,vl,C9];simp only[E8];rw[c];by_cases e:dig b<16
  ·have d:A1 (A1 ((a:Int)*16)+(dig b:Int))=((a*16+dig b:Nat):Int):=by
    rw[C9 (n:=(a:Int)*16) (by omega) (by omega),A7];simp
   rw[if_pos e,A8];simp (disch:=omega) only[C9,j7,cond_false] at d ⊢;rw[d,Cs1];exact o (i+1) _ n (by omega) (by omega) (by omega)
  ·rw[if_neg e,A6];rfl
theorem Bb8{R:Type}{f:Unit->Option R}{g:Int->Option R}(s:By)(t:s.length<=1000000000)(base:Nat)(q:base<=16):∀(r i a n:Nat),i+r=s.length->r<n->a<=W5->
  Fv LF n s (base:Int) (a:Int) (i:Int) f g=match E8 base a (s.drop i) with|some v=>g (v:Int)|none=>f ():=by
 intro r
 induction r with
 | zero=>
  intro i a n k l j;obtain⟨n,rfl⟩:∃m,n=m+1:=⟨n-1,by omega⟩
  rw[Fv];rw[A6,o5 (by omega)];rfl
 | succ r o=>
  intro i a n k l j;obtain⟨n,rfl⟩:∃m,n=m+1:=⟨n-1,by omega⟩
  rw[Fv,D4 s i (by omega)];rw[D3,Ji,YV];generalize s.getD i 0=b at *;have c:((i:Int)+1)=((i+1:Nat):Int):=by omega
  have e:W5=1099511627776:=rfl;simp only[E8,vl];rw[A8,E9,c,C9 (n:=((i+1:Nat):Int)) (by omega) (by omega)];simp only[cond_true];by_cases d:dig b<base
  ·have p:a*base<=1099511627776*16:=af2 (by omega) (by omega);have e0:A1 ((a:Int)*(base:Int))=((a*base:Nat):Int):=by
    rw[<-ae6];exact A7
   have h:A1 (((a*base:Nat):Int)+(dig b:Int))=((a*base+dig b:Nat):Int):=by
    rw[A7];rfl
   rw[if_pos d,A8,e0,h,Cs1];exact o (i+1) _ n (by omega) (by omega) (by omega)
  ·rw[if_neg d,A6];rfl
theorem B47{R:Type}{a:Int->Bool->Option R}(s:By)(p:A3 s.length=true):Cq2 LF s a=a (N5 (Z5 s):Int) (Z5 s).isSome:=by
 have u:=L3 p;have:=C7;have o:∀x:By,x.length<=1000000000->Jd LF LF x 0 0 (λ_=>a 0 false) (λn=>a n true)=a (N5 (E8 16 0 x):Int) (E8 16 0 x).isSome:=by
  intro x f;refine j2 (Ak1 x f x.length 0 0 LF (by omega) (by omega) (by unfold W5;omega)) ?_;rw[v8];cases E8 16 0 x<;>rfl
 have c:∀(x:By) (b:Nat),b<=16->x.length<=1000000000->Fv LF LF x (b:Int) 0 0 (λ_=>a 0 false) (λn=>a n true)=a (N5 (E8 b 0 x):Int) (E8 b 0 x).isSome:=by
  intro x b q f;refine j2 (Bb8 x f b q x.length 0 0 LF (by omega) (by omega) (by unfold W5;omega)) ?_;rw[v8];cases E8 b 0 x<;>rfl
 have d:=λx=>c x 10 (by omega)
 have g:=λx=>c x 8 (by omega)
 have i:=λx=>c x 16 (by omega)
 rw[show((10:Nat):Int)=10 from rfl] at d;rw[show((8:Nat):Int)=8 from rfl] at g;rw[show((16:Nat):Int)=16 from rfl] at i;unfold Cq2 Z5;by_cases e:s=[]
 ·subst e;rfl
 have j:(s==([]:By))=false:=by simpa using e
 have t:0<s.length:=aa6.2 e;rw[if_neg e,j];simp only[cond_false,FK,FL,Rc,Rd,Re,vl];have k:=R5 (s.getD 0 0) 48 (by omega);have l:=R5 (s.getD 1 0) 120 (by omega);have m:=R5 (s.getD 1 0) 88 (by omega);rw[show((48:Nat):Int)=48 from rfl] at k;rw[show((120:Nat):Int)=120 from rfl] at l;rw[show((88:Nat):Int)=88 from rfl] at m;simp only[Ao,Bn0,k,l,m,show k9 48=(48:UInt8) from rfl,show k9 120=(120:UInt8) from rfl,show k9 88=(88:UInt8) from rfl];by_cases r:2<=s.length
 ·simp (disch:=omega) only[E2,M0,Am,j8,cond_true,P9,show 1<s.length by omega,true_and];unfold Y2;grind
 ·rw[A8];have f:Y2 s=false:=by
   cases h:Y2 s with
   | false=>rfl
   | true=>have:=Ko h;omega
  grind
end
end Go.Proofs.YtfkhfkjcidamaaaGreatDoor.E
