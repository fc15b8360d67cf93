/-
  Parts of the proof, merged by a program of the prover's own; no condition.
-/
import Derived.Test.YtfkhfkjcidamaaaGreatDoorKMS2
import Derived.Deep.Draws
import Derived.KernelRfl
import Derived.Laws.RangeString
import Derived.Lib.IndexMore
import Derived.Lib.ItoaNum
import Derived.Lib.Join
import Derived.Lib.LaidTab
import Derived.Lib.LaidU8
import Derived.Lib.LastIndexLaws
import Derived.Lib.RuneCount
import Derived.Lib.TrailingZeros
import Derived.Lib.ValidU
import Derived.Sort.Grow
import Derived.Test.YtfkhfkjcidamaaaGreatDoorProg
open List renaming length->a8,getD->b9,flatten->j0,replicate->j1,isEmpty->j9,getD_eq_getElem?_getD->o5,drop_of_length_le->o6,isPrefixOf->o8,map->p4,getElem?_eq_getElem->p6,drop_zero->v8,all->w8,getD_cons_zero->w9,length_singleton->x6,isPrefixOf_iff_prefix->x8,take->y5,length_append->y8,take_of_length_le->aa2,drop_append_of_le_length->aa4,set->aa5,isSuffixOf->aa7,length_map->aa8,length_pos_iff->aa9,count_eq_zero->ab1,cons_append->ab4,getElem_mem->ab5,length_cons->ab6,prefix_iff_eq_take->ab7,suffix_iff_eq_drop->ab8,dropLast_eq_take->ac3,mem_of_mem_drop->ac7,drop->ac9,getD_cons_succ->ad1,mem_cons->ad2,count_cons->ae9,length_nil->af0,map_append->af1
open Int renaming toNat->b8,toNat_natCast->j6,eq_ofNat_of_zero_le->o0,tmod->x5,tdiv->aa0,natCast_mul->ae8
open Eq renaming trans->j2
open Option renaming isSome->j4,isSome_some->p5,getD_some->v7
open Go.Lib renaming decDigits->j5,cut->w6,index->x9,decDigits_one->ab2,decodeL->ac5,join->ac6,occAt->ad6,index_spec->af3
open Bool renaming not_true->j7,not_false->j8,and_eq_true->x3,false_eq_true->ab0,eq_iff_iff->ac1,and_true->af7
open UInt8 renaming ofNat->k9,le_iff_toNat_le->aa3,toNat->ai1
open Go.IntKind renaming wrap->o7,bits->p7,signed->aa1
open Nat renaming mod_eq_of_lt->o9,ble->p9,pow_succ->y7,le_refl->aa6,beq->ab3,le_mul_of_pos_right->ab9,le_trans->ac0,min_eq_left->ac2,one_mul->ac8,lt_of_le_of_lt->ad3,lt_of_lt_of_le->ad4,or_lt_two_pow->ad5,pow_pos->ae7,div_le_self->af2,mul_le_mul->af4,add_comm->ah4,blt->ah5,mul_comm->ah6,zero_add->ah7
open BitVec renaming ofInt->x4,ofInt_natCast->ac4
open Option.some renaming injEq->x7
open Go.Fn renaming func->y9
open Go.Proofs.Tryz renaming f128->ad0,f112->ad7,f139->ad8,f153->ad9,f173->ae0,f177->ae1,f209->ae2,f215->ae3,f219->ae4,f250->ae5,f254->ae6,f65->af5,f97->af6,f111->af9,f116->ag0,f127->ag1,f130->ag2,f132->ag3,f167->ag4,f172->ag5,f200->ag6,f204->ag7,f205->ag8,f208->ag9,f210->ah0,f233->ah1,f240->ah2,f255->ah3,f76->ai0
open Prod.mk renaming injEq->af8
open BEq renaming comm->ah8
open Go.Fence renaming wide->ai2
namespace Go.Proofs.YtfkhfkjcidamaaaGreatDoor.E
set_option linter.all false
section
open Go
section
variable {Z R : Type} {C : Cfg} {Q : G2} {L : Yh Z} {c a b : Code} {Y : St Z} {k : Out -> St Z -> Option R} {id : Nat}
theorem A0{b:Bool}{x y d e:Option R}(f:x=d)(g:y=e):cond b x y=cond b d e:=by rw[f,g]
end
def Cu5{α:Type}(z:α)(f:Nat->α->α):Nat->α
 | 0=>z
 | n+1=>f n (Cu5 z f n)
def A2{b:Type}:List (Nat × b)->Nat->Option b
 | [],_=>none
 | (a,l)::r,n=>cond (ab3 n a) (some l) (A2 r n)
def bds(n:Nat):List PV:=j1 n .bad
def tps(n:Nat):List PV:=j1 n (.tup [])
def gp:List (Nat × PV)->Nat->List PV
 | [],n=>bds n
 | (m,v)::r,n=>bds m++v::gp r n
abbrev LL:=List (List SV)
abbrev By:=List UInt8
def A1(n:Int):Int:=o7 .i64 n
def Dy6(n:Int):Int:=o7 .u64 n
def DL(n:Int):Int:=o7 .u32 n
def Eg(n:Int):Int:=o7 .u16 n
def wu8(n:Int):Int:=o7 .u8 n
def Az5(k:IntKind)(a b:Int):Int:=k.wrap (x4 k.bits a &&& x4 k.bits b).toNat
def bOr(k:IntKind)(a b:Int):Int:=k.wrap (x4 k.bits a ||| x4 k.bits b).toNat
def Sn(k:IntKind)(a b:Int):Int:=k.wrap (a*2 ^ min b.toNat k.bits)
def Qp(k:IntKind)(a b:Int):Int:=a.fdiv (2 ^ min b.toNat k.bits)
def inR(n:Int)(m:Nat):Bool:=decide (0<=n)&&decide (n<m)
def Lq:TI:=⟨true,false,[.int .i64]⟩
def Ov:TI:=⟨true,false,[.str]⟩
def okE(t:TI)(l:LL)(i o:Nat):Bool:=decide (i<l.length)&&okS t (l.getD i []) o
def gC(l:LL)(i j:Nat):SV:=(l.getD i []).getD j .nilp
def gE(l:LL)(i j:Nat):Int:=(gC l i j).gI
def gX(l:LL)(i j:Nat):By:=(gC l i j).gS
def bAt(s:By)(n:Int):Int:=((s.getD n.toNat 0).toNat:Int)
def I9(l h:Int)(n:Nat):Bool:=decide (0<=l)&&decide (l<=h)&&decide (h<=n)
def cut{a:Type}(s:List a)(l h:Int):List a:=(s.take h.toNat).drop l.toNat
def D65:Code->Bool | .rangeFunc _ _ _ _=>true|_=>false
def rgX:Code->Operand | .rangeFunc x _ _ _=>x|_=>.tmp 0
def rgP:Code->Array Tmp | .rangeFunc _ p _ _=>p|_=>#[]
theorem XG:∀(p:List Nat),cd p .skip = .skip
 | []=>rfl
 | 0::_=>rfl
 | 1::_=>rfl
 | (_+2)::_=>rfl
theorem Hh:∀(p q:List Nat) (c:Code),cd (p++q) c=cd q (cd p c)
 | [],q,c=>rfl
 | i::p,q,c=>by
  rw[ab4]
  match i,c with
  | 0,.seq a b=>exact Hh p q a
  | 1,.seq a b=>exact Hh p q b
  | 0,.cond _ a b=>exact Hh p q a
  | 1,.cond _ a b=>exact Hh p q b
  | 0,.block _ a=>exact Hh p q a
  | 0,.loop a=>exact Hh p q a
  | 0,.scope a=>exact Hh p q a
  | 0,.rangeFunc _ _ a b=>exact Hh p q a
  | 1,.rangeFunc _ _ a b=>exact Hh p q b
  | 0,.skip|0,.region _ _ _|0,.exit _|0,.label _|0,.goto _|0,.ret|0,.refuse _=>exact(XG q).symm
  | 1,.skip|1,.region _ _ _|1,.exit _|1,.scope _|1,.label _|1,.goto _|1,.ret|1,.refuse _|1,.block _ _|1,.loop _=>exact(XG q).symm
  | _+2,.skip|_+2,.region _ _ _|_+2,.exit _|_+2,.scope _|_+2,.label _|_+2,.goto _|_+2,.ret|_+2,.refuse _|_+2,.block _ _|_+2,.loop _|_+2,.seq _ _|_+2,.cond _ _ _|_+2,.rangeFunc _ _ _ _=>exact(XG q).symm
section
variable {Z R : Type} {C : Cfg} {L : G2} {Y : Yh Z} {B : Code} {Q : St Z} {k : Out -> St Z -> Option R}
theorem D32(p:List Nat)(h:D65 (cd p B)=true):A9 C L Y (cd p B) Q k=Va C L (opnd C Q.sl (rgX (cd p B))) Q (λa=>Kd (rgP (cd p B)) a (bd C L Y (cd (p++[0]) B)) (bd C L Y (cd (p++[1]) B))) (λa=>Bh (rgP (cd p B)) a (bd C L Y (cd (p++[0]) B)) (bd C L Y (cd (p++[1]) B))) k:=by rw[Hh,Hh];cases b:cd p B<;>rw[b] at h<;>first|rfl|cases h
theorem A84{c:Bool}{x y:Option R}(h:x=y):need c x=cond c y none:=by rw[h];rfl
end
abbrev pS(l:List UInt8):PV:=.s (.str l)
abbrev pB(b:Bool):PV:=.s (.bool b)
abbrev pI(n:Int):PV:=.s (.int .i64 n)
abbrev p8(n:Int):PV:=.s (.int .u8 n)
abbrev p16(n:Int):PV:=.s (.int .u16 n)
abbrev p32(n:Int):PV:=.s (.int .u32 n)
abbrev p64(n:Int):PV:=.s (.int .u64 n)
abbrev vl{a b:Type}(e:a)(f:a->b):b:=f e
theorem A4{a R:Type}{e:a}{f g:a->Option R}(h:∀x,f x=g x):vl e f=vl e g:=h e
def E8(m n:Nat):Bool:=decide (m+n<4611686018427387904)
theorem fx1{A R:Type}{f g:A->R}(b:∀a,f a=g a):f=g:=funext b
theorem fx2{A B R:Type}{f g:A->B->R}(c:∀a b,f a b=g a b):f=g:=funext λa=>fx1 (c a)
theorem fx3{A B C R:Type}{f g:A->B->C->R}(d:∀a b c,f a b c=g a b c):f=g:=funext λa=>fx2 (d a)
theorem fx4{A B C D R:Type}{f g:A->B->C->D->R}(e:∀a b c d,f a b c d=g a b c d):f=g:=funext λa=>fx3 (e a)
theorem fx5{A B C D E R:Type}{f g:A->B->C->D->E->R}(h:∀a b c d e,f a b c d e=g a b c d e):f=g:=funext λa=>fx4 (h a)
theorem fx6{A B C D E H R:Type}{f g:A->B->C->D->E->H->R}(i:∀a b c d e h,f a b c d e h=g a b c d e h):f=g:=funext λa=>fx5 (i a)
theorem fx7{A B C D E H I R:Type}{f g:A->B->C->D->E->H->I->R}(j:∀a b c d e h i,f a b c d e h i=g a b c d e h i):f=g:=funext λa=>fx6 (j a)
theorem fx8{A B C D E H I J R:Type}{f g:A->B->C->D->E->H->I->J->R}(k:∀a b c d e h i j,f a b c d e h i j=g a b c d e h i j):f=g:=funext λa=>fx7 (k a)
theorem fx9{A B C D E H I J K R:Type}{f g:A->B->C->D->E->H->I->J->K->R}(l:∀a b c d e h i j k,f a b c d e h i j k=g a b c d e h i j k):f=g:=funext λa=>fx8 (l a)
theorem C98{A B C D E H I J K L R:Type}{f g:A->B->C->D->E->H->I->J->K->L->R}(m:∀a b c d e h i j k l,f a b c d e h i j k l=g a b c d e h i j k l):f=g:=funext λa=>fx9 (m a)
def D45{α a:Type}(z:α)(f:a->List a->α->α):List a->α
 | []=>z
 | x::xs=>f x xs (D45 z f xs)
def Sk(n:Nat):PV->PV
 | .s (.sl z t k a)=>if n=0 then .s (.sl z t k a) else if k=n then .s (.sl z t k a) else .s (.sl z t (cond z n k) a)
 | v=>v
def Pt:List Nat->List PV->List PV
 | n::r,v::l=>Sk n v::Pt r l
 | _,l=>l
def Dt8(a:List Nat):PV->PV
 | .agg l=>.agg (Pt a l)
 | v=>Sk (a.headD 0) v
def C2:List (List Nat)->List PV->List PV
 | s::r,v::l=>Dt8 s v::C2 r l
 | _,l=>l
section
variable {L : Ctx} {sh : Nat -> Option Shp} {w : World}
theorem FZ{n:Nat}{v:PV}{V:Value}(h:VP L sh w v V):VP L sh w (Sk n v) V:=by
 unfold Sk;split
 ·rename_i z t k a;split
  ·exact h
  ·split
   ·exact h
   ·cases z with
    | false=>exact h
    | true=>
     have b:=h.inv_s;cases b with
     | nil=>exact .s _ _ (.nil _ _)
 ·exact h
theorem Ww:∀(a:List Nat) (l:List PV),(Pt a l).length=l.length
 | [],_=>rfl
 | _::_,[]=>rfl
 | n::r,v::l=>by simp[Pt,Ww r l]
theorem KT:∀(a:List Nat) (l:List PV) (j:Nat) (h:j<l.length) (b:j<(Pt a l).length),∃n,(Pt a l)[j]=Sk n l[j]
 | [],l,j,h,b=>⟨0,by
  have e:Pt [] l=l:=by cases l<;>rfl
  simp only[e];unfold Sk;split
  ·rename_i c;rw[c];simp
  ·rfl⟩
 | n::r,v::l,0,h,b=>⟨n,rfl⟩
 | n::r,v::l,j+1,h,b=>by
  obtain⟨m,e⟩:=KT r l j (by simpa using h) (by simpa[Pt] using b);exact⟨m,by simpa[Pt] using e⟩
theorem C94{b:List Nat}{v:PV}{V:Value}(h:VP L sh w v V):VP L sh w (Dt8 b v) V:=by
 unfold Dt8;split
 ·rename_i l;obtain⟨A,rfl,hA,f⟩:=h.inv_agg;refine VP.mk_agg (by rw[Ww];exact hA) λj c=>?_
  have a:j<l.length:=by rw[Ww] at c;exact c
  obtain⟨U,e,k⟩:=f j a;obtain⟨m,d⟩:=KT b l j a c;exact⟨U,e,by rw[d];exact FZ k⟩
 ·exact FZ h
theorem Ah3:∀(a:List (List Nat)) (l:List PV),(C2 a l).length=l.length
 | [],_=>rfl
 | _::_,[]=>rfl
 | n::r,v::l=>by simp[C2,Ah3 r l]
theorem C95:∀(a:List (List Nat)) (l:List PV) (V:Array Value),CR L sh w l V->CR L sh w (C2 a l) V:=by
 intro a l V h;refine⟨by rw[Ah3];exact h.1,?_⟩;have key:∀(a:List (List Nat)) (l:List PV) (b:Nat->Option Value),(∀j (h:j<l.length),∃U,b j=some U/\VP L sh w (l[j]) U)->∀j (h:j<(C2 a l).length),∃U,b j=some U/\VP L sh w ((C2 a l)[j]) U:=by
  intro a
  induction a with
  | nil=>intro l b d j c;exact d j (by cases l<;>exact c)
  | cons s r f=>
   intro l b d j c;cases l with
   | nil=>simp[C2] at c
   | cons v l=>
    cases j with
    | zero=>
     obtain⟨U,e,k⟩:=d 0 (by simp);exact⟨U,e,C94 k⟩
    | succ j=>
     have:=f l (λj=>b (j+1)) (λj h=>d (j+1) (by simpa using h)) j (by simpa[C2] using c);simpa[C2] using this
 exact key a l (λj=>V[j]?) h.2
end
theorem B3.fix{P:Program}{G:GT}{g:Nat}{pf:List PV->Tr}(szs:List (List Nat))(h:B3 P G g pf):B3 P G g (λargs=>pf (C2 szs args)):=
 λargs ret Hc hpf C hP hGe Γ w Vs hnm hH hG hc=>h (C2 szs args) ret Hc hpf C hP hGe Γ w Vs hnm hH hG (C95 szs args Vs hc)
theorem J6{v:PV}{H:List Blk}{ret:PV}{a:List Blk}(h:M9 (.ret v H)=some (ret,a)):ret=v/\a=H:=by simp only[M9,Ib,x7,af8] at h;grind
theorem C4{c:Bool}{t:Tr}{ret:PV}{a:List Blk}(h:M9 (.need c t)=some (ret,a)):c=true/\M9 t=some (ret,a):=by
 cases c with
 | true=>exact⟨rfl,h⟩
 | false=>cases h
theorem C01{c:Bool}{a b:Tr}{ret:PV}{d:List Blk}(h:M9 (.split c a b)=some (ret,d)):(c=true/\M9 a=some (ret,d))\/(c=false/\M9 b=some (ret,d)):=by
 cases c with
 | true=>exact .inl ⟨rfl,h⟩
 | false=>exact .inr ⟨rfl,h⟩
theorem Dp9:∃n:Nat,100000000000000000000<=n:=⟨_,aa6 _⟩
noncomputable def LF:Nat:=Classical.choose Dp9
theorem C5:100000000000000000000<=LF:=Classical.choose_spec Dp9
attribute [irreducible] LF
theorem B15(b:UInt8):Ml (E2 b)=b:=by simp[Ml,E2,SV.gI]
theorem Z1(l:List UInt8):(l.map E2).map Ml=l:=by
 rw[List.map_map];have:Ml ∘ E2=id:=by funext b;exact B15 b
 rw[this,List.map_id]
theorem B39(b:UInt8):Ou (E2 b)=true:=by have:=b.toNat_lt;simp only[Ou,E2,x3,decide_eq_true_eq];omega
theorem Y2(l:List UInt8):(l.map E2).all Ou=true:=by rw[List.all_map];simp[Function.comp_def,B39]
theorem Dy5(n:Nat):o7 .u8 (n:Int)=((n % 256:Nat):Int):=by simp[o7,p7,aa1]
theorem By7(n:Nat):o7 .u16 (n:Int)=((n % 65536:Nat):Int):=by simp[o7,p7,aa1]
theorem Dm1(n:Nat):o7 .u32 (n:Int)=((n % 4294967296:Nat):Int):=by simp[o7,p7,aa1]
theorem Dm2(n:Nat):o7 .u64 (n:Int)=((n % 18446744073709551616:Nat):Int):=by simp[o7,p7,aa1]
theorem Dm0(n:Int)(a:-9223372036854775808<=n)(b:n<9223372036854775808):o7 .i64 n=n:=by simp[o7,p7,aa1];split<;>omega
theorem Cn8(n m:Nat):Int.fdiv (n:Int) (m:Int)=((n / m:Nat):Int):=by rw[Int.fdiv_eq_ediv_of_nonneg _ (by omega)];rfl
theorem M8(n m:Nat):aa0 (n:Int) (m:Int)=((n / m:Nat):Int):=by rw[Int.tdiv_eq_ediv_of_nonneg (by omega)];rfl
theorem Cy(n m:Nat):x5 (n:Int) (m:Int)=((n % m:Nat):Int):=by rw[Int.tmod_eq_emod_of_nonneg (by omega)];rfl
theorem Dt0(w a b:Nat)(c:a<2 ^ w)(d:b<2 ^ w):(x4 w (a:Int) ||| x4 w (b:Int)).toNat=a ||| b:=by simp[ac4,o9 c,o9 d]
theorem Dr0(w a b:Nat)(c:a<2 ^ w)(d:b<2 ^ w):(x4 w (a:Int) &&& x4 w (b:Int)).toNat=a &&& b:=by simp[ac4,o9 c,o9 d]
theorem Dv5(a b i:Nat)(h:a<2 ^ i):a ||| (b*2 ^ i)=a+b*2 ^ i:=by rw[ah6 b,Nat.or_comm,ah4];exact(Nat.two_pow_add_eq_or_of_lt h b).symm
theorem Bm1(n:Nat):E2 (k9 n)=[SV.int .u8 ((n % 256:Nat):Int)]:=by simp[E2]
end
section
open Go Go.ChangeShapes Go.RowKit Go.Sort Go.WideShapes
theorem Tb{P:Program}{f:Nat}{fn:Func}{d:Array Value}{w:World}{R:Value->World->Prop}(m:P.funcs[f]? = some fn)(j:fn.body.isSome=true)(p:(fn.name == "runtime.NumGoroutine")=false)
  (h:Calls P f d w λe w'=>∃V,e = .returned V/\R V w'):U3 P ((callFunc f d).run P w) R:=by
 obtain⟨c,j⟩:=Option.isSome_iff_exists.1 j;intro q n o a next Q b
 have g:(callFunc f d).run P w = .ok (.enter f d) w:=by
  have k:¬ fn.name = "runtime.NumGoroutine":=by simpa using p
  simp[callFunc,m,j,k,Result.andThen]
 rw[g];simp only[Oper.uponIn_enter];refine⟨λh=>(by simp[I3,ai2] at h),?_⟩;have key:CallsIn ai2 (n-1) P f d w λe w'=>∃V,e = .returned V/\R V w':=callsIn_wide.2 h
 have i:CallsIn (I3 q) (n-1) P f d w λe w'=>∃V,e = .returned V/\R V w':=key
 refine i.mono ?_;rintro e w' ⟨V,rfl,l⟩;exact b V w' l
theorem Cm7{C:Cfg}{d:Ctx}{w w':World}{ret:PV}{V:Value}(a:∀b,d.nm b=none)(f:HR d [] w)(c:Below w.heap.size w w')(j:VP d (A5 []) w' ret V)(i:ret.nms=[]):En C I0 d [] w noΦ ret [] () V w':=by
 refine⟨d,noΦ,⟨c.os,c.tape,c.output,c.size,λ_ h=>h,λ_ h=>.inl h,λb g h=>(by rw[a] at h;cases h),λ_ h=>h.elim,λg e _ _=>c.block g e,rfl,aa6 _,λb h=>(by simp at h)⟩,
  ⟨λb k g h=>(by rw[a] at h;cases h),λb g h=>(by rw[a] at h;cases h),λg e=>ad4 (f.stlt g e) c.size,λb h=>(by simp at h),λb h=>(by simp at h)⟩,j,by rw[i];simp,λ_ h=>h,λb g h=>(by rw[a] at h;cases h)⟩
theorem Pm(w:World)(n:Nat):Below w.heap.size w (w.drewN n):=⟨rfl,rfl,rfl,aa6 _,λ_ _=>rfl⟩
theorem JQ(w:World)(os:Array Obj):Below w.heap.size w (grow w os):=by refine⟨rfl,rfl,rfl,by simp[grow],λk a=>?_⟩;simp only[grow];grind
theorem Az7(w:World)(s:ByteArray)(pos:Nat):Below w.heap.size w (w.iter s pos):=(Below.refl _ w).alloc (aa6 _) _
section
variable {Γ : Ctx} {sh : Nat -> Option Shp} {w : World}
theorem CR.arr1{a:PV}{A:Array Value}(h:CR Γ sh w [a] A):∃U,A = #[U]/\VP Γ sh w a U:=by obtain⟨U,e,k⟩:=h.2 0 (by simp);refine⟨U,?_,k⟩;have hs:A.size=1:=h.1;grind
theorem CR.arr2{a b:PV}{A:Array Value}(h:CR Γ sh w [a,b] A):∃U V,A = #[U,V]/\VP Γ sh w a U/\VP Γ sh w b V:=by obtain⟨U,e,k⟩:=h.2 0 (by simp);obtain⟨V,e',k'⟩:=h.2 1 (by simp);refine⟨U,V,?_,k,k'⟩;have hs:A.size=2:=h.1;grind
theorem CR.arr3{a b c:PV}{A:Array Value}(h:CR Γ sh w [a,b,c] A):∃U V W,A = #[U,V,W]/\VP Γ sh w a U/\VP Γ sh w b V/\VP Γ sh w c W:=by obtain⟨U,e,k⟩:=h.2 0 (by simp);obtain⟨V,e',k'⟩:=h.2 1 (by simp);obtain⟨W,e'',k''⟩:=h.2 2 (by simp);refine⟨U,V,W,?_,k,k',k''⟩;have hs:A.size=3:=h.1;grind
theorem VP.mk_str(l:List UInt8):VP Γ sh w (.s (.str l)) (.string ⟨l.toArray⟩):=by have:=VP.s (Γ:=Γ) (sh:=sh) (w:=w) _ _ (VS.str (St:=Γ.St) (w:=w) ⟨l.toArray⟩);omega
theorem VP.mk_int(k:IntKind)(n:Int):VP Γ sh w (.s (.int k n)) (.int k n):=.s _ _ (.int k n)
theorem VP.mk_bool(b:Bool):VP Γ sh w (.s (.bool b)) (.bool b):=.s _ _ (.bool b)
theorem VP.mk_tup3{a b c:PV}{U V W:Value}(h:VP Γ sh w a U)(k:VP Γ sh w b V)(l:VP Γ sh w c W):VP Γ sh w (.tup [a,b,c]) (.tuple #[U,V,W]):=
 VP.mk_tup rfl λj hj=>by grind
end
theorem J2{P:Program}{G:GT}{g:Nat}{fn:Func}{k:List PV->Tr}(q:P.funcs[g]? = some fn)(d:fn.body.isSome=true)(t:(fn.name == "runtime.NumGoroutine")=false)
  (h:∀args ret b,M9 (k args)=some (ret,b)->b=[]/\ret.nms=[]/\∀C:Cfg,C.P=P->C.G=G->∀a w c,GOK C a.St w->(∀g,a.St g->g<w.heap.size)->CR a (A5 []) w args c->
   Calls P g c w λe w'=>∃V,e = .returned V/\Below w.heap.size w w'/\VP a (A5 []) w' ret V):B3 P G g k:=by
 intro args ret b i C n m a w c f j r o;obtain⟨rfl,u,l⟩:=h args ret b i;exact Tb q d t ((l C n m a w c r j.stlt o).mono λe w' ⟨V,p,d,v⟩=>⟨V,p,Cm7 f j d v u⟩)
def PV.stab(szs:List Nat)(H:List Blk):PV->PV
 | .tup l=>.tup (Pt szs (N0 H l))
 | v=>Sk (szs.headD 0) (v.snap H)
theorem VP.stab{Γ:Ctx}{H:List Blk}{w:World}(szs:List Nat)(hH:HR Γ H w){v:PV}{V:Value}(h:VP Γ (A5 H) w v V):VP Γ.all (A5 H) w (v.stab szs H) V:=by
 by_cases ht:∃l,v = .tup l
 ·obtain⟨l,rfl⟩:=ht;obtain⟨A,rfl,hA,hc⟩:=h.inv_tup;simp only[PV.stab];have hl:(Pt szs (N0 H l)).length=l.length:=by rw[Ww,Ik,aa8]
  refine VP.mk_tup (by rw[hl];exact hA) λj hj=>?_
  obtain⟨U,e,k⟩:=hc j (by omega);refine⟨U,e,?_⟩;have hj':j<(N0 H l).length:=by rw[Ik,aa8];omega
  obtain⟨n,en⟩:=KT szs (N0 H l) j hj' hj;rw[en];have e2:(N0 H l)[j]=(l[j]'(by omega)).snap H:=by
   simp only[Ik,List.getElem_map]
  rw[e2];exact FZ (k.snap hH)
 ·have e:v.stab szs H=Sk (szs.headD 0) (v.snap H):=by
   cases v with
   | tup l=>exact absurd ⟨l,rfl⟩ ht
   | _=>rfl
  rw[e];exact FZ (h.snap hH)
theorem J3(n:List Nat){C₀:Cfg}{g:Nat}{pf:List PV->Tr}(M:XOK C₀)(K:Ow C₀)(P:C₀.P.follows .mixedOrders=true)
  (h:∀args ret p,M9 (pf args)=some (ret,p)->C9 args=[]/\p=[]/\ret.nms=[]/\∃d c k,evC C₀ d Unit noY g args [] ()=some (c,k,())/\c.stab n k=ret):B3 C₀.P C₀.G g pf:=by
 intro args ret p A C L t Γ w F z J I N;obtain⟨y,rfl,m,d,c,k,u,rfl⟩:=h args ret p A;have G:=Qy (C₀:=C₀) (g:=g) (pf:=λa=>match evC C₀ d Unit noY g a [] () with|some (r,H,_)=>cond (C9 a).isEmpty (.ret r H) .fail|none=>.fail) M K P (λa r H j=>by
  split at j
  ·rename_i S H' _ R;cases D:(C9 a).isEmpty with
   | true=>
    rw[D] at j;simp only[cond_true,M9,Ib,x7,af8] at j;grind
   | false=>rw[D] at j;cases j
  ·cases j)
 refine(G args c k (by dsimp only;rw[u];dsimp only;rw[y];rfl) C L t Γ w F z J I N).mono ?_;rintro V w' ⟨o,B,e,i,Q,hvn,v,O⟩;let Γ2:Ctx:={ o.all with nm:=λ_=>none }
 have x:∀g,Γ2.St g->g<w'.heap.size:=λg f=>by
  rcases f with f|⟨b,l⟩
  ·exact i.stlt g f
  ·exact(i.lt b g l).2.1
 refine⟨Γ2,B,⟨e.os,e.tape,e.output,e.size,λg f=>.inl (e.sub g f),λg f=>?_,λb g h=>by simp[Γ2] at h,e.foot,e.frame,e.yv,aa6 _,λb l=>by simp at l⟩,
  Lz (λ_=>rfl) x,?_,by rw[m];simp,v,λb g h=>by simp[Γ2] at h⟩
 ·rcases f with f|⟨b,l⟩
  ·exact e.stnew g f
  ·rcases e.own b g l with⟨q,_⟩|q
   ·simp at q
   ·exact .inr q
 ·exact VP.mono (Γ:=o.all) (Γ':=Γ2) (w:=w') (w':=w') (sh:=A5 k) (ok:=λ_=>False) ⟨λ_ _=>rfl,λ_ h=>h,λ_ h=>h.elim,λ_ h=>h.elim,λ_ _ h=>h.elim,rfl⟩ (Q.stab n i) (by rw[m];simp)
def Tr.Good(szs:List Nat)(args:List PV)(e:Option (PV × List Blk × Unit)):Tr->Prop
 | .ret v H=>C9 args=[]/\H=[]/\v.nms=[]/\∃r H0,e=some (r,H0,())/\r.stab szs H0=v
 | .need c t=>c=true->Good szs args e t
 | .split c a b=>(c=true->Good szs args e a)/\(c=false->Good szs args e b)
 | .fail=>True
theorem Tr.Good.res{szs:List Nat}{args:List PV}{e:Option (PV × List Blk × Unit)}{ret:PV}{Hc:List Blk}:∀{t:Tr},t.Good szs args e->M9 t=some (ret,Hc)->C9 args=[]/\Hc=[]/\ret.nms=[]/\∃r H0,e=some (r,H0,())/\r.stab szs H0=ret
 | .ret v H,h,hr=>by
  obtain⟨rfl,rfl⟩:=J6 hr;exact h
 | .need c t,h,hr=>by
  obtain⟨h0,hr⟩:=C4 hr;exact res (h h0) hr
 | .split c a b,h,hr=>by
  rcases C01 hr with⟨h0,hr⟩|⟨h0,hr⟩
  ·exact res (h.1 h0) hr
  ·exact res (h.2 h0) hr
theorem xf(b:List Nat)(a:Cfg){g:Nat}(d:List PV->Tr){e:List (List Nat)}{l:List (Nat × (List PV->Tr))}{c:List Nat}(m:a.X=Au1 l)(q:N2 a.P a.G l)(o:a.okf=okL c)(k:A88 a c=true)(n:a.P.follows .mixedOrders=true)
  (h:∀args,(d args).Good b args (evC a 1 Unit noY g args [] ())) (i:a.Y=DH []:=by rfl) (j:a.S=DH []:=by rfl):B3 a.P a.G g (λargs=>d (C2 e args)):=
 B3.fix e (J3 b (N2.ok m q i j) (J1 o k) n λargs ret y p=>by
  obtain⟨t,u,v,r,f,w,x⟩:=(h args).res p;exact⟨t,u,v,1,r,f,w,x⟩)
end
section
open Go
def A59(n:Nat)(ret:PV)(H:List Blk):Bool:=ret.nms.all (ah5 · n)&&H.all λb=>b.nms.all (ah5 · n)
theorem En.head{C:Cfg}{Z:Type}{I:Z->(Nat->Prop)->(Nat->Prop)->World->Prop}{Γ:Ctx}{H Hc T:List Blk}{w w':World}{Φ:Nat->Prop}{s':Z}{ret:PV}{V:Value}
  (h:En C I Γ H w Φ ret (Hc++T) s' V w') (hl:H.length<=Hc.length) (hok:A59 Hc.length ret Hc=true):En C I Γ H w Φ ret Hc s' V w':=by
 obtain⟨Γ1,Φ1,hs,hH1,hv,hvn,hi1,hd1⟩:=h;simp only[A59,x3,List.all_eq_true,Nat.blt_eq] at hok;let Γ2:Ctx:={ Γ1 with nm:=λb=>if b<Hc.length then Γ1.nm b else none }
 have hnm:∀b g,Γ2.nm b=some g->b<Hc.length/\Γ1.nm b=some g:=λb g h=>by grind
 have get:∀b (h:b<Hc.length) (h':b<(Hc++T).length),(Hc++T)[b]=Hc[b]:=λb h h'=>List.getElem_append_left h
 have shp:∀b,b<Hc.length->A5 Hc b=A5 (Hc++T) b:=λb hb=>by
  simp only[A5];grind
 have M:Aw Γ1 (A5 (Hc++T)) w' Γ2 (A5 Hc) w' (· < Hc.length):=⟨λ_ _=>rfl,λ_ h=>h,λb hb=>by simp only[Γ2];rw[if_pos hb],λb hb=>shp b hb,λ_ _ _ _=>rfl,rfl⟩
 refine⟨Γ2,Φ1,⟨hs.os,hs.tape,hs.output,hs.size,hs.sub,hs.stnew,λb g h=>hs.own b g (hnm b g h).2,hs.foot,hs.frame,hs.yv,hl,λb hb hf=>?_⟩,
  ⟨λb b' g h1 h2=>hH1.inj b b' g (hnm b g h1).2 (hnm b' g h2).2,λb g h=>by have:=hH1.lt b g (hnm b g h).2;exact⟨(hnm b g h).1,this.2⟩,hH1.stlt,λb hb c hc=>hok.2 _ (ab5 hb) c hc,λb hb=>?_⟩,
  hv.mono M (λb hb=>hok.1 b hb),λc hc=>hok.1 c hc,hi1,λb g h=>hd1 b g (hnm b g h).2⟩
 ·obtain⟨m1,m2,m3⟩:=hs.keep b hb hf;have hb2:b<Hc.length:=ad4 hb hl;exact⟨by simp only[Γ2];rw[if_pos hb2];exact m1,by rw[shp b hb2];exact m2,m3⟩
 ·have hb':b<(Hc++T).length:=by rw[y8];omega
  have:=hH1.blk b hb';rw[get b hb hb'] at this;exact this.mono M (M.nm b hb) (λ_ _=>rfl) (λc hc=>hok.2 _ (ab5 hb) c hc)
theorem Gi{C₀:Cfg}{g:Nat}{m:List PV->List Blk->Tr}(v:XOK C₀)(t:Ow C₀)(D:C₀.P.follows .mixedOrders=true)
  (h:∀args H ret a,M9 (m args H)=some (ret,a)->p9 H.length a.length=true/\A59 a.length ret a=true/\∀(Z:Type) (e:Yh Z) (s:Z),∃d b,evC C₀ d Z e g args H s=some (ret,b,s)/\b.take a.length=a):DO C₀.P C₀.G g m:=by
 intro C u p Z I e R r L args H s ret a i S T w n j q z A y x F;obtain⟨B,f,o⟩:=h args H ret a i;obtain⟨d,b,c,K⟩:=o Z e s;rw[<-List.take_append_drop a.length b,K] at c;refine(Ku v t D d Z I e R r L g args H s ret (a++b.drop a.length) s c S T w n j q (z.congr p.symm) A y x F).mono ?_;rintro V w' G;obtain⟨k,l,J,M,N,O,P,Q⟩:=G.head (Nat.le_of_ble_eq_true B) f;exact⟨k,l,J.congr u.symm,M,N,O,P,Q⟩
def Ha:List Int:=(List.range 32).map λi=>((if i % 2=0 then Lib.accLo (i / 2) else Lib.accHi (i / 2):Nat):Int)
def GX:GT:=⟨λg=>cond (ab3 g 1) (some (.u8,Lib.firstTab)) (cond (ab3 g 2) (some (.u8,Ha)) (cond (ab3 g 3) (some (.u64,Lib.pow10Tab)) (cond (ab3 g 5) (some (.u8,Lib.deBruijn64tab.map λn:Nat=>(n:Int))) none))),λg=>ab3 g 0⟩
def D42:List (Nat × Nat × Nat × Nat)->Nat->Nat->Nat × Nat
 | [],_,_=>(0,0)
 | (t,j,e,k)::r,b,a=>cond (ab3 t b&&ab3 j a) (e,k) (D42 r b a)
def Dr4:List (Nat × Nat)->Nat->Option Nat
 | [],_=>none
 | (a,b)::r,i=>cond (ab3 a i) (some b) (Dr4 r i)
noncomputable def B7(g:Nat)(f:List Nat)(d:Nat->Option (List Nat))(X:List (Nat × (List PV->Tr)))(b:Nat->Option (List Nat):=λ_=>none)(h:List Nat:=[])(a:Nat->Option (List Nat):=λ_=>none)(c:Option (List Nat):=none)(Y:List (Nat × (List PV->List Blk->Tr)):=[])(S:List (Nat × (List PV->List Blk->Option (Bool × List (List PV)))):=[])(e:List Nat:=[])(nt:List (Nat × Nat × Nat × Nat):=[])(rw:List (Nat × Nat):=[]):Cfg:=
 { P:=Tryz.prog,G:=GX,X:=Au1 X,lend:=okL e,okf:=okL f,lf:=g,keep:=d,keepR:=b,xp:=okL h,keepE:=a,keepT:=c,Y:=DH Y,S:=DH S,nilT:=D42 nt,rowR:=Dr4 rw }
theorem follows:Tryz.prog.follows .mixedOrders=true:=by kernel_rfl
theorem B98{n:Nat}:G1 n=true↔n<=68719476736:=by simp[G1]
theorem F7{n:Nat}(h:n<=68719476736):G1 n=true:=B98.2 h
theorem B9{a b:Int}(h:a<b):ltI a b=true:=by rw[Mv];simpa using h
theorem E6{a b:Int}(h:b<=a):ltI a b=false:=by rw[Mv];simpa using h
theorem Mw{a b:Int}:ltI a b=true↔a<b:=by rw[Mv];simp
theorem Qd{a b:Int}:ltI a b=false↔b<=a:=by rw[Mv];simp
theorem D1{n:Int}(a:-9223372036854775808<=n)(b:n<9223372036854775808):A1 n=n:=Dm0 n a b
theorem Ab5{n:Int}(a:0<=n)(b:n<18446744073709551616):Dy6 n=n:=by obtain⟨m,rfl⟩:=o0 a;unfold Dy6;rw[Dm2,o9 (by omega)]
theorem By9{n:Int}(a:0<=n)(b:n<4294967296):DL n=n:=by obtain⟨m,rfl⟩:=o0 a;unfold DL;rw[Dm1,o9 (by omega)]
theorem By8{n:Int}(a:0<=n)(b:n<65536):Eg n=n:=by obtain⟨m,rfl⟩:=o0 a;unfold Eg;rw[By7,o9 (by omega)]
theorem Ab6{n:Int}(a:0<=n)(b:n<256):wu8 n=n:=by obtain⟨m,rfl⟩:=o0 a;unfold wu8;rw[Dy5,o9 (by omega)]
theorem A8{a b:Int}(h:a<b:=by omega):ltI a b=true:=B9 h
theorem A6{a b:Int}(h:b<=a:=by omega):ltI a b=false:=E6 h
theorem A7{n:Int}(h:-9223372036854775808<=n:=by omega)(g:n<9223372036854775808:=by omega):A1 n=n:=D1 h g
theorem Oa{n:Int}(h:0<=n:=by omega)(g:n<4294967296:=by omega):DL n=n:=By9 h g
theorem Kk{n:Int}(h:0<=n:=by omega)(g:n<65536:=by omega):Eg n=n:=By8 h g
theorem N1{n:Int}(h:0<=n:=by omega)(g:n<256:=by omega):wu8 n=n:=Ab6 h g
theorem Q5{d:Sort _}{c:Prop}[Decidable c]{a b:d}(h:c:=by omega):(if c then a else b)=a:=if_pos h
theorem G0{d:Sort _}{c:Prop}[Decidable c]{a b:d}(h:¬c:=by omega):(if c then a else b)=b:=if_neg h
theorem Av3(n:Nat):Eg (n:Int)=((n % 65536:Nat):Int):=By7 n
theorem Sf(k:IntKind)(a m:Nat)(h:m<=k.bits):Qp k (a:Int) (m:Int)=((a / 2 ^ m:Nat):Int):=by
 unfold Qp;rw[j6,ac2 h];have:(2:Int) ^ m=((2 ^ m:Nat):Int):=by simp
 rw[this,Cn8]
theorem C08{n:Nat}(h:n<256):[SV.int .u8 (n:Int)]=E2 (k9 n):=by rw[Bm1,o9 h]
theorem Au{l h:Int}{n:Nat}(a:0<=l)(b:l<=h)(c:h<=n):I9 l h n=true:=by simp[I9,a,b,c]
theorem K7{i:Int}{n:Nat}(a:0<=i)(b:i<n):inR i n=true:=by simp[inR,a,b]
theorem I8{l h:Int}{n:Nat}(a:0<=l:=by omega)(b:l<=h:=by omega)(c:h<=n:=by omega):I9 l h n=true:=Au a b c
theorem F1{i:Int}{n:Nat}(a:0<=i:=by omega)(b:i<n:=by omega):inR i n=true:=K7 a b
end
section
open Go Go.Proofs
def GR(r:Option (PV × List Blk × Unit)):Bool:=match r with
 | some (.s (.bool true),_,_)=>true
 | _=>false
theorem ZH{r:Option (PV × List Blk × Unit)}(h:GR r=true):∃H,r=some (.s (.bool true),H,()):=by
 unfold GR at h;split at h
 ·exact⟨_,rfl⟩
 ·cases h
theorem Bo6{C₀:Cfg}{g d:Nat}(f:XOK C₀)(c:Ow C₀)(i:C₀.P.follows .mixedOrders=true)(h:GR (evC C₀ d Unit noY g [] [] ())=true):B3 C₀.P C₀.G g (λargs=>match args with|[]=>.ret (.s (.bool true)) []|_=>.fail):=
 Ac0 f c i λargs ret j b=>by
  cases args with
  | nil=>
   obtain⟨rfl,rfl⟩:=J6 b;obtain⟨H,e⟩:=ZH h;exact⟨rfl,rfl,rfl,d,_,H,e,rfl⟩
  | cons a r=>cases b
theorem VZ{P:Program}{t:Nat}{v:PV}{f:Ty}(h:Sp P t v)(e:Fd P 20 t=some [f])(i:Od P t=false):∃x,v = .s x/\f.of x:=by
 obtain⟨j,l,b,c,a⟩:=h;rw[e] at b;simp only[x7] at b;subst b;rcases a with⟨a,_⟩|⟨_,x,rfl,rfl⟩
 ·rw[i] at a;cases a
 ·simp only[Ty.ofL] at c;obtain⟨v,q,d,g,rfl⟩:=c;simp only[List.cons.injEq,and_true] at d;subst d;exact⟨_,rfl,g⟩
theorem C69{P:Program}{t:Nat}{v:PV}{k:IntKind}(h:Sp P t v)(e:Fd P 20 t=some [.int k])(c:Od P t=false):∃n,v = .s (.int k n)/\k.min<=n/\n<=k.max:=by obtain⟨x,rfl,n,rfl,a,b⟩:=VZ h e c;exact⟨n,rfl,a,b⟩
theorem C70{P:Program}{t:Nat}{v:PV}(h:Sp P t v)(e:Fd P 20 t=some [.str])(b:Od P t=false):∃l,v = .s (.str l)/\l.length<=maxLen:=by obtain⟨x,rfl,l,rfl,a⟩:=VZ h e b;exact⟨l,rfl,a⟩
theorem Ck4{P:Program}{t:Nat}{v:PV}(h:Sp P t v)(e:Fd P 20 t=some [.bool])(a:Od P t=false):∃b,v = .s (.bool b):=by obtain⟨x,rfl,b,rfl⟩:=VZ h e a;exact⟨b,rfl⟩
end
section
open Go
def D5(l:List By):LL:=l.map λs=>[SV.str s]
def D2(l:List Nat):LL:=l.map λn=>[SV.int .u16 (Int.ofNat n)]
def M7(c:UInt8):By->By->List By
 | a,[]=>[a]
 | a,b::r=>if b=c then a::M7 c [] r else M7 c (a++[b]) r
def pcs(c:UInt8)(s:By):List By:=M7 c [] s
theorem Jp(c:UInt8):∀(s a:By),(M7 c a s).length=s.count c+1
 | [],a=>rfl
 | b::r,a=>by
  simp only[M7,ae9];by_cases h:b=c
  ·simp[h,Jp c r]
  ·simp[h,Jp c r]
theorem Zf(c:UInt8):∀(s a:By),c∉s->M7 c a s=[a++s]
 | [],a,_=>by simp[M7]
 | b::r,a,h=>by
  simp only[ad2,not_or] at h;simp only[M7];rw[if_neg (λe=>h.1 e.symm),Zf c r _ h.2];simp
theorem FG(c:UInt8):∀(p a s:By),c∉p->M7 c a (p++c::s)=(a++p)::M7 c [] s
 | [],a,s,_=>by simp[M7]
 | b::r,a,s,h=>by
  simp only[ad2,not_or] at h;simp only[ab4,M7];rw[if_neg (λe=>h.1 e.symm),FG c r _ s h.2];simp
theorem Bk8(c:UInt8)(s a:By):M7 c a s≠[]:=by intro h;have:=Jp c s a;rw[h] at this;simp at this
theorem Qq(c:UInt8):∀(s a:By),c∉a->∀x∈M7 c a s,c∉x/\x.length<=a.length+s.length
 | [],a,h,x,d=>by
  simp only[M7,List.mem_singleton] at d;subst d;exact⟨h,by simp⟩
 | b::r,a,h,x,d=>by
  simp only[M7] at d;split at d
  ·rcases ad2.1 d with rfl|d
   ·exact⟨h,by simp⟩
   ·have:=Qq c r [] (by simp) x d;refine⟨this.1,?_⟩;have:=this.2;simp at this ⊢;omega
  ·rename_i e;have:=Qq c r (a++[b]) (by simp[h,Ne.symm e]) x d;refine⟨this.1,?_⟩;have:=this.2;simp at this ⊢;omega
def X9(b:UInt8):UInt8:=if 65<=b/\b<=90 then b+32 else b
def B5(s:By):By:=s.map X9
def dig(b:UInt8):Nat:=
 if 48<=b.toNat/\b.toNat<=57 then b.toNat-48 else if 97<=b.toNat/\b.toNat<=102 then b.toNat-87 else if 65<=b.toNat/\b.toNat<=70 then b.toNat-55 else 99
def W8:Nat:=1099511627776
def F0(base:Nat):Nat->By->Option Nat
 | n,[]=>some n
 | n,b::r=>if dig b<base then F0 base (min (n*base+dig b) W8) r else none
def Y9(s:By):Bool:=s.getD 0 0==48&&(s.getD 1 0==120||s.getD 1 0==88)
def Ac(s:By):Option Nat:=
 if s=[] then none else if Y9 s then F0 16 0 (s.drop 2) else if 1<s.length/\s.getD 0 0=48 then F0 8 0 (s.drop 1) else F0 10 0 s
def C8(s:By):List By:=if 1<(pcs 46 s).length/\(pcs 46 s).getLastD []=[] then (pcs 46 s).dropLast else pcs 46 s
def Dd(s:By):By:=(C8 s).getLastD []
def E9(s:By):Bool:=if Y9 (Dd s) then (F0 16 0 ((Dd s).drop 2)).isSome else !(Dd s).isEmpty&&(F0 10 0 (Dd s)).isSome
def Uy(free:Nat):Nat->List By->Option Nat
 | _,[]=>none
 | v,p::r=>match Ac p with
  | none=>none
  | some n=>match r with
   | []=>if n<2 ^ free then some (v*2 ^ free+n) else none
   | r=>if n<=255 then Uy free (v*256+n) r else none
def pnB(s:By):Option Nat:=if 4<(C8 s).length then none else Uy (8*(5-(C8 s).length)) 0 (C8 s)
def oct(s:By):Option Nat:=match F0 10 0 s with
 | some n=>if n<=255/\j5 n=s then some n else none
 | none=>none
def MC:Nat->List By->Option Nat
 | v,[]=>some v
 | v,p::r=>match oct p with
  | some n=>MC (v*256+n) r
  | none=>none
def v4B(s:By):Option Nat:=if (pcs 46 s).length=4 then MC 0 (pcs 46 s) else none
def V0(v:Nat):By:=j5 (v / 16777216)++46::(j5 (v / 65536 % 256)++46::(j5 (v / 256 % 256)++46::j5 (v % 256)))
def Ai:Nat->By->Option Nat
 | n,[]=>some n
 | n,b::r=>if dig b<16 then Ai (n*16+dig b) r else none
def grp(s:By):Option Nat:=if s=[]\/4<s.length then none else Ai 0 s
def Db(last:Bool):List By->Option (List Nat)
 | []=>some []
 | x::r=>match grp x with
  | some v=>(Db last r).map (v::·)
  | none=>match v4B x with
   | some v=>if last=true/\r=[] then some [v / 65536,v % 65536] else none
   | none=>none
def P2(s:By)(last:Bool):Option (List Nat):=if s=[] then some [] else Db last (pcs 58 s)
def v6B(s:By):Option (List Nat):=
 match P2 (w6 s [58,58]).1 (!(w6 s [58,58]).2.2),P2 (w6 s [58,58]).2.1 true with
 | some x,some y=>if (w6 s [58,58]).2.2 then (if x.length+y.length<=7 then some (x++j1 (8-x.length-y.length) 0++y) else none)
   else if x.length+y.length=8 then some (x++y) else none
 | _,_=>none
def Nl(l:List Nat):Nat:=(l.takeWhile (· == 0)).length
def zGo:List Nat->Nat->Nat->Nat->Nat × Nat
 | [],_,z,m=>(z,m)
 | x::r,i,z,m=>if m<Nl (x::r) then zGo r (i+1) i (Nl (x::r)) else zGo r (i+1) z m
def Kx(n:Nat):UInt8:=if n<10 then k9 (48+n) else k9 (87+n)
def P4(v:Nat):By:=if h:v<16 then [Kx v] else P4 (v / 16)++[Kx (v % 16)]
 termination_by v
 decreasing_by omega
def K6(l:List Nat):By:=ac6 (l.map P4) [58]
def Ak(a:List Nat):By:=if (zGo a 0 0 0).2<2 then K6 a else K6 (a.take (zGo a 0 0 0).1)++58::58::K6 (a.drop ((zGo a 0 0 0).1+(zGo a 0 0 0).2))
def W4(n:Nat):Bool:=p9 n 1114111&&(ah5 n 55296||ah5 57343 n)
def AR(d k:Nat):Nat:=if h:455<d then AR (d / 35) (k+36) else k+36*d / (d+38)
 termination_by d
 decreasing_by omega
def Q9(delta count:Nat)(first:Bool):Nat:=
 let d:=if first then delta / 700 else delta / 2
 AR (d+d / count) 0
def thr(k a:Nat):Nat:=max 1 (min 26 (36*(k+1)-a))
theorem X4(k a:Nat):1<=thr k a/\thr k a<=26:=by unfold thr;omega
def Az(d:Nat):UInt8:=if d<26 then k9 (97+d) else k9 (22+d)
def Oq(b:UInt8):Option Nat:=
 if 97<=b.toNat/\b.toNat<=122 then some (b.toNat-97) else if 65<=b.toNat/\b.toNat<=90 then some (b.toNat-65) else if 48<=b.toNat/\b.toNat<=57 then some (b.toNat-22) else none
def Q0(q k a:Nat):By:=
 if h:q<thr k a then [Az q] else Az (thr k a+(q-thr k a) % (36-thr k a))::Q0 ((q-thr k a) / (36-thr k a)) (k+1) a
 termination_by q
 decreasing_by
  have:=X4 k a;exact ad3 (af2 _ _) (by omega)
structure SX where
 delta:Nat
 bias:Nat
 done:Nat
 out:By
def I4(n a:Nat):List Nat->SX->SX
 | [],s=>s
 | p::r,s=>if p<n then I4 n a r { s with delta:=s.delta+1 }
  else if p=n then I4 n a r { delta:=0,bias:=Q9 s.delta (s.done+1) (s.done==a),done:=s.done+1,out:=s.out++Q0 s.delta 0 s.bias }
  else I4 n a r s
def I2(n:Nat):List Nat->Nat->Nat
 | [],m=>m
 | p::r,m=>I2 n r (if n<=p then min m p else m)
def S8(b:List Nat)(a:Nat):Nat->Nat->SX->SX
 | 0,_,s=>s
 | f+1,n,s=>if s.done<b.length then
   let m:=I2 n b 1114112;let c:=I4 m a b { s with delta:=s.delta+(m-n)*(s.done+1) }
   S8 b a f (m+1) { c with delta:=c.delta+1 }
  else s
def J0(a:List Nat):By:=(a.filter (· < 128)).map k9
def Dn(a:List Nat):By × Nat:=
 if 256<a.length then ([],3) else if !(a.all W4) then ([],2)
 else ((S8 a (J0 a).length 256 128 { delta:=0,bias:=72,done:=(J0 a).length,out:=if (J0 a).isEmpty then [] else J0 a++[45] }).out,0)
def D9(a:Nat):By->Nat->Nat->Nat->Nat × By × Nat
 | [],i,w,k=>(0,[],4)
 | b::r,i,w,k=>match Oq b with
  | none=>(0,[],4)
  | some x=>if W8<i+x*w then (0,[],19) else if x<thr k a then (i+x*w,r,0)
   else if W8<w*(36-thr k a) then (0,[],19) else D9 a r (i+x*w) (w*(36-thr k a)) (k+1)
theorem Rl(a:Nat):∀(s:By) (i w k:Nat),(D9 a s i w k).2.2=0->(D9 a s i w k).2.1.length<s.length
 | [],i,w,k,h=>by simp[D9] at h
 | b::r,i,w,k,h=>by
  unfold D9 at h ⊢;cases d:Oq b with
  | none=>simp[d] at h
  | some x=>
   simp only[d] at h ⊢;split at h
   ·simp at h
   ·rename_i e;rw[if_neg e];split at h
    ·rename_i c;rw[if_pos c];simp
    ·rename_i c;rw[if_neg c];split at h
     ·simp at h
     ·rename_i f;rw[if_neg f];have:=Rl a r _ _ _ h;simp only[ab6];omega
def W3(l:List Nat)(i n:Nat):List Nat:=l.take i++n::l.drop i
def I1(s:By)(b:List Nat)(n i a:Nat)(first:Bool):List Nat × Nat:=
 if e:s=[] then (b,0) else
  let q:=D9 a s i 1 0
  if d:q.2.2=0 then
   let count:=b.length+1;let c:=n+q.1 / count
   if W4 c then (if 256<count then ([],3) else I1 q.2.1 (W3 b (q.1 % count) c) c (q.1 % count+1) (Q9 (q.1-i) count first) false)
   else ([],2)
  else ([],q.2.2)
 termination_by s.length
 decreasing_by exact Rl a s i 1 0 d
def G9:By->Nat
 | []=>0
 | b::r=>if 45∈r then G9 r+1 else 0
def O4(s:By):List Nat × Nat:=
 if 1024<s.length then ([],3) else if s.any (λb=>p9 128 b.toNat) then ([],4)
 else if 256<G9 s then ([],3)
 else I1 (if G9 s=0 then s else s.drop (G9 s+1)) ((s.take (G9 s)).map (·.toNat)) 128 0 72 true
def W5:Nat->By->Option (List Nat)
 | 0,_=>some []
 | f+1,l=>if l=[] then some [] else if (ac5 l).1=65533/\(ac5 l).2=1 then none else (W5 f (l.drop (ac5 l).2)).map ((ac5 l).1::·)
def Dc(s:By):Option (List Nat):=W5 s.length s
def Ek(s:By):Bool:=
 (O4 s).2==0&&!((O4 s).1.any λp=>p9 65 p&&p9 p 90)&&((O4 s).1.any λp=>p9 128 p)&&(Dn (O4 s).1).2==0&&(Dn (O4 s).1).1==s
def L5(b:UInt8):Bool:=(p9 97 b.toNat&&p9 b.toNat 122)||(p9 48 b.toNat&&p9 b.toNat 57)||b==45||b==95
def xnB:By:=[120,110,45,45]
def K5(s:By):Bool:=
 !s.isEmpty&&p9 s.length 63&&s.getD 0 0 !=45&&s.getD (s.length-1) 0 !=45&&s.all L5&&(!(xnB.isPrefixOf s)||Ek (s.drop 4))
def I5(s:By):By × Nat:=match Dc s with
 | none=>([],4)
 | some p=>if 256<p.length then ([],3)
  else if p.length<s.length then (match Dc (B5 s) with
   | none=>([],14)
   | some q=>if (Dn q).2=0 then (if K5 (xnB++(Dn q).1) then (xnB++(Dn q).1,0) else ([],14)) else ([],14))
  else if K5 (B5 s) then (B5 s,0) else ([],14)
def R2:By->Option By
 | []=>some []
 | b::r=>if b=37 then (match r with
   | x::y::a=>if dig x<16/\dig y<16 then (R2 a).map (k9 (16*dig x+dig y)::·) else none
   | _=>none)
  else (R2 r).map (b::·)
structure B4 where
 kind:Nat
 name:By
 v4:Nat
 v6:List Nat
 deriving DecidableEq
def z8:List Nat:=[0,0,0,0,0,0,0,0]
def L7:B4:=⟨0,[],0,z8⟩
def F5:List By->List By × Nat
 | []=>([],0)
 | x::r=>if (I5 x).2=0 then ((I5 x).1::(F5 r).1,(F5 r).2) else ([],(I5 x).2)
def G8(s:By):By:=if s.getLast? = some 46 then s.dropLast else s
def C3(s:By):B4 × Nat:=
 if 1024<s.length then (L7,3)
 else if s.head? = some 91 then (if s.getLast? = some 93/\2<=s.length then (match v6B ((s.take (s.length-1)).drop 1) with
   | some a=>(⟨3,[],0,a⟩,0)
   | none=>(L7,14)) else (L7,14))
 else match R2 s with
  | none=>(L7,14)
  | some t=>if E9 (G8 t) then (match pnB (G8 t) with
    | some v=>(⟨2,[],v,z8⟩,0)
    | none=>(L7,14))
   else if (F5 (pcs 46 (G8 t))).2=0 then (
    let name:=ac6 (F5 (pcs 46 (G8 t))).1 [46]
    if 253<name.length then (L7,3) else if E9 name then (L7,14) else (⟨1,name,0,z8⟩,0))
   else (L7,(F5 (pcs 46 (G8 t))).2)
def Av(s:By):Bool:=p9 s.length 253&&!(E9 s)&&(pcs 46 s).all K5
def K8(h:B4):Bool:=
 if h.kind=1 then Av h.name&&h.v4==0&&h.v6==z8 else if h.kind=2 then h.name.isEmpty&&h.v6==z8 else if h.kind=3 then h.name.isEmpty&&h.v4==0 else false
def R9(h:B4):By:=if K8 h then (if h.kind=1 then h.name else if h.kind=2 then V0 h.v4 else 91::(Ak h.v6++[93])) else []
def Mj(a b:By):Bool:=Av a&&Av b&&(a==b||(46::a).isSuffixOf b)
def A3(n:Nat):Bool:=decide (n<=1000000000)
theorem SG{n:Nat}:A3 n=true↔n<=1000000000:=by simp[A3]
def isS:List SV->Bool|[.str _]=>true|_=>false
def elS(a:List SV):By:=(a.getD 0 .nilp).gS
def N7(o:Option Nat):Nat:=o.getD 0
def u8n(c:Int):UInt8:=k9 c.toNat
def Aa5(s p:By):By:=if p.isSuffixOf s then s.take (s.length-p.length) else s
def Hl(s p:By):By:=if p.isPrefixOf s then s.drop p.length else s
def ltN(v:Int)(n:Nat):Bool:=match v with
 | .ofNat m=>p9 (m+1) n
 | .negSucc _=>false
theorem E0{v:Int}{n:Nat}:ltN v n=true↔0<=v/\v<(n:Int):=by
 cases v with
 | ofNat m=>
  simp only[ltN,Nat.ble_eq,Int.ofNat_eq_natCast];omega
 | negSucc m=>
  refine⟨λh=>(by cases h),λh=>?_⟩;have:=Int.negSucc_lt_zero m;omega
def Iu(b:Nat):List PV->Tr
 | [.s (.int .i64 n)]=>.need (ltN n b) (.ret (.s (.str (j5 (b8 n)))) [])
 | _=>.fail
def Lu(b:Nat)(args:List PV):Tr:=Iu b (C2 [[0]] args)
def gvs(s:By)(last:Bool):List Nat:=(P2 s last).getD []
def v6c(i:Nat)(s:By):Nat:=((v6B s).getD z8).getD i 0
def n8(a b c d e f g h:Int):List Nat:=[a.toNat,b.toNat,c.toNat,d.toNat,e.toNat,f.toNat,g.toNat,h.toNat]
def ok8(a b c d e f g h:Int):Bool:=[a,b,c,d,e,f,g,h].all λx=>ltN x 65536
def Xn:List SV->Bool|[.int .u16 n]=>ltN n 65536|_=>false
def elN(a:List SV):Nat:=(a.getD 0 .nilp).gI.toNat
def KK(s:By):Int:=x9 s [58,58]
def ptI(n:Int):Bool:=match n with | .ofNat m=>W4 m | .negSucc _=>false
def E3(b:UInt8):Int:=match Oq b with|some n=>n|none=>-1
def L8(k b:Int):Int:=max 1 (min 26 (k+36-b))
def Oj:List SV->Bool|[.int .i64 _]=>true|_=>false
def elI(a:List SV):Int:=(a.getD 0 .nilp).gI
def X8(l:List Int):By × Nat:=if 256<l.length then ([],3) else if l.all ptI then Dn (l.map b8) else ([],2)
def U8(b:Int):By->Int->Int->Int->Int × By × Int
 | [],i,w,k=>(4,[],i)
 | c::r,i,w,k=>if E3 c<0 then (4,c::r,i) else if 1099511627776<i+E3 c*w then (19,r,i+E3 c*w)
  else if E3 c<L8 k b then (0,r,i+E3 c*w) else if 1099511627776<w*(36-L8 k b) then (19,r,i+E3 c*w)
  else U8 b r (i+E3 c*w) (w*(36-L8 k b)) (k+36)
def LZ(b:Int)(s:By)(i:Int):Int:=(U8 b s i 1 0).1
def MB(b:Int)(s:By)(i:Int):By:=(U8 b s i 1 0).2.1
def Uw(b:Int)(s:By)(i:Int):Int:=(U8 b s i 1 0).2.2
def Mr(l:List (List SV))(i:Nat)(n:Int):List (List SV):=l.take i++[SV.int .i64 n]::l.drop i
structure DS where
 rest:By
 n:Int
 i:Int
 b:Int
 st:Bool
 l:List (List SV)
def F6(s:DS):Int × DS:=
 if LZ s.b s.rest s.i=0 then
  let c:Int:=s.l.length+1;let x:=Uw s.b s.rest s.i;let d:DS:={ rest:=MB s.b s.rest s.i,n:=s.n+aa0 x c,i:=x5 x c,b:=Q9 (x-s.i).toNat c.toNat (!s.st),st:=true,l:=s.l }
  if ptI d.n then (if 256<c then (3,d) else (0,{ d with i:=d.i+1,l:=Mr s.l d.i.toNat d.n })) else (2,d)
 else (LZ s.b s.rest s.i,{ s with rest:=MB s.b s.rest s.i,i:=Uw s.b s.rest s.i })
def L2(c:UInt8):By->Int
 | []=>-1
 | b::r=>if L2 c r<0 then (if b=c then 0 else -1) else L2 c r+1
def My(l:List Nat):List (List SV):=l.map λx:Nat=>[SV.int .i64 (x:Int)]
def Sm(s:By):List Nat:=(Dc s).getD []
def Fq(b:UInt8):Int:=if dig b<16 then dig b else -1
def Fx(s:By):By:=(R2 s).getD []
def Q4(s:By):B4 × Nat:=if s.getLast? = some 93/\2<=s.length then (match v6B ((s.take (s.length-1)).drop 1) with
 | some a=>(⟨3,[],0,a⟩,0)
 | none=>(L7,14)) else (L7,14)
def mkH(b:Int)(c:By)(v4:Int)(a:List Nat):B4:=⟨if ltN b 4 then b.toNat else 0,c,v4.toNat,a⟩
def Cx(n:Int)(l:List By):Bool:=l.all λs=>!(ltI n (s.length:Int))
def Cp7(s:By):Bool:=([91]:By).isPrefixOf s
end
section
open Go Go.Proofs
set_option maxRecDepth 100000
section
def Tf:List PV->Tr
 | [.s (.str s),.s (.str p),.s (.int .i64 v),.s (.int .i64 n)]=>.need (A3 (a8 s)) (.need ((a8 p)==1) (.need (v==(0:Int)) (.need (n==((-1):Int)) (.ret (.vw 0 0 (a8 (pcs (b9 p 0 0) s))) [.arr false 9 1 (D5 (pcs (b9 p 0 0) s))]))))
 | _=>.fail
def Zv(args:List PV):Tr:=Tf (C2 [[0],[0],[0],[0]] args)
def To:List PV->Tr
 | [.s (.str s),.s (.str p)]=>.need (A3 (a8 s)) (.need ((a8 p)==1) (.ret (.vw 0 0 (a8 (pcs (b9 p 0 0) s))) [.arr false 9 1 (D5 (pcs (b9 p 0 0) s))]))
 | _=>.fail
def PD(args:List PV):Tr:=To (C2 [[0],[0]] args)
def TX:List PV->Tr
 | [.s (.str s),.s (.str p)]=>.need (A3 (a8 s)) (.ret (.s (.bool (o8 p s))) [])
 | _=>.fail
def TW(args:List PV):Tr:=TX (C2 [[0],[0]] args)
def TN:List PV->Tr
 | [.s (.str s),.s (.str p)]=>.need (A3 (a8 s)) (.ret (.s (.bool (o8 p s))) [])
 | _=>.fail
def HM(args:List PV):Tr:=TN (C2 [[0],[0]] args)
def TZ:List PV->Tr
 | [.s (.str s),.s (.str p)]=>.need (A3 (a8 s)) (.ret (.s (.bool (aa7 p s))) [])
 | _=>.fail
def Ax1(args:List PV):Tr:=TZ (C2 [[0],[0]] args)
def TO:List PV->Tr
 | [.s (.str s),.s (.str p)]=>.need (A3 (a8 s)) (.ret (.s (.bool (aa7 p s))) [])
 | _=>.fail
def Ch5(args:List PV):Tr:=TO (C2 [[0],[0]] args)
def HX:List PV->Tr
 | [.s (.str s),.s (.str p)]=>.need (A3 (a8 s)) (.ret (.s (.str (Aa5 s p))) [])
 | _=>.fail
def Bp7(args:List PV):Tr:=HX (C2 [[0],[0]] args)
def JD:List PV->Tr
 | [.s (.str s),.s (.str p)]=>.need (A3 (a8 s)) (.ret (.s (.str (Aa5 s p))) [])
 | _=>.fail
def Br5(args:List PV):Tr:=JD (C2 [[0],[0]] args)
def HS:List PV->Tr
 | [.s (.str s),.s (.str p)]=>.need (A3 (a8 s)) (.ret (.tup [.s (.str (Hl s p)),.s (.bool (o8 p s))]) [])
 | _=>.fail
def Bp4(args:List PV):Tr:=HS (C2 [[0],[0]] args)
def SZ:List PV->Tr
 | [.s (.str s),.s (.str p)]=>.need (A3 (a8 s)) (.ret (.tup [.s (.str (Hl s p)),.s (.bool (o8 p s))]) [])
 | _=>.fail
def Aw4(args:List PV):Tr:=SZ (C2 [[0],[0]] args)
def VE:List PV->Tr
 | [.s (.str s),.s (.str p)]=>.need (A3 (a8 s)) (.ret (.s (.int .i64 (x9 s p))) [])
 | _=>.fail
def IX(args:List PV):Tr:=VE (C2 [[0],[0]] args)
def VC:List PV->Tr
 | [.s (.str s),.s (.str p)]=>.need ((a8 p)==1) (.ret (.s (.int .i64 (↑(List.count (b9 p 0 0) s):Int))) [])
 | _=>.fail
def Ay1(args:List PV):Tr:=VC (C2 [[0],[0]] args)
def HG:List PV->Tr
 | [.s (.str s),.s (.int .i64 n)]=>.fail
 | _=>.fail
def Kl(args:List PV):Tr:=HG (C2 [[0],[0]] args)
def Zu:List PV->Tr
 | [.s (.str s),.s (.str p),.s (.int .i64 v),.s (.int .i64 n)]=>.need (A3 (a8 s)) (.need ((a8 p)==1) (.need (v==(0:Int)) (.need (n==((-1):Int)) (.ret (.s (.sl false false 1 (D5 (pcs (b9 p 0 0) s)))) []))))
 | _=>.fail
def Ac8(args:List PV):Tr:=Zu (C2 [[0],[0],[0],[0]] args)
def AL:List PV->Tr
 | [.s (.str s),.s (.str p)]=>.need (A3 (a8 s)) (.need ((a8 p)==1) (.ret (.s (.sl false false 1 (D5 (pcs (b9 p 0 0) s)))) []))
 | _=>.fail
def Wc(args:List PV):Tr:=AL (C2 [[0],[0]] args)
def TT:List PV->Tr
 | [.s (.int .i64 n)]=>.need (ltN n 4294967296) (.ret (.s (.str (j5 (b8 n)))) [])
 | _=>.fail
def Aw9(args:List PV):Tr:=TT (C2 [[0]] args)
def TV:List PV->Tr
 | [.s (.str s)]=>.need (A3 (a8 s)) (.ret (.s (.str (B5 s))) [])
 | _=>.fail
def Ax0(args:List PV):Tr:=TV (C2 [[0]] args)
def TL:List PV->Tr
 | [.s (.str s)]=>.need (A3 (a8 s)) (.ret (.s (.bool (Y9 s))) [])
 | _=>.fail
def Aw6(args:List PV):Tr:=TL (C2 [[0]] args)
def TC:List PV->Tr
 | [.s (.str s),.s (.int .i64 base)]=>.need (A3 (a8 s)) (.need (ltN base 17) (.ret (.tup [.s (.int .i64 (↑(N7 (F0 (b8 base) 0 s)):Int)),.s (.bool (j4 (F0 (b8 base) 0 s)))]) []))
 | _=>.fail
def TB(args:List PV):Tr:=TC (C2 [[0],[0]] args)
def Ax2:List PV->Tr
 | [.s (.str s)]=>.need (A3 (a8 s)) (.ret (.tup [.s (.int .i64 (↑(N7 (Ac s)):Int)),.s (.bool (j4 (Ac s)))]) [])
 | _=>.fail
def Ch8(args:List PV):Tr:=Ax2 (C2 [[0]] args)
def IA:List PV->Tr
 | [.s (.str s)]=>.need (A3 (a8 s)) (.ret (.s (.sl false false 1 (D5 (C8 s)))) [])
 | _=>.fail
def UE(args:List PV):Tr:=IA (C2 [[0]] args)
def Tg:List PV->Tr
 | [.s (.str s)]=>.need (A3 (a8 s)) (.ret (.s (.bool (E9 s))) [])
 | _=>.fail
def Rb(args:List PV):Tr:=Tg (C2 [[0]] args)
def UI:List PV->Tr
 | [.s (.str s)]=>.need (A3 (a8 s)) (.ret (.tup [.s (.int .u32 (↑(N7 (pnB s)):Int)),.s (.bool (j4 (pnB s)))]) [])
 | _=>.fail
def Ci0(args:List PV):Tr:=UI (C2 [[0]] args)
def Ay6:List PV->Tr
 | [.s (.str s)]=>.need (A3 (a8 s)) (.ret (.tup [.s (.int .u32 (↑(N7 (v4B s)):Int)),.s (.bool (j4 (v4B s)))]) [])
 | _=>.fail
def Dq2(args:List PV):Tr:=Ay6 (C2 [[0]] args)
def Ay5:List PV->Tr
 | [.s (.int .u32 v)]=>.need (ltN v 4294967296) (.ret (.s (.str (V0 (b8 v)))) [])
 | _=>.fail
def Dq1(args:List PV):Tr:=Ay5 (C2 [[0]] args)
def Th:List PV->Tr
 | [.s (.str s)]=>.need (A3 (a8 s)) (.ret (.s (.bool ((not (j9 s))&&(j4 (F0 10 0 s))))) [])
 | _=>.fail
def OZ(args:List PV):Tr:=Th (C2 [[0]] args)
def UQ:List PV->Tr
 | [.s (.str s)]=>.need (A3 (a8 s)) (.ret (.s (.str (B5 s))) [])
 | _=>.fail
def Ax8(args:List PV):Tr:=UQ (C2 [[0]] args)
def AG:List PV->Tr
 | [.s (.str s),.s (.int .u8 c)]=>.need (A3 (a8 s)) (.need (inR c 256) (.ret (.s (.sl false false 1 (D5 (pcs (u8n c) s)))) []))
 | _=>.fail
def Km(args:List PV):Tr:=AG (C2 [[0],[0]] args)
def Aw5:List PV->Tr
 | [.s (.int .i64 n)]=>.need (ltN n 4294967296) (.ret (.s (.str (j5 (b8 n)))) [])
 | _=>.fail
def Zt(args:List PV):Tr:=Aw5 (C2 [[0]] args)
def UM:List PV->Tr
 | [.s (.int .u8 b)]=>.need (inR b 256) (.ret (.s (.int .i64 (↑(dig (u8n b)):Int))) [])
 | _=>.fail
def Ci2(args:List PV):Tr:=UM (C2 [[0]] args)
def US:List PV->Tr
 | [.s (.str s)]=>.need (A3 (a8 s)) (.ret (.tup [.s (.int .i64 (↑(N7 (Ac s)):Int)),.s (.bool (j4 (Ac s)))]) [])
 | _=>.fail
def Ax9(args:List PV):Tr:=US (C2 [[0]] args)
def AE:List PV->Tr
 | [.s (.str s)]=>.need (A3 (a8 s)) (.ret (.s (.sl false false 1 (D5 (C8 s)))) [])
 | _=>.fail
def IL(args:List PV):Tr:=AE (C2 [[0]] args)
def Pb:List PV->Tr
 | [.s (.str s)]=>.need (A3 (a8 s)) (.ret (.s (.bool (E9 s))) [])
 | _=>.fail
def Tl(args:List PV):Tr:=Pb (C2 [[0]] args)
def IN:List PV->Tr
 | [.s (.str s)]=>.need (A3 (a8 s)) (.ret (.tup [.s (.int .u32 (↑(N7 (pnB s)):Int)),.s (.bool (j4 (pnB s)))]) [])
 | _=>.fail
def Bq8(args:List PV):Tr:=IN (C2 [[0]] args)
def UL:List PV->Tr
 | [.s (.str s)]=>.need (A3 (a8 s)) (.ret (.tup [.s (.int .i64 (↑(N7 (oct s)):Int)),.s (.bool (j4 (oct s)))]) [])
 | _=>.fail
def Ci1(args:List PV):Tr:=UL (C2 [[0]] args)
def UY:List PV->Tr
 | [.s (.str s)]=>.need (A3 (a8 s)) (.ret (.tup [.s (.int .u32 (↑(N7 (v4B s)):Int)),.s (.bool (j4 (v4B s)))]) [])
 | _=>.fail
def Ci9(args:List PV):Tr:=UY (C2 [[0]] args)
def UX:List PV->Tr
 | [.s (.int .u32 v)]=>.need (ltN v 4294967296) (.ret (.s (.str (V0 (b8 v)))) [])
 | _=>.fail
def Ci8(args:List PV):Tr:=UX (C2 [[0]] args)
def TG:List PV->Tr
 | [.s (.str s)]=>.need (A3 (a8 s)) (.ret (.tup [.s (.int .u16 (↑(N7 (grp s)):Int)),.s (.bool (j4 (grp s)))]) [])
 | _=>.fail
def Ch1(args:List PV):Tr:=TG (C2 [[0]] args)
def HK:List PV->Tr
 | [.s (.str s),.s (.bool last)]=>.need (A3 (a8 s)) (.ret (.tup [.s (.sl (j9 (gvs s last)) (j9 (gvs s last)) 1 (D2 (gvs s last))),.s (.bool (j4 (P2 s last)))]) [])
 | _=>.fail
def Bp1(args:List PV):Tr:=HK (C2 [[0],[0]] args)
def Ay9:List PV->Tr
 | [.s (.str s)]=>.need (A3 (a8 s)) (.ret (.tup [.agg [.s (.int .u16 (↑(v6c 0 s):Int)),.s (.int .u16 (↑(v6c 1 s):Int)),.s (.int .u16 (↑(v6c 2 s):Int)),.s (.int .u16 (↑(v6c 3 s):Int)),.s (.int .u16 (↑(v6c 4 s):Int)),.s (.int .u16 (↑(v6c 5 s):Int)),.s (.int .u16 (↑(v6c 6 s):Int)),.s (.int .u16 (↑(v6c 7 s):Int))],.s (.bool (j4 (v6B s)))]) [])
 | _=>.fail
def Dq5(args:List PV):Tr:=Ay9 (C2 [[0]] args)
def JI:List PV->Tr
 | [.agg [.s (.int .u16 a),.s (.int .u16 b),.s (.int .u16 c),.s (.int .u16 d),.s (.int .u16 e),.s (.int .u16 f),.s (.int .u16 g),.s (.int .u16 h)]]=>.need (ok8 a b c d e f g h) (.ret (.tup [.s (.int .i64 (↑((zGo (n8 a b c d e f g h) 0 0 0)).1:Int)),.s (.int .i64 (↑((zGo (n8 a b c d e f g h) 0 0 0)).2:Int))]) [])
 | _=>.fail
def Br6(args:List PV):Tr:=JI (C2 [[0,0,0,0,0,0,0,0]] args)
def Cj4:List PV->Tr
 | [.s (.int .u64 x)]=>.need (x==(16:Int)) (.ret (.s (.int .i64 (4:Int))) [])
 | _=>.fail
def Ds2(args:List PV):Tr:=Cj4 (C2 [[0]] args)
def HO:List PV->Tr
 | [.s (.int .i64 x)]=>.need (x==(16:Int)) (.ret (.s (.bool true)) [])
 | _=>.fail
def TS(args:List PV):Tr:=HO (C2 [[0]] args)
def HH:List PV->Tr
 | [.s (.sl c a 0 ds),.s (.int .u64 v),.s (.int .i64 b),.s (.bool neg),.s (.bool app)]=>.need (ltN v 65536) (.need (b==(16:Int)) (.need (not neg) (.need (not app) (.ret (.tup [.s (.sl true true 1 List.nil),.s (.str (P4 (b8 v)))]) []))))
 | _=>.fail
def TE(args:List PV):Tr:=HH (C2 [[0],[0],[0],[0],[0]] args)
def HN:List PV->Tr
 | [.s (.int .u64 v),.s (.int .i64 b)]=>.need (ltN v 65536) (.need (b==(16:Int)) (.ret (.s (.str (P4 (b8 v)))) []))
 | _=>.fail
def TR(args:List PV):Tr:=HN (C2 [[0],[0]] args)
def TF:List PV->Tr
 | [.s (.int .u64 v),.s (.int .i64 b)]=>.need (ltN v 65536) (.need (b==(16:Int)) (.ret (.s (.str (P4 (b8 v)))) []))
 | _=>.fail
def Ch0(args:List PV):Tr:=TF (C2 [[0],[0]] args)
def JA:List PV->Tr
 | [.s (.sl b a 1 l),.s (.str p)]=>.need (w8 l isS) (.need (A3 (a8 (ac6 (p4 elS l) p))) (.need (A3 (a8 l)) (.ret (.s (.str (ac6 (p4 elS l) p))) [])))
 | _=>.fail
def VH(args:List PV):Tr:=JA (C2 [[1],[0]] args)
def VD:List PV->Tr
 | [.s (.str s),.s (.str p)]=>.need (A3 (a8 s)) (.ret (.tup [.s (.str ((w6 s p)).1),.s (.str (((w6 s p)).2).1),.s (.bool (((w6 s p)).2).2)]) [])
 | _=>.fail
def Ay2(args:List PV):Tr:=VD (C2 [[0],[0]] args)
def Ay8:List PV->Tr
 | [.s (.sl b a 1 l)]=>.need (w8 l Xn) (.need (p9 (a8 l) 8) (.ret (.s (.str (K6 (p4 elN l)))) []))
 | _=>.fail
def Dq4(args:List PV):Tr:=Ay8 (C2 [[1]] args)
def Ay7:List PV->Tr
 | [.agg [.s (.int .u16 a),.s (.int .u16 b),.s (.int .u16 c),.s (.int .u16 d),.s (.int .u16 e),.s (.int .u16 f),.s (.int .u16 g),.s (.int .u16 h)]]=>.need (ok8 a b c d e f g h) (.ret (.s (.str (Ak (n8 a b c d e f g h)))) [])
 | _=>.fail
def Dq3(args:List PV):Tr:=Ay7 (C2 [[0,0,0,0,0,0,0,0]] args)
def UO:List PV->Tr
 | [.s (.str s)]=>.need (A3 (a8 s)) (.ret (.tup [.s (.int .u16 (↑(N7 (grp s)):Int)),.s (.bool (j4 (grp s)))]) [])
 | _=>.fail
def Ci3(args:List PV):Tr:=UO (C2 [[0]] args)
def IE:List PV->Tr
 | [.s (.str s),.s (.bool last)]=>.need (A3 (a8 s)) (.ret (.tup [.s (.sl (j9 (gvs s last)) (j9 (gvs s last)) 1 (D2 (gvs s last))),.s (.bool (j4 (P2 s last)))]) [])
 | _=>.fail
def Bq1(args:List PV):Tr:=IE (C2 [[0],[0]] args)
def Ti:List PV->Tr
 | [.s (.str s)]=>.need (A3 (a8 s)) (.ret (.s (.int .i64 (KK s))) [])
 | _=>.fail
def PA(args:List PV):Tr:=Ti (C2 [[0]] args)
def VA:List PV->Tr
 | [.s (.str s)]=>.need (A3 (a8 s)) (.ret (.tup [.agg [.s (.int .u16 (↑(v6c 0 s):Int)),.s (.int .u16 (↑(v6c 1 s):Int)),.s (.int .u16 (↑(v6c 2 s):Int)),.s (.int .u16 (↑(v6c 3 s):Int)),.s (.int .u16 (↑(v6c 4 s):Int)),.s (.int .u16 (↑(v6c 5 s):Int)),.s (.int .u16 (↑(v6c 6 s):Int)),.s (.int .u16 (↑(v6c 7 s):Int))],.s (.bool (j4 (v6B s)))]) [])
 | _=>.fail
def Cj1(args:List PV):Tr:=VA (C2 [[0]] args)
def IG:List PV->Tr
 | [.s (.int .u16 v)]=>.need (ltN v 65536) (.ret (.s (.str (P4 (b8 v)))) [])
 | _=>.fail
def Bq3(args:List PV):Tr:=IG (C2 [[0]] args)
def UZ:List PV->Tr
 | [.agg [.s (.int .u16 a),.s (.int .u16 b),.s (.int .u16 c),.s (.int .u16 d),.s (.int .u16 e),.s (.int .u16 f),.s (.int .u16 g),.s (.int .u16 h)]]=>.need (ok8 a b c d e f g h) (.ret (.s (.str (Ak (n8 a b c d e f g h)))) [])
 | _=>.fail
def Cj0(args:List PV):Tr:=UZ (C2 [[0,0,0,0,0,0,0,0]] args)
def AC:List PV->Tr
 | [.s (.int .i64 n)]=>.ret (.s (.bool (ptI n))) []
 | _=>.fail
def Pa(args:List PV):Tr:=AC (C2 [[0]] args)
def AB:List PV->Tr
 | [.s (.int .i64 d),.s (.int .i64 c),.s (.bool f)]=>.need (ltN d 1152921504606846976) (.need (ltN c 1000000) (.need (ltI (0:Int) c) (.ret (.s (.int .i64 (↑(Q9 (b8 d) (b8 c) f):Int))) [])))
 | _=>.fail
def Oz(args:List PV):Tr:=AB (C2 [[0],[0],[0]] args)
def UG:List PV->Tr
 | [.s (.int .i64 d)]=>.need (ltN d 36) (.ret (.s (.int .u8 (↑(ai1 (Az (b8 d))):Int))) [])
 | _=>.fail
def Ax3(args:List PV):Tr:=UG (C2 [[0]] args)
def UK:List PV->Tr
 | [.s (.int .u8 b)]=>.need (inR b 256) (.ret (.s (.int .i64 (E3 (u8n b)))) [])
 | _=>.fail
def Ax5(args:List PV):Tr:=UK (C2 [[0]] args)
def UJ:List PV->Tr
 | [.s (.int .i64 b)]=>.ret (.fnr (y9 253) [] [.ptr 1 0 0,.ptr 0 0 0]) [.box [.s (.int .i64 b)],.box [.s (.int .i64 (0:Int))]]
 | _=>.fail
def IB(args:List PV):Tr:=UJ (C2 [[0]] args)
def Rc:List PV->List Blk->Tr
 | [.ptr 0 0 0,.ptr 1 0 0],[.box [.s (.int .i64 k)],.box [.s (.int .i64 b)]]=>.need (ltN k 1000000000000) (.need (ltN b 1000000) (.ret (.s (.int .i64 (L8 k b))) [.box [.s (.int .i64 (Int.add k (36:Int)))],.box [.s (.int .i64 b)]]))
 | _,_=>.fail
def UD:List PV->List Blk->Tr
 | [.fl 0,.s (.int .i64 q),.s (.int .i64 b)],[.arr z 5 1 l]=>.need (ltN q 1152921504606846976) (.need (ltN b 1000000) (.need (p9 (a8 l) 100000) (.ret (.fl 0) [.arr z 5 1 (List.append l (p4 E2 (Q0 (b8 q) 0 (b8 b))))])))
 | _,_=>.fail
def UH:List PV->Tr
 | [.s (.sl b a 1 p)]=>.need (w8 p Oj) (.ret (.tup [.s (.str ((X8 (p4 elI p))).1),.s (.int .i64 (↑((X8 (p4 elI p))).2:Int))]) [])
 | _=>.fail
def Ax4(args:List PV):Tr:=UH (C2 [[1]] args)
def VG:List PV->List Blk->Tr
 | [.fl 0,.s (.int .i64 i),.fl 1],[.arr z 3 1 l,.arr false 3 1 [[.int .i64 n]]]=>.need (ltN i (Nat.add (a8 l) 1)) (.need (p9 (a8 l) 100000) (.ret (.fl 0) [.arr z 3 1 (Mr l (b8 i) n),.arr false 3 1 [[.int .i64 n]]]))
 | _,_=>.fail
def TD:List PV->List Blk->Tr
 | [.ptr 0 0 0],[.box [.s (.str a),.fl 1,.s (.int .i64 n),.s (.int .i64 i),.s (.int .i64 b),.s (.bool c)],.arr z 3 1 l]=>.need (A3 (a8 a)) (.need (ltN b 1000000) (.need (ltN i 1099511627777) (.ret (.s (.int .i64 (LZ b a i))) [.box [.s (.str (MB b a i)),.fl 1,.s (.int .i64 n),.s (.int .i64 (Uw b a i)),.s (.int .i64 b),.s (.bool c)],.arr z 3 1 l])))
 | _,_=>.fail
def FR:List PV->List Blk->Tr
 | [.ptr 0 0 0],[.box [.s (.str a),.fl 1,.s (.int .i64 n),.s (.int .i64 i),.s (.int .i64 b),.s (.bool c)],.arr z 3 1 l]=>.need (A3 (a8 a)) (.need (ltN b 1000000) (.need (ltN i 1099511627777) (.need (ltN n 1152921504606846976) (.need (p9 (a8 l) 100000) (.ret (.s (.int .i64 ((F6 (DS.mk a n i b c l))).1)) [.box [.s (.str (DS.rest ((F6 (DS.mk a n i b c l))).2)),.fl 1,.s (.int .i64 (DS.n ((F6 (DS.mk a n i b c l))).2)),.s (.int .i64 (DS.i ((F6 (DS.mk a n i b c l))).2)),.s (.int .i64 (DS.b ((F6 (DS.mk a n i b c l))).2)),.s (.bool (DS.st ((F6 (DS.mk a n i b c l))).2))],.arr z 3 1 (DS.l ((F6 (DS.mk a n i b c l))).2)])))))
 | _,_=>.fail
def Zx:List PV->Tr
 | [.s (.str s),.s (.int .u8 c)]=>.need (A3 (a8 s)) (.need (inR c 256) (.ret (.s (.int .i64 (L2 (u8n c) s))) []))
 | _=>.fail
def Ad0(args:List PV):Tr:=Zx (C2 [[0],[0]] args)
def HQ:List PV->Tr
 | [.s (.str s),.s (.int .u8 c)]=>.need (A3 (a8 s)) (.need (inR c 256) (.ret (.s (.int .i64 (L2 (u8n c) s))) []))
 | _=>.fail
def FS(args:List PV):Tr:=HQ (C2 [[0],[0]] args)
def UF:List PV->Tr
 | [.s (.str s)]=>.need (A3 (a8 s)) (.ret (.tup [.s (.sl (j9 ((O4 s)).1) (j9 ((O4 s)).1) 1 (My ((O4 s)).1)),.s (.int .i64 (↑((O4 s)).2:Int))]) [])
 | _=>.fail
def Ch9(args:List PV):Tr:=UF (C2 [[0]] args)
def Ac6:List PV->Tr
 | [.s (.str t)]=>.fail
 | _=>.fail
def Vz(args:List PV):Tr:=Ac6 (C2 [[0]] args)
def HV:List PV->Tr
 | [.s (.str t),.s (.str p),.s (.int .i64 n)]=>.ret (.fnr (y9 177) [] [.ptr 1 0 0,.ptr 0 0 0,.ptr 2 0 0]) [.box [.s (.str t)],.box [.s (.str p)],.box [.s (.int .i64 n)]]
 | _=>.fail
def TY(args:List PV):Tr:=HV (C2 [[0],[0],[0]] args)
def VI:List PV->Tr
 | [.s (.str t),.s (.str p)]=>.ret (.fnr (y9 177) [] [.ptr 1 0 0,.ptr 0 0 0,.ptr 2 0 0]) [.box [.s (.str t)],.box [.s (.str p)],.box [.s (.int .i64 (0:Int))]]
 | _=>.fail
def Ay3(args:List PV):Tr:=VI (C2 [[0],[0]] args)
def FU:List PV->List Blk->Option (Bool × List (List PV))
 | [.yd,.ptr 0 0 0,.ptr 1 0 0,.ptr 2 0 0],[.box [.s (.str p)],.box [.s (.str t)],.box [.s (.int .i64 n)]]=>some (((A3 (a8 t))&&(((a8 p)==1)&&(n==(0:Int)))),p4 (λ(x:By)=>([.s (.str x)]:List PV)) (pcs (b9 p 0 0) t))
 | _,_=>none
def AF:List PV->Tr
 | [.s (.int .i64 n)]=>.ret (.s (.bool (ptI n))) []
 | _=>.fail
def Wa(args:List PV):Tr:=AF (C2 [[0]] args)
def AD:List PV->Tr
 | [.s (.int .i64 d),.s (.int .i64 c),.s (.bool f)]=>.need (ltN d 1152921504606846976) (.need (ltN c 1000000) (.need (ltI (0:Int) c) (.ret (.s (.int .i64 (↑(Q9 (b8 d) (b8 c) f):Int))) [])))
 | _=>.fail
def IC(args:List PV):Tr:=AD (C2 [[0],[0],[0]] args)
def UU:List PV->Tr
 | [.s (.int .i64 k),.s (.int .i64 b)]=>.need (ltN k 10000000000) (.need (ltN b 1000000) (.ret (.s (.int .i64 (L8 (Int.mul (36:Int) k) b))) []))
 | _=>.fail
def Ay0(args:List PV):Tr:=UU (C2 [[0],[0]] args)
def ID:List PV->Tr
 | [.s (.int .i64 d)]=>.need (ltN d 36) (.ret (.s (.int .u8 (↑(ai1 (Az (b8 d))):Int))) [])
 | _=>.fail
def Bq0(args:List PV):Tr:=ID (C2 [[0]] args)
def VB:List PV->Tr
 | [.s (.int .u8 b)]=>.need (inR b 256) (.ret (.s (.int .i64 (E3 (u8n b)))) [])
 | _=>.fail
def Cj2(args:List PV):Tr:=VB (C2 [[0]] args)
def UN:List PV->Tr
 | [.s (.sl b a 1 p)]=>.need (w8 p Oj) (.ret (.tup [.s (.str ((X8 (p4 elI p))).1),.s (.int .i64 (↑((X8 (p4 elI p))).2:Int))]) [])
 | _=>.fail
def Ax6(args:List PV):Tr:=UN (C2 [[1]] args)
def IM:List PV->Tr
 | [.s (.str s)]=>.need (A3 (a8 s)) (.ret (.tup [.s (.sl (j9 ((O4 s)).1) (j9 ((O4 s)).1) 1 (My ((O4 s)).1)),.s (.int .i64 (↑((O4 s)).2:Int))]) [])
 | _=>.fail
def Bq7(args:List PV):Tr:=IM (C2 [[0]] args)
def HT:List PV->Tr
 | [.s (.str s)]=>.need (A3 (a8 s)) (.ret (.s (.bool (Ek s))) [])
 | _=>.fail
def Bp5(args:List PV):Tr:=HT (C2 [[0]] args)
def UB:List PV->Tr
 | [.s (.str s)]=>.need (A3 (a8 s)) (.ret (.s (.bool (K5 s))) [])
 | _=>.fail
def UA(args:List PV):Tr:=UB (C2 [[0]] args)
def AO:List PV->Tr
 | [.s (.str s)]=>.need (A3 (a8 s)) (.ret (.s (.bool (j4 (Dc s)))) [])
 | _=>.fail
def Ad8(args:List PV):Tr:=AO (C2 [[0]] args)
def AM:List PV->Tr
 | [.s (.str s)]=>.need (A3 (a8 s)) (.ret (.s (.int .i64 (↑(Lib.runeCountL s):Int))) [])
 | _=>.fail
def Ad6(args:List PV):Tr:=AM (C2 [[0]] args)
def TU:List PV->Tr
 | [.s (.str s)]=>.need (A3 (a8 s)) (.ret (.tup [.s (.str ((I5 s)).1),.s (.int .i64 (↑((I5 s)).2:Int))]) [])
 | _=>.fail
def Ch7(args:List PV):Tr:=TU (C2 [[0]] args)
def UT:List PV->Tr
 | [.s (.str s)]=>.need (A3 (a8 s)) (.ret (.tup [.s (.sl (j9 (Sm s)) (j9 (Sm s)) 1 (My (Sm s))),.s (.bool (j4 (Dc s)))]) [])
 | _=>.fail
def Ci6(args:List PV):Tr:=UT (C2 [[0]] args)
def IO:List PV->Tr
 | [.s (.str s)]=>.need (A3 (a8 s)) (.ret (.s (.bool (Ek s))) [])
 | _=>.fail
def Bq9(args:List PV):Tr:=IO (C2 [[0]] args)
def IK:List PV->Tr
 | [.s (.str s)]=>.need (A3 (a8 s)) (.ret (.s (.bool (K5 s))) [])
 | _=>.fail
def UR(args:List PV):Tr:=IK (C2 [[0]] args)
def IJ:List PV->Tr
 | [.s (.str s)]=>.need (A3 (a8 s)) (.ret (.tup [.s (.str ((I5 s)).1),.s (.int .i64 (↑((I5 s)).2:Int))]) [])
 | _=>.fail
def Bq6(args:List PV):Tr:=IJ (C2 [[0]] args)
def TK:List PV->Tr
 | [.s (.int .u8 b)]=>.need (inR b 256) (.ret (.s (.int .i64 (Fq (u8n b)))) [])
 | _=>.fail
def Ch4(args:List PV):Tr:=TK (C2 [[0]] args)
def TJ:List PV->Tr
 | [.s (.str s)]=>.need (A3 (a8 s)) (.ret (.tup [.s (.str (Fx s)),.s (.bool (j4 (R2 s)))]) [])
 | _=>.fail
def Ch3(args:List PV):Tr:=TJ (C2 [[0]] args)
def HL:List PV->Tr
 | [.s (.str s)]=>.need (A3 (a8 s)) (.need (Cp7 s) (.ret (.tup [.agg [.s (.int .i64 (↑(B4.kind ((Q4 s)).1):Int)),.s (.str (B4.name ((Q4 s)).1)),.s (.int .u32 (↑(B4.v4 ((Q4 s)).1):Int)),.s (.int .u16 (↑(b9 (B4.v6 ((Q4 s)).1) 0 0):Int)),.s (.int .u16 (↑(b9 (B4.v6 ((Q4 s)).1) 1 0):Int)),.s (.int .u16 (↑(b9 (B4.v6 ((Q4 s)).1) 2 0):Int)),.s (.int .u16 (↑(b9 (B4.v6 ((Q4 s)).1) 3 0):Int)),.s (.int .u16 (↑(b9 (B4.v6 ((Q4 s)).1) 4 0):Int)),.s (.int .u16 (↑(b9 (B4.v6 ((Q4 s)).1) 5 0):Int)),.s (.int .u16 (↑(b9 (B4.v6 ((Q4 s)).1) 6 0):Int)),.s (.int .u16 (↑(b9 (B4.v6 ((Q4 s)).1) 7 0):Int))],.s (.int .i64 (↑((Q4 s)).2:Int))]) []))
 | _=>.fail
def Bp2(args:List PV):Tr:=HL (C2 [[0]] args)
def Zw:List PV->Tr
 | [.s (.str s)]=>.need (A3 (a8 s)) (.ret (.tup [.agg [.s (.int .i64 (↑(B4.kind ((C3 s)).1):Int)),.s (.str (B4.name ((C3 s)).1)),.s (.int .u32 (↑(B4.v4 ((C3 s)).1):Int)),.s (.int .u16 (↑(b9 (B4.v6 ((C3 s)).1) 0 0):Int)),.s (.int .u16 (↑(b9 (B4.v6 ((C3 s)).1) 1 0):Int)),.s (.int .u16 (↑(b9 (B4.v6 ((C3 s)).1) 2 0):Int)),.s (.int .u16 (↑(b9 (B4.v6 ((C3 s)).1) 3 0):Int)),.s (.int .u16 (↑(b9 (B4.v6 ((C3 s)).1) 4 0):Int)),.s (.int .u16 (↑(b9 (B4.v6 ((C3 s)).1) 5 0):Int)),.s (.int .u16 (↑(b9 (B4.v6 ((C3 s)).1) 6 0):Int)),.s (.int .u16 (↑(b9 (B4.v6 ((C3 s)).1) 7 0):Int))],.s (.int .i64 (↑((C3 s)).2:Int))]) [])
 | _=>.fail
def Ac9(args:List PV):Tr:=Zw (C2 [[0]] args)
def Aw8:List PV->Tr
 | [.s (.str s)]=>.need (A3 (a8 s)) (.ret (.s (.bool (Av s))) [])
 | _=>.fail
def Ch6(args:List PV):Tr:=Aw8 (C2 [[0]] args)
def TQ:List PV->Tr
 | [.agg [.s (.int .i64 j),.s (.str i),.s (.int .u32 v4),.s (.int .u16 a),.s (.int .u16 b),.s (.int .u16 c),.s (.int .u16 d),.s (.int .u16 e),.s (.int .u16 f),.s (.int .u16 g),.s (.int .u16 h)]]=>.need (A3 (a8 i)) (.need (ltN v4 4294967296) (.need (ok8 a b c d e f g h) (.ret (.s (.bool (K8 (mkH j i v4 (n8 a b c d e f g h))))) [])))
 | _=>.fail
def TP(args:List PV):Tr:=TQ (C2 [[0,0,0,0,0,0,0,0,0,0,0]] args)
def TM:List PV->Tr
 | [.agg [.s (.int .i64 j),.s (.str i),.s (.int .u32 v4),.s (.int .u16 a),.s (.int .u16 b),.s (.int .u16 c),.s (.int .u16 d),.s (.int .u16 e),.s (.int .u16 f),.s (.int .u16 g),.s (.int .u16 h)]]=>.need (A3 (a8 i)) (.need (ltN v4 4294967296) (.need (ok8 a b c d e f g h) (.ret (.s (.str (R9 (mkH j i v4 (n8 a b c d e f g h))))) [])))
 | _=>.fail
def Aw7(args:List PV):Tr:=TM (C2 [[0,0,0,0,0,0,0,0,0,0,0]] args)
def TH:List PV->Tr
 | [.s (.str p),.s (.str s)]=>.need (A3 (a8 p)) (.need (A3 (a8 s)) (.ret (.s (.bool (Mj p s))) []))
 | _=>.fail
def Ch2(args:List PV):Tr:=TH (C2 [[0],[0]] args)
def Ax7:List PV->Tr
 | [.s (.int .u8 b)]=>.need (inR b 256) (.ret (.s (.int .i64 (Fq (u8n b)))) [])
 | _=>.fail
def Dq0(args:List PV):Tr:=Ax7 (C2 [[0]] args)
def IF:List PV->Tr
 | [.s (.str s)]=>.need (A3 (a8 s)) (.ret (.tup [.s (.str (Fx s)),.s (.bool (j4 (R2 s)))]) [])
 | _=>.fail
def Bq2(args:List PV):Tr:=IF (C2 [[0]] args)
def Tk:List PV->Tr
 | [.s (.str s)]=>.need (A3 (a8 s)) (.ret (.tup [.agg [.s (.int .i64 (↑(B4.kind ((C3 s)).1):Int)),.s (.str (B4.name ((C3 s)).1)),.s (.int .u32 (↑(B4.v4 ((C3 s)).1):Int)),.s (.int .u16 (↑(b9 (B4.v6 ((C3 s)).1) 0 0):Int)),.s (.int .u16 (↑(b9 (B4.v6 ((C3 s)).1) 1 0):Int)),.s (.int .u16 (↑(b9 (B4.v6 ((C3 s)).1) 2 0):Int)),.s (.int .u16 (↑(b9 (B4.v6 ((C3 s)).1) 3 0):Int)),.s (.int .u16 (↑(b9 (B4.v6 ((C3 s)).1) 4 0):Int)),.s (.int .u16 (↑(b9 (B4.v6 ((C3 s)).1) 5 0):Int)),.s (.int .u16 (↑(b9 (B4.v6 ((C3 s)).1) 6 0):Int)),.s (.int .u16 (↑(b9 (B4.v6 ((C3 s)).1) 7 0):Int))],.s (.int .i64 (↑((C3 s)).2:Int))]) [])
 | _=>.fail
def PB(args:List PV):Tr:=Tk (C2 [[0]] args)
def UP:List PV->Tr
 | [.s (.str s)]=>.need (A3 (a8 s)) (.ret (.s (.bool (Av s))) [])
 | _=>.fail
def Ci4(args:List PV):Tr:=UP (C2 [[0]] args)
def II:List PV->Tr
 | [.agg [.s (.int .i64 j),.s (.str i),.s (.int .u32 v4),.s (.int .u16 a),.s (.int .u16 b),.s (.int .u16 c),.s (.int .u16 d),.s (.int .u16 e),.s (.int .u16 f),.s (.int .u16 g),.s (.int .u16 h)]]=>.need (A3 (a8 i)) (.need (ltN v4 4294967296) (.need (ok8 a b c d e f g h) (.ret (.s (.bool (K8 (mkH j i v4 (n8 a b c d e f g h))))) [])))
 | _=>.fail
def Bq5(args:List PV):Tr:=II (C2 [[0,0,0,0,0,0,0,0,0,0,0]] args)
def IH:List PV->Tr
 | [.agg [.s (.int .i64 j),.s (.str i),.s (.int .u32 v4),.s (.int .u16 a),.s (.int .u16 b),.s (.int .u16 c),.s (.int .u16 d),.s (.int .u16 e),.s (.int .u16 f),.s (.int .u16 g),.s (.int .u16 h)]]=>.need (A3 (a8 i)) (.need (ltN v4 4294967296) (.need (ok8 a b c d e f g h) (.ret (.s (.str (R9 (mkH j i v4 (n8 a b c d e f g h))))) [])))
 | _=>.fail
def Bq4(args:List PV):Tr:=IH (C2 [[0,0,0,0,0,0,0,0,0,0,0]] args)
def Zy:List PV->Tr
 | [.s (.int .i64 n),.s (.sl b a 1 l)]=>.need (w8 l isS) (.need (A3 (a8 l)) (.ret (.s (.bool (Cx n (p4 elS l)))) []))
 | _=>.fail
def Ad1(args:List PV):Tr:=Zy (C2 [[0],[1]] args)
end
section
variable {Z R : Type} (Y : Nat) (W : G2) (Q : Yh Z) (s : Z) (k : Out -> St Z -> Option R)
noncomputable def WM(Y:Nat):Cfg:=B7 Y [140] (A2 []) [] (A2 [(1,[6]),(0,[3,0,0])]) [] (A2 []) (some [6]) [] [] []
noncomputable def Cq8{R:Type}(Y:Nat)(d b:By)(a:Int)(c:By->By->Int->Option R):Option R:=c d b a
theorem Cq9(d:Nat)(a sep1 sepSave2):evC (WM Y) (d+1) Z Q 140 [pS a,pS sep1,pI sepSave2] [] s=Cq8 Y a sep1 sepSave2 (λa c b=>some (.fnr (y9 177) [] [.ptr 1 0 0,.ptr 0 0 0,.ptr 2 0 0],[.box [pS a],.box [pS c],.box [pI b]],s)):=by refine(evE (fn:=Tryz.f140) (by kernel_rfl)).trans ?_;generalize evC (WM Y) d=W;unfold Cq8;kernel_rfl
noncomputable def A19(Y:Nat):Cfg:=B7 Y [103] (A2 []) [(140,TY)] (A2 [(1,[4]),(0,[0,0])]) [] (A2 []) (some [4]) [] [] []
noncomputable def Dw7{R:Type}(Y:Nat)(c a:By)(b:By->By->Option R):Option R:=b c a
theorem Dj7(d:Nat)(a sep1):evC (A19 Y) (d+1) Z Q 103 [pS a,pS sep1] [] s=Dw7 Y a sep1 (λa b=>some (.fnr (y9 177) [] [.ptr 1 0 0,.ptr 0 0 0,.ptr 2 0 0],[.box [pS a],.box [pS b],.box [pI (0:Int)]],s)):=by refine(evE (fn:=Tryz.f103) (by kernel_rfl)).trans ?_;generalize evC (A19 Y) d=W;unfold Dw7;kernel_rfl
noncomputable abbrev PK:Code:=C7 af5
noncomputable def Po(Y:Nat):Cfg:=B7 Y [65] (A2 []) [(102,Rb),(103,Ay3),(104,UA)] (A2 [(7,[2]),(6,[2]),(5,[2,13]),(4,[2,0]),(3,[2,9]),(2,[2]),(1,[0,1,7]),(0,[0,1])]) [102,104] (A2 [(0,[2]),(1,[2])]) (some [2]) [] [(177,FU)] []
noncomputable def GF{R:Type}(Y:Nat)(a:By)(xs:List By)(self:Unit->Option R)(c:Unit->Option R)(b:Unit->Option R):Option R:=cond (A3 a.length) (cond (not (K5 a)) (b ()) (self ())) none
noncomputable def LC{R:Type}(Y:Nat)(L:List By)(b:Unit->Option R)(c:Unit->Option R):Option R:=D45 (α:=Unit->Option R) (λ_=>b ()) (λa xs self _=>GF Y a xs self  b c) L ()
theorem Ai7{R:Type}(Y:Nat)(a:By)(xs:List By)(b:Unit->Option R)(c:Unit->Option R):LC Y (a::xs)  b c=GF Y a xs (λ_=>LC Y xs  b c)  b c:=rfl
theorem B33(L:List By):Bh #[13] (gp [(2,.ptr 0 0 0),(9,.fnr (y9 177) [] [.bad,.bad,.bad])] 4) (bd (Po Y) W Q (cd [1,1,0,1,0,0] PK)) (bd (Po Y) W Q (cd [1,1,0,1,0,1] PK)) (L.map (λ(a:By)=>([pS a]:List PV))) [.box [pB false],.dead,.dead,.dead] s (rgK (gp [(2,.ptr 0 0 0),(9,.fnr (y9 177) [] [.bad,.bad,.bad])] 4) (λH=>Bn H [2,1,3] [.box [.bad],.box [.bad],.box [.bad]]) k) =
 LC Y L  (λ_=>k .normal ⟨gp [(2,.ptr 0 0 0),(9,.fnr (y9 177) [] [.bad,.bad,.bad])] 4,[.box [pB false],.box [.bad],.box [.bad],.box [.bad]],s⟩) (λ_=>k .ret ⟨gp [(2,.ptr 0 0 0),(9,.fnr (y9 177) [] [.bad,.bad,.bad])] 4,[.box [pB false],.box [.bad],.box [.bad],.box [.bad]],s⟩):=by
 induction L with
 | nil=>rfl
 | cons a xs b=>rw[Ai7];unfold GF;exact(j2 (by kernel_rfl) (A0 (A0 rfl b) rfl))
noncomputable def XQ{R:Type}(Y:Nat)(a:By)(b:Unit->Option R)(c:Unit->Option R):Option R:=cond ((A3 a.length)&&((1==1)&&((0:Int)==0))) (LC Y (pcs (b9 ([46]:List UInt8) 0 0) a)  b c) none
abbrev Ai6(b:Code):Prop:=∀(k:Out->St Z->Option R) s0,A9 (Po Y) W Q b ⟨gp [(2,.ptr 0 0 0),(9,.fnr (y9 177) [] [.ptr 2 0 0,.ptr 1 0 0,.ptr 3 0 0])] 4,[.box [pB false],.box [pS s0],.box [pS ([46]:List UInt8)],.box [pI (0:Int)]],s⟩ k=XQ Y s0 (λ_=>k .normal ⟨gp [(2,.ptr 0 0 0),(9,.fnr (y9 177) [] [.bad,.bad,.bad])] 4,[.box [pB false],.box [.bad],.box [.bad],.box [.bad]],s⟩) (λ_=>k .ret ⟨gp [(2,.ptr 0 0 0),(9,.fnr (y9 177) [] [.bad,.bad,.bad])] 4,[.box [pB false],.box [.bad],.box [.bad],.box [.bad]],s⟩)
theorem B32:Ai6 (R:=R) Y W Q s (cd [1,1,0,1,0] PK):=by intro k a;unfold XQ;exact((D32 [1,1,0,1,0] (by kernel_rfl)).trans (by kernel_rfl)).trans (A84 (B33 Y W Q s k (pcs (b9 ([46]:List UInt8) 0 0) a) ))
noncomputable def hvn{R:Type}(Y:Nat)(a:By)(b:Unit->Option R)(c:Bool->Bool->Option R):Option R:=cond (ltI 253 (a.length:Int)) (b ()) (cond (A3 a.length) (cond (E9 a) (b ()) (XQ Y a (λ_=>c true true) (λ_=>c false false))) none)
theorem Dt9(a:Code)(c:Ai6 (R:=PV × List Blk × Z) Y W Q s a)(b:By):A9 (Po Y) W Q (cd [] (G7 [1,1,0,1,0] a PK)) ⟨[pS b]++tps 16,[],s⟩ (F3 (Po Y) af5)=hvn Y b (λ_=>some (pB false,[.box [pB false]],s)) (λe d=>some (pB e,[.box [pB d],.box [.bad],.box [.bad],.box [.bad]],s)):=by unfold hvn;exact(j2 (by kernel_rfl) (A0 rfl (A0 (A0 rfl ((c (E4 0 (E1 (Po Y) W Q (cd [1,1,1] PK) (F3 (Po Y) af5))) b).trans (by kernel_rfl))) rfl)))
theorem Du0(d:Nat)(name0):evC (Po Y) (d+1) Z Q 65 [pS name0] [] s=hvn Y name0 (λ_=>some (pB false,[.box [pB false]],s)) (λb a=>some (pB b,[.box [pB a],.box [.bad],.box [.bad],.box [.bad]],s)):=
 (evE (fn:=af5) (by kernel_rfl)).trans (j2 (by kernel_rfl) (Dt9 Y (evC (Po Y) d) Q s (cd [1,1,0,1,0] PK) (B32 Y (evC (Po Y) d) Q s) name0))
noncomputable abbrev Wh:Code:=C7 ae1
noncomputable def Bd(Y:Nat):Cfg:=B7 Y [177] (A2 [(5,[0,0,0,0]),(1,[0,1])]) [(178,Vz),(179,IX)] (A2 [(10,[]),(9,[0,0,0,0]),(8,[0,0,0,0,3,34]),(7,[0,0,0,0,3,0]),(6,[0,0,0,0,3,25]),(5,[0,0,0,0,3]),(4,[0,1]),(3,[0,1,3,18]),(2,[0,1,3]),(1,[0,1,11]),(0,[0,0,0,0,7])]) [179] (A2 [(2,[0,1]),(3,[0,0,0,0]),(0,[]),(1,[0,1])]) (some []) [] [] []
noncomputable def NL{Z R:Type}(Q:Yh Z)(Y n:Nat)(d a:By)(c:Int)(s:Z)(b:By->By->Int->Z->Option R):Option R:=match n with|0=>none|n+1=>cond (ltI 0 (a.length:Int)) none (b d a c s)
theorem At4(n:Nat)(b c:By)(a:Int)(s:Z):D0 3 ((Bd Y).keep 1) (bd (Bd Y) W Q (cd [0,1,0,0,0,0] Wh)) n ⟨gp [(0,.yd),(1,.ptr 1 0 0)] 49,[.box [pS b],.box [pS c],.box [pI a]],s⟩ k =
 NL Q Y n b c a s (λb c a s=>k (.exit 0) ⟨gp [] 52,[.box [pS b],.box [pS c],.box [pI a]],s⟩):=by
 induction n generalizing b c a s with
 | zero=>rfl
 | succ n d=>rw[NL];kernel_rfl
noncomputable def U7{Z R:Type}(Q:Yh Z)(Y n:Nat)(c a:By)(g:Int)(s:Z)(i:By->By->Int->Z->Option R)(j:By->By->Int->Z->Option R):Option R:=match n with
 | 0=>none
 | n+1=>
  cond (A3 a.length)
   (cond (ltI (x9 a c) (0:Int))
   (i c a g s)
   (vl (A1 ((x9 a c)+g)) λe=>
    cond (I9 0 e a.length)
    (ydK (Q [pS (cut a 0 e)] s) λd b=>
     (cond (not d)
     (j c a g b)
     (vl (A1 ((x9 a c)+(c.length:Int))) λf=>
      cond (I9 f (a.length:Int) a.length)
      (vl (cut a f (a.length:Int)) λh=>
       U7 Q Y n c h g b i j)
      none)))
    none))
   none
theorem At5(n:Nat)(b c:By)(a:Int)(s:Z):D0 3 ((Bd Y).keep 5) (bd (Bd Y) W Q (cd [1,0,0,0] Wh)) n ⟨gp [(0,.yd),(0,.ptr 0 0 0),(0,.ptr 1 0 0),(0,.ptr 2 0 0)] 48,[.box [pS b],.box [pS c],.box [pI a]],s⟩ k =
 U7 Q Y n b c a s (λb c a s=>k (.exit 2) ⟨gp [(0,.yd),(1,.ptr 1 0 0)] 49,[.box [pS b],.box [pS c],.box [pI a]],s⟩) (λb c a s=>k .ret ⟨gp [] 52,[.box [pS b],.box [pS c],.box [pI a]],s⟩):=by
 induction n generalizing b c a s with
 | zero=>rfl
 | succ n d=>rw[U7];simp only[<-d];kernel_rfl
noncomputable def At3{Z R:Type}(Q:Yh Z)(Y:Nat)(p t:By)(n:Int)(s:Z)(j:By->By->Int->Z->Option R):Option R:=
 cond ((p.length:Int)==0)
 (NL Q Y Y p t n s (λm o l q=>j m o l q))
 (U7 Q Y Y p t n s (λr a c e=>ydK (Q [pS a] e) λi b=>
  (j r a c b)) (λf g d h=>j f g d h))
theorem Cy9(d:Nat)(p t n s):evC (Bd Y) (d+1) Z Q 177 [.yd,.ptr 0 0 0,.ptr 1 0 0,.ptr 2 0 0] [.box [pS p],.box [pS t],.box [pI n]] s=At3 Q Y p t n s (λb c a s=>some (.tup [],[.box [pS b],.box [pS c],.box [pI a]],s)):=by refine(evE (fn:=ae1) (by kernel_rfl)).trans ?_;generalize evC (Bd Y) d=W;unfold At3;exact(j2 (by kernel_rfl) (A0 ((At4 Y W Q (E4 0 (E1 (Bd Y) W Q (cd [0,1,0,1] Wh) (E1 (Bd Y) W Q (cd [1] Wh) (F3 (Bd Y) ae1)))) Y p t n s).trans (by kernel_rfl)) ((At5 Y W Q (E4 2 (E1 (Bd Y) W Q (cd [1,1] Wh) (F3 (Bd Y) ae1))) Y p t n s).trans (by kernel_rfl))))
end
section
variable {Z R : Type} (L : Nat) (Q : G2) (Y : Yh Z) (s : Z) (k : Out -> St Z -> Option R)
noncomputable abbrev Dg:Code:=C7 ae6
noncomputable def Am(L:Nat):Cfg:=B7 L [254] (A2 [(5,[0,1,0,0,10,0])]) [] (A2 [(16,[2,0]),(15,[0,3,10,0]),(10,[0,3,10,0]),(12,[0,3,10,0]),(14,[0,3,10,0]),(8,[2,0]),(13,[0,3,1,8,0,32]),(11,[0,3,1,8,0,18]),(9,[0,3,1,8,0,5]),(7,[0,3,1,8,0]),(6,[0,3,0,9,0]),(5,[0,3,10,0,0]),(4,[0,3,10,0]),(3,[0,3]),(2,[2,0]),(1,[0,12]),(0,[0])]) [] (A2 [(0,[4]),(1,[0,3,10,0]),(2,[0,3,10,0])]) (some [2,0]) [] [] []
noncomputable def Xb{R:Type}(i:By)(v1 c g h:Int)(d:Bool)(e:By->Int->Int->Int->Option R)(f:Unit->Option R):Option R:=cond d (vl (wu8 ((wu8 (c-65))+10)) λa=>vl (bOr .u16 (Sn .u16 v1 (4:Int)) (Eg a)) λb=>e i b g h) (f ())
abbrev QL(b:Code):Prop:=∀(k:Out->St Z->Option R) c v1 b2 a n4 b5,A9 (Am L) Q Y b ⟨gp [(0,pS c),(3,p16 v1),(1,p8 b2),(8,pI a),(0,pI n4),(32,pB b5)] 15,[],s⟩ k=Xb c v1 b2 a n4 b5 (λc v1 d a=>k .normal ⟨gp [(0,pS c),(3,p16 v1),(10,pI d),(0,pI a)] 48,[],s⟩) (λ_=>k .ret ⟨gp [(2,p16 (0:Int)),(0,pB false)] 61,[],s⟩)
theorem A46:QL (R:=R) L Q Y s (cd [1,1,1,0,1,0,0,1,1,0,0,1,1,0,1,1,1,1,1] Dg):=by intro k e v1 a c d b;unfold Xb;kernel_rfl
noncomputable def Xc{R:Type}(o:By)(v1 a l m:Int)(r:Bool)(f:By->Int->Int->Int->Option R)(q:Unit->Option R):Option R:=cond r (vl (wu8 ((wu8 (a-97))+10)) λg=>vl (bOr .u16 (Sn .u16 v1 (4:Int)) (Eg g)) λh=>f o h l m) (cond (not (ltI a 65)) (Xb o v1 a l m (not (ltI 70 a)) (λn p i j=>f n p i j) (λ_=>q ())) (Xb o v1 a l m false (λd e b c=>f d e b c) (λ_=>q ())))
abbrev BW(b:Code):Prop:=∀(k:Out->St Z->Option R) c v1 b2 a n4 b5,A9 (Am L) Q Y b ⟨gp [(0,pS c),(3,p16 v1),(1,p8 b2),(8,pI a),(0,pI n4),(18,pB b5)] 29,[],s⟩ k=Xc c v1 b2 a n4 b5 (λc v1 d a=>k .normal ⟨gp [(0,pS c),(3,p16 v1),(10,pI d),(0,pI a)] 48,[],s⟩) (λ_=>k .ret ⟨gp [(2,p16 (0:Int)),(0,pB false)] 61,[],s⟩)
theorem A47(a:Code)(b:QL (R:=R) L Q Y s a):BW (R:=R) L Q Y s (cd [1,1,1,0,1,0,0,1,1,0,0,1,1,0,1,1,1] (G7 [1,1,1,0,1,0,0,1,1,0,0,1,1,0,1,1,1,1,1] a Dg)):=by intro k g v1 c e f d;unfold Xc;simp only[<-b k];kernel_rfl
theorem A48:BW (R:=R) L Q Y s (cd [1,1,1,0,1,0,0,1,1,0,0,1,1,0,1,1,1] Dg):=by intro k e v1 a c d b;exact j2 (by kernel_rfl) (A47 L Q Y s (cd [1,1,1,0,1,0,0,1,1,0,0,1,1,0,1,1,1,1,1] Dg) (A46 L Q Y s) k e v1 a c d b)
noncomputable def Xd{R:Type}(p:By)(v1 a n o:Int)(r:Bool)(j:By->Int->Int->Int->Option R)(q:Unit->Option R):Option R:=cond r (vl (Eg (wu8 (a-48))) λl=>vl (bOr .u16 (Sn .u16 v1 (4:Int)) l) λm=>j p m n o) (cond (not (ltI a 97)) (Xc p v1 a n o (not (ltI 102 a)) (λf h b c=>j f h b c) (λ_=>q ())) (Xc p v1 a n o false (λg i d e=>j g i d e) (λ_=>q ())))
abbrev Ro(b:Code):Prop:=∀(k:Out->St Z->Option R) c v1 b2 a n4 b5,A9 (Am L) Q Y b ⟨gp [(0,pS c),(3,p16 v1),(1,p8 b2),(8,pI a),(0,pI n4),(5,pB b5)] 42,[],s⟩ k=Xd c v1 b2 a n4 b5 (λc v1 d a=>k .normal ⟨gp [(0,pS c),(3,p16 v1),(10,pI d),(0,pI a)] 48,[],s⟩) (λ_=>k .ret ⟨gp [(2,p16 (0:Int)),(0,pB false)] 61,[],s⟩)
theorem A49(a:Code)(b:BW (R:=R) L Q Y s a):Ro (R:=R) L Q Y s (cd [1,1,1,0,1,0,0,1,1,0,0,1,1,0,1] (G7 [1,1,1,0,1,0,0,1,1,0,0,1,1,0,1,1,1] a Dg)):=by intro k g v1 c e f d;unfold Xd;simp only[<-b k];kernel_rfl
theorem A50:Ro (R:=R) L Q Y s (cd [1,1,1,0,1,0,0,1,1,0,0,1,1,0,1] Dg):=by intro k e v1 a c d b;exact j2 (by kernel_rfl) (A49 L Q Y s (cd [1,1,1,0,1,0,0,1,1,0,0,1,1,0,1,1,1] Dg) (A48 L Q Y s) k e v1 a c d b)
noncomputable def Fs{R:Type}(L n:Nat)(b:By)(v1 q a:Int)(o:Unit->Option R)(p:Int->Option R):Option R:=match n with|0=>none|n+1=>cond (ltI a q) (cond (inR a b.length) (cond (not (ltI (bAt b a) (48:Int))) (Xd b v1 (bAt b a) q a (not (ltI 57 (bAt b a))) (λi l c d=>vl (A1 (d+1)) λe=>Fs L n i l c e o p) (λ_=>o ())) (Xd b v1 (bAt b a) q a false (λj m f g=>vl (A1 (g+1)) λh=>Fs L n j m f h o p) (λ_=>o ()))) none) (p v1)
theorem A51(a:Code)(b:Ro (R:=R) L Q Y s a)(n:Nat)(d:By)(v1 i c:Int):D0 0 ((Am L).keep 5) (bd (Am L) Q Y (cd [1,1,1,0,1,0,0] (G7 [1,1,1,0,1,0,0,1,1,0,0,1,1,0,1] a Dg))) n ⟨gp [(0,pS d),(3,p16 v1),(10,pI i),(0,pI c)] 48,[],s⟩ k =
 Fs L n d v1 i c (λ_=>k .ret ⟨gp [(2,p16 (0:Int)),(0,pB false)] 61,[],s⟩) (λv0=>k (.exit 0) ⟨gp [(4,p16 v0)] 60,[],s⟩):=by
 induction n generalizing d v1 i c with
 | zero=>rfl
 | succ n q=>rw[Fs];exact let p:=(E4 2 (E4 1 (E1 (Am L) Q Y (cd [1,1,1,0,1,0,0,1,1,1] Dg) (lpK 0 ((Am L).keep 5) (bd (Am L) Q Y (cd [1,1,1,0,1,0,0] (G7 [1,1,1,0,1,0,0,1,1,0,0,1,1,0,1] a Dg))) n k))));(j2 (by kernel_rfl) (A0 (A0 (A0 ((b p d v1 (bAt d c) i c (not (ltI 57 (bAt d c)))).trans (congr (congr rfl (fx4 λj m e r=>(j2 (by kernel_rfl) (A4 λf=>(q j m e f))))) (by kernel_rfl))) ((b p d v1 (bAt d c) i c false).trans (congr (congr rfl (fx4 λl o g t=>(j2 (by kernel_rfl) (A4 λh=>(q l o g h))))) (by kernel_rfl)))) rfl) rfl))
noncomputable def Co4{R:Type}(L:Nat)(c:By)(b:Int->Bool->Option R):Option R:=cond (c==[]) (b 0 false) (cond (ltI 4 (c.length:Int)) (b 0 false) (Fs L L c 0 (c.length:Int) 0 (λ_=>b 0 false) (λa=>b a true)))
theorem Da1(a:Code)(b:Ro (R:=PV × List Blk × Z) L Q Y s a)(c:By):A9 (Am L) Q Y (cd [] (G7 [1,1,1,0,1,0,0,1,1,0,0,1,1,0,1] a Dg)) ⟨[pS c]++tps 64,[],s⟩ (F3 (Am L) ae6)=Co4 L c (λd e=>some (.tup [p16 d,pB e],[],s)):=by unfold Co4;exact(j2 (by kernel_rfl) (A0 rfl (A0 rfl ((A51 L Q Y s (E4 0 (E1 (Am L) Q Y (cd [1,1,1,1] Dg) (F3 (Am L) ae6))) a b L c 0 (c.length:Int) 0).trans (by kernel_rfl)))))
theorem Da2(d:Nat)(s0):evC (Am L) (d+1) Z Y 254 [pS s0] [] s=Co4 L s0 (λa b=>some (.tup [p16 a,pB b],[],s)):=
 (evE (fn:=ae6) (by kernel_rfl)).trans (j2 (by kernel_rfl) (Da1 L (evC (Am L) d) Y s (cd [1,1,1,0,1,0,0,1,1,0,0,1,1,0,1] Dg) (A50 L (evC (Am L) d) Y s) s0))
noncomputable abbrev Bs0:Code:=C7 ah2
noncomputable def Ma(L:Nat):Cfg:=B7 L [240] (A2 [(6,[1,2,0,0,0,10,0,0])]) [(176,Wc),(254,Ch1),(255,Dq2)] (A2 [(16,[4,0]),(15,[1,4,0,10,0,0]),(14,[6]),(13,[4,0]),(12,[6,5,39]),(11,[1,4,0,0,3,0]),(10,[1,4,0,10,0,0]),(9,[1,4,0,0,0,0,7,0,0,9]),(8,[1,4,0,0,0,0,0,6,0,0]),(7,[1,4,0,0,0,8,0,0]),(6,[1,4,0,10,0,0,0]),(5,[1,4,0,10,0,0]),(4,[1,4,0]),(3,[0,0,4]),(2,[4,0]),(1,[0,0,13]),(0,[0,0])]) [254,255] (A2 [(0,[6]),(1,[1,4,0,10,0,0])]) (some [4,0]) [] [] []
noncomputable def Et{R:Type}(L n:Nat)(a:Bool)(c:LL)(l b:Int)(d:LL)(f:LL->Option R)(g:LL->Option R):Option R:=match n with|0=>none|n+1=>cond (ltI b l) (cond (inR b c.length) (cond (okE Ov c (b8 b) 0) (cond (A3 (a8 (gX c (b8 b) 0))) (vl (↑(N7 (grp (gX c (b8 b) 0))):Int) λh=>cond (j4 (grp (gX c (b8 b) 0))) (cond (G1 (d.length+1)) (Et L n a c l (A1 (b+1)) (d++[[(SV.int .u16 h)]]) f g) none) (cond (A3 (a8 (gX c (b8 b) 0))) (vl (↑(N7 (v4B (gX c (b8 b) 0))):Int) λe=>cond (not (j4 (v4B (gX c (b8 b) 0)))) (f d) (cond (not a) (f d) (vl (A1 ((c.length:Int)-1)) λi=>cond (ltI b i) (f d) (vl (Qp .u32 e (16:Int)) λj=>cond (G1 (d.length+2)) (g (d++[[(SV.int .u16 (Eg j))],[(SV.int .u16 (Eg e))]])) none)))) none)) none) none) none) (g d)
theorem Ai0(n last0 l1 n2 n3 l4):D0 1 ((Ma L).keep 6) (bd (Ma L) Q Y (cd [1,0,1,1,1,1,0,1,0,0] Bs0)) n ⟨gp [(1,pB last0),(4,.fl 0),(0,.s (.sl false false 1 l1)),(10,.s (.sl false false 1 l1)),(0,pI n2),(0,pI n3)] 42,[.arr true 25 1 l4],s⟩ k =
 Et L n last0 l1 n2 n3 l4 (λa=>k .ret ⟨gp [(4,.fl 1),(0,pB false)] 57,[.arr true 25 1 a,.arr true 25 1 []],s⟩) (λa=>k (.exit 0) ⟨gp [(6,.fl 0)] 56,[.arr true 25 1 a],s⟩):=by
 induction n generalizing last0 l1 n2 n3 l4 with
 | zero=>rfl
 | succ n b=>rw[Et];simp only[<-b];kernel_rfl
noncomputable def Bt5{R:Type}(L:Nat)(e:By)(a:Bool)(f:LL->Option R)(g:LL->Option R):Option R:=cond (e==[]) (f []) (cond (A3 e.length) (cond (1==1) (vl (D5 (pcs (b9 ([58]:List UInt8) 0 0) e)) λb=>Et L L a b (b.length:Int) 0 [] (λd=>g d) (λc=>f c)) none) none)
theorem Co5(d:Nat)(s0 last1):evC (Ma L) (d+1) Z Y 240 [pS s0,pB last1] [] s=Bt5 L s0 last1 (λb=>some (.tup [.fl 0,pB true],[.arr true 25 1 b],s)) (λb=>some (.tup [.fl 1,pB false],[.arr true 25 1 b,.arr true 25 1 []],s)):=by refine(evE (fn:=ah2) (by kernel_rfl)).trans ?_;generalize evC (Ma L) d=Q;unfold Bt5;exact(j2 (by kernel_rfl) (A0 rfl (A0 (A0 (A4 λa=>((Ai0 L Q Y s (E4 0 (E1 (Ma L) Q Y (cd [1,0,1,1,1,1,1] Bs0) (F3 (Ma L) ah2))) L last1 a (a.length:Int) 0 []).trans (by kernel_rfl))) rfl) rfl)))
noncomputable abbrev Cl7:Code:=C7 ae4
noncomputable def DR(L:Nat):Cfg:=B7 L [219] (A2 []) [(73,Ay2),(240,Bp1)] (A2 [(10,[2,0]),(9,[2,1]),(8,[2,1,5]),(7,[2,0]),(6,[2,1,3,1,45]),(5,[2,1,2,0,0,0,0,0]),(4,[2,1,2,0,0,0,0]),(3,[2,1,1,0,0,0]),(2,[2,1,0,0,0]),(1,[0,1,1]),(0,[0,1])]) [73] (A2 []) (some [2,0]) [] [] []
noncomputable def Qv{R:Type}(p o d:LL)(q:LL->LL->Option R):Option R:=cond (decide (d.length=8)) (cond (decide (8<=d.length)) (vl ((y5 0 d)++((y5 8 p)++(ac9 (0+(min p.length 8)) d))) λc=>vl (A1 ((8:Int)-(o.length:Int))) λb=>cond (decide (c.length=8)) (cond (I9 b (8:Int) 8) (cond (decide (((b8 b)+(8-(b8 b)))<=c.length)) (vl ((y5 (b8 b) c)++((y5 (8-(b8 b)) o)++(ac9 ((b8 b)+(min o.length (8-(b8 b)))) c))) λa=>cond ((decide (8=(a.length*1)))&&(okS ⟨true,true,[.int .u16,.int .u16,.int .u16,.int .u16,.int .u16,.int .u16,.int .u16,.int .u16]⟩ (j0 a) 0)) (vl (SV.gI (b9 (j0 a) 0 SV.nilp)) λf=>vl (SV.gI (b9 (j0 a) 1 SV.nilp)) λg=>vl (SV.gI (b9 (j0 a) 2 SV.nilp)) λh=>vl (SV.gI (b9 (j0 a) 3 SV.nilp)) λi=>vl (SV.gI (b9 (j0 a) 4 SV.nilp)) λj=>vl (SV.gI (b9 (j0 a) 5 SV.nilp)) λl=>vl (SV.gI (b9 (j0 a) 6 SV.nilp)) λm=>vl (SV.gI (b9 (j0 a) 7 SV.nilp)) λn=>cond (decide (8=(d.length*1))) (vl (U4 1 d.length [(SV.int .u16 f),(SV.int .u16 g),(SV.int .u16 h),(SV.int .u16 i),(SV.int .u16 j),(SV.int .u16 l),(SV.int .u16 m),(SV.int .u16 n)]) λe=>q e a) none) none) none) none) none) none) none
abbrev Au8(b:Code):Prop:=∀(k:Out->St Z->Option R) x_z0 x1 y_z2 y3 b4 l5,A9 (DR L) Q Y b ⟨gp [(2,.ptr 0 0 0),(1,.ptr 1 0 0),(3,.s (.sl x_z0 x_z0 1 x1)),(1,.s (.sl y_z2 y_z2 1 y3)),(45,pB b4)] 11,[.arr false 26 1 l5,.arr false 26 1 l5],s⟩ k=Qv x1 y3 l5 (λa c=>k .ret ⟨gp [(2,.ptr 0 0 0),(0,pB true)] 64,[.arr false 26 1 a,.arr false 26 1 c],s⟩)
theorem Cf2:Au8 (R:=R) L Q Y s (cd [1,1,1,1,1,1,1] Cl7):=by intro k a e b f c d;unfold Qv;kernel_rfl
noncomputable def v6p{R:Type}(L:Nat)(h:By)(g:Int->Int->Int->Int->Int->Int->Int->Int->Bool->LL->LL->Option R):Option R:=cond (A3 h.length) (vl ((w6 h ([58,58]:List UInt8))).1 λj=>vl (((w6 h ([58,58]:List UInt8))).2).1 λe=>cond (A3 j.length) (vl (D2 (gvs j (not (((w6 h ([58,58]:List UInt8))).2).2))) λf=>cond (A3 e.length) (vl (A1 ((f.length:Int)+(↑(a8 (D2 (gvs e true))):Int))) λi=>cond (not (j4 (P2 j (not (((w6 h ([58,58]:List UInt8))).2).2)))) (g 0 0 0 0 0 0 0 0 false (j1 8 [(SV.int .u16 (0:Int))]) (j1 8 [(SV.int .u16 (0:Int))])) (cond (not (j4 (P2 e true))) (g 0 0 0 0 0 0 0 0 false (j1 8 [(SV.int .u16 (0:Int))]) (j1 8 [(SV.int .u16 (0:Int))])) (cond (not (((w6 h ([58,58]:List UInt8))).2).2) (cond (i !=8) (g 0 0 0 0 0 0 0 0 false (j1 8 [(SV.int .u16 (0:Int))]) (j1 8 [(SV.int .u16 (0:Int))])) (cond (((w6 h ([58,58]:List UInt8))).2).2 (cond (ltI 7 i) (g 0 0 0 0 0 0 0 0 false (j1 8 [(SV.int .u16 (0:Int))]) (j1 8 [(SV.int .u16 (0:Int))])) (Qv f (D2 (gvs e true)) (j1 8 [(SV.int .u16 (0:Int))]) (λa l=>cond ((decide (8=(a.length*1)))&&(okS ⟨true,true,[.int .u16,.int .u16,.int .u16,.int .u16,.int .u16,.int .u16,.int .u16,.int .u16]⟩ (j0 a) 0)) (g (SV.gI (b9 (j0 a) 0 SV.nilp)) (SV.gI (b9 (j0 a) 1 SV.nilp)) (SV.gI (b9 (j0 a) 2 SV.nilp)) (SV.gI (b9 (j0 a) 3 SV.nilp)) (SV.gI (b9 (j0 a) 4 SV.nilp)) (SV.gI (b9 (j0 a) 5 SV.nilp)) (SV.gI (b9 (j0 a) 6 SV.nilp)) (SV.gI (b9 (j0 a) 7 SV.nilp)) true a l) none))) (Qv f (D2 (gvs e true)) (j1 8 [(SV.int .u16 (0:Int))]) (λb m=>cond ((decide (8=(b.length*1)))&&(okS ⟨true,true,[.int .u16,.int .u16,.int .u16,.int .u16,.int .u16,.int .u16,.int .u16,.int .u16]⟩ (j0 b) 0)) (g (SV.gI (b9 (j0 b) 0 SV.nilp)) (SV.gI (b9 (j0 b) 1 SV.nilp)) (SV.gI (b9 (j0 b) 2 SV.nilp)) (SV.gI (b9 (j0 b) 3 SV.nilp)) (SV.gI (b9 (j0 b) 4 SV.nilp)) (SV.gI (b9 (j0 b) 5 SV.nilp)) (SV.gI (b9 (j0 b) 6 SV.nilp)) (SV.gI (b9 (j0 b) 7 SV.nilp)) true b m) none)))) (cond (((w6 h ([58,58]:List UInt8))).2).2 (cond (ltI 7 i) (g 0 0 0 0 0 0 0 0 false (j1 8 [(SV.int .u16 (0:Int))]) (j1 8 [(SV.int .u16 (0:Int))])) (Qv f (D2 (gvs e true)) (j1 8 [(SV.int .u16 (0:Int))]) (λc n=>cond ((decide (8=(c.length*1)))&&(okS ⟨true,true,[.int .u16,.int .u16,.int .u16,.int .u16,.int .u16,.int .u16,.int .u16,.int .u16]⟩ (j0 c) 0)) (g (SV.gI (b9 (j0 c) 0 SV.nilp)) (SV.gI (b9 (j0 c) 1 SV.nilp)) (SV.gI (b9 (j0 c) 2 SV.nilp)) (SV.gI (b9 (j0 c) 3 SV.nilp)) (SV.gI (b9 (j0 c) 4 SV.nilp)) (SV.gI (b9 (j0 c) 5 SV.nilp)) (SV.gI (b9 (j0 c) 6 SV.nilp)) (SV.gI (b9 (j0 c) 7 SV.nilp)) true c n) none))) (Qv f (D2 (gvs e true)) (j1 8 [(SV.int .u16 (0:Int))]) (λd o=>cond ((decide (8=(d.length*1)))&&(okS ⟨true,true,[.int .u16,.int .u16,.int .u16,.int .u16,.int .u16,.int .u16,.int .u16,.int .u16]⟩ (j0 d) 0)) (g (SV.gI (b9 (j0 d) 0 SV.nilp)) (SV.gI (b9 (j0 d) 1 SV.nilp)) (SV.gI (b9 (j0 d) 2 SV.nilp)) (SV.gI (b9 (j0 d) 3 SV.nilp)) (SV.gI (b9 (j0 d) 4 SV.nilp)) (SV.gI (b9 (j0 d) 5 SV.nilp)) (SV.gI (b9 (j0 d) 6 SV.nilp)) (SV.gI (b9 (j0 d) 7 SV.nilp)) true d o) none)))))) none) none) none
theorem Dy1(b:Code)(a:Au8 (R:=PV × List Blk × Z) L Q Y s b)(f:By):A9 (DR L) Q Y (cd [] (G7 [1,1,1,1,1,1,1] b Cl7)) ⟨[pS f]++tps 67,[],s⟩ (F3 (DR L) ae4)=v6p L f (λj l m n o p q r r8 i l10=>some (.tup [.agg [p16 j,p16 l,p16 m,p16 n,p16 o,p16 p,p16 q,p16 r],pB r8],[.arr false 26 1 i,.arr false 26 1 l10],s)):=by unfold v6p;exact let h:=(F3 (DR L) ae4);(j2 (by kernel_rfl) (A0 (A4 λe=>(A4 λc=>(A0 (A4 λd=>(A0 (A4 λg=>(A0 rfl (A0 rfl (A0 (A0 rfl (A0 (A0 rfl ((a h (j9 (gvs e (not (((w6 f ([58,58]:List UInt8))).2).2))) d (j9 (gvs c true)) (D2 (gvs c true)) (ltI 7 g) (j1 8 [(SV.int .u16 (0:Int))])).trans (by kernel_rfl))) ((a h (j9 (gvs e (not (((w6 f ([58,58]:List UInt8))).2).2))) d (j9 (gvs c true)) (D2 (gvs c true)) false (j1 8 [(SV.int .u16 (0:Int))])).trans (by kernel_rfl)))) (A0 (A0 rfl ((a h (j9 (gvs e (not (((w6 f ([58,58]:List UInt8))).2).2))) d (j9 (gvs c true)) (D2 (gvs c true)) (ltI 7 g) (j1 8 [(SV.int .u16 (0:Int))])).trans (by kernel_rfl))) ((a h (j9 (gvs e (not (((w6 f ([58,58]:List UInt8))).2).2))) d (j9 (gvs c true)) (D2 (gvs c true)) false (j1 8 [(SV.int .u16 (0:Int))])).trans (by kernel_rfl))))))) rfl)) rfl))) rfl))
theorem Dy2(d:Nat)(s0):evC (DR L) (d+1) Z Y 219 [pS s0] [] s=v6p L s0 (λb c e f g h i j r8 a l10=>some (.tup [.agg [p16 b,p16 c,p16 e,p16 f,p16 g,p16 h,p16 i,p16 j],pB r8],[.arr false 26 1 a,.arr false 26 1 l10],s)):=
 (evE (fn:=ae4) (by kernel_rfl)).trans (j2 (by kernel_rfl) (Dy1 L (evC (DR L) d) Y s (cd [1,1,1,1,1,1,1] Cl7) (Cf2 L (evC (DR L) d) Y s) s0))
noncomputable abbrev Ri:Code:=C7 ag7
noncomputable def Z8(L:Nat):Cfg:=B7 L [204] (A2 [(6,[1,0,0,0,0,0,0,0]),(3,[1,0,0,0,0,2])]) [] (A2 [(11,[2,0]),(10,[1,2,0,2]),(9,[1,2,0,2]),(8,[1,2,0,0,0,0,18]),(7,[1,2,0,0,0,0]),(6,[1,2,0,0,0,0,13]),(5,[1,2,0,0,0,0]),(4,[1,2,0,0,1]),(3,[1,2,0,2,0]),(2,[1,2,0,2]),(1,[1,2,0]),(0,[1])]) [] (A2 [(0,[4,0]),(1,[1,2,0,2]),(2,[1,2,0,0,0,0]),(3,[1,2,0,0,0,0])]) (some [2,0]) [] [] []
noncomputable def It{R:Type}(L n:Nat)(b a c d:Int)(e:LL)(f:Int->Int->Int->Int->LL->Option R):Option R:=match n with|0=>none|n+1=>cond (ltI (A1 (c+d)) (8:Int)) (cond (inR (A1 (c+d)) 8) (cond (okE ⟨true,false,[.int .u16]⟩ e (b8 (A1 (c+d))) 0) (vl (gE e (b8 (A1 (c+d))) 0) λg=>cond (g==0) (It L n b a c (A1 (d+1)) e f) (f b a c d e)) none) none) (f b a c d e)
theorem Aw1(n b a c e d):D0 1 ((Z8 L).keep 6) (bd (Z8 L) Q Y (cd [1,1,0,1,0,0,1,1,0,0,1,1,0,0,0] Ri)) n ⟨gp [(1,.ptr 0 0 0),(2,pI b),(0,pI a),(0,pI c),(0,pI e),(0,pI c)] 24,[.arr false 26 1 d],s⟩ k =
 It L n b a c e d (λb a c e d=>k (.exit 2) ⟨gp [(1,.ptr 0 0 0),(2,pI b),(0,pI a),(0,pI c),(0,pI e),(0,pI c)] 24,[.arr false 26 1 d],s⟩):=by
 induction n generalizing b a c e d with
 | zero=>rfl
 | succ n f=>rw[It];simp only[<-f];kernel_rfl
noncomputable def Fe{R:Type}(L n:Nat)(e b j:Int)(i:LL)(h:Int->Int->LL->Option R):Option R:=match n with|0=>none|n+1=>cond (ltI j 8) (It L L e b j 0 i (λd a c g f=>cond (ltI a g) (Fe L n c g (A1 (c+1)) f h) (Fe L n d a (A1 (c+1)) f h))) (h e b i)
theorem Aw2(n b a n2 l3):D0 1 ((Z8 L).keep 3) (bd (Z8 L) Q Y (cd [1,1,0,1,0,0] Ri)) n ⟨gp [(1,.ptr 0 0 0),(2,pI b),(0,pI a),(2,pI n2)] 24,[.arr false 26 1 l3],s⟩ k =
 Fe L n b a n2 l3 (λb a i=>k (.exit 0) ⟨gp [(4,pI b),(0,pI a)] 27,[.arr false 26 1 i],s⟩):=by
 induction n generalizing b a n2 l3 with
 | zero=>rfl
 | succ n h=>rw[Fe];exact(j2 (by kernel_rfl) (A0 ((Aw1 L Q Y s (E4 2 (E1 (Z8 L) Q Y (cd [1,1,0,1,0,0,1,1,0,0,1,1,1] Ri) (E4 1 (E1 (Z8 L) Q Y (cd [1,1,0,1,0,0,1,1,1] Ri) (lpK 1 ((Z8 L).keep 3) (bd (Z8 L) Q Y (cd [1,1,0,1,0,0] Ri)) n k))))) L b a n2 0 l3).trans (congr rfl (fx5 λe c d g f=>(j2 (by kernel_rfl) (A0 (h d g (A1 (d+1)) f) (h e c (A1 (d+1)) f)))))) rfl))
noncomputable def Bz8{R:Type}(L:Nat)(d e f g h i j l:Int)(m:Int->Int->LL->Option R):Option R:=Fe L L 0 0 0 [[(SV.int .u16 d)],[(SV.int .u16 e)],[(SV.int .u16 f)],[(SV.int .u16 g)],[(SV.int .u16 h)],[(SV.int .u16 i)],[(SV.int .u16 j)],[(SV.int .u16 l)]] (λb a c=>m b a c)
theorem C58(d:Nat)(a0 a1 a2 a3 a4 a5 a6 a7):evC (Z8 L) (d+1) Z Y 204 [.agg [p16 a0,p16 a1,p16 a2,p16 a3,p16 a4,p16 a5,p16 a6,p16 a7]] [] s=Bz8 L a0 a1 a2 a3 a4 a5 a6 a7 (λb c a=>some (.tup [pI b,pI c],[.arr false 26 1 a],s)):=by refine(evE (fn:=ag7) (by kernel_rfl)).trans ?_;generalize evC (Z8 L) d=Q;unfold Bz8;exact(j2 (by kernel_rfl) ((Aw2 L Q Y s (E4 0 (E1 (Z8 L) Q Y (cd [1,1,1] Ri) (F3 (Z8 L) ag7))) L 0 0 0 [[(SV.int .u16 a0)],[(SV.int .u16 a1)],[(SV.int .u16 a2)],[(SV.int .u16 a3)],[(SV.int .u16 a4)],[(SV.int .u16 a5)],[(SV.int .u16 a6)],[(SV.int .u16 a7)]]).trans (by kernel_rfl)))
noncomputable abbrev Dq9:Code:=C7 ag8
noncomputable def KC(L:Nat):Cfg:=B7 L [205] (A2 [(3,[2,0,2,0,0])]) [(227,Ch0),(202,VH)] (A2 [(7,[2]),(6,[3,2,0,0]),(5,[3,2,0,0]),(4,[3,1,0,0,0]),(3,[3,2,0,0,0]),(2,[3,2,0,0]),(1,[0,2]),(0,[0])]) [227,202] (A2 [(0,[3]),(1,[3,2,0,0])]) (some [2]) [] [] []
noncomputable def Vw{R:Type}(L n:Nat)(h g:Bool)(c:LL)(f b:Int)(d:LL)(e:LL->Option R):Option R:=match n with|0=>none|n+1=>cond (ltI b f) (cond (inR b c.length) (cond (okE ⟨true,false,[.int .u16]⟩ c (b8 b) 0) (vl (Dy6 (gE c (b8 b) 0)) λa=>cond (ltN a 65536) (cond ((16:Int)==16) (cond (G1 (d.length+1)) (Vw L n h g c f (A1 (b+1)) (d++[[(SV.str (P4 (b8 a)))]]) e) none) none) none) none) none) (e d)
theorem Cf1(n z0 t1 l2 n3 n4 l5):D0 1 ((KC L).keep 3) (bd (KC L) Q Y (cd [1,1,0,1,0,0] Dq9)) n ⟨gp [(3,.fl 0),(2,.s (.sl z0 t1 1 l2)),(0,pI n3),(0,pI n4)] 12,[.arr true 9 1 l5],s⟩ k =
 Vw L n z0 t1 l2 n3 n4 l5 (λb=>k (.exit 0) ⟨gp [(3,.fl 0)] 17,[.arr true 9 1 b],s⟩):=by
 induction n generalizing z0 t1 l2 n3 n4 l5 with
 | zero=>rfl
 | succ n a=>rw[Vw];simp only[<-a];kernel_rfl
noncomputable def v6j{R:Type}(L:Nat)(c b:Bool)(e:LL)(f:By->LL->Option R):Option R:=Vw L L c b e (e.length:Int) 0 [] (λa=>cond (w8 a isS) (cond (A3 (a8 (ac6 (p4 elS a) ([58]:List UInt8)))) (cond (A3 a.length) (vl (ac6 (p4 elS a) ([58]:List UInt8)) λd=>f d a) none) none) none)
theorem Dx9(d:Nat)(l_z0 l_t1 l2):evC (KC L) (d+1) Z Y 205 [.s (.sl l_z0 l_t1 1 l2)] [] s=v6j L l_z0 l_t1 l2 (λb a=>some (pS b,[.arr true 9 1 a],s)):=by refine(evE (fn:=ag8) (by kernel_rfl)).trans ?_;generalize evC (KC L) d=Q;unfold v6j;exact(j2 (by kernel_rfl) ((Cf1 L Q Y s (E4 0 (E1 (KC L) Q Y (cd [1,1,1] Dq9) (F3 (KC L) ag8))) L l_z0 l_t1 l2 (l2.length:Int) 0 []).trans (by kernel_rfl)))
noncomputable def Cm3(L:Nat):Cfg:=B7 L [168] (A2 []) [(204,Br6),(205,Dq4)] (A2 [(4,[2]),(3,[2]),(2,[1,1,0,6]),(1,[1,1,0]),(0,[1])]) [204,205] (A2 []) (some [2]) [] [] []
noncomputable def v6f{R:Type}(L:Nat)(c d e f g h i j:Int)(p:By->LL->Option R):Option R:=cond (ok8 c d e f g h i j) (vl (↑((zGo (n8 c d e f g h i j) 0 0 0)).1:Int) λa=>vl (↑((zGo (n8 c d e f g h i j) 0 0 0)).2:Int) λb=>cond (ltI b 2) (cond (w8 [[(SV.int .u16 c)],[(SV.int .u16 d)],[(SV.int .u16 e)],[(SV.int .u16 f)],[(SV.int .u16 g)],[(SV.int .u16 h)],[(SV.int .u16 i)],[(SV.int .u16 j)]] Xn) (cond (p9 8 8) (vl (K6 (p4 elN [[(SV.int .u16 c)],[(SV.int .u16 d)],[(SV.int .u16 e)],[(SV.int .u16 f)],[(SV.int .u16 g)],[(SV.int .u16 h)],[(SV.int .u16 i)],[(SV.int .u16 j)]])) λo=>p o [[(SV.int .u16 c)],[(SV.int .u16 d)],[(SV.int .u16 e)],[(SV.int .u16 f)],[(SV.int .u16 g)],[(SV.int .u16 h)],[(SV.int .u16 i)],[(SV.int .u16 j)]]) none) none) (cond (I9 0 a 8) (cond (w8 (y5 ((b8 a)-0) [[(SV.int .u16 c)],[(SV.int .u16 d)],[(SV.int .u16 e)],[(SV.int .u16 f)],[(SV.int .u16 g)],[(SV.int .u16 h)],[(SV.int .u16 i)],[(SV.int .u16 j)]]) Xn) (cond (p9 (a8 (y5 ((b8 a)-0) [[(SV.int .u16 c)],[(SV.int .u16 d)],[(SV.int .u16 e)],[(SV.int .u16 f)],[(SV.int .u16 g)],[(SV.int .u16 h)],[(SV.int .u16 i)],[(SV.int .u16 j)]])) 8) (vl (K6 (p4 elN (y5 ((b8 a)-0) [[(SV.int .u16 c)],[(SV.int .u16 d)],[(SV.int .u16 e)],[(SV.int .u16 f)],[(SV.int .u16 g)],[(SV.int .u16 h)],[(SV.int .u16 i)],[(SV.int .u16 j)]]))) λl=>cond (E8 l.length 2) (vl (l++[58,58]) λm=>cond (I9 (A1 (a+b)) (8:Int) 8) (cond (w8 (y5 (8-(b8 (A1 (a+b)))) (ac9 (b8 (A1 (a+b))) [[(SV.int .u16 c)],[(SV.int .u16 d)],[(SV.int .u16 e)],[(SV.int .u16 f)],[(SV.int .u16 g)],[(SV.int .u16 h)],[(SV.int .u16 i)],[(SV.int .u16 j)]])) Xn) (cond (p9 (a8 (y5 (8-(b8 (A1 (a+b)))) (ac9 (b8 (A1 (a+b))) [[(SV.int .u16 c)],[(SV.int .u16 d)],[(SV.int .u16 e)],[(SV.int .u16 f)],[(SV.int .u16 g)],[(SV.int .u16 h)],[(SV.int .u16 i)],[(SV.int .u16 j)]]))) 8) (vl (K6 (p4 elN (y5 (8-(b8 (A1 (a+b)))) (ac9 (b8 (A1 (a+b))) [[(SV.int .u16 c)],[(SV.int .u16 d)],[(SV.int .u16 e)],[(SV.int .u16 f)],[(SV.int .u16 g)],[(SV.int .u16 h)],[(SV.int .u16 i)],[(SV.int .u16 j)]])))) λn=>cond (E8 m.length n.length) (p (m++n) [[(SV.int .u16 c)],[(SV.int .u16 d)],[(SV.int .u16 e)],[(SV.int .u16 f)],[(SV.int .u16 g)],[(SV.int .u16 h)],[(SV.int .u16 i)],[(SV.int .u16 j)]]) none) none) none) none) none) none) none) none)) none
theorem Dx7(d:Nat)(a0 a1 a2 a3 a4 a5 a6 a7):evC (Cm3 L) (d+1) Z Y 168 [.agg [p16 a0,p16 a1,p16 a2,p16 a3,p16 a4,p16 a5,p16 a6,p16 a7]] [] s=v6f L a0 a1 a2 a3 a4 a5 a6 a7 (λb a=>some (pS b,[.arr false 26 1 a],s)):=by refine(evE (fn:=Tryz.f168) (by kernel_rfl)).trans ?_;generalize evC (Cm3 L) d=Q;unfold v6f;kernel_rfl
noncomputable abbrev Dh:Code:=C7 ae2
noncomputable def Ao(L:Nat):Cfg:=B7 L [209] (A2 [(5,[0,1,0,0,0])]) [] (A2 [(15,[2,0]),(6,[0,3,0]),(10,[0,3,0]),(12,[0,3,0]),(14,[0,3,0]),(8,[2,0]),(13,[0,3,0,0,44]),(11,[0,3,0,0,30]),(9,[0,3,0,0,17]),(7,[0,3,0,0]),(5,[0,3,0,12]),(4,[0,3,0]),(3,[0,3]),(2,[2,0]),(1,[0,13]),(0,[0])]) [] (A2 [(0,[4]),(1,[0,3,0]),(2,[0,3,0])]) (some [2,0]) [] [] []
noncomputable def Yi{R:Type}(j:By)(i f d:Int)(e:Bool)(g:By->Int->Int->Option R)(h:Unit->Option R):Option R:=cond e (vl (A1 (wu8 (d-65))) λa=>vl (A1 ((A1 (i*16))+a)) λb=>vl (A1 (b+10)) λc=>g j c f) (h ())
abbrev RQ(b:Code):Prop:=∀(k:Out->St Z->Option R) d c a b3 b4,A9 (Ao L) Q Y b ⟨gp [(0,pS d),(3,pI c),(0,pI a),(0,p8 b3),(44,pB b4)] 15,[],s⟩ k=Yi d c a b3 b4 (λd c a=>k .normal ⟨gp [(0,pS d),(3,pI c),(0,pI a)] 61,[],s⟩) (λ_=>k .ret ⟨gp [(2,p16 (0:Int)),(0,pB false)] 63,[],s⟩)
theorem Bd6:RQ (R:=R) L Q Y s (cd [1,1,1,0,1,0,0,1,0,0,1,0,1,1,1,1,1] Dh):=by intro k e d c a b;unfold Yi;kernel_rfl
noncomputable def Yj{R:Type}(o:By)(m f a:Int)(q:Bool)(g:By->Int->Int->Option R)(p:Unit->Option R):Option R:=cond q (vl (A1 (wu8 (a-97))) λh=>vl (A1 ((A1 (m*16))+h)) λi=>vl (A1 (i+10)) λj=>g o j f) (cond (not (ltI a 65)) (Yi o m f a (not (ltI 70 a)) (λn l b=>g n l b) (λ_=>p ())) (Yi o m f a false (λe d c=>g e d c) (λ_=>p ())))
abbrev CW(b:Code):Prop:=∀(k:Out->St Z->Option R) d c a b3 b4,A9 (Ao L) Q Y b ⟨gp [(0,pS d),(3,pI c),(0,pI a),(0,p8 b3),(30,pB b4)] 29,[],s⟩ k=Yj d c a b3 b4 (λd c a=>k .normal ⟨gp [(0,pS d),(3,pI c),(0,pI a)] 61,[],s⟩) (λ_=>k .ret ⟨gp [(2,p16 (0:Int)),(0,pB false)] 63,[],s⟩)
theorem Bd7(a:Code)(b:RQ (R:=R) L Q Y s a):CW (R:=R) L Q Y s (cd [1,1,1,0,1,0,0,1,0,0,1,0,1,1,1] (G7 [1,1,1,0,1,0,0,1,0,0,1,0,1,1,1,1,1] a Dh)):=by intro k g f e c d;unfold Yj;simp only[<-b k];kernel_rfl
theorem Bd8:CW (R:=R) L Q Y s (cd [1,1,1,0,1,0,0,1,0,0,1,0,1,1,1] Dh):=by intro k e d c a b;exact j2 (by kernel_rfl) (Bd7 L Q Y s (cd [1,1,1,0,1,0,0,1,0,0,1,0,1,1,1,1,1] Dh) (Bd6 L Q Y s) k e d c a b)
noncomputable def Yk{R:Type}(n:By)(m h a:Int)(p:Bool)(i:By->Int->Int->Option R)(o:Unit->Option R):Option R:=cond p (vl (A1 (wu8 (a-48))) λj=>vl (A1 ((A1 (m*16))+j)) λl=>i n l h) (cond (not (ltI a 97)) (Yj n m h a (not (ltI 102 a)) (λf d b=>i f d b) (λ_=>o ())) (Yj n m h a false (λg e c=>i g e c) (λ_=>o ())))
abbrev Ry(b:Code):Prop:=∀(k:Out->St Z->Option R) d c a b3 b4,A9 (Ao L) Q Y b ⟨gp [(0,pS d),(3,pI c),(0,pI a),(0,p8 b3),(17,pB b4)] 42,[],s⟩ k=Yk d c a b3 b4 (λd c a=>k .normal ⟨gp [(0,pS d),(3,pI c),(0,pI a)] 61,[],s⟩) (λ_=>k .ret ⟨gp [(2,p16 (0:Int)),(0,pB false)] 63,[],s⟩)
theorem Bd9(a:Code)(b:CW (R:=R) L Q Y s a):Ry (R:=R) L Q Y s (cd [1,1,1,0,1,0,0,1,0,0,1,0,1] (G7 [1,1,1,0,1,0,0,1,0,0,1,0,1,1,1] a Dh)):=by intro k g f e c d;unfold Yk;simp only[<-b k];kernel_rfl
theorem Be0:Ry (R:=R) L Q Y s (cd [1,1,1,0,1,0,0,1,0,0,1,0,1] Dh):=by intro k e d c a b;exact j2 (by kernel_rfl) (Bd9 L Q Y s (cd [1,1,1,0,1,0,0,1,0,0,1,0,1,1,1] Dh) (Bd8 L Q Y s) k e d c a b)
noncomputable def Gb{R:Type}(L n:Nat)(b:By)(o a:Int)(l:Unit->Option R)(m:Int->Option R):Option R:=match n with|0=>none|n+1=>cond (ltI a (b.length:Int)) (cond (inR a b.length) (cond (not (ltI (bAt b a) (48:Int))) (Yk b o a (bAt b a) (not (ltI 57 (bAt b a))) (λi e c=>vl (A1 (c+1)) λf=>Gb L n i e f l m) (λ_=>l ())) (Yk b o a (bAt b a) false (λj g d=>vl (A1 (d+1)) λh=>Gb L n j g h l m) (λ_=>l ()))) none) (m o)
theorem Be1(a:Code)(b:Ry (R:=R) L Q Y s a)(n:Nat)(d:By)(i c:Int):D0 0 ((Ao L).keep 5) (bd (Ao L) Q Y (cd [1,1,1,0,1,0,0] (G7 [1,1,1,0,1,0,0,1,0,0,1,0,1] a Dh))) n ⟨gp [(0,pS d),(3,pI i),(0,pI c)] 61,[],s⟩ k =
 Gb L n d i c (λ_=>k .ret ⟨gp [(2,p16 (0:Int)),(0,pB false)] 63,[],s⟩) (λn0=>k (.exit 0) ⟨gp [(4,pI n0)] 62,[],s⟩):=by
 induction n generalizing d i c with
 | zero=>rfl
 | succ n q=>rw[Gb];exact let m:=(E4 2 (E4 1 (E1 (Ao L) Q Y (cd [1,1,1,0,1,0,0,1,1] Dh) (lpK 0 ((Ao L).keep 5) (bd (Ao L) Q Y (cd [1,1,1,0,1,0,0] (G7 [1,1,1,0,1,0,0,1,0,0,1,0,1] a Dh))) n k))));(j2 (by kernel_rfl) (A0 (A0 (A0 ((b m d i c (bAt d c) (not (ltI 57 (bAt d c)))).trans (congr (congr rfl (fx3 λj e o=>(j2 (by kernel_rfl) (A4 λf=>(q j e f))))) (by kernel_rfl))) ((b m d i c (bAt d c) false).trans (congr (congr rfl (fx3 λl g p=>(j2 (by kernel_rfl) (A4 λh=>(q l g h))))) (by kernel_rfl)))) rfl) rfl))
noncomputable def Cu9{R:Type}(L:Nat)(c:By)(b:Int->Bool->Option R):Option R:=cond (ltI (c.length:Int) (1:Int)) (b 0 false) (cond (ltI 4 (c.length:Int)) (b 0 false) (Gb L L c 0 0 (λ_=>b 0 false) (λa=>b (Eg a) true)))
theorem Dh0(a:Code)(b:Ry (R:=PV × List Blk × Z) L Q Y s a)(c:By):A9 (Ao L) Q Y (cd [] (G7 [1,1,1,0,1,0,0,1,0,0,1,0,1] a Dh)) ⟨[pS c]++tps 66,[],s⟩ (F3 (Ao L) ae2)=Cu9 L c (λd e=>some (.tup [p16 d,pB e],[],s)):=by unfold Cu9;exact(j2 (by kernel_rfl) (A0 rfl (A0 rfl ((Be1 L Q Y s (E4 0 (E1 (Ao L) Q Y (cd [1,1,1,1] Dh) (F3 (Ao L) ae2))) a b L c 0 0).trans (by kernel_rfl)))))
theorem Dh1(d:Nat)(s0):evC (Ao L) (d+1) Z Y 209 [pS s0] [] s=Cu9 L s0 (λa b=>some (.tup [p16 a,pB b],[],s)):=
 (evE (fn:=ae2) (by kernel_rfl)).trans (j2 (by kernel_rfl) (Dh0 L (evC (Ao L) d) Y s (cd [1,1,1,0,1,0,0,1,0,0,1,0,1] Dh) (Be0 L (evC (Ao L) d) Y s) s0))
noncomputable abbrev Fo:Code:=C7 ae0
noncomputable def T3(L:Nat):Cfg:=B7 L [173] (A2 [(6,[1,2,0,0,0,0])]) [(76,Km),(208,Ci9),(209,Ci3)] (A2 [(15,[4,0]),(7,[1,4,0,0]),(14,[1,4,0,0]),(13,[4,0]),(12,[1,4,0,0,2,47]),(11,[1,4,0,0,2,0]),(10,[1,4,0,0]),(9,[1,4,0,0,0,31]),(8,[1,4,0,0,0,0]),(6,[1,4,0,0,11]),(5,[1,4,0,0]),(4,[1,4,0]),(3,[0,0,4]),(2,[4,0]),(1,[0,0,12]),(0,[0,0])]) [208,209] (A2 [(0,[6]),(1,[1,4,0,0])]) (some [4,0]) [] [] []
noncomputable def Lg{R:Type}(a:Bool)(g:LL)(f d:Int)(e:Bool)(c:LL)(h:Bool->LL->Int->LL->Option R)(i:Bool->LL->Int->Int->Bool->LL->Option R):Option R:=cond e (vl (Qp .u32 d (16:Int)) λb=>cond (G1 (c.length+2)) (h a g f (c++[[(SV.int .u16 (Eg b))],[(SV.int .u16 (Eg d))]])) none) (i a g f d e c)
abbrev Vd(b:Code):Prop:=∀(k:Out->St Z->Option R) a d c g e f,A9 (T3 L) Q Y b ⟨gp [(1,pB a),(4,.fl 0),(0,.s (.sl false false 1 d)),(0,pI c),(0,p32 g),(31,pB e)] 23,[.arr true 25 1 f],s⟩ k=Lg a d c g e f (λa d c h=>k (.exit 1) ⟨gp [(1,pB a),(4,.fl 0),(0,.s (.sl false false 1 d)),(0,pI c)] 56,[.arr true 25 1 h],s⟩) (λa d c g e f=>k .normal ⟨gp [(1,pB a),(4,.fl 0),(0,.s (.sl false false 1 d)),(0,pI c),(0,p32 g),(31,pB e)] 23,[.arr true 25 1 f],s⟩)
theorem An2:Vd (R:=R) L Q Y s (cd [1,1,1,1,0,1,0,0,1,0,0,0,1,1] Fo):=by intro k a e c f b d;unfold Lg;kernel_rfl
noncomputable def Lh{R:Type}(a:Bool)(c:LL)(b:Int)(e:LL)(f:LL->Option R)(g:Bool->LL->Int->LL->Option R):Option R:=cond (inR b c.length) (cond (okE Ov c (b8 b) 0) (cond (A3 (a8 (gX c (b8 b) 0))) (vl (↑(N7 (grp (gX c (b8 b) 0))):Int) λd=>cond (not (j4 (grp (gX c (b8 b) 0)))) (f e) (cond (G1 (e.length+1)) (g a c b (e++[[(SV.int .u16 d)]])) none)) none) none) none
abbrev Ve(b:Code):Prop:=∀(k:Out->St Z->Option R) a d c v3 b4 l5,A9 (T3 L) Q Y b ⟨gp [(1,pB a),(4,.fl 0),(0,.s (.sl false false 1 d)),(0,pI c),(0,p32 v3),(31,pB b4)] 23,[.arr true 25 1 l5],s⟩ k=Lh a d c l5 (λe=>k .ret ⟨gp [(4,.fl 1),(0,pB false)] 59,[.arr true 25 1 e,.arr true 25 1 []],s⟩) (λa d c f=>k .normal ⟨gp [(1,pB a),(4,.fl 0),(0,.s (.sl false false 1 d)),(0,pI c)] 56,[.arr true 25 1 f],s⟩)
theorem An3:Ve (R:=R) L Q Y s (cd [1,1,1,1,0,1,0,0,1,0,0,1] Fo):=by intro k a e c f b d;unfold Lh;kernel_rfl
noncomputable def R3{R:Type}(L n:Nat)(a:Bool)(m:LL)(l:Int)(l3:LL)(o:LL->Option R)(p:LL->Option R):Option R:=match n with|0=>none|n+1=>cond (ltI l (m.length:Int)) (cond (inR l m.length) (cond (okE Ov m (b8 l) 0) (cond (A3 (a8 (gX m (b8 l) 0))) (vl (↑(N7 (v4B (gX m (b8 l) 0))):Int) λq=>cond (j4 (v4B (gX m (b8 l) 0))) (cond a (vl (A1 ((m.length:Int)-1)) λa9=>Lg a m l q (l==a9) l3 (λb X r B=>vl (A1 (r+1)) λP=>R3 L n b X P B o p) (λc a0 t b3 b0 C=>Lh c a0 t C (λD=>o D) (λd a1 u F=>vl (A1 (u+1)) λS=>R3 L n d a1 S F o p))) (Lg a m l q false l3 (λe a2 v G=>vl (A1 (v+1)) λT=>R3 L n e a2 T G o p) (λf a3 w b4 b1 H=>Lh f a3 w H (λI=>o I) (λg a4 x J=>vl (A1 (x+1)) λU=>R3 L n g a4 U J o p)))) (Lg a m l q false l3 (λh a5 y K=>vl (A1 (y+1)) λV=>R3 L n h a5 V K o p) (λi a6 z b5 b2 M=>Lh i a6 z M (λN=>o N) (λj a7 A O=>vl (A1 (A+1)) λW=>R3 L n j a7 W O o p)))) none) none) none) (p l3)
theorem An4(b:Code)(c:Vd (R:=R) L Q Y s b)(a:Code)(d:Ve (R:=R) L Q Y s a)(n:Nat)(e:Bool)(v:LL)(q:Int)(u:LL):D0 1 ((T3 L).keep 6) (bd (T3 L) Q Y (cd [1,1,1,1,0,1,0,0] (G7 [1,1,1,1,0,1,0,0,1,0,0,1] a (G7 [1,1,1,1,0,1,0,0,1,0,0,0,1,1] b Fo)))) n ⟨gp [(1,pB e),(4,.fl 0),(0,.s (.sl false false 1 v)),(0,pI q)] 56,[.arr true 25 1 u],s⟩ k =
 R3 L n e v q u (λl0=>k .ret ⟨gp [(4,.fl 1),(0,pB false)] 59,[.arr true 25 1 l0,.arr true 25 1 []],s⟩) (λl0=>k (.exit 0) ⟨gp [(6,.fl 0)] 58,[.arr true 25 1 l0],s⟩):=by
 induction n generalizing e v q u with
 | zero=>rfl
 | succ n t=>rw[R3];exact let K0:=(E4 1 (E1 (T3 L) Q Y (cd [1,1,1,1,0,1,0,0,1,1] Fo) (lpK 1 ((T3 L).keep 6) (bd (T3 L) Q Y (cd [1,1,1,1,0,1,0,0] (G7 [1,1,1,1,0,1,0,0,1,0,0,1] a (G7 [1,1,1,1,0,1,0,0,1,0,0,0,1,1] b Fo)))) n k)));let K1:=(E1 (T3 L) Q Y a K0);(j2 (by kernel_rfl) (A0 (A0 (A0 (A0 (A4 λr=>(A0 (A0 (A4 λb0=>((c K1 e v q r (q==b0) u).trans (congr (congr rfl (fx4 λf V b1 C=>(j2 (by kernel_rfl) (A4 λN=>(t f V N C))))) (fx6 λg W z a6 w D=>(j2 (by kernel_rfl) ((d K0 g W z a6 w D).trans (congr (congr rfl (by kernel_rfl)) (fx4 λh X b2 F=>(j2 (by kernel_rfl) (A4 λO=>(t h X O F))))))))))) ((c K1 e v q r false u).trans (congr (congr rfl (fx4 λi a0 b3 G=>(j2 (by kernel_rfl) (A4 λP=>(t i a0 P G))))) (fx6 λj a1 A a7 x H=>(j2 (by kernel_rfl) ((d K0 j a1 A a7 x H).trans (congr (congr rfl (by kernel_rfl)) (fx4 λl a2 b4 I=>(j2 (by kernel_rfl) (A4 λS=>(t l a2 S I))))))))))) ((c K1 e v q r false u).trans (congr (congr rfl (fx4 λm a3 b5 J=>(j2 (by kernel_rfl) (A4 λT=>(t m a3 T J))))) (fx6 λo a4 B a9 y K=>(j2 (by kernel_rfl) ((d K0 o a4 B a9 y K).trans (congr (congr rfl (by kernel_rfl)) (fx4 λp a5 b6 M=>(j2 (by kernel_rfl) (A4 λU=>(t p a5 U M)))))))))))) rfl) rfl) rfl) rfl))
noncomputable def An1{R:Type}(L:Nat)(e:By)(a:Bool)(f:LL->Option R)(g:LL->Option R):Option R:=cond (e==[]) (f []) (cond (A3 e.length) (vl (D5 (pcs (u8n (58:Int)) e)) λd=>R3 L L a d 0 [] (λb=>g b) (λc=>f c)) none)
theorem Cv0(a:Code)(c:Vd (R:=PV × List Blk × Z) L Q Y s a)(b:Code)(d:Ve (R:=PV × List Blk × Z) L Q Y s b)(h:By)(e:Bool):A9 (T3 L) Q Y (cd [] (G7 [1,1,1,1,0,1,0,0,1,0,0,1] b (G7 [1,1,1,1,0,1,0,0,1,0,0,0,1,1] a Fo))) ⟨[pS h,pB e]++tps 63,[],s⟩ (F3 (T3 L) ae0)=An1 L h e (λg=>some (.tup [.fl 0,pB true],[.arr true 25 1 g],s)) (λg=>some (.tup [.fl 1,pB false],[.arr true 25 1 g,.arr true 25 1 []],s)):=by unfold An1;exact(j2 (by kernel_rfl) (A0 rfl (A0 (A4 λf=>((An4 L Q Y s (E4 0 (E1 (T3 L) Q Y (cd [1,1,1,1,1] Fo) (F3 (T3 L) ae0))) a c b d L e f 0 []).trans (by kernel_rfl))) rfl)))
theorem Cv1(d:Nat)(s0 last1):evC (T3 L) (d+1) Z Y 173 [pS s0,pB last1] [] s=An1 L s0 last1 (λa=>some (.tup [.fl 0,pB true],[.arr true 25 1 a],s)) (λa=>some (.tup [.fl 1,pB false],[.arr true 25 1 a,.arr true 25 1 []],s)):=
 (evE (fn:=ae0) (by kernel_rfl)).trans (j2 (by kernel_rfl) (Cv0 L (evC (T3 L) d) Y s (cd [1,1,1,1,0,1,0,0,1,0,0,0,1,1] Fo) (An2 L (evC (T3 L) d) Y s) (cd [1,1,1,1,0,1,0,0,1,0,0,1] Fo) (An3 L (evC (T3 L) d) Y s) s0 last1))
noncomputable abbrev PM:Code:=C7 ag5
noncomputable def Dk(L:Nat):Cfg:=B7 L [172] (A2 [(2,[0,1,0])]) [] (A2 [(6,[2]),(3,[0,2]),(5,[2]),(4,[0,2,17]),(2,[0,2,4]),(1,[0,2]),(0,[0])]) [] (A2 [(0,[]),(1,[0,2])]) (some [2]) [] [] []
noncomputable def V8{R:Type}(L n:Nat)(b:By)(a:Int)(c:Int->Option R)(d:Unit->Option R):Option R:=match n with|0=>none|n+1=>cond (ltI (A1 (a+1)) (b.length:Int)) (cond (inR a b.length) (cond ((bAt b a)==58) (cond (inR (A1 (a+1)) b.length) (vl (bAt b (A1 (a+1))) λe=>cond (e==58) (c a) (V8 L n b (A1 (a+1)) c d)) none) (V8 L n b (A1 (a+1)) c d)) none) (d ())
theorem OJ(n s0 i1):D0 0 ((Dk L).keep 2) (bd (Dk L) Q Y (cd [1,0,1,0,0] PM)) n ⟨gp [(0,pS s0),(2,pI i1)] 19,[],s⟩ k =
 V8 L n s0 i1 (λn0=>k .ret ⟨gp [(2,pI n0)] 20,[],s⟩) (λ_=>k (.exit 0) ⟨gp [] 23,[],s⟩):=by
 induction n generalizing s0 i1 with
 | zero=>rfl
 | succ n a=>rw[V8];simp only[<-a];kernel_rfl
noncomputable def GO{R:Type}(L:Nat)(c:By)(b:Int->Option R):Option R:=V8 L L c 0 (λa=>b a) (λ_=>b (-1))
theorem Bc3(d:Nat)(s0):evC (Dk L) (d+1) Z Y 172 [pS s0] [] s=GO L s0 (λa=>some (pI a,[],s)):=by refine(evE (fn:=ag5) (by kernel_rfl)).trans ?_;generalize evC (Dk L) d=Q;unfold GO;exact(j2 (by kernel_rfl) ((OJ L Q Y s (E4 0 (E1 (Dk L) Q Y (cd [1,1] PM) (F3 (Dk L) ag5))) L s0 0).trans (by kernel_rfl)))
noncomputable abbrev Tx:Code:=C7 ad0
noncomputable def Ap(L:Nat):Cfg:=B7 L [128] (A2 [(21,[2,0,0,6,2]),(17,[2,0,0,4,1,1]),(8,[2,0,0,1,1])]) [(172,PA),(173,Bq1)] (A2 [(24,[2,0]),(22,[2,1,6,2]),(23,[2,1,6,2]),(21,[2,1,6,2,73]),(20,[2,1,6,2]),(18,[2,1,4,1,1]),(19,[2,1,4,1,1]),(17,[2,1,4,1,1,62]),(16,[2,1,4,1,1]),(15,[2,0]),(14,[2,1,4,1,59]),(13,[2,1,4,0,0,0]),(12,[0,1,1,0,3,0]),(11,[2,0]),(9,[2,1,1,1]),(10,[2,1,1,1]),(8,[2,1,1,1,24]),(7,[2,1,1,1]),(6,[2,0]),(5,[2,1,1,23]),(4,[2,1,1,0]),(3,[0,1,1,0,12]),(2,[0,1,1,0]),(1,[0,1,1]),(0,[0,1])]) [172] (A2 [(4,[2,1]),(5,[2,1,6,2]),(2,[2,1,6]),(3,[2,1,4,1,1]),(0,[2,1]),(1,[2,1,1,1])]) (some [2,0]) [] [] []
noncomputable def Nq{R:Type}(L n:Nat)(b:Bool)(c:LL)(a:Int)(g d:LL)(f:LL->LL->Option R):Option R:=match n with|0=>none|n+1=>cond (ltI a 8) (cond (inR a c.length) (cond (okE ⟨true,false,[.int .u16]⟩ c (b8 a) 0) (cond (inR a 8) (cond (decide ((b8 a)<d.length)) (vl (aa5 d (b8 a) (G3 (b9 d (b8 a) []) 0 [(SV.int .u16 (gE c (b8 a) 0))])) λe=>Nq L n b c (A1 (a+1)) g e f) none) none) none) none) (f g d)
theorem Bj8(n l_z0 a i2 l3 l4):D0 2 ((Ap L).keep 8) (bd (Ap L) Q Y (cd [1,1,1,0,1,0,1,1,0,1,0,0] Tx)) n ⟨gp [(2,.ptr 0 0 0),(1,.ptr 1 0 0),(1,.s (.sl l_z0 l_z0 1 a)),(1,pI i2)] 93,[.arr false 26 1 l3,.arr false 26 1 l4],s⟩ k =
 Nq L n l_z0 a i2 l3 l4 (λc a=>k (.exit 0) ⟨gp [(2,.ptr 0 0 0),(1,.ptr 1 0 0)] 97,[.arr false 26 1 c,.arr false 26 1 a],s⟩):=by
 induction n generalizing l_z0 a i2 l3 l4 with
 | zero=>rfl
 | succ n b=>rw[Nq];simp only[<-b];kernel_rfl
noncomputable def Nr{R:Type}(L n:Nat)(e:Bool)(d:LL)(b:Bool)(i:LL)(a:Int)(h f:LL)(g:Bool->LL->LL->LL->Option R):Option R:=match n with|0=>none|n+1=>cond (ltI a (d.length:Int)) (cond (inR a d.length) (cond (okE ⟨true,false,[.int .u16]⟩ d (b8 a) 0) (cond (inR a 8) (cond (decide ((b8 a)<f.length)) (vl (aa5 f (b8 a) (G3 (b9 f (b8 a) []) 0 [(SV.int .u16 (gE d (b8 a) 0))])) λc=>Nr L n e d b i (A1 (a+1)) h c g) none) none) none) none) (g b i h f)
theorem Bj9(n l_z0 l1 r_z2 r3 i4 l5 l6):D0 2 ((Ap L).keep 17) (bd (Ap L) Q Y (cd [1,1,1,1,1,1,1,0,1,0,0] Tx)) n ⟨gp [(2,.ptr 0 0 0),(1,.ptr 1 0 0),(4,.s (.sl l_z0 l_z0 1 l1)),(1,.s (.sl r_z2 r_z2 1 r3)),(1,pI i4)] 88,[.arr false 26 1 l5,.arr false 26 1 l6],s⟩ k =
 Nr L n l_z0 l1 r_z2 r3 i4 l5 l6 (λa e c d=>k (.exit 2) ⟨gp [(2,.ptr 0 0 0),(1,.ptr 1 0 0),(6,.s (.sl a a 1 e))] 90,[.arr false 26 1 c,.arr false 26 1 d],s⟩):=by
 induction n generalizing l_z0 l1 r_z2 r3 i4 l5 l6 with
 | zero=>rfl
 | succ n b=>rw[Nr];simp only[<-b];kernel_rfl
noncomputable def Ns{R:Type}(L n:Nat)(e:Bool)(c:LL)(b:Int)(h f:LL)(g:LL->LL->Option R):Option R:=match n with|0=>none|n+1=>cond (ltI b (c.length:Int)) (vl (A1 ((8:Int)-(c.length:Int))) λa=>cond (inR b c.length) (cond (okE ⟨true,false,[.int .u16]⟩ c (b8 b) 0) (cond (inR (A1 (a+b)) 8) (cond (decide ((b8 (A1 (a+b)))<f.length)) (vl (aa5 f (b8 (A1 (a+b))) (G3 (b9 f (b8 (A1 (a+b))) []) 0 [(SV.int .u16 (gE c (b8 b) 0))])) λd=>Ns L n e c (A1 (b+1)) h d g) none) none) none) none) (g h f)
theorem Bk0(n r_z0 r1 i2 l3 l4):D0 2 ((Ap L).keep 21) (bd (Ap L) Q Y (cd [1,1,1,1,1,1,1,1,0,1,0,0] Tx)) n ⟨gp [(2,.ptr 0 0 0),(1,.ptr 1 0 0),(6,.s (.sl r_z0 r_z0 1 r1)),(2,pI i2)] 87,[.arr false 26 1 l3,.arr false 26 1 l4],s⟩ k =
 Ns L n r_z0 r1 i2 l3 l4 (λb c=>k (.exit 4) ⟨gp [(2,.ptr 0 0 0),(1,.ptr 1 0 0)] 97,[.arr false 26 1 b,.arr false 26 1 c],s⟩):=by
 induction n generalizing r_z0 r1 i2 l3 l4 with
 | zero=>rfl
 | succ n a=>rw[Ns];simp only[<-a];kernel_rfl
noncomputable def Cy2{R:Type}(L:Nat)(e:By)(j:Int->Int->Int->Int->Int->Int->Int->Int->Bool->LL->LL->Option R):Option R:=cond (A3 e.length) (cond (ltI (KK e) (0:Int)) (cond (A3 e.length) (cond (not (j4 (P2 e true))) (j 0 0 0 0 0 0 0 0 false (j1 8 [(SV.int .u16 (0:Int))]) (j1 8 [(SV.int .u16 (0:Int))])) (cond ((↑(a8 (D2 (gvs e true))):Int)!=8) (j 0 0 0 0 0 0 0 0 false (j1 8 [(SV.int .u16 (0:Int))]) (j1 8 [(SV.int .u16 (0:Int))])) (Nq L L (j9 (gvs e true)) (D2 (gvs e true)) 0 (j1 8 [(SV.int .u16 (0:Int))]) (j1 8 [(SV.int .u16 (0:Int))]) (λn a=>cond ((decide (8=(a.length*1)))&&(okS ⟨true,true,[.int .u16,.int .u16,.int .u16,.int .u16,.int .u16,.int .u16,.int .u16,.int .u16]⟩ (j0 a) 0)) (vl (SV.gI (b9 (j0 a) 0 SV.nilp)) λo=>vl (SV.gI (b9 (j0 a) 1 SV.nilp)) λp=>vl (SV.gI (b9 (j0 a) 2 SV.nilp)) λq=>vl (SV.gI (b9 (j0 a) 3 SV.nilp)) λr=>vl (SV.gI (b9 (j0 a) 4 SV.nilp)) λt=>vl (SV.gI (b9 (j0 a) 5 SV.nilp)) λu=>vl (SV.gI (b9 (j0 a) 6 SV.nilp)) λv=>vl (SV.gI (b9 (j0 a) 7 SV.nilp)) λw=>cond (decide (8=(n.length*1))) (vl (U4 1 n.length [(SV.int .u16 o),(SV.int .u16 p),(SV.int .u16 q),(SV.int .u16 r),(SV.int .u16 t),(SV.int .u16 u),(SV.int .u16 v),(SV.int .u16 w)]) λb=>cond ((decide (8=(b.length*1)))&&(okS ⟨true,true,[.int .u16,.int .u16,.int .u16,.int .u16,.int .u16,.int .u16,.int .u16,.int .u16]⟩ (j0 b) 0)) (j (SV.gI (b9 (j0 b) 0 SV.nilp)) (SV.gI (b9 (j0 b) 1 SV.nilp)) (SV.gI (b9 (j0 b) 2 SV.nilp)) (SV.gI (b9 (j0 b) 3 SV.nilp)) (SV.gI (b9 (j0 b) 4 SV.nilp)) (SV.gI (b9 (j0 b) 5 SV.nilp)) (SV.gI (b9 (j0 b) 6 SV.nilp)) (SV.gI (b9 (j0 b) 7 SV.nilp)) true b a) none) none) none)))) none) (cond (I9 0 (KK e) e.length) (vl (cut e 0 (KK e)) λf=>cond (A3 f.length) (vl (A1 ((KK e)+2)) λG=>cond (I9 G (e.length:Int) e.length) (vl (cut e G (e.length:Int)) λg=>cond (A3 g.length) (cond (not (j4 (P2 f false))) (j 0 0 0 0 0 0 0 0 false (j1 8 [(SV.int .u16 (0:Int))]) (j1 8 [(SV.int .u16 (0:Int))])) (cond (not (j4 (P2 g true))) (j 0 0 0 0 0 0 0 0 false (j1 8 [(SV.int .u16 (0:Int))]) (j1 8 [(SV.int .u16 (0:Int))])) (vl (A1 ((↑(a8 (D2 (gvs f false))):Int)+(↑(a8 (D2 (gvs g true))):Int))) λI=>cond (ltI 7 I) (j 0 0 0 0 0 0 0 0 false (j1 8 [(SV.int .u16 (0:Int))]) (j1 8 [(SV.int .u16 (0:Int))])) (Nr L L (j9 (gvs f false)) (D2 (gvs f false)) (j9 (gvs g true)) (D2 (gvs g true)) 0 (j1 8 [(SV.int .u16 (0:Int))]) (j1 8 [(SV.int .u16 (0:Int))]) (λh H l m=>Ns L L h H 0 l m (λi c=>cond ((decide (8=(c.length*1)))&&(okS ⟨true,true,[.int .u16,.int .u16,.int .u16,.int .u16,.int .u16,.int .u16,.int .u16,.int .u16]⟩ (j0 c) 0)) (vl (SV.gI (b9 (j0 c) 0 SV.nilp)) λx=>vl (SV.gI (b9 (j0 c) 1 SV.nilp)) λy=>vl (SV.gI (b9 (j0 c) 2 SV.nilp)) λz=>vl (SV.gI (b9 (j0 c) 3 SV.nilp)) λA=>vl (SV.gI (b9 (j0 c) 4 SV.nilp)) λB=>vl (SV.gI (b9 (j0 c) 5 SV.nilp)) λC=>vl (SV.gI (b9 (j0 c) 6 SV.nilp)) λD=>vl (SV.gI (b9 (j0 c) 7 SV.nilp)) λF=>cond (decide (8=(i.length*1))) (vl (U4 1 i.length [(SV.int .u16 x),(SV.int .u16 y),(SV.int .u16 z),(SV.int .u16 A),(SV.int .u16 B),(SV.int .u16 C),(SV.int .u16 D),(SV.int .u16 F)]) λd=>cond ((decide (8=(d.length*1)))&&(okS ⟨true,true,[.int .u16,.int .u16,.int .u16,.int .u16,.int .u16,.int .u16,.int .u16,.int .u16]⟩ (j0 d) 0)) (j (SV.gI (b9 (j0 d) 0 SV.nilp)) (SV.gI (b9 (j0 d) 1 SV.nilp)) (SV.gI (b9 (j0 d) 2 SV.nilp)) (SV.gI (b9 (j0 d) 3 SV.nilp)) (SV.gI (b9 (j0 d) 4 SV.nilp)) (SV.gI (b9 (j0 d) 5 SV.nilp)) (SV.gI (b9 (j0 d) 6 SV.nilp)) (SV.gI (b9 (j0 d) 7 SV.nilp)) true d c) none) none) none)))))) none) none) none) none)) none
theorem Dj2(d:Nat)(s0):evC (Ap L) (d+1) Z Y 128 [pS s0] [] s=Cy2 L s0 (λl m n o p q r t r8 h l10=>some (.tup [.agg [p16 l,p16 m,p16 n,p16 o,p16 p,p16 q,p16 r,p16 t],pB r8],[.arr false 26 1 h,.arr false 26 1 l10],s)):=by refine(evE (fn:=ad0) (by kernel_rfl)).trans ?_;generalize evC (Ap L) d=Q;unfold Cy2;exact(j2 (by kernel_rfl) (A0 (A0 (A0 (A0 rfl (A0 rfl ((Bj8 L Q Y s (E4 0 (E1 (Ap L) Q Y (cd [1,1,1,0,1,0,1,1,1] Tx) (E1 (Ap L) Q Y (cd [1,1,1,1] Tx) (F3 (Ap L) ad0)))) L (j9 (gvs s0 true)) (D2 (gvs s0 true)) 0 (j1 8 [(SV.int .u16 (0:Int))]) (j1 8 [(SV.int .u16 (0:Int))])).trans (by kernel_rfl)))) rfl) (A0 (A4 λf=>(A0 (A4 λi=>(A0 (A4 λg=>(A0 (A0 rfl (A0 rfl (A4 λj=>(A0 rfl ((Bj9 L Q Y s (E4 2 (E1 (Ap L) Q Y (cd [1,1,1,1,1,1,1,1] Tx) (F3 (Ap L) ad0))) L (j9 (gvs f false)) (D2 (gvs f false)) (j9 (gvs g true)) (D2 (gvs g true)) 0 (j1 8 [(SV.int .u16 (0:Int))]) (j1 8 [(SV.int .u16 (0:Int))])).trans (congr rfl (fx4 λa e b c=>(j2 (by kernel_rfl) ((Bk0 L Q Y s (E4 4 (E1 (Ap L) Q Y (cd [1,1,1,1,1,1,1,1,1] Tx) (F3 (Ap L) ad0))) L a e 0 b c).trans (by kernel_rfl)))))))))) rfl)) rfl)) rfl)) rfl)) rfl))
noncomputable abbrev Bs3:Code:=C7 ag3
noncomputable def Md(L:Nat):Cfg:=B7 L [132] (A2 [(3,[2,0,0])]) [] (A2 [(6,[2]),(4,[3,0]),(5,[3,0]),(3,[3,0,6]),(2,[3,0]),(1,[0,2]),(0,[0])]) [] (A2 [(0,[3]),(1,[3,0])]) (some [2]) [] [] []
noncomputable def Ba{R:Type}(L n:Nat)(a:By)(v1:Int)(f:By->Option R):Option R:=match n with|0=>none|n+1=>cond (ltI 0 v1) (vl (Eg ((x5 v1 (16:Int))+1)) λb=>cond (I9 (x5 v1 (16:Int)) b 16) (vl (cut ([48,49,50,51,52,53,54,55,56,57,97,98,99,100,101,102]:List UInt8) (x5 v1 (16:Int)) b) λd=>cond (E8 d.length a.length) (vl (Eg (aa0 v1 (16:Int))) λg=>Ba L n (d++a) g f) none) none) (cond (a==[]) (vl (Eg ((x5 v1 (16:Int))+1)) λc=>cond (I9 (x5 v1 (16:Int)) c 16) (vl (cut ([48,49,50,51,52,53,54,55,56,57,97,98,99,100,101,102]:List UInt8) (x5 v1 (16:Int)) c) λe=>cond (E8 e.length a.length) (vl (Eg (aa0 v1 (16:Int))) λh=>Ba L n (e++a) h f) none) none) (f a))
theorem An6(n a v1):D0 0 ((Md L).keep 3) (bd (Md L) Q Y (cd [1,1,0,1,0,0] Bs3)) n ⟨gp [(3,pS a),(0,p16 v1)] 18,[],s⟩ k =
 Ba L n a v1 (λa=>k (.exit 0) ⟨gp [(3,pS a)] 19,[],s⟩):=by
 induction n generalizing a v1 with
 | zero=>rfl
 | succ n b=>rw[Ba];simp only[<-b];kernel_rfl
noncomputable def Bw7{R:Type}(L:Nat)(b:Int)(c:By->Option R):Option R:=Ba L L ([]:List UInt8) b (λa=>c a)
theorem Cv4(d:Nat)(g0):evC (Md L) (d+1) Z Y 132 [p16 g0] [] s=Bw7 L g0 (λa=>some (pS a,[],s)):=by refine(evE (fn:=ag3) (by kernel_rfl)).trans ?_;generalize evC (Md L) d=Q;unfold Bw7;exact(j2 (by kernel_rfl) ((An6 L Q Y s (E4 0 (E1 (Md L) Q Y (cd [1,1,1] Bs3) (F3 (Md L) ag3))) L ([]:List UInt8) g0).trans (by kernel_rfl)))
noncomputable abbrev Pk:Code:=C7 af6
noncomputable def Y6(L:Nat):Cfg:=B7 L [97] (A2 [(12,[1,0,0,0,2,0]),(6,[1,0,0,0,0,0]),(3,[1,0,0,0,0])]) [(132,Bq3)] (A2 [(20,[2]),(13,[1,1,0,2,0]),(19,[1,1,0,2,0]),(18,[1,1,0,2,0]),(17,[1,1,0,2,0,45]),(16,[1,1,0,2,0]),(15,[1,1,0,2,0]),(14,[1,1,0,2,0,29]),(12,[1,1,0,2,0,24]),(11,[1,1,0,2,0]),(10,[1,1,0,2]),(4,[1,1,0,0]),(9,[1,1,0,0]),(8,[1,1,0,0,0,22]),(7,[1,1,0,0,0]),(6,[1,1,0,0,0,17]),(5,[1,1,0,0,0]),(3,[1,1,0,0,4]),(2,[1,1,0,0]),(1,[1,1,0]),(0,[1])]) [132] (A2 [(4,[7]),(5,[1,1,0,2,0]),(0,[1,1,0]),(1,[1,1,0,0]),(2,[1,1,0,0,0]),(3,[1,1,0,0,0])]) (some [2]) [] [] []
noncomputable def Np{R:Type}(L n:Nat)(b a c d:Int)(e:LL)(f:Int->Int->Int->Int->LL->Option R):Option R:=match n with|0=>none|n+1=>cond (ltI (A1 (c+d)) (8:Int)) (cond (inR (A1 (c+d)) 8) (cond (okE ⟨true,false,[.int .u16]⟩ e (b8 (A1 (c+d))) 0) (vl (gE e (b8 (A1 (c+d))) 0) λg=>cond (g==0) (Np L n b a c (A1 (d+1)) e f) (f b a c d e)) none) none) (f b a c d e)
theorem Bj5(n b a c e d):D0 1 ((Y6 L).keep 6) (bd (Y6 L) Q Y (cd [1,1,0,1,0,0,1,0,0,1,0,0,0] Pk)) n ⟨gp [(1,.ptr 0 0 0),(1,pI b),(0,pI a),(0,pI c),(0,pI e)] 57,[.arr false 26 1 d],s⟩ k =
 Np L n b a c e d (λb a c e d=>k (.exit 2) ⟨gp [(1,.ptr 0 0 0),(1,pI b),(0,pI a),(0,pI c),(0,pI e)] 57,[.arr false 26 1 d],s⟩):=by
 induction n generalizing b a c e d with
 | zero=>rfl
 | succ n f=>rw[Np];simp only[<-f];kernel_rfl
noncomputable def Jm{R:Type}(L n:Nat)(e b i:Int)(j:LL)(h:Int->Int->LL->Option R):Option R:=match n with|0=>none|n+1=>cond (ltI i 8) (Np L L e b i 0 j (λd a c g f=>cond (ltI a g) (Jm L n c g (A1 (c+1)) f h) (Jm L n d a (A1 (c+1)) f h))) (h e b j)
theorem Bj6(n b a i2 l3):D0 1 ((Y6 L).keep 3) (bd (Y6 L) Q Y (cd [1,1,0,1,0,0] Pk)) n ⟨gp [(1,.ptr 0 0 0),(1,pI b),(0,pI a),(0,pI i2)] 58,[.arr false 26 1 l3],s⟩ k =
 Jm L n b a i2 l3 (λb a i=>k (.exit 0) ⟨gp [(1,.ptr 0 0 0),(1,pI b),(0,pI a)] 59,[.arr false 26 1 i],s⟩):=by
 induction n generalizing b a i2 l3 with
 | zero=>rfl
 | succ n h=>rw[Jm];exact(j2 (by kernel_rfl) (A0 ((Bj5 L Q Y s (E4 2 (E1 (Y6 L) Q Y (cd [1,1,0,1,0,0,1,0,0,1,1] Pk) (E4 1 (E1 (Y6 L) Q Y (cd [1,1,0,1,0,0,1,1] Pk) (lpK 1 ((Y6 L).keep 3) (bd (Y6 L) Q Y (cd [1,1,0,1,0,0] Pk)) n k))))) L b a i2 0 l3).trans (congr rfl (fx5 λe c d g f=>(j2 (by kernel_rfl) (A0 (h d g (A1 (d+1)) f) (h e c (A1 (d+1)) f)))))) rfl))
noncomputable def U2{R:Type}(L n:Nat)(e a:Int)(d:By)(b:Int)(c:LL)(l:By->LL->Option R):Option R:=match n with|0=>none|n+1=>cond (ltI b 8) (cond (b==e) (cond (E8 d.length 2) (vl (d++[58,58]) λp=>vl (A1 (a-1)) λm=>vl (A1 ((A1 (b+m))+1)) λo=>U2 L n e a p o c l) none) (cond (not (d==[])) (vl (A1 ((d.length:Int)-1)) λf=>cond (inR f d.length) (cond ((bAt d f)!=58) (cond (E8 d.length 1) (vl (d++[58]) λg=>cond (inR b 8) (cond (okE ⟨true,false,[.int .u16]⟩ c (b8 b) 0) (cond (ltN (gE c (b8 b) 0) 65536) (vl (P4 (b8 (gE c (b8 b) 0))) λh=>cond (E8 g.length h.length) (U2 L n e a (g++h) (A1 (b+1)) c l) none) none) none) none) none) (cond (inR b 8) (cond (okE ⟨true,false,[.int .u16]⟩ c (b8 b) 0) (cond (ltN (gE c (b8 b) 0) 65536) (vl (P4 (b8 (gE c (b8 b) 0))) λi=>cond (E8 d.length i.length) (U2 L n e a (d++i) (A1 (b+1)) c l) none) none) none) none)) none) (cond (inR b 8) (cond (okE ⟨true,false,[.int .u16]⟩ c (b8 b) 0) (cond (ltN (gE c (b8 b) 0) 65536) (vl (P4 (b8 (gE c (b8 b) 0))) λj=>cond (E8 d.length j.length) (U2 L n e a (d++j) (A1 (b+1)) c l) none) none) none) none))) (l d c)
theorem Bj7(n at0 most1 s2 i3 l4):D0 1 ((Y6 L).keep 12) (bd (Y6 L) Q Y (cd [1,1,1,1,0,1,0,0] Pk)) n ⟨gp [(1,.ptr 0 0 0),(1,pI at0),(0,pI most1),(2,pS s2),(0,pI i3)] 55,[.arr false 26 1 l4],s⟩ k =
 U2 L n at0 most1 s2 i3 l4 (λc b=>k (.exit 4) ⟨gp [(7,pS c)] 56,[.arr false 26 1 b],s⟩):=by
 induction n generalizing at0 most1 s2 i3 l4 with
 | zero=>rfl
 | succ n a=>rw[U2];simp only[<-a];kernel_rfl
noncomputable def Di9{R:Type}(L:Nat)(f g h i j l m n:Int)(o:By->LL->Option R):Option R:=Jm L L (-1) 1 0 [[(SV.int .u16 f)],[(SV.int .u16 g)],[(SV.int .u16 h)],[(SV.int .u16 i)],[(SV.int .u16 j)],[(SV.int .u16 l)],[(SV.int .u16 m)],[(SV.int .u16 n)]] (λb a e=>U2 L L b a ([]:List UInt8) 0 e (λd c=>o d c))
theorem Dj0(d:Nat)(a0 a1 a2 a3 a4 a5 a6 a7):evC (Y6 L) (d+1) Z Y 97 [.agg [p16 a0,p16 a1,p16 a2,p16 a3,p16 a4,p16 a5,p16 a6,p16 a7]] [] s=Di9 L a0 a1 a2 a3 a4 a5 a6 a7 (λf e=>some (pS f,[.arr false 26 1 e],s)):=by refine(evE (fn:=af6) (by kernel_rfl)).trans ?_;generalize evC (Y6 L) d=Q;unfold Di9;exact(j2 (by kernel_rfl) ((Bj6 L Q Y s (E4 0 (E1 (Y6 L) Q Y (cd [1,1,1] Pk) (F3 (Y6 L) af6))) L (-1) 1 0 [[(SV.int .u16 a0)],[(SV.int .u16 a1)],[(SV.int .u16 a2)],[(SV.int .u16 a3)],[(SV.int .u16 a4)],[(SV.int .u16 a5)],[(SV.int .u16 a6)],[(SV.int .u16 a7)]]).trans (congr rfl (fx3 λb a c=>(j2 (by kernel_rfl) ((Bj7 L Q Y s (E4 4 (E1 (Y6 L) Q Y (cd [1,1,1,1,1] Pk) (F3 (Y6 L) af6))) L b a ([]:List UInt8) 0 c).trans (by kernel_rfl)))))))
noncomputable def JU(L:Nat):Cfg:=B7 L [213] (A2 []) [] (A2 [(1,[2]),(0,[0])]) [] (A2 []) (some [2]) [] [] []
noncomputable def YX{R:Type}(L:Nat)(n0:Int)(a:Bool->Option R):Option R:=cond (not (ltI n0 0)) (cond (not (ltI 1114111 n0)) (cond (ltI n0 55296) (a true) (a (ltI 57343 n0))) (a false)) (a false)
theorem B76(d:Nat)(n0):evC (JU L) (d+1) Z Y 213 [pI n0] [] s=YX L n0 (λa=>some (pB a,[],s)):=by refine(evE (fn:=Tryz.f213) (by kernel_rfl)).trans ?_;generalize evC (JU L) d=Q;unfold YX;kernel_rfl
noncomputable abbrev Pi:Code:=C7 ae3
noncomputable def Y4(L:Nat):Cfg:=B7 L [215] (A2 [(6,[0,5,0])]) [] (A2 [(9,[6]),(8,[0,6]),(7,[0,6]),(6,[0,6,11]),(5,[0,6]),(4,[0]),(2,[0,0]),(3,[0,0]),(1,[0,0,6]),(0,[0,0,0])]) [] (A2 [(0,[0,6]),(1,[0,6])]) (some [6]) [] [] []
noncomputable def Gv{R:Type}(L n:Nat)(a b:Int)(e:Int->Int->Option R):Option R:=match n with|0=>none|n+1=>cond (ltI 455 a) (vl (A1 (aa0 a (35:Int))) λc=>vl (A1 (b+36)) λd=>Gv L n c d e) (e a b)
theorem YS(n a b):D0 0 ((Y4 L).keep 6) (bd (Y4 L) Q Y (cd [1,1,1,1,0,0,0] Pi)) n ⟨gp [(0,pI a),(6,pI b)] 23,[],s⟩ k =
 Gv L n a b (λa b=>k (.exit 0) ⟨gp [(0,pI a),(6,pI b)] 23,[],s⟩):=by
 induction n generalizing a b with
 | zero=>rfl
 | succ n c=>rw[Gv];simp only[<-c];kernel_rfl
noncomputable def Gu{R:Type}(L:Nat)(c b:Int)(i:Int->Option R):Option R:=cond (b !=0) (vl (A1 (aa0 c b)) λh=>Gv L L (A1 (c+h)) 0 (λa e=>vl (A1 ((36:Int)*a)) λf=>vl (A1 (a+38)) λd=>cond (d !=0) (vl (A1 (aa0 f d)) λg=>i (A1 (e+g))) none)) none
abbrev EM(b:Code):Prop:=∀(k:Out->St Z->Option R) delta0 count1,A9 (Y4 L) Q Y b ⟨gp [(0,pI delta0),(0,pI count1)] 29,[],s⟩ k=Gu L delta0 count1 (λn0=>k .ret ⟨gp [(6,pI n0)] 24,[],s⟩)
theorem YR:EM (R:=R) L Q Y s (cd [1,1] Pi):=by intro k a b;unfold Gu;exact(j2 (by kernel_rfl) (A0 (A4 λc=>((YS L Q Y s (E4 0 (E1 (Y4 L) Q Y (cd [1,1,1,1,1] Pi) k)) L (A1 (a+c)) 0).trans (by kernel_rfl))) rfl))
noncomputable def MG{R:Type}(L:Nat)(b a:Int)(c:Bool)(h:Int->Option R):Option R:=cond c (vl (A1 (aa0 b (700:Int))) λf=>Gu L f a (λd=>h d)) (vl (A1 (aa0 b (2:Int))) λg=>Gu L g a (λe=>h e))
theorem B62(e:Code)(a:EM (R:=PV × List Blk × Z) L Q Y s e)(c b:Int)(d:Bool):A9 (Y4 L) Q Y (cd [] (G7 [1,1] e Pi)) ⟨[pI c,pI b,pB d]++tps 28,[],s⟩ (F3 (Y4 L) ae3)=MG L c b d (λi=>some (pI i,[],s)):=by unfold MG;exact let h:=(F3 (Y4 L) ae3);(j2 (by kernel_rfl) (A0 (A4 λf=>((a h f b).trans (by kernel_rfl))) (A4 λg=>((a h g b).trans (by kernel_rfl)))))
theorem B63(d:Nat)(delta0 count1 first2):evC (Y4 L) (d+1) Z Y 215 [pI delta0,pI count1,pB first2] [] s=MG L delta0 count1 first2 (λa=>some (pI a,[],s)):=
 (evE (fn:=ae3) (by kernel_rfl)).trans (j2 (by kernel_rfl) (B62 L (evC (Y4 L) d) Y s (cd [1,1] Pi) (YR L (evC (Y4 L) d) Y s) delta0 count1 first2))
noncomputable def A15(L:Nat):Cfg:=B7 L [239] (A2 []) [] (A2 [(3,[2]),(2,[2]),(1,[0,3]),(0,[0])]) [] (A2 []) (some [2]) [] [] []
noncomputable def De9{R:Type}(L:Nat)(a:Int)(d:Int->Option R):Option R:=cond (ltI a 26) (vl (wu8 (A1 ((97:Int)+a))) λb=>d b) (vl (A1 ((A1 ((48:Int)+a))-26)) λc=>d (wu8 c))
theorem Df0(d:Nat)(d0):evC (A15 L) (d+1) Z Y 239 [pI d0] [] s=De9 L d0 (λa=>some (p8 a,[],s)):=by refine(evE (fn:=Tryz.f239) (by kernel_rfl)).trans ?_;generalize evC (A15 L) d=Q;unfold De9;kernel_rfl
noncomputable abbrev Tv:Code:=C7 ae5
noncomputable def Ju(L:Nat):Cfg:=B7 L [250] (A2 []) [] (A2 [(7,[2]),(2,[2]),(4,[2]),(6,[2]),(5,[0,22]),(3,[0,12]),(1,[0,2]),(0,[0])]) [] (A2 [(0,[])]) (some [2]) [] [] []
noncomputable def Yc{R:Type}(a:Int)(g:Bool)(e:Int->Option R)(f:Int->Bool->Option R):Option R:=cond g (vl (A1 (wu8 (a-65))) λb=>e b) (cond (not (ltI a 48)) (cond (not (ltI 57 a)) (vl (A1 (wu8 (a-48))) λc=>vl (A1 (c+26)) λd=>e d) (f a (not (ltI 57 a)))) (f a false))
abbrev RL(b:Code):Prop:=∀(k:Out->St Z->Option R) a c,A9 (Ju L) Q Y b ⟨gp [(0,p8 a),(12,pB c)] 20,[],s⟩ k=Yc a c (λn0=>k .ret ⟨gp [(2,pI n0)] 31,[],s⟩) (λa c=>k .normal ⟨gp [(0,p8 a),(22,pB c)] 10,[],s⟩)
theorem Bb2:RL (R:=R) L Q Y s (cd [1,0,0,1,1,1] Tv):=by intro k a b;unfold Yc;kernel_rfl
noncomputable def Yd{R:Type}(a:Int)(l:Bool)(f:Int->Option R)(j:Int->Bool->Option R):Option R:=cond l (vl (A1 (wu8 (a-97))) λg=>f g) (cond (not (ltI a 65)) (Yc a (not (ltI 90 a)) (λh=>f h) (λb c=>j b c)) (Yc a false (λi=>f i) (λd e=>j d e)))
abbrev CS(b:Code):Prop:=∀(k:Out->St Z->Option R) a c,A9 (Ju L) Q Y b ⟨gp [(0,p8 a),(2,pB c)] 30,[],s⟩ k=Yd a c (λn0=>k .ret ⟨gp [(2,pI n0)] 31,[],s⟩) (λa c=>k .normal ⟨gp [(0,p8 a),(22,pB c)] 10,[],s⟩)
theorem Bb3(a:Code)(b:RL (R:=R) L Q Y s a):CS (R:=R) L Q Y s (cd [1,0,0,1] (G7 [1,0,0,1,1,1] a Tv)):=by intro k c d;unfold Yd;simp only[<-b k];kernel_rfl
theorem Bb4:CS (R:=R) L Q Y s (cd [1,0,0,1] Tv):=by intro k a b;exact j2 (by kernel_rfl) (Bb3 L Q Y s (cd [1,0,0,1,1,1] Tv) (Bb2 L Q Y s) k a b)
noncomputable def Cu0{R:Type}(L:Nat)(c:Int)(d:Int->Option R):Option R:=cond (not (ltI c 97)) (Yd c (not (ltI 122 c)) (λa=>d a) (λe f=>d (-1))) (Yd c false (λb=>d b) (λg h=>d (-1)))
theorem Dg0(b:Code)(a:CS (R:=PV × List Blk × Z) L Q Y s b)(c:Int):A9 (Ju L) Q Y (cd [] (G7 [1,0,0,1] b Tv)) ⟨[p8 c]++tps 33,[],s⟩ (F3 (Ju L) ae5)=Cu0 L c (λe=>some (pI e,[],s)):=by unfold Cu0;exact let d:=(E4 0 (E1 (Ju L) Q Y (cd [1,1] Tv) (F3 (Ju L) ae5)));(j2 (by kernel_rfl) (A0 ((a d c (not (ltI 122 c))).trans (by kernel_rfl)) ((a d c false).trans (by kernel_rfl))))
theorem Dg1(d:Nat)(b0):evC (Ju L) (d+1) Z Y 250 [p8 b0] [] s=Cu0 L b0 (λa=>some (pI a,[],s)):=
 (evE (fn:=ae5) (by kernel_rfl)).trans (j2 (by kernel_rfl) (Dg0 L (evC (Ju L) d) Y s (cd [1,0,0,1] Tv) (Bb4 L (evC (Ju L) d) Y s) b0))
end
section
variable {Z R : Type} (L : Nat) (Q : G2) (Y : Yh Z) (s : Z) (k : Out -> St Z -> Option R)
noncomputable def A12(L:Nat):Cfg:=B7 L [163] (A2 []) [] (A2 [(1,[4]),(0,[0,0])]) [] (A2 []) (some [4]) [] [] []
noncomputable def Dd1{R:Type}(L:Nat)(c a:By)(d:Bool->Option R):Option R:=cond (not (ltI (c.length:Int) (a.length:Int))) (cond (I9 0 (a.length:Int) c.length) (vl (cut c 0 (a.length:Int)) λb=>d (b==a)) none) (d false)
theorem Dd2(d:Nat)(s0 prefix1):evC (A12 L) (d+1) Z Y 163 [pS s0,pS prefix1] [] s=Dd1 L s0 prefix1 (λa=>some (pB a,[],s)):=by refine(evE (fn:=Tryz.f163) (by kernel_rfl)).trans ?_;generalize evC (A12 L) d=Q;unfold Dd1;kernel_rfl
noncomputable def A09(L:Nat):Cfg:=B7 L [120] (A2 []) [(163,TW)] (A2 [(1,[4]),(0,[0,0])]) [163] (A2 []) (some [4]) [] [] []
noncomputable def Px{R:Type}(L:Nat)(b a:By)(c:Bool->Option R):Option R:=cond (A3 b.length) (c (o8 a b)) none
theorem Db3(d:Nat)(s0 prefix1):evC (A09 L) (d+1) Z Y 120 [pS s0,pS prefix1] [] s=Px L s0 prefix1 (λa=>some (pB a,[],s)):=by refine(evE (fn:=Tryz.f120) (by kernel_rfl)).trans ?_;generalize evC (A09 L) d=Q;unfold Px;kernel_rfl
noncomputable def A13(L:Nat):Cfg:=B7 L [232] (A2 []) [] (A2 [(1,[4]),(0,[0,0])]) [] (A2 []) (some [4]) [] [] []
noncomputable def Dd3{R:Type}(L:Nat)(b a:By)(e:Bool->Option R):Option R:=cond (not (ltI (b.length:Int) (a.length:Int))) (vl (A1 ((b.length:Int)-(a.length:Int))) λc=>cond (I9 c (b.length:Int) b.length) (vl (cut b c (b.length:Int)) λd=>e (d==a)) none) (e false)
theorem Dd4(d:Nat)(s0 suffix1):evC (A13 L) (d+1) Z Y 232 [pS s0,pS suffix1] [] s=Dd3 L s0 suffix1 (λa=>some (pB a,[],s)):=by refine(evE (fn:=Tryz.f232) (by kernel_rfl)).trans ?_;generalize evC (A13 L) d=Q;unfold Dd3;kernel_rfl
noncomputable def A10(L:Nat):Cfg:=B7 L [207] (A2 []) [(232,Ax1)] (A2 [(1,[4]),(0,[0,0])]) [232] (A2 []) (some [4]) [] [] []
noncomputable def Db4{R:Type}(L:Nat)(b a:By)(c:Bool->Option R):Option R:=cond (A3 b.length) (c (aa7 a b)) none
theorem Db5(d:Nat)(s0 suffix1):evC (A10 L) (d+1) Z Y 207 [pS s0,pS suffix1] [] s=Db4 L s0 suffix1 (λa=>some (pB a,[],s)):=by refine(evE (fn:=Tryz.f207) (by kernel_rfl)).trans ?_;generalize evC (A10 L) d=Q;unfold Db4;kernel_rfl
noncomputable def WO(L:Nat):Cfg:=B7 L [221] (A2 []) [(232,Ax1)] (A2 [(3,[4]),(2,[4]),(1,[0,0,5]),(0,[0,0])]) [232] (A2 []) (some [4]) [] [] []
noncomputable def Bv2{R:Type}(L:Nat)(b a:By)(d:By->Option R):Option R:=cond (A3 b.length) (cond (aa7 a b) (vl (A1 ((b.length:Int)-(a.length:Int))) λc=>cond (I9 0 c b.length) (d (cut b 0 c)) none) (d b)) none
theorem Cr1(d:Nat)(s0 suffix1):evC (WO L) (d+1) Z Y 221 [pS s0,pS suffix1] [] s=Bv2 L s0 suffix1 (λa=>some (pS a,[],s)):=by refine(evE (fn:=Tryz.f221) (by kernel_rfl)).trans ?_;generalize evC (WO L) d=Q;unfold Bv2;kernel_rfl
noncomputable def XB(L:Nat):Cfg:=B7 L [199] (A2 []) [(221,Bp7)] (A2 [(1,[4]),(0,[0,0])]) [221] (A2 []) (some [4]) [] [] []
noncomputable def By1{R:Type}(L:Nat)(b a:By)(c:By->Option R):Option R:=cond (A3 b.length) (c (Aa5 b a)) none
theorem C04(d:Nat)(s0 suffix1):evC (XB L) (d+1) Z Y 199 [pS s0,pS suffix1] [] s=By1 L s0 suffix1 (λa=>some (pS a,[],s)):=by refine(evE (fn:=Tryz.f199) (by kernel_rfl)).trans ?_;generalize evC (XB L) d=Q;unfold By1;kernel_rfl
noncomputable def WK(L:Nat):Cfg:=B7 L [158] (A2 []) [(163,TW)] (A2 [(3,[4,0]),(2,[4,0]),(1,[0,0,7]),(0,[0,0])]) [163] (A2 []) (some [4,0]) [] [] []
noncomputable def Bu5{R:Type}(L:Nat)(b a:By)(d:By->Bool->Option R):Option R:=cond (A3 b.length) (cond (not (o8 a b)) (d b false) (cond (I9 (a.length:Int) (b.length:Int) b.length) (vl (cut b (a.length:Int) (b.length:Int)) λc=>d c true) none)) none
theorem Cq3(d:Nat)(s0 prefix1):evC (WK L) (d+1) Z Y 158 [pS s0,pS prefix1] [] s=Bu5 L s0 prefix1 (λa b=>some (.tup [pS a,pB b],[],s)):=by refine(evE (fn:=Tryz.f158) (by kernel_rfl)).trans ?_;generalize evC (WK L) d=Q;unfold Bu5;kernel_rfl
noncomputable def A03(L:Nat):Cfg:=B7 L [118] (A2 []) [(158,Bp4)] (A2 [(1,[4,0]),(0,[0,0])]) [158] (A2 []) (some [4,0]) [] [] []
noncomputable def C77{R:Type}(L:Nat)(b a:By)(c:By->Bool->Option R):Option R:=cond (A3 b.length) (c (Hl b a) (o8 a b)) none
theorem C78(d:Nat)(s0 prefix1):evC (A03 L) (d+1) Z Y 118 [pS s0,pS prefix1] [] s=C77 L s0 prefix1 (λa b=>some (.tup [pS a,pB b],[],s)):=by refine(evE (fn:=Tryz.f118) (by kernel_rfl)).trans ?_;generalize evC (A03 L) d=Q;unfold C77;kernel_rfl
noncomputable abbrev Ae2:Code:=C7 ah0
noncomputable def Eo(L:Nat):Cfg:=B7 L [210] (A2 [(11,[0,0,0,0,4,0,0])]) [(234,Kl),(235,Ay1),(179,IX)] (A2 [(18,[8]),(17,[9,0]),(16,[0,0,0,0,5,0]),(15,[0,0,0,0,5,0]),(14,[0,0,0,0,5,0,0]),(13,[0,0,0,0,5,0,0,29]),(12,[0,0,0,0,5,0,0]),(11,[0,0,0,0,5,0,25]),(10,[0,0,0,0,5,0]),(9,[0,0,0,0,5]),(8,[0,0,0,0,5]),(7,[0,0,0,0]),(6,[0,0,0,0]),(5,[0,0,0,0,16]),(4,[8]),(3,[0,0,0,0,11]),(2,[8]),(1,[0,0,0,0,9]),(0,[0,0,0,0])]) [235,179] (A2 [(0,[0,8,0]),(1,[0,0,0,0,5,0])]) (some [8]) [] [] []
noncomputable def Bt{R:Type}(L n:Nat)(c b:By)(a l d:Int)(g:LL)(j:By->Int->LL->Option R):Option R:=match n with|0=>none|n+1=>cond (ltI d l) (cond (A3 c.length) (cond (ltI (x9 c b) (0:Int)) (j c d g) (vl (A1 ((x9 c b)+a)) λe=>cond (I9 0 e c.length) (cond (inR d g.length) (cond (decide ((b8 d)<g.length)) (vl (aa5 g (b8 d) (G3 (b9 g (b8 d) []) 0 [(SV.str (cut c 0 e))])) λh=>vl (A1 ((x9 c b)+(b.length:Int))) λf=>cond (I9 f (c.length:Int) c.length) (vl (cut c f (c.length:Int)) λi=>Bt L n i b a l (A1 (d+1)) h j) none) none) none) none)) none) (j c d g)
theorem Xe(n a sep1 sepSave2 n3 i4 l5):D0 1 ((Eo L).keep 11) (bd (Eo L) Q Y (cd [1,1,1,1,1,1,1,1,0,0,0] Ae2)) n ⟨gp [(0,pS a),(0,pS sep1),(0,pI sepSave2),(0,pI n3),(5,.fl 0),(0,pI i4)] 55,[.arr false 9 1 l5],s⟩ k =
 Bt L n a sep1 sepSave2 n3 i4 l5 (λa b d=>k (.exit 0) ⟨gp [(0,pS a),(8,.fl 0),(0,pI b)] 55,[.arr false 9 1 d],s⟩):=by
 induction n generalizing a sep1 sepSave2 n3 i4 l5 with
 | zero=>rfl
 | succ n c=>rw[Bt];simp only[<-c];kernel_rfl
noncomputable def KY{R:Type}(L:Nat)(t d:By)(a u:Int)(w:Unit->Option R)(v:Nat->LL->Option R):Option R:=cond (u==0) (w ()) (cond (d==[]) none (cond (ltI u 0) (cond (d.length==1) (vl (↑(List.count (b9 d 0 0) t):Int) λn=>vl (A1 ((t.length:Int)+1)) λo=>vl (if (o<(A1 (n+1))) then o else (A1 (n+1))) λg=>cond (((decide ((0:Int)<=g))&&(decide (g<=g)))&&(G1 (b8 g))) (Bt L L t d a (A1 (g-1)) 0 (j1 (b8 g) [(SV.str ([]:List UInt8))]) (λq b e=>cond (inR b e.length) (cond (decide ((b8 b)<e.length)) (vl (aa5 e (b8 b) (G3 (b9 e (b8 b) []) 0 [(SV.str q)])) λi=>vl (A1 (b+1)) λl=>cond (I9 0 l i.length) (v ((b8 l)-0) i) none) none) none)) none) none) (vl (A1 ((t.length:Int)+1)) λp=>vl (if (p<u) then p else u) λh=>cond (((decide ((0:Int)<=h))&&(decide (h<=h)))&&(G1 (b8 h))) (Bt L L t d a (A1 (h-1)) 0 (j1 (b8 h) [(SV.str ([]:List UInt8))]) (λr c f=>cond (inR c f.length) (cond (decide ((b8 c)<f.length)) (vl (aa5 f (b8 c) (G3 (b9 f (b8 c) []) 0 [(SV.str r)])) λj=>vl (A1 (c+1)) λm=>cond (I9 0 m j.length) (v ((b8 m)-0) j) none) none) none)) none)))
theorem QM(d:Nat)(s0 sep1 sepSave2 n3):evC (Eo L) (d+1) Z Y 210 [pS s0,pS sep1,pI sepSave2,pI n3] [] s=KY L s0 sep1 sepSave2 n3 (λ_=>some (.fl 0,[.arr true 9 1 []],s)) (λc f=>some (.vw 0 0 c,[.arr false 9 1 f],s)):=by refine(evE (fn:=ah0) (by kernel_rfl)).trans ?_;generalize evC (Eo L) d=Q;unfold KY;exact let e:=(E4 0 (E1 (Eo L) Q Y (cd [1,1,1,1,1,1,1,1,1] Ae2) (F3 (Eo L) ah0)));(j2 (by kernel_rfl) (A0 rfl (A0 rfl (A0 (A0 (A4 λg=>(A4 λh=>(A4 λa=>(A0 ((Xe L Q Y s e L s0 sep1 sepSave2 (A1 (a-1)) 0 (j1 (b8 a) [(SV.str ([]:List UInt8))])).trans (by kernel_rfl)) rfl)))) rfl) (A4 λi=>(A4 λb=>(A0 ((Xe L Q Y s e L s0 sep1 sepSave2 (A1 (b-1)) 0 (j1 (b8 b) [(SV.str ([]:List UInt8))])).trans (by kernel_rfl)) rfl)))))))
noncomputable def JZ(L:Nat):Cfg:=B7 L [176] (A2 []) [(210,Ac8)] (A2 [(1,[4]),(0,[0,0])]) [] (A2 []) (some [4]) [] [] []
noncomputable def ZZ{R:Type}(L:Nat)(c a:By)(d:LL->Option R):Option R:=cond (A3 c.length) (cond (a.length==1) (cond ((0:Int)==0) (cond (((-1):Int)==((-1):Int)) (vl (D5 (pcs (b9 a 0 0) c)) λb=>d b) none) none) none) none
theorem Cd0(d:Nat)(s0 sep1):evC (JZ L) (d+1) Z Y 176 [pS s0,pS sep1] [] s=ZZ L s0 sep1 (λa=>some (.s (.sl false false 1 a),[],s)):=by refine(evE (fn:=Tryz.f176) (by kernel_rfl)).trans ?_;generalize evC (JZ L) d=Q;unfold ZZ;kernel_rfl
noncomputable abbrev Ck8:Code:=C7 ag0
noncomputable def Uc(L:Nat):Cfg:=B7 L [116] (A2 [(3,[0,1,0,6,0])]) [] (A2 [(10,[2]),(9,[0,2,6,0]),(8,[0,2,6,0]),(7,[0,2,1,4,0]),(6,[0,2,1,4,0,10]),(5,[0,2,1,4,0]),(4,[0,2,0,5,0]),(3,[0,2,6,0,0]),(2,[0,2,6,0]),(1,[0,2]),(0,[0])]) [] (A2 [(0,[3]),(1,[0,2,6,0])]) (some [2]) [] [] []
noncomputable def Fu{R:Type}(L n:Nat)(b:By)(e a:Int)(c:LL)(d:LL->Option R):Option R:=match n with|0=>none|n+1=>cond (ltI a e) (cond (inR a b.length) (cond (not (ltI (bAt b a) (65:Int))) (cond (not (ltI 90 (bAt b a))) (vl (wu8 ((bAt b a)+32)) λf=>cond (G1 (c.length+1)) (Fu L n b e (A1 (a+1)) (c++[[(SV.int .u8 f)]]) d) none) (cond (G1 (c.length+1)) (Fu L n b e (A1 (a+1)) (c++[[(SV.int .u8 (bAt b a))]]) d) none)) (cond (G1 (c.length+1)) (Fu L n b e (A1 (a+1)) (c++[[(SV.int .u8 (bAt b a))]]) d) none)) none) (d c)
theorem A74(n s0 n1 n2 l3):D0 1 ((Uc L).keep 3) (bd (Uc L) Q Y (cd [1,1,0,1,0,0] Ck8)) n ⟨gp [(0,pS s0),(2,.fl 0),(6,pI n1),(0,pI n2)] 20,[.arr false 5 1 l3],s⟩ k =
 Fu L n s0 n1 n2 l3 (λb=>k (.exit 0) ⟨gp [(3,.fl 0)] 28,[.arr false 5 1 b],s⟩):=by
 induction n generalizing s0 n1 n2 l3 with
 | zero=>rfl
 | succ n a=>rw[Fu];simp only[<-a];kernel_rfl
noncomputable def Dc9{R:Type}(L:Nat)(b:By)(c:By->LL->Option R):Option R:=cond ((decide ((0:Int)<=(b.length:Int)))&&(G1 (b8 (b.length:Int)))) (Fu L L b (b.length:Int) 0 [] (λa=>cond (w8 a Ou) (c (p4 Ml a) a) none)) none
theorem Dd0(d:Nat)(s0):evC (Uc L) (d+1) Z Y 116 [pS s0] [] s=Dc9 L s0 (λb a=>some (pS b,[.arr false 5 1 a],s)):=by refine(evE (fn:=ag0) (by kernel_rfl)).trans ?_;generalize evC (Uc L) d=Q;unfold Dc9;exact(j2 (by kernel_rfl) (A0 ((A74 L Q Y s (E4 0 (E1 (Uc L) Q Y (cd [1,1,1] Ck8) (F3 (Uc L) ag0))) L s0 (s0.length:Int) 0 []).trans (by kernel_rfl)) rfl))
noncomputable def A07(L:Nat):Cfg:=B7 L [137] (A2 []) [(120,HM)] (A2 [(1,[2]),(0,[0])]) [120] (A2 []) (some [2]) [] [] []
noncomputable def Da9{R:Type}(L:Nat)(a:By)(b:Bool->Option R):Option R:=cond (A3 a.length) (cond (o8 ([48,120]:List UInt8) a) (b true) (cond (A3 a.length) (b (o8 ([48,88]:List UInt8) a)) none)) none
theorem Db0(d:Nat)(s0):evC (A07 L) (d+1) Z Y 137 [pS s0] [] s=Da9 L s0 (λa=>some (pB a,[],s)):=by refine(evE (fn:=Tryz.f137) (by kernel_rfl)).trans ?_;generalize evC (A07 L) d=Q;unfold Da9;kernel_rfl
noncomputable abbrev Fg:Code:=C7 ad8
noncomputable def X7(L:Nat):Cfg:=B7 L [139] (A2 [(3,[0,0,2,0,0,4,0])]) [] (A2 [(18,[4,0]),(17,[0,0,4,4,0]),(16,[0,0,4,4,0]),(15,[4,0]),(14,[0,0,4,1,2,0,39]),(9,[0,0,4,1,2,0]),(11,[0,0,4,1,2,0]),(13,[0,0,4,1,2,0]),(7,[4,0]),(12,[0,0,4,2,1,0,26]),(10,[0,0,4,2,1,0,15]),(8,[0,0,4,2,1,0,5]),(6,[0,0,4,2,1,0]),(5,[0,0,4,0,3,0]),(4,[0,0,4,0,3,0]),(3,[0,0,4,4,0,0]),(2,[0,0,4,4,0]),(1,[0,0,4]),(0,[0,0])]) [] (A2 [(0,[6]),(1,[0,0,4,4,0]),(2,[0,0,4,1,2,0])]) (some [4,0]) [] [] []
noncomputable def Wm{R:Type}(m:By)(a i b j l:Int)(n:Bool)(g:By->Int->Int->Int->Int->Int->Option R)(h:Unit->Option R):Option R:=cond n (vl (A1 (wu8 (b-97))) λc=>vl (A1 (c+10)) λd=>g m a i d j l) (cond (not (ltI b 65)) (cond (not (ltI 70 b)) (vl (A1 (wu8 (b-65))) λe=>vl (A1 (e+10)) λf=>g m a i f j l) (h ())) (h ()))
abbrev QC(b:Code):Prop:=∀(k:Out->St Z->Option R) f a c b3 d e b6,A9 (X7 L) Q Y b ⟨gp [(0,pS f),(0,pI a),(4,pI c),(2,p8 b3),(1,pI d),(0,pI e),(15,pB b6)] 32,[],s⟩ k=Wm f a c b3 d e b6 (λf a c g d e=>k .normal ⟨gp [(0,pS f),(0,pI a),(4,pI c),(1,pI g),(2,pI d),(0,pI e)] 48,[],s⟩) (λ_=>k .ret ⟨gp [(4,pI (0:Int)),(0,pB false)] 55,[],s⟩)
theorem A31:QC (R:=R) L Q Y s (cd [1,1,0,1,0,0,1,1,0,0,1,1,0,1,0,1,1,1] Fg):=by intro k g a d b e f c;unfold Wm;kernel_rfl
noncomputable def Wn{R:Type}(v:By)(a q d r t:Int)(x:Bool)(m:By->Int->Int->Int->Int->Int->Option R)(w:Unit->Option R):Option R:=cond x (vl (A1 (wu8 (d-48))) λn=>m v a q n r t) (cond (not (ltI d 97)) (Wm v a q d r t (not (ltI 102 d)) (λu c o l p f=>m u c o l p f) (λ_=>w ())) (Wm v a q d r t false (λj b g e h i=>m j b g e h i) (λ_=>w ())))
abbrev Rm(b:Code):Prop:=∀(k:Out->St Z->Option R) f a c b3 d e b6,A9 (X7 L) Q Y b ⟨gp [(0,pS f),(0,pI a),(4,pI c),(2,p8 b3),(1,pI d),(0,pI e),(5,pB b6)] 42,[],s⟩ k=Wn f a c b3 d e b6 (λf a c g d e=>k .normal ⟨gp [(0,pS f),(0,pI a),(4,pI c),(1,pI g),(2,pI d),(0,pI e)] 48,[],s⟩) (λ_=>k .ret ⟨gp [(4,pI (0:Int)),(0,pB false)] 55,[],s⟩)
theorem A32(a:Code)(b:QC (R:=R) L Q Y s a):Rm (R:=R) L Q Y s (cd [1,1,0,1,0,0,1,1,0,0,1,1,0,1,0,1] (G7 [1,1,0,1,0,0,1,1,0,0,1,1,0,1,0,1,1,1] a Fg)):=by intro k i c f d g h e;unfold Wn;simp only[<-b k];kernel_rfl
theorem A33:Rm (R:=R) L Q Y s (cd [1,1,0,1,0,0,1,1,0,0,1,1,0,1,0,1] Fg):=by intro k g a d b e f c;exact j2 (by kernel_rfl) (A32 L Q Y s (cd [1,1,0,1,0,0,1,1,0,0,1,1,0,1,0,1,1,1] Fg) (A31 L Q Y s) k g a d b e f c)
noncomputable def Wo{R:Type}(j:By)(a g d h i:Int)(e:Unit->Option R)(f:By->Int->Int->Int->Int->Option R):Option R:=cond (not (ltI d a)) (e ()) (vl (A1 ((A1 (g*a))+d)) λb=>vl (if ((1099511627776:Int)<b) then (1099511627776:Int) else b) λc=>f j a c h i)
abbrev BL(b:Code):Prop:=∀(k:Out->St Z->Option R) e a c d3 d n5,A9 (X7 L) Q Y b ⟨gp [(0,pS e),(0,pI a),(4,pI c),(1,pI d3),(2,pI d),(0,pI n5)] 48,[],s⟩ k=Wo e a c d3 d n5 (λ_=>k .ret ⟨gp [(4,pI (0:Int)),(0,pB false)] 55,[],s⟩) (λe a c f d=>k .normal ⟨gp [(0,pS e),(0,pI a),(4,pI c),(4,pI f),(0,pI d)] 48,[],s⟩)
theorem A34:BL (R:=R) L Q Y s (cd [1,1,0,1,0,0,1,1,0,0,1,1,1] Fg):=by intro k f a c b d e;unfold Wo;kernel_rfl
noncomputable def Iy{R:Type}(L n:Nat)(g:By)(e H I f:Int)(h:Unit->Option R)(G:Int->Option R):Option R:=match n with|0=>none|n+1=>cond (ltI f I) (cond (inR f g.length) (cond (not (ltI (bAt g f) (48:Int))) (Wn g e H (bAt g f) I f (not (ltI 57 (bAt g f))) (λB a l i m o=>Wo B a l i m o (λ_=>h ()) (λC b p q r=>vl (A1 (r+1)) λt=>Iy L n C b p q t h G)) (λ_=>h ())) (Wn g e H (bAt g f) I f false (λD c u j v w=>Wo D c u j v w (λ_=>h ()) (λF d x y z=>vl (A1 (z+1)) λA=>Iy L n F d x y A h G)) (λ_=>h ()))) none) (G H)
theorem A35(b:Code)(d:Rm (R:=R) L Q Y s b)(a:Code)(e:BL (R:=R) L Q Y s a)(n:Nat)(l:By)(c C D j:Int):D0 0 ((X7 L).keep 3) (bd (X7 L) Q Y (cd [1,1,0,1,0,0] (G7 [1,1,0,1,0,0,1,1,0,0,1,1,1] a (G7 [1,1,0,1,0,0,1,1,0,0,1,1,0,1,0,1] b Fg)))) n ⟨gp [(0,pS l),(0,pI c),(4,pI C),(4,pI D),(0,pI j)] 48,[],s⟩ k =
 Iy L n l c C D j (λ_=>k .ret ⟨gp [(4,pI (0:Int)),(0,pB false)] 55,[],s⟩) (λn0=>k (.exit 0) ⟨gp [(6,pI n0)] 54,[],s⟩):=by
 induction n generalizing l c C D j with
 | zero=>rfl
 | succ n M=>rw[Iy];exact let J:=(E4 1 (E1 (X7 L) Q Y (cd [1,1,0,1,0,0,1,1,1] Fg) (lpK 0 ((X7 L).keep 3) (bd (X7 L) Q Y (cd [1,1,0,1,0,0] (G7 [1,1,0,1,0,0,1,1,0,0,1,1,1] a (G7 [1,1,0,1,0,0,1,1,0,0,1,1,0,1,0,1] b Fg)))) n k)));let K:=(E4 2 (E1 (X7 L) Q Y a J));(j2 (by kernel_rfl) (A0 (A0 (A0 ((d K l c C (bAt l j) D j (not (ltI 57 (bAt l j)))).trans (congr (congr rfl (fx6 λF f p m q r=>(j2 (by kernel_rfl) ((e J F f p m q r).trans (congr (congr rfl (by kernel_rfl)) (fx5 λG g t u N=>(j2 (by kernel_rfl) (A4 λv=>(M G g t u v))))))))) (by kernel_rfl))) ((d K l c C (bAt l j) D j false).trans (congr (congr rfl (fx6 λH h w o x y=>(j2 (by kernel_rfl) ((e J H h w o x y).trans (congr (congr rfl (by kernel_rfl)) (fx5 λI i z A O=>(j2 (by kernel_rfl) (A4 λB=>(M I i z A B))))))))) (by kernel_rfl)))) rfl) rfl))
noncomputable def Cn1{R:Type}(L:Nat)(d:By)(a:Int)(c:Int->Bool->Option R):Option R:=Iy L L d a 0 (d.length:Int) 0 (λ_=>c 0 false) (λb=>c b true)
theorem C88(a:Code)(d:Rm (R:=PV × List Blk × Z) L Q Y s a)(b:Code)(e:BL (R:=PV × List Blk × Z) L Q Y s b)(f:By)(c:Int):A9 (X7 L) Q Y (cd [] (G7 [1,1,0,1,0,0,1,1,0,0,1,1,1] b (G7 [1,1,0,1,0,0,1,1,0,0,1,1,0,1,0,1] a Fg))) ⟨[pS f,pI c]++tps 59,[],s⟩ (F3 (X7 L) ad8)=Cn1 L f c (λg h=>some (.tup [pI g,pB h],[],s)):=by unfold Cn1;exact(j2 (by kernel_rfl) ((A35 L Q Y s (E4 0 (E1 (X7 L) Q Y (cd [1,1,1] Fg) (F3 (X7 L) ad8))) a d b e L f c 0 (f.length:Int) 0).trans (by kernel_rfl)))
theorem C89(d:Nat)(s0 base1):evC (X7 L) (d+1) Z Y 139 [pS s0,pI base1] [] s=Cn1 L s0 base1 (λa b=>some (.tup [pI a,pB b],[],s)):=
 (evE (fn:=ad8) (by kernel_rfl)).trans (j2 (by kernel_rfl) (C88 L (evC (X7 L) d) Y s (cd [1,1,0,1,0,0,1,1,0,0,1,1,0,1,0,1] Fg) (A33 L (evC (X7 L) d) Y s) (cd [1,1,0,1,0,0,1,1,0,0,1,1,1] Fg) (A34 L (evC (X7 L) d) Y s) s0 base1))
noncomputable def Cm2(L:Nat):Cfg:=B7 L [138] (A2 []) [(137,Aw6),(139,TB)] (A2 [(7,[2,0]),(2,[2,0]),(4,[2,0]),(6,[2,0]),(5,[0,14]),(3,[0,6]),(1,[0,3]),(0,[0])]) [137,139] (A2 [(0,[0])]) (some [2,0]) [] [] []
noncomputable def num{R:Type}(L:Nat)(a:By)(d:Int->Bool->Option R):Option R:=cond (a==[]) (d 0 false) (cond (A3 a.length) (cond (Y9 a) (cond (I9 2 (a.length:Int) a.length) (vl (cut a 2 (a.length:Int)) λb=>cond (A3 b.length) (cond (ltN 16 17) (vl (↑(N7 (F0 16 0 b)):Int) λe=>d e (j4 (F0 16 0 b))) none) none) none) (cond (ltI 1 (a.length:Int)) (cond (inR 0 a.length) (cond ((bAt a (0:Int))==48) (cond (I9 1 (a.length:Int) a.length) (vl (cut a 1 (a.length:Int)) λc=>cond (A3 c.length) (cond (ltN 8 17) (vl (↑(N7 (F0 8 0 c)):Int) λf=>d f (j4 (F0 8 0 c))) none) none) none) (cond (A3 a.length) (cond (ltN 10 17) (vl (↑(N7 (F0 10 0 a)):Int) λg=>d g (j4 (F0 10 0 a))) none) none)) none) (cond (A3 a.length) (cond (ltN 10 17) (vl (↑(N7 (F0 10 0 a)):Int) λh=>d h (j4 (F0 10 0 a))) none) none))) none)
theorem Dv3(d:Nat)(s0):evC (Cm2 L) (d+1) Z Y 138 [pS s0] [] s=num L s0 (λa b=>some (.tup [pI a,pB b],[],s)):=by refine(evE (fn:=Tryz.f138) (by kernel_rfl)).trans ?_;generalize evC (Cm2 L) d=Q;unfold num;kernel_rfl
noncomputable def WR(L:Nat):Cfg:=B7 L [136] (A2 []) [(176,Wc)] (A2 [(5,[2]),(4,[3]),(3,[3,0,13]),(2,[3,0]),(1,[3]),(0,[0])]) [] (A2 []) (some [2]) [] [] []
noncomputable def parts{R:Type}(L:Nat)(e:By)(c:LL->Option R):Option R:=cond (A3 e.length) (cond (1==1) (vl (D5 (pcs (b9 ([46]:List UInt8) 0 0) e)) λa=>vl (A1 ((a.length:Int)-1)) λb=>cond (ltI 0 b) (cond (inR b a.length) (cond (okE Ov a (b8 b) 0) (vl (gX a (b8 b) 0) λd=>cond (d==[]) (cond (I9 0 b a.length) (c (cut a 0 b)) none) (c a)) none) none) (c a)) none) none
theorem Ct3(d:Nat)(s0):evC (WR L) (d+1) Z Y 136 [pS s0] [] s=parts L s0 (λa=>some (.s (.sl false false 1 a),[],s)):=by refine(evE (fn:=Tryz.f136) (by kernel_rfl)).trans ?_;generalize evC (WR L) d=Q;unfold parts;kernel_rfl
noncomputable def AZ(L:Nat):Cfg:=B7 L [102] (A2 []) [(136,UE),(137,Aw6),(138,Ch8),(139,TB)] (A2 [(7,[2]),(6,[4,3]),(5,[2]),(4,[6]),(3,[4,13]),(2,[4]),(1,[3]),(0,[0])]) [137,138,139] (A2 []) (some [2]) [] [] []
noncomputable def GI{R:Type}(L:Nat)(c:By)(d:Bool->Option R):Option R:=cond (A3 c.length) (vl (A1 ((↑(a8 (D5 (C8 c))):Int)-1)) λb=>cond (inR b (a8 (D5 (C8 c)))) (cond (okE Ov (D5 (C8 c)) (b8 b) 0) (vl (gX (D5 (C8 c)) (b8 b) 0) λa=>cond (A3 a.length) (cond (Y9 a) (cond (A3 a.length) (vl (↑(N7 (Ac a)):Int) λe=>d (j4 (Ac a))) none) (cond (A3 a.length) (cond (ltN 10 17) (vl (↑(N7 (F0 10 0 a)):Int) λf=>cond (j4 (F0 10 0 a)) (d (not (a==[]))) (d false)) none) none)) none) none) none) none
theorem A87(d:Nat)(s0):evC (AZ L) (d+1) Z Y 102 [pS s0] [] s=GI L s0 (λa=>some (pB a,[],s)):=by refine(evE (fn:=Tryz.f102) (by kernel_rfl)).trans ?_;generalize evC (AZ L) d=Q;unfold GI;kernel_rfl
noncomputable abbrev Cl0:Code:=C7 ag6
noncomputable def Ue(L:Nat):Cfg:=B7 L [200] (A2 [(6,[2,0,0,0,10,0,0])]) [(136,UE),(138,Ch8)] (A2 [(20,[2,0]),(19,[4,0,10,0,0]),(18,[4,0,10,0,0]),(17,[2,0]),(16,[4,0,2,1,5,0,0,29]),(15,[4,0,2,1,5,0,0]),(14,[4,0,10,0,0]),(13,[2,0]),(12,[4,0,2,7,0,0,17]),(11,[4,0,2,7,0,0,15]),(10,[2,0]),(9,[4,0,0,1,7,0,0,10]),(8,[4,0,0,1,0,6,0,0]),(7,[4,0,0,0,8,0,0]),(6,[4,0,10,0,0,0]),(5,[4,0,10,0,0]),(4,[4,0]),(3,[2,0]),(2,[4,10]),(1,[4]),(0,[0])]) [138] (A2 [(0,[5]),(1,[4,0,10,0,0])]) (some [2,0]) [] [] []
noncomputable def Ji{R:Type}(L n:Nat)(a:LL)(v1 l d:Int)(e:Unit->Option R)(h:Int->Option R):Option R:=match n with|0=>none|n+1=>cond (ltI d l) (cond (inR d a.length) (cond (okE Ov a (b8 d) 0) (cond (A3 (a8 (gX a (b8 d) 0))) (vl (↑(N7 (Ac (gX a (b8 d) 0))):Int) λb=>cond (not (j4 (Ac (gX a (b8 d) 0)))) (e ()) (vl (A1 ((a.length:Int)-1)) λi=>cond (ltI d i) (cond (ltI 255 b) (e ()) (vl (bOr .i64 (Sn .i64 v1 (8:Int)) b) λj=>Ji L n a j l (A1 (d+1)) e h)) (vl (A1 ((5:Int)-(a.length:Int))) λc=>cond (decide ((0:Int)<=(A1 ((8:Int)*c)))) (vl (Sn .i64 (1:Int) (A1 ((8:Int)*c))) λf=>cond (not (ltI b f)) (e ()) (cond (decide ((0:Int)<=(A1 ((8:Int)*c)))) (vl (Sn .i64 v1 (A1 ((8:Int)*c))) λg=>Ji L n a (bOr .i64 g b) l (A1 (d+1)) e h) none)) none))) none) none) none) (h v1)
theorem Ba9(n l0 v1 n2 n3):D0 0 ((Ue L).keep 6) (bd (Ue L) Q Y (cd [1,0,1,1,1,1,0,1,0,0] Cl0)) n ⟨gp [(4,.s (.sl false false 1 l0)),(0,pI v1),(10,.s (.sl false false 1 l0)),(0,pI n2),(0,pI n3)] 38,[],s⟩ k =
 Ji L n l0 v1 n2 n3 (λ_=>k .ret ⟨gp [(2,p32 (0:Int)),(0,pB false)] 53,[],s⟩) (λv0=>k (.exit 0) ⟨gp [(5,pI v0)] 51,[],s⟩):=by
 induction n generalizing l0 v1 n2 n3 with
 | zero=>rfl
 | succ n a=>rw[Ji];simp only[<-a];kernel_rfl
noncomputable def Df4{R:Type}(L:Nat)(b:By)(c:Int->Bool->Option R):Option R:=cond (A3 b.length) (cond (ltI 4 (↑(a8 (D5 (C8 b))):Int)) (c 0 false) (Ji L L (D5 (C8 b)) 0 (↑(a8 (D5 (C8 b))):Int) 0 (λ_=>c 0 false) (λa=>c (DL a) true))) none
theorem Df5(d:Nat)(s0):evC (Ue L) (d+1) Z Y 200 [pS s0] [] s=Df4 L s0 (λa b=>some (.tup [p32 a,pB b],[],s)):=by refine(evE (fn:=ag6) (by kernel_rfl)).trans ?_;generalize evC (Ue L) d=Q;unfold Df4;exact(j2 (by kernel_rfl) (A0 (A0 rfl ((Ba9 L Q Y s (E4 0 (E1 (Ue L) Q Y (cd [1,0,1,1,1,1,1] Cl0) (F3 (Ue L) ag6))) L (D5 (C8 s0)) 0 (↑(a8 (D5 (C8 s0))):Int) 0).trans (by kernel_rfl))) rfl))
noncomputable abbrev Dq8:Code:=C7 ah3
noncomputable def KB(L:Nat):Cfg:=B7 L [255] (A2 [(6,[2,0,1,9,0,0])]) [(176,Wc),(139,TB),(123,Aw9)] (A2 [(13,[2,0]),(12,[5,9,0,0]),(11,[5,9,0,0]),(10,[2,0]),(9,[5,2,6,0,0,19]),(8,[5,1,0,0,5,0,0]),(7,[5,1,7,0,0]),(6,[5,9,0,0,0]),(5,[5,9,0,0]),(4,[4,0]),(3,[2,0]),(2,[4,9]),(1,[4]),(0,[0])]) [139,123] (A2 [(0,[5]),(1,[5,9,0,0])]) (some [2,0]) [] [] []
noncomputable def Vv{R:Type}(L n:Nat)(v0:Int)(c:LL)(h b:Int)(d:Unit->Option R)(g:Int->Option R):Option R:=match n with|0=>none|n+1=>cond (ltI b h) (cond (inR b c.length) (cond (okE Ov c (b8 b) 0) (cond (A3 (a8 (gX c (b8 b) 0))) (cond (ltN 10 17) (vl (↑(N7 (F0 10 0 (gX c (b8 b) 0))):Int) λa=>cond (not (j4 (F0 10 0 (gX c (b8 b) 0)))) (d ()) (cond (ltI 255 a) (d ()) (cond (ltN a 4294967296) (vl (j5 (b8 a)) λf=>cond (not (f==(gX c (b8 b) 0))) (d ()) (vl (bOr .u32 (Sn .u32 v0 (8:Int)) (DL a)) λe=>Vv L n e c h (A1 (b+1)) d g)) none))) none) none) none) none) (g v0)
theorem Cf0(n v0 l1 n2 n3):D0 0 ((KB L).keep 6) (bd (KB L) Q Y (cd [1,1,1,1,0,1,0,0] Dq8)) n ⟨gp [(5,p32 v0),(9,.s (.sl false false 1 l1)),(0,pI n2),(0,pI n3)] 27,[],s⟩ k =
 Vv L n v0 l1 n2 n3 (λ_=>k .ret ⟨gp [(2,p32 (0:Int)),(0,pB false)] 41,[],s⟩) (λv0=>k (.exit 0) ⟨gp [(5,p32 v0)] 39,[],s⟩):=by
 induction n generalizing v0 l1 n2 n3 with
 | zero=>rfl
 | succ n a=>rw[Vv];simp only[<-a];kernel_rfl
noncomputable def v4p{R:Type}(L:Nat)(d:By)(b:Int->Bool->Option R):Option R:=cond (A3 d.length) (cond (1==1) (vl (D5 (pcs (b9 ([46]:List UInt8) 0 0) d)) λa=>cond ((a.length:Int)!=4) (b 0 false) (Vv L L 0 a (a.length:Int) 0 (λ_=>b 0 false) (λc=>b c true))) none) none
theorem Dx5(d:Nat)(s0):evC (KB L) (d+1) Z Y 255 [pS s0] [] s=v4p L s0 (λb c=>some (.tup [p32 b,pB c],[],s)):=by refine(evE (fn:=ah3) (by kernel_rfl)).trans ?_;generalize evC (KB L) d=Q;unfold v4p;exact(j2 (by kernel_rfl) (A0 (A0 (A4 λa=>(A0 rfl ((Cf0 L Q Y s (E4 0 (E1 (KB L) Q Y (cd [1,1,1,1,1] Dq8) (F3 (KB L) ah3))) L 0 a (a.length:Int) 0).trans (by kernel_rfl)))) rfl) rfl))
noncomputable abbrev Dq7:Code:=C7 ag4
noncomputable def KA(L:Nat):Cfg:=B7 L [167] (A2 [(3,[0,1,0,0])]) [(123,Aw9)] (A2 [(6,[2]),(4,[0,2,0]),(5,[0,2,0]),(3,[0,2,0,1]),(2,[0,2,0]),(1,[0,2]),(0,[0])]) [123] (A2 [(0,[3]),(1,[0,2,0])]) (some [2]) [] [] []
noncomputable def Iq{R:Type}(L n:Nat)(v0:Int)(a:By)(e:Int)(f:By->Option R):Option R:=match n with|0=>none|n+1=>cond (not (ltI e 0)) (cond (decide ((0:Int)<=e)) (vl (Az5 .u32 (Qp .u32 v0 e) (255:Int)) λb=>cond (ltN (A1 b) 4294967296) (vl (j5 (b8 (A1 b))) λc=>cond (E8 c.length 1) (vl (c++[46]) λd=>cond (E8 a.length d.length) (Iq L n v0 (a++d) (A1 (e-8)) f) none) none) none) none) (f a)
theorem Ce9(n v0 out1 i2):D0 0 ((KA L).keep 3) (bd (KA L) Q Y (cd [1,1,0,1,0,0] Dq7)) n ⟨gp [(0,p32 v0),(2,pS out1),(0,pI i2)] 18,[],s⟩ k =
 Iq L n v0 out1 i2 (λa=>k (.exit 0) ⟨gp [(3,pS a)] 19,[],s⟩):=by
 induction n generalizing v0 out1 i2 with
 | zero=>rfl
 | succ n b=>rw[Iq];simp only[<-b];kernel_rfl
noncomputable def v4f{R:Type}(L:Nat)(v0:Int)(d:By->Option R):Option R:=Iq L L v0 ([]:List UInt8) 24 (λa=>vl (A1 ((a.length:Int)-1)) λb=>cond (I9 0 b a.length) (vl (cut a 0 b) λc=>d c) none)
theorem Dx4(d:Nat)(v0):evC (KA L) (d+1) Z Y 167 [p32 v0] [] s=v4f L v0 (λa=>some (pS a,[],s)):=by refine(evE (fn:=ag4) (by kernel_rfl)).trans ?_;generalize evC (KA L) d=Q;unfold v4f;exact(j2 (by kernel_rfl) ((Ce9 L Q Y s (E4 0 (E1 (KA L) Q Y (cd [1,1,1] Dq7) (F3 (KA L) ag4))) L v0 ([]:List UInt8) 24).trans (by kernel_rfl)))
noncomputable abbrev PL:Code:=C7 af9
noncomputable def Dj(L:Nat):Cfg:=B7 L [111] (A2 [(2,[0,1,0])]) [] (A2 [(6,[2]),(3,[0,2]),(5,[2]),(4,[0,2,15]),(2,[0,2,3]),(1,[0,2]),(0,[0])]) [] (A2 [(0,[0]),(1,[0,2])]) (some [2]) [] [] []
noncomputable def Bl{R:Type}(L n:Nat)(a:By)(b:Int)(c:Unit->Option R)(d:By->Option R):Option R:=match n with|0=>none|n+1=>cond (ltI b (a.length:Int)) (cond (inR b a.length) (cond (ltI (bAt a b) (48:Int)) (c ()) (cond (inR b a.length) (cond (ltI 57 (bAt a b)) (c ()) (Bl L n a (A1 (b+1)) c d)) none)) none) (d a)
theorem OI(n a i1):D0 0 ((Dj L).keep 2) (bd (Dj L) Q Y (cd [1,0,1,0,0] PL)) n ⟨gp [(0,pS a),(2,pI i1)] 18,[],s⟩ k =
 Bl L n a i1 (λ_=>k .ret ⟨gp [(2,pB false)] 19,[],s⟩) (λa=>k (.exit 0) ⟨gp [(0,pS a)] 21,[],s⟩):=by
 induction n generalizing a i1 with
 | zero=>rfl
 | succ n b=>rw[Bl];simp only[<-b];kernel_rfl
noncomputable def GN{R:Type}(L:Nat)(c:By)(b:Bool->Option R):Option R:=Bl L L c 0 (λ_=>b false) (λa=>b (not (a==[])))
theorem Bc2(d:Nat)(s0):evC (Dj L) (d+1) Z Y 111 [pS s0] [] s=GN L s0 (λa=>some (pB a,[],s)):=by refine(evE (fn:=af9) (by kernel_rfl)).trans ?_;generalize evC (Dj L) d=Q;unfold GN;exact(j2 (by kernel_rfl) ((OI L Q Y s (E4 0 (E1 (Dj L) Q Y (cd [1,1] PL) (F3 (Dj L) af9))) L s0 0).trans (by kernel_rfl)))
noncomputable abbrev Cl3:Code:=C7 ag1
noncomputable def Uh(L:Nat):Cfg:=B7 L [127] (A2 [(3,[0,1,0,0])]) [] (A2 [(9,[2]),(4,[0,2,0]),(8,[0,2,0]),(7,[0,2,0,0]),(6,[0,2,0,0,14]),(5,[0,2,0,0]),(3,[0,2,0,4]),(2,[0,2,0]),(1,[0,2]),(0,[0])]) [] (A2 [(0,[3]),(1,[0,2,0])]) (some [2]) [] [] []
noncomputable def Gc{R:Type}(L n:Nat)(b:By)(a:Int)(c:LL)(d:LL->Option R):Option R:=match n with|0=>none|n+1=>cond (ltI a (b.length:Int)) (cond (inR a b.length) (cond (not (ltI (bAt b a) (65:Int))) (cond (not (ltI 90 (bAt b a))) (vl (wu8 ((bAt b a)+32)) λe=>cond (G1 (c.length+1)) (Gc L n b (A1 (a+1)) (c++[[(SV.int .u8 e)]]) d) none) (cond (G1 (c.length+1)) (Gc L n b (A1 (a+1)) (c++[[(SV.int .u8 (bAt b a))]]) d) none)) (cond (G1 (c.length+1)) (Gc L n b (A1 (a+1)) (c++[[(SV.int .u8 (bAt b a))]]) d) none)) none) (d c)
theorem Bf2(n s0 i1 l2):D0 1 ((Uh L).keep 3) (bd (Uh L) Q Y (cd [1,1,0,1,0,0] Cl3)) n ⟨gp [(0,pS s0),(2,.fl 0),(0,pI i1)] 24,[.arr true 5 1 l2],s⟩ k =
 Gc L n s0 i1 l2 (λb=>k (.exit 0) ⟨gp [(3,.fl 0)] 25,[.arr true 5 1 b],s⟩):=by
 induction n generalizing s0 i1 l2 with
 | zero=>rfl
 | succ n a=>rw[Gc];simp only[<-a];kernel_rfl
noncomputable def Dh4{R:Type}(L:Nat)(c:By)(b:By->LL->Option R):Option R:=Gc L L c 0 [] (λa=>cond (w8 a Ou) (b (p4 Ml a) a) none)
theorem Dh5(d:Nat)(s0):evC (Uh L) (d+1) Z Y 127 [pS s0] [] s=Dh4 L s0 (λb a=>some (pS b,[.arr true 5 1 a],s)):=by refine(evE (fn:=ag1) (by kernel_rfl)).trans ?_;generalize evC (Uh L) d=Q;unfold Dh4;exact(j2 (by kernel_rfl) ((Bf2 L Q Y s (E4 0 (E1 (Uh L) Q Y (cd [1,1,1] Cl3) (F3 (Uh L) ag1))) L s0 0 []).trans (by kernel_rfl)))
noncomputable abbrev Ae6:Code:=C7 ai0
noncomputable def Hf(L:Nat):Cfg:=B7 L [76] (A2 [(4,[0,0,2,0,0,0])]) [] (A2 [(9,[4]),(5,[0,0,3,0,0]),(8,[0,0,3,0,0]),(7,[0,0,3,1]),(6,[0,0,3,0,0,16]),(4,[0,0,3,0,0,3]),(3,[0,0,3,0,0]),(2,[0,0,3,0]),(1,[0,0,3]),(0,[0,0])]) [] (A2 [(0,[5]),(1,[0,0,3,0,0])]) (some [4]) [] [] []
noncomputable def X3{R:Type}(L n:Nat)(c:By)(d a b:Int)(e:LL)(f:LL->Option R):Option R:=match n with|0=>none|n+1=>cond (not (ltI (c.length:Int) b)) (cond (b==(c.length:Int)) (cond (I9 a b c.length) (cond (G1 (e.length+1)) (X3 L n c d (A1 (b+1)) (A1 (b+1)) (e++[[(SV.str (cut c a b))]]) f) none) none) (cond (inR b c.length) (cond ((bAt c b)==d) (cond (I9 a b c.length) (cond (G1 (e.length+1)) (X3 L n c d (A1 (b+1)) (A1 (b+1)) (e++[[(SV.str (cut c a b))]]) f) none) none) (X3 L n c d a (A1 (b+1)) e f)) none)) (f e)
theorem ZM(n s0 at1 from2 i3 l4):D0 1 ((Hf L).keep 4) (bd (Hf L) Q Y (cd [1,1,1,0,1,0,0] Ae6)) n ⟨gp [(0,pS s0),(0,p8 at1),(3,.fl 0),(0,pI from2),(0,pI i3)] 27,[.arr true 9 1 l4],s⟩ k =
 X3 L n s0 at1 from2 i3 l4 (λb=>k (.exit 0) ⟨gp [(5,.fl 0)] 29,[.arr true 9 1 b],s⟩):=by
 induction n generalizing s0 at1 from2 i3 l4 with
 | zero=>rfl
 | succ n a=>rw[X3];simp only[<-a];kernel_rfl
noncomputable def MU{R:Type}(L:Nat)(d:By)(a:Int)(c:LL->Option R):Option R:=X3 L L d a 0 0 [] (λb=>c b)
theorem Ca6(d:Nat)(s0 at1):evC (Hf L) (d+1) Z Y 76 [pS s0,p8 at1] [] s=MU L s0 at1 (λa=>some (.fl 0,[.arr true 9 1 a],s)):=by refine(evE (fn:=ai0) (by kernel_rfl)).trans ?_;generalize evC (Hf L) d=Q;unfold MU;exact(j2 (by kernel_rfl) ((ZM L Q Y s (E4 0 (E1 (Hf L) Q Y (cd [1,1,1,1] Ae6) (F3 (Hf L) ai0))) L s0 at1 0 0 []).trans (by kernel_rfl)))
noncomputable def AY(L:Nat):Cfg:=B7 L [95] (A2 []) [(95,(Lu L))] (A2 [(3,[2]),(2,[2]),(1,[0,3]),(0,[0])]) [95] (A2 []) (some [2]) [] [] []
noncomputable def GA{R:Type}(L:Nat)(n0:Int)(g:By->Option R):Option R:=cond (ltI n0 10) (vl (wu8 (A1 ((48:Int)+n0))) λa=>cond (w8 [[(SV.int .u8 a)]] Ou) (vl (p4 Ml [[(SV.int .u8 a)]]) λf=>g f) none) (vl (A1 (aa0 n0 (10:Int))) λb=>cond (ltN b L) (vl (j5 (b8 b)) λd=>vl (A1 ((48:Int)+(x5 n0 (10:Int)))) λc=>cond (w8 [[(SV.int .u8 (wu8 c))]] Ou) (vl (p4 Ml [[(SV.int .u8 (wu8 c))]]) λe=>cond (E8 d.length e.length) (g (d++e)) none) none) none)
theorem A44(d:Nat)(n0):evC (AY L) (d+1) Z Y 95 [pI n0] [] s=GA L n0 (λa=>some (pS a,[],s)):=by refine(evE (fn:=Tryz.f95) (by kernel_rfl)).trans ?_;generalize evC (AY L) d=Q;unfold GA;kernel_rfl
noncomputable abbrev Tw:Code:=C7 ad9
noncomputable def Jv(L:Nat):Cfg:=B7 L [153] (A2 []) [] (A2 [(7,[2]),(2,[2]),(4,[2]),(6,[2]),(5,[0,23]),(3,[0,12]),(1,[0,2]),(0,[0])]) [] (A2 [(0,[])]) (some [2]) [] [] []
noncomputable def Yf{R:Type}(a:Int)(h:Bool)(f:Int->Option R)(g:Int->Bool->Option R):Option R:=cond h (vl (A1 (wu8 (a-97))) λb=>vl (A1 (b+10)) λc=>f c) (cond (not (ltI a 65)) (cond (not (ltI 70 a)) (vl (A1 (wu8 (a-65))) λd=>vl (A1 (d+10)) λe=>f e) (g a (not (ltI 70 a)))) (g a false))
abbrev RM(b:Code):Prop:=∀(k:Out->St Z->Option R) a c,A9 (Jv L) Q Y b ⟨gp [(0,p8 a),(12,pB c)] 21,[],s⟩ k=Yf a c (λn0=>k .ret ⟨gp [(2,pI n0)] 32,[],s⟩) (λa c=>k .normal ⟨gp [(0,p8 a),(23,pB c)] 10,[],s⟩)
theorem Bb9:RM (R:=R) L Q Y s (cd [1,0,0,1,1,1] Tw):=by intro k a b;unfold Yf;kernel_rfl
noncomputable def Yg{R:Type}(b:Int)(l:Bool)(f:Int->Option R)(j:Int->Bool->Option R):Option R:=cond l (vl (A1 (wu8 (b-48))) λg=>f g) (cond (not (ltI b 97)) (Yf b (not (ltI 102 b)) (λh=>f h) (λc d=>j c d)) (Yf b false (λi=>f i) (λe a=>j e a)))
abbrev CT(b:Code):Prop:=∀(k:Out->St Z->Option R) a c,A9 (Jv L) Q Y b ⟨gp [(0,p8 a),(2,pB c)] 31,[],s⟩ k=Yg a c (λn0=>k .ret ⟨gp [(2,pI n0)] 32,[],s⟩) (λa c=>k .normal ⟨gp [(0,p8 a),(23,pB c)] 10,[],s⟩)
theorem Bc0(a:Code)(b:RM (R:=R) L Q Y s a):CT (R:=R) L Q Y s (cd [1,0,0,1] (G7 [1,0,0,1,1,1] a Tw)):=by intro k c d;unfold Yg;simp only[<-b k];kernel_rfl
theorem Bc1:CT (R:=R) L Q Y s (cd [1,0,0,1] Tw):=by intro k a b;exact j2 (by kernel_rfl) (Bc0 L Q Y s (cd [1,0,0,1,1,1] Tw) (Bb9 L Q Y s) k a b)
noncomputable def Cu3{R:Type}(L:Nat)(c:Int)(d:Int->Option R):Option R:=cond (not (ltI c 48)) (Yg c (not (ltI 57 c)) (λa=>d a) (λe f=>d 99)) (Yg c false (λb=>d b) (λg h=>d 99))
theorem Dg4(b:Code)(a:CT (R:=PV × List Blk × Z) L Q Y s b)(c:Int):A9 (Jv L) Q Y (cd [] (G7 [1,0,0,1] b Tw)) ⟨[p8 c]++tps 34,[],s⟩ (F3 (Jv L) ad9)=Cu3 L c (λe=>some (pI e,[],s)):=by unfold Cu3;exact let d:=(E4 0 (E1 (Jv L) Q Y (cd [1,1] Tw) (F3 (Jv L) ad9)));(j2 (by kernel_rfl) (A0 ((a d c (not (ltI 57 c))).trans (by kernel_rfl)) ((a d c false).trans (by kernel_rfl))))
theorem Dg5(d:Nat)(b0):evC (Jv L) (d+1) Z Y 153 [p8 b0] [] s=Cu3 L b0 (λa=>some (pI a,[],s)):=
 (evE (fn:=ad9) (by kernel_rfl)).trans (j2 (by kernel_rfl) (Dg4 L (evC (Jv L) d) Y s (cd [1,0,0,1] Tw) (Bc1 L (evC (Jv L) d) Y s) b0))
noncomputable abbrev Di:Code:=C7 ad7
noncomputable def P9(L:Nat):Cfg:=B7 L [112] (A2 [(10,[0,1,0,0,0,0])]) [(153,Ci2)] (A2 [(16,[2,0]),(11,[0,3,0,0]),(15,[0,3,0,0]),(14,[2,0]),(13,[0,3,0,0,0,44]),(12,[0,3,0,0,0]),(10,[0,3,0,0,36]),(9,[0,3,0,0]),(8,[0,3,0]),(5,[0,3]),(7,[0,3]),(6,[0,3,32]),(4,[0,3,22]),(3,[0,3]),(2,[2,0]),(1,[0,8]),(0,[0])]) [153] (A2 [(0,[5]),(1,[0,3,0,0])]) (some [2,0]) [] [] []
noncomputable def GS{R:Type}(a:By)(c:By->Option R):Option R:=cond (I9 2 (a.length:Int) a.length) (vl (cut a 2 (a.length:Int)) λb=>c b) none
abbrev RS(b:Code):Prop:=∀(k:Out->St Z->Option R) a,A9 (P9 L) Q Y b ⟨gp [(0,pS a),(3,pI (10:Int)),(22,pB true)] 32,[],s⟩ k=GS a (λa=>k .normal ⟨gp [(0,pS a),(3,pI (16:Int))] 55,[],s⟩)
theorem Bf5:RS (R:=R) L Q Y s (cd [1,1,1,0,1] Di):=by intro k a;unfold GS;kernel_rfl
noncomputable def Jk{R:Type}(L n:Nat)(d:By)(h a:Int)(f:Unit->Option R)(g:Int->Option R):Option R:=match n with|0=>none|n+1=>cond (ltI a (d.length:Int)) (cond (inR a d.length) (cond (inR (bAt d a) 256) (vl (↑(dig (u8n (bAt d a))):Int) λb=>cond (not (ltI b 16)) (f ()) (vl (A1 ((A1 (h*16))+b)) λc=>vl (if ((1099511627776:Int)<c) then (1099511627776:Int) else c) λe=>Jk L n d e (A1 (a+1)) f g)) none) none) (g h)
theorem Bg0(n s0 n1 i2):D0 0 ((P9 L).keep 10) (bd (P9 L) Q Y (cd [1,1,1,1,1,0,1,0,0] Di)) n ⟨gp [(0,pS s0),(3,pI (16:Int)),(0,pI n1),(0,pI i2)] 53,[],s⟩ k =
 Jk L n s0 n1 i2 (λ_=>k .ret ⟨gp [(2,pI (0:Int)),(0,pB false)] 56,[],s⟩) (λn0=>k (.exit 0) ⟨gp [(5,pI n0)] 54,[],s⟩):=by
 induction n generalizing s0 n1 i2 with
 | zero=>rfl
 | succ n a=>rw[Jk];simp only[<-a];kernel_rfl
noncomputable def GU{R:Type}(L:Nat)(c:By)(b:Int->Bool->Option R):Option R:=Jk L L c 0 0 (λ_=>b 0 false) (λa=>b a true)
abbrev RT(b:Code):Prop:=∀(k:Out->St Z->Option R) s0,A9 (P9 L) Q Y b ⟨gp [(0,pS s0),(3,pI (16:Int))] 55,[],s⟩ k=GU L s0 (λn0 a=>k .ret ⟨gp [(2,pI n0),(0,pB a)] 56,[],s⟩)
theorem Bf6:RT (R:=R) L Q Y s (cd [1,1,1,1] Di):=by intro k a;unfold GU;exact(j2 (by kernel_rfl) ((Bg0 L Q Y s (E4 0 (E1 (P9 L) Q Y (cd [1,1,1,1,1,1] Di) k)) L a 0 0).trans (by kernel_rfl)))
noncomputable def Rz{R:Type}(a:By)(f:Bool)(d:By->Int->Option R)(e:By->Bool->Option R):Option R:=cond f (cond (I9 2 (a.length:Int) a.length) (vl (cut a 2 (a.length:Int)) λc=>d c 16) none) (cond (not (ltI (a.length:Int) (2:Int))) (cond (inR 0 a.length) (cond ((bAt a (0:Int))==48) (cond (I9 1 (a.length:Int) a.length) (vl (cut a 1 (a.length:Int)) λb=>d b 8) none) (e a ((bAt a (0:Int))==48))) none) (e a false))
abbrev RU(b:Code):Prop:=∀(k:Out->St Z->Option R) c d,A9 (P9 L) Q Y b ⟨gp [(0,pS c),(3,pI (10:Int)),(22,pB d)] 32,[],s⟩ k=Rz c d (λc a=>k .normal ⟨gp [(0,pS c),(3,pI a)] 55,[],s⟩) (λc d=>k .normal ⟨gp [(0,pS c),(3,pI (10:Int)),(32,pB d)] 22,[],s⟩)
theorem Bf7:RU (R:=R) L Q Y s (cd [1,1,1,0,1] Di):=by intro k b a;unfold Rz;kernel_rfl
noncomputable def Gd{R:Type}(L n:Nat)(f:By)(a i d:Int)(g:Unit->Option R)(h:Int->Option R):Option R:=match n with|0=>none|n+1=>cond (ltI d (f.length:Int)) (cond (inR d f.length) (cond (inR (bAt f d) 256) (vl (↑(dig (u8n (bAt f d))):Int) λb=>cond (not (ltI b a)) (g ()) (vl (A1 ((A1 (i*a))+b)) λc=>vl (if ((1099511627776:Int)<c) then (1099511627776:Int) else c) λe=>Gd L n f a e (A1 (d+1)) g h)) none) none) (h i)
theorem MT(n s0 base1 n2 i3):D0 0 ((P9 L).keep 10) (bd (P9 L) Q Y (cd [1,1,1,1,1,0,1,0,0] Di)) n ⟨gp [(0,pS s0),(3,pI base1),(0,pI n2),(0,pI i3)] 53,[],s⟩ k =
 Gd L n s0 base1 n2 i3 (λ_=>k .ret ⟨gp [(2,pI (0:Int)),(0,pB false)] 56,[],s⟩) (λn0=>k (.exit 0) ⟨gp [(5,pI n0)] 54,[],s⟩):=by
 induction n generalizing s0 base1 n2 i3 with
 | zero=>rfl
 | succ n a=>rw[Gd];simp only[<-a];kernel_rfl
noncomputable def Sa{R:Type}(L:Nat)(d:By)(a:Int)(c:Int->Bool->Option R):Option R:=Gd L L d a 0 0 (λ_=>c 0 false) (λb=>c b true)
abbrev RV(b:Code):Prop:=∀(k:Out->St Z->Option R) s0 base1,A9 (P9 L) Q Y b ⟨gp [(0,pS s0),(3,pI base1)] 55,[],s⟩ k=Sa L s0 base1 (λn0 a=>k .ret ⟨gp [(2,pI n0),(0,pB a)] 56,[],s⟩)
theorem Bf8:RV (R:=R) L Q Y s (cd [1,1,1,1] Di):=by intro k b a;unfold Sa;exact(j2 (by kernel_rfl) ((MT L Q Y s (E4 0 (E1 (P9 L) Q Y (cd [1,1,1,1,1,1] Di) k)) L b a 0 0).trans (by kernel_rfl)))
noncomputable def Sb{R:Type}(L:Nat)(c:By)(b:Int->Bool->Option R):Option R:=Gd L L c 10 0 0 (λ_=>b 0 false) (λa=>b a true)
abbrev RW(b:Code):Prop:=∀(k:Out->St Z->Option R) s0 a,A9 (P9 L) Q Y b ⟨gp [(0,pS s0),(3,pI (10:Int)),(32,pB a)] 22,[],s⟩ k=Sb L s0 (λn0 a=>k .ret ⟨gp [(2,pI n0),(0,pB a)] 56,[],s⟩)
theorem Bf9:RW (R:=R) L Q Y s (cd [1,1,1,1] Di):=by intro k a b;unfold Sb;exact(j2 (by kernel_rfl) ((MT L Q Y s (E4 0 (E1 (P9 L) Q Y (cd [1,1,1,1,1,1] Di) k)) L a 10 0 0).trans (by kernel_rfl)))
noncomputable def Cw4{R:Type}(L:Nat)(a:By)(e:Int->Bool->Option R):Option R:=cond (a==[]) (e 0 false) (cond (not (ltI (a.length:Int) (2:Int))) (cond (inR 0 a.length) (cond ((bAt a (0:Int))==48) (cond (inR 1 a.length) (cond ((bAt a (1:Int))==120) (GS a (λB=>GU L B (λA z=>e A z))) (cond (inR 1 a.length) (Rz a ((bAt a (1:Int))==88) (λt b=>Sa L t b (λm f=>e m f)) (λu C=>Sb L u (λn g=>e n g))) none)) none) (Rz a false (λv c=>Sa L v c (λo h=>e o h)) (λw D=>Sb L w (λp i=>e p i)))) none) (Rz a false (λx d=>Sa L x d (λq j=>e q j)) (λy F=>Sb L y (λr l=>e r l))))
theorem Dh6(e:Code)(f:RS (R:=PV × List Blk × Z) L Q Y s e)(a:RU (R:=PV × List Blk × Z) L Q Y s e)(d:Code)(g:RT (R:=PV × List Blk × Z) L Q Y s d)(b:RV (R:=PV × List Blk × Z) L Q Y s d)(c:RW (R:=PV × List Blk × Z) L Q Y s d)(m:By):A9 (P9 L) Q Y (cd [] (G7 [1,1,1,1] d (G7 [1,1,1,0,1] e Di))) ⟨[pS m]++tps 59,[],s⟩ (F3 (P9 L) ad7)=Cw4 L m (λz A=>some (.tup [pI z,pB A],[],s)):=by unfold Cw4;exact let l:=(F3 (P9 L) ad7);let x:=(E1 (P9 L) Q Y d l);(j2 (by kernel_rfl) (A0 rfl (A0 (A0 (A0 (A0 (A0 ((f x m).trans (congr rfl (fx1 λy=>(j2 (by kernel_rfl) ((g l y).trans (by kernel_rfl)))))) (A0 ((a x m ((bAt m (1:Int))==88)).trans (congr (congr rfl (fx2 λq h=>(j2 (by kernel_rfl) ((b l q h).trans (by kernel_rfl))))) (fx2 λr n=>(j2 (by kernel_rfl) ((c l r n).trans (by kernel_rfl)))))) rfl)) rfl) ((a x m false).trans (congr (congr rfl (fx2 λt i=>(j2 (by kernel_rfl) ((b l t i).trans (by kernel_rfl))))) (fx2 λu o=>(j2 (by kernel_rfl) ((c l u o).trans (by kernel_rfl))))))) rfl) ((a x m false).trans (congr (congr rfl (fx2 λv j=>(j2 (by kernel_rfl) ((b l v j).trans (by kernel_rfl))))) (fx2 λw p=>(j2 (by kernel_rfl) ((c l w p).trans (by kernel_rfl)))))))))
theorem Dh7(d:Nat)(s0):evC (P9 L) (d+1) Z Y 112 [pS s0] [] s=Cw4 L s0 (λa b=>some (.tup [pI a,pB b],[],s)):=
 (evE (fn:=ad7) (by kernel_rfl)).trans (j2 (by kernel_rfl) (Dh6 L (evC (P9 L) d) Y s (cd [1,1,1,0,1] Di) (Bf5 L (evC (P9 L) d) Y s) (Bf7 L (evC (P9 L) d) Y s) (cd [1,1,1,1] Di) (Bf6 L (evC (P9 L) d) Y s) (Bf8 L (evC (P9 L) d) Y s) (Bf9 L (evC (P9 L) d) Y s) s0))
noncomputable def JV(L:Nat):Cfg:=B7 L [110] (A2 []) [(76,Km)] (A2 [(4,[2]),(3,[3]),(2,[3,13]),(1,[3]),(0,[0])]) [] (A2 []) (some [2]) [] [] []
noncomputable def ZK{R:Type}(L:Nat)(f:By)(d:LL->Option R):Option R:=cond (A3 f.length) (vl (D5 (pcs (u8n (46:Int)) f)) λa=>cond (ltI 1 (a.length:Int)) (vl (A1 ((a.length:Int)-1)) λb=>cond (inR b a.length) (cond (okE Ov a (b8 b) 0) (vl (gX a (b8 b) 0) λe=>cond (e==[]) (vl (A1 ((a.length:Int)-1)) λc=>cond (I9 0 c a.length) (d (cut a 0 c)) none) (d a)) none) none) (d a)) none
theorem Ca0(d:Nat)(s0):evC (JV L) (d+1) Z Y 110 [pS s0] [] s=ZK L s0 (λa=>some (.s (.sl false false 1 a),[],s)):=by refine(evE (fn:=Tryz.f110) (by kernel_rfl)).trans ?_;generalize evC (JV L) d=Q;unfold ZK;kernel_rfl
noncomputable def Ui(L:Nat):Cfg:=B7 L [75] (A2 []) [(110,IL),(111,OZ),(112,Ax9)] (A2 [(6,[2]),(5,[4,1]),(4,[2]),(3,[4,11]),(2,[4]),(1,[3]),(0,[0])]) [111,112] (A2 []) (some [2]) [] [] []
noncomputable def Yp{R:Type}(L:Nat)(d:By)(c:Bool->Option R):Option R:=cond (A3 d.length) (vl (A1 ((↑(a8 (D5 (C8 d))):Int)-1)) λb=>cond (inR b (a8 (D5 (C8 d)))) (cond (okE Ov (D5 (C8 d)) (b8 b) 0) (vl (gX (D5 (C8 d)) (b8 b) 0) λa=>cond (A3 a.length) (cond ((not (j9 a))&&(j4 (F0 10 0 a))) (c true) (cond (A3 a.length) (vl (↑(N7 (Ac a)):Int) λe=>cond (j4 (Ac a)) (cond (not (ltI (a.length:Int) (2:Int))) (cond (inR 1 a.length) (cond ((bAt a (1:Int))==120) (c true) (cond (inR 1 a.length) (c ((bAt a (1:Int))==88)) none)) none) (c false)) (c false)) none)) none) none) none) none
theorem Ao0(d:Nat)(s0):evC (Ui L) (d+1) Z Y 75 [pS s0] [] s=Yp L s0 (λa=>some (pB a,[],s)):=by refine(evE (fn:=Tryz.f75) (by kernel_rfl)).trans ?_;generalize evC (Ui L) d=Q;unfold Yp;kernel_rfl
noncomputable abbrev Bs5:Code:=C7 ag2
noncomputable def Mg(L:Nat):Cfg:=B7 L [130] (A2 [(6,[2,0,0,0,0])]) [(110,IL),(112,Ax9)] (A2 [(18,[2,0]),(7,[4,0,0]),(17,[4,0,0]),(16,[2,0]),(15,[4,0,0,0,38]),(14,[4,0,0]),(13,[2,0]),(12,[4,0,0,0,33]),(11,[4,0,0,0,26]),(10,[2,0]),(9,[4,0,0,0,21]),(8,[4,0,0,0,0]),(6,[4,0,0,10]),(5,[4,0,0]),(4,[4,0]),(3,[2,0]),(2,[4,8]),(1,[4]),(0,[0])]) [112] (A2 [(0,[5]),(1,[4,0,0])]) (some [2,0]) [] [] []
noncomputable def Ex{R:Type}(L n:Nat)(b:LL)(v1 a:Int)(e:Unit->Option R)(h:Int->Option R):Option R:=match n with|0=>none|n+1=>cond (ltI a (b.length:Int)) (cond (inR a b.length) (cond (okE Ov b (b8 a) 0) (cond (A3 (a8 (gX b (b8 a) 0))) (vl (↑(N7 (Ac (gX b (b8 a) 0))):Int) λc=>cond (not (j4 (Ac (gX b (b8 a) 0)))) (e ()) (vl (A1 ((b.length:Int)-1)) λi=>cond (a==i) (vl (A1 ((5:Int)-(b.length:Int))) λg=>cond (decide ((0:Int)<=(A1 ((8:Int)*g)))) (vl (Sn .i64 (1:Int) (A1 ((8:Int)*g))) λj=>cond (not (ltI c j)) (e ()) (Ex L n b (A1 (v1+c)) (A1 (a+1)) e h)) none) (cond (ltI 255 c) (e ()) (vl (A1 ((24:Int)-(A1 ((8:Int)*a)))) λd=>cond (decide ((0:Int)<=d)) (vl (A1 (v1+(Sn .i64 c d))) λf=>Ex L n b f (A1 (a+1)) e h) none)))) none) none) none) (h v1)
theorem Ao7(n p0 v1 i2):D0 0 ((Mg L).keep 6) (bd (Mg L) Q Y (cd [1,1,1,1,0,1,0,0] Bs5)) n ⟨gp [(4,.s (.sl false false 1 p0)),(0,pI v1),(0,pI i2)] 49,[],s⟩ k =
 Ex L n p0 v1 i2 (λ_=>k .ret ⟨gp [(2,p32 (0:Int)),(0,pB false)] 52,[],s⟩) (λv0=>k (.exit 0) ⟨gp [(5,pI v0)] 50,[],s⟩):=by
 induction n generalizing p0 v1 i2 with
 | zero=>rfl
 | succ n a=>rw[Ex];simp only[<-a];kernel_rfl
noncomputable def Bx2{R:Type}(L:Nat)(c:By)(b:Int->Bool->Option R):Option R:=cond (A3 c.length) (cond (ltI 4 (↑(a8 (D5 (C8 c))):Int)) (b 0 false) (Ex L L (D5 (C8 c)) 0 0 (λ_=>b 0 false) (λa=>b (DL a) true))) none
theorem Cw8(d:Nat)(s0):evC (Mg L) (d+1) Z Y 130 [pS s0] [] s=Bx2 L s0 (λa b=>some (.tup [p32 a,pB b],[],s)):=by refine(evE (fn:=ag2) (by kernel_rfl)).trans ?_;generalize evC (Mg L) d=Q;unfold Bx2;exact(j2 (by kernel_rfl) (A0 (A0 rfl ((Ao7 L Q Y s (E4 0 (E1 (Mg L) Q Y (cd [1,1,1,1,1] Bs5) (F3 (Mg L) ag2))) L (D5 (C8 s0)) 0 0).trans (by kernel_rfl))) rfl))
noncomputable abbrev Cl1:Code:=C7 ah1
noncomputable def Uf(L:Nat):Cfg:=B7 L [233] (A2 [(2,[0,1,0,0])]) [(95,Zt)] (A2 [(6,[2,0]),(3,[0,3]),(5,[2,0]),(4,[0,3,7]),(2,[0,3,1]),(1,[0,3]),(0,[0])]) [95] (A2 [(0,[]),(1,[0,3])]) (some [2,0]) [] [] []
noncomputable def Nd{R:Type}(L n:Nat)(e:By)(a:Int)(c:Int->Option R)(d:Unit->Option R):Option R:=match n with|0=>none|n+1=>cond (ltI a 256) (cond (ltN a 4294967296) (vl (j5 (b8 a)) λb=>cond (b==e) (c a) (Nd L n e (A1 (a+1)) c d)) none) (d ())
theorem Bb7(n s0 n1):D0 0 ((Uf L).keep 2) (bd (Uf L) Q Y (cd [1,0,1,0,0] Cl1)) n ⟨gp [(0,pS s0),(3,pI n1)] 9,[],s⟩ k =
 Nd L n s0 n1 (λn0=>k .ret ⟨gp [(2,pI n0),(0,pB true)] 10,[],s⟩) (λ_=>k (.exit 0) ⟨gp [] 14,[],s⟩):=by
 induction n generalizing s0 n1 with
 | zero=>rfl
 | succ n a=>rw[Nd];simp only[<-a];kernel_rfl
noncomputable def Dg2{R:Type}(L:Nat)(c:By)(b:Int->Bool->Option R):Option R:=Nd L L c 0 (λa=>b a true) (λ_=>b 0 false)
theorem Dg3(d:Nat)(s0):evC (Uf L) (d+1) Z Y 233 [pS s0] [] s=Dg2 L s0 (λa b=>some (.tup [pI a,pB b],[],s)):=by refine(evE (fn:=ah1) (by kernel_rfl)).trans ?_;generalize evC (Uf L) d=Q;unfold Dg2;exact(j2 (by kernel_rfl) ((Bb7 L Q Y s (E4 0 (E1 (Uf L) Q Y (cd [1,1] Cl1) (F3 (Uf L) ah1))) L s0 0).trans (by kernel_rfl)))
noncomputable abbrev Cl4:Code:=C7 ag9
noncomputable def Uk(L:Nat):Cfg:=B7 L [208] (A2 [(6,[2,0,0,0,0])]) [(76,Km),(233,Ci1)] (A2 [(12,[2,0]),(7,[4,0,0]),(11,[4,0,0]),(10,[2,0]),(9,[4,0,0,0,19]),(8,[4,0,0,0,0]),(6,[4,0,0,8]),(5,[4,0,0]),(4,[4,0]),(3,[2,0]),(2,[4,8]),(1,[4]),(0,[0])]) [233] (A2 [(0,[5]),(1,[4,0,0])]) (some [2,0]) [] [] []
noncomputable def No{R:Type}(L n:Nat)(b:LL)(v1 a:Int)(f:Unit->Option R)(g:Int->Option R):Option R:=match n with|0=>none|n+1=>cond (ltI a 4) (cond (inR a b.length) (cond (okE Ov b (b8 a) 0) (cond (A3 (a8 (gX b (b8 a) 0))) (vl (↑(N7 (oct (gX b (b8 a) 0))):Int) λc=>cond (not (j4 (oct (gX b (b8 a) 0)))) (f ()) (vl (DL (v1*256)) λd=>vl (DL (d+(DL c))) λe=>No L n b e (A1 (a+1)) f g)) none) none) none) (g v1)
theorem Bj4(n p0 v1 i2):D0 0 ((Uk L).keep 6) (bd (Uk L) Q Y (cd [1,1,1,1,0,1,0,0] Cl4)) n ⟨gp [(4,.s (.sl false false 1 p0)),(0,p32 v1),(0,pI i2)] 27,[],s⟩ k =
 No L n p0 v1 i2 (λ_=>k .ret ⟨gp [(2,p32 (0:Int)),(0,pB false)] 30,[],s⟩) (λv0=>k (.exit 0) ⟨gp [(5,p32 v0)] 28,[],s⟩):=by
 induction n generalizing p0 v1 i2 with
 | zero=>rfl
 | succ n a=>rw[No];simp only[<-a];kernel_rfl
noncomputable def Di7{R:Type}(L:Nat)(d:By)(b:Int->Bool->Option R):Option R:=cond (A3 d.length) (vl (D5 (pcs (u8n (46:Int)) d)) λa=>cond ((a.length:Int)!=4) (b 0 false) (No L L a 0 0 (λ_=>b 0 false) (λc=>b c true))) none
theorem Di8(d:Nat)(s0):evC (Uk L) (d+1) Z Y 208 [pS s0] [] s=Di7 L s0 (λb c=>some (.tup [p32 b,pB c],[],s)):=by refine(evE (fn:=ag9) (by kernel_rfl)).trans ?_;generalize evC (Uk L) d=Q;unfold Di7;exact(j2 (by kernel_rfl) (A0 (A4 λa=>(A0 rfl ((Bj4 L Q Y s (E4 0 (E1 (Uk L) Q Y (cd [1,1,1,1,1] Cl4) (F3 (Uk L) ag9))) L a 0 0).trans (by kernel_rfl)))) rfl))
noncomputable def A18(L:Nat):Cfg:=B7 L [96] (A2 []) [(95,Zt)] (A2 [(1,[2]),(0,[0])]) [95] (A2 []) (some [2]) [] [] []
noncomputable def Di5{R:Type}(L:Nat)(v0:Int)(n:By->Option R):Option R:=vl (Qp .u32 v0 (24:Int)) λg=>cond (ltN (A1 g) 4294967296) (vl (j5 (b8 (A1 g))) λj=>cond (E8 j.length 1) (vl (j++[46]) λc=>vl (Qp .u32 v0 (16:Int)) λm=>vl (x5 m (256:Int)) λh=>cond (ltN (A1 h) 4294967296) (vl (j5 (b8 (A1 h))) λd=>cond (E8 c.length d.length) (cond (E8 (a8 (c++d)) 1) (vl ((c++d)++[46]) λe=>vl (x5 (Qp .u32 v0 (8:Int)) (256:Int)) λi=>cond (ltN (A1 i) 4294967296) (vl (j5 (b8 (A1 i))) λf=>cond (E8 e.length f.length) (cond (E8 (a8 (e++f)) 1) (vl ((e++f)++[46]) λl=>vl (x5 v0 (256:Int)) λa=>cond (ltN (A1 a) 4294967296) (vl (j5 (b8 (A1 a))) λb=>cond (E8 l.length b.length) (n (l++b)) none) none) none) none) none) none) none) none) none) none
theorem Di6(d:Nat)(v0):evC (A18 L) (d+1) Z Y 96 [p32 v0] [] s=Di5 L v0 (λa=>some (pS a,[],s)):=by refine(evE (fn:=Tryz.f96) (by kernel_rfl)).trans ?_;generalize evC (A18 L) d=Q;unfold Di5;kernel_rfl
noncomputable def BE(L:Nat):Cfg:=B7 L [176] (A2 []) [(210,Zv)] (A2 [(1,[4]),(0,[0,0])]) [] (A2 []) (some [4]) [] [] []
noncomputable def GY{R:Type}(L:Nat)(c a:By)(d:Nat->LL->Option R):Option R:=cond (A3 c.length) (cond (a.length==1) (cond ((0:Int)==0) (cond (((-1):Int)==((-1):Int)) (vl (D5 (pcs (b9 a 0 0) c)) λb=>d (a8 (pcs (b9 a 0 0) c)) b) none) none) none) none
theorem Bl5(d:Nat)(s0 sep1):evC (BE L) (d+1) Z Y 176 [pS s0,pS sep1] [] s=GY L s0 sep1 (λa b=>some (.vw 0 0 a,[.arr false 9 1 b],s)):=by refine(evE (fn:=Tryz.f176) (by kernel_rfl)).trans ?_;generalize evC (BE L) d=Q;unfold GY;kernel_rfl
end
end
section
open Go
attribute [simp] B9 E6 D1 Ab5 By9 By8 Ab6 Au K7 F7
attribute [simp] vl
@[simp] theorem E5{n:Nat}(h:n<=1000000000):A3 n=true:=SG.2 h
@[simp] theorem Sv{v:Int}{n:Nat}(h:0<=v)(a:v<n):ltN v n=true:=E0.2 ⟨h,a⟩
theorem J8{n:Nat}(h:n<=1000000000:=by omega):A3 n=true:=E5 h
theorem M4{v:Int}{n:Nat}(h:0<=v:=by omega)(g:v<n:=by omega):ltN v n=true:=Sv h g
@[simp] theorem G5{m n:Nat}(h:m+n<4611686018427387904):E8 m n=true:=by simp[E8,h]
abbrev rv(v:PV)(H:List Blk):Option (PV × List Blk × Unit):=some (v,H,())
theorem M5{n:Nat}(h:A3 n=true):n<=1000000000:=SG.1 h
theorem D6(s:By)(i:Nat)(h:i<s.length):s.drop i=s.getD i 0::s.drop (i+1):=by rw[o5,p6 h,v7,List.getElem_cons_drop]
theorem SL(s:By)(i:Nat)(h:i<s.length):s.take (i+1)=s.take i++[s.getD i 0]:=by rw[List.take_add_one,o5,p6 h];rfl
theorem LU(s:By)(i:Nat)(h:i<s.length):(B5 (s.take (i+1))).map E2=(B5 (s.take i)).map E2++[E2 (X9 (s.getD i 0))]:=by unfold B5;rw[SL s i h,af1,af1];rfl
theorem K9(b:UInt8):(b.toNat<65/\X9 b=b)\/(90<b.toNat/\X9 b=b)\/(65<=b.toNat/\b.toNat<=90/\((X9 b).toNat=b.toNat+32)):=by
 unfold X9;by_cases a:b.toNat<65
 ·refine .inl ⟨a,if_neg ?_⟩;intro h;have:=aa3.1 h.1;simp at this;omega
 ·by_cases c:90<b.toNat
  ·refine .inr (.inl ⟨c,if_neg ?_⟩);intro h;have:=aa3.1 h.2;simp at this;omega
  ·refine .inr (.inr ⟨by omega,by omega,?_⟩);rw[if_pos (by constructor<;>(rw[aa3];simp;omega)),UInt8.toNat_add];simp;omega
@[simp] theorem D3(s:By)(i:Nat):bAt s (i:Int)=((s.getD i 0).toNat:Int):=by simp[bAt]
@[simp] theorem Ax(s:By):bAt s 0=((s.getD 0 0).toNat:Int):=by simp[bAt]
@[simp] theorem Br7(s:By):bAt s 1=((s.getD 1 0).toNat:Int):=by simp[bAt]
theorem Fp{c:Type}(s:List c)(a b:Nat):cut s (a:Int) (b:Int)=(s.take b).drop a:=by simp[cut]
@[simp] theorem R6{b:Type}(s:List b)(a:Int):cut s a (s.length:Int)=s.drop a.toNat:=by simp[cut]
@[simp] theorem L1{a:Type}(s:List a)(b:Int):cut s 0 b=s.take b.toNat:=by simp[cut]
@[simp] theorem F2(l:List By):(D5 l).length=l.length:=by simp[D5]
@[simp] theorem V3(l:List By)(i:Nat):gX (D5 l) i 0=l.getD i []:=by
 unfold gX gC D5;by_cases h:i<l.length
 ·simp[o5,p6 h,SV.gS]
 ·simp[o5,List.getElem?_eq_none (show l.length<=i by omega),SV.gS]
@[simp] theorem R1{l:List By}{i:Nat}(h:i<l.length):okE Ov (D5 l) i 0=true:=by unfold okE D5;simp[o5,p6 h,h,Ov,okS,SV.has]
theorem Zh(a b:List By):D5 (a++b)=D5 a++D5 b:=by simp[D5]
theorem Jr(b:UInt8):u8n (b.toNat:Int)=b:=by simp[u8n]
theorem Aa8(b:UInt8):inR (b.toNat:Int) 256=true:=by have:=b.toNat_lt;exact F1
theorem Dr8{a b:UInt8}:((a.toNat:Int)==(b.toNat:Int))=(a==b):=by
 rw[ac1];simp only[beq_iff_eq];constructor
 ·intro h;exact UInt8.toNat_inj.1 (by omega)
 ·intro h;rw[h]
theorem R4(a:UInt8)(n:Nat)(h:n<256):((a.toNat:Int)==(n:Int))=(a==k9 n):=by rw[<-Dr8];simp[o9 h]
theorem Fi(p s:By):p.isPrefixOf s=(decide (p.length<=s.length)&&(s.take p.length==p)):=by
 rw[ac1];simp only[x8,x3,decide_eq_true_eq,beq_iff_eq];constructor
 ·intro h;exact⟨h.length_le,(ab7.1 h).symm⟩
 ·rintro⟨_,h⟩;exact ab7.2 h.symm
theorem Ok(p s:By):p.isSuffixOf s=(decide (p.length<=s.length)&&(s.drop (s.length-p.length)==p)):=by
 rw[ac1];simp only[List.isSuffixOf_iff_suffix,x3,decide_eq_true_eq,beq_iff_eq];constructor
 ·intro h;exact⟨h.length_le,(ab8.1 h).symm⟩
 ·rintro⟨_,h⟩;exact ab8.2 h.symm
theorem Dm(b:UInt8):(48<=b.toNat/\b.toNat<=57/\dig b=b.toNat-48)\/(97<=b.toNat/\b.toNat<=102/\dig b=b.toNat-87)\/(65<=b.toNat/\b.toNat<=70/\dig b=b.toNat-55)\/(¬(48<=b.toNat/\b.toNat<=57)/\¬(97<=b.toNat/\b.toNat<=102)/\¬(65<=b.toNat/\b.toNat<=70)/\dig b=99):=by
 unfold dig;split
 ·rename_i h;exact .inl ⟨h.1,h.2,rfl⟩
 ·split
  ·rename_i h;exact .inr (.inl ⟨h.1,h.2,rfl⟩)
  ·split
   ·rename_i h;exact .inr (.inr (.inl ⟨h.1,h.2,rfl⟩))
   ·exact .inr (.inr (.inr ⟨by assumption,by assumption,by assumption,rfl⟩))
theorem Cy4(m:Nat):(if (1099511627776:Int)<(m:Int) then (1099511627776:Int) else (m:Int))=((min m W8:Nat):Int):=by unfold W8;split<;>omega
theorem KL{base:Nat}:∀{s:By} {n v:Nat},n<=W8->F0 base n s=some v->v<=W8
 | [],n,v,h,e=>by simp only[F0,x7] at e;omega
 | b::r,n,v,h,e=>by
  simp only[F0] at e;split at e
  ·exact KL (by omega) e
  ·cases e
theorem Bv7{s:By}{v:Nat}(h:Ac s=some v):v<=W8:=by
 unfold Ac at h
 repeat' split at h
 all_goals first|(cases h;done)|exact KL (by unfold W8;omega) h
theorem QB(base:Nat):∀(x y:By) (n:Nat),F0 base n (x++y)=(F0 base n x).bind λm=>F0 base m y
 | [],y,n=>rfl
 | b::r,y,n=>by
  simp only[ab4,F0];split
  ·exact QB base r y _
  ·rfl
theorem X1(u:Nat)(h:¬u<10):j5 u=j5 (u / 10)++[k9 (48+u % 10)]:=by rw[j5,dif_neg h]
theorem Dr2(d:Nat)(h:d<10):dig (k9 (48+d))=d:=by
 unfold dig;have:(k9 (48+d)).toNat=48+d:=by simp;omega
 rw[this,Q5];omega
theorem BJ:∀u:Nat,u<=W8->F0 10 0 (j5 u)=some u:=by
 intro u
 induction u using Nat.strongRecOn with
 | _ u a=>
  intro b;by_cases h:u<10
  ·rw[ab2 h];simp only[F0,Dr2 u h];rw[if_pos h];unfold W8;simp;omega
  ·rw[X1 u h,QB,a (u / 10) (by omega) (by omega)];simp only[Option.bind_some,F0,Dr2 (u % 10) (by omega)];rw[Q5];unfold W8 at *;simp;omega
theorem Cn(u:Nat):j5 u≠[]:=by intro h;have:=Lib.decDigits_length u;have a:=Lib.nDigits_pos u;rw[h] at this;simp at this;omega
theorem Gm:∀(k u:Nat),0<k->u<10 ^ k->(j5 u).length<=k
 | 0,u,h,_=>by omega
 | k+1,u,_,h=>by
  by_cases b:u<10
  ·rw[ab2 b];simp
  ·rw[X1 u b,y8,x6];have a:0<k:=by
    rcases Nat.eq_zero_or_pos k with rfl|a
    ·rw[ah7,Nat.pow_one] at h;omega
    ·exact a
   have:=Gm k (u / 10) a (by rw[y7] at h;omega);omega
theorem F9(u:Nat)(h:u<4294967296):(j5 u).length<=10:=Gm 10 u (by omega) (by omega)
theorem Xz{s:By}{n:Nat}:oct s=some n↔n<256/\j5 n=s:=by
 unfold oct;constructor
 ·intro h;split at h
  ·rename_i m c;split at h
   ·rename_i a;cases h;exact⟨by omega,a.2⟩
   ·cases h
  ·cases h
 ·rintro⟨b,rfl⟩;rw[BJ n (by unfold W8;omega)];exact if_pos ⟨by omega,rfl⟩
theorem Dq6(a b:Nat)(c:a<9223372036854775808)(d:b<9223372036854775808):bOr .i64 (a:Int) (b:Int)=((a ||| b:Nat):Int):=by
 unfold bOr;rw[show p7 .i64=64 from rfl,Dt0 64 a b (by omega) (by omega)];have:a ||| b<2 ^ 63:=ad5 (by omega) (by omega)
 exact A7
theorem D28(a b:Nat)(c:a<4294967296)(d:b<4294967296):bOr .u32 (a:Int) (b:Int)=((a ||| b:Nat):Int):=by
 unfold bOr;rw[show p7 .u32=32 from rfl,Dt0 32 a b (by omega) (by omega)];have:a ||| b<2 ^ 32:=ad5 (by omega) (by omega)
 exact Oa
theorem Ds6(a b:Nat)(c:a<4294967296)(d:b<4294967296):Az5 .u32 (a:Int) (b:Int)=((a &&& b:Nat):Int):=by unfold Az5;rw[show p7 .u32=32 from rfl,Dr0 32 a b (by omega) (by omega)];have:a &&& b<2 ^ 32:=Nat.and_lt_two_pow _ (by omega);exact Oa
theorem Ds5(x:Nat):x &&& 255=x % 256:=Nat.and_two_pow_sub_one_eq_mod x 8
theorem As4(a m:Nat)(h:a*2 ^ m<9223372036854775808)(b:m<=64):Sn .i64 (a:Int) (m:Int)=((a*2 ^ m:Nat):Int):=by
 unfold Sn;rw[j6,show p7 .i64=64 from rfl,ac2 b];have:(a:Int)*2 ^ m=((a*2 ^ m:Nat):Int):=by simp
 rw[this];exact A7
theorem D48(a m:Nat)(h:a*2 ^ m<4294967296)(b:m<=32):Sn .u32 (a:Int) (m:Int)=((a*2 ^ m:Nat):Int):=by
 unfold Sn;rw[j6,show p7 .u32=32 from rfl,ac2 b];have:(a:Int)*2 ^ m=((a*2 ^ m:Nat):Int):=by simp
 rw[this];exact Oa
theorem GK(v n m:Nat)(h:n<2 ^ m):v*2 ^ m ||| n=v*2 ^ m+n:=by rw[Nat.or_comm,Dv5 n v m h,ah4]
theorem Lf{c:UInt8}{s:By}(h:c∉s):pcs c s=[s]:=by unfold pcs;rw[Zf c s [] h];rfl
theorem GL{c:UInt8}{p r:By}(h:c∉p):pcs c (p++c::r)=p::pcs c r:=by unfold pcs;rw[FG c p [] r h];rfl
theorem Jf(c:UInt8)(s:By):(pcs c s).length=s.count c+1:=Jp c s []
theorem YT(c:UInt8)(s:By):pcs c s≠[]:=Bk8 c s []
theorem Cr{c:UInt8}{s x:By}(h:x∈pcs c s):c∉x/\x.length<=s.length:=by have:=Qq c s [] (by simp) x h;simpa using this
theorem Hk(c:UInt8)(s:By):s.count c<=s.length:=List.count_le_length
theorem Q7(c:UInt8):∀s:By,c∉s\/∃p r,s=p++c::r/\c∉p
 | []=>.inl (by simp)
 | b::s=>by
  by_cases h:b=c
  ·subst h;exact .inr ⟨[],s,rfl,by simp⟩
  ·rcases Q7 c s with a|⟨p,r,rfl,d⟩
   ·exact .inl (by simp[a,Ne.symm h])
   ·exact .inr ⟨b::p,r,rfl,by simp[d,Ne.symm h]⟩
theorem Uq{c:UInt8}{s:By}(h:c∉s):x9 s [c]=-1:=by
 rcases af3 s [c] with a|⟨i,a,e,b,f⟩
 ·exact a.1
 ·exfalso;simp only[ad6,x8] at b;obtain⟨t,d⟩:=b;have:c∈s.drop i:=by rw[<-d];simp
  exact h (ac7 this)
theorem CC{c:UInt8}{p r:By}(h:c∉p):x9 (p++c::r) [c]=(p.length:Int):=by
 rcases af3 (p++c::r) [c] with d|⟨i,d,m,f,g⟩
 ·exfalso;have:=d.2 p.length (by simp);simp[ad6] at this
 ·rw[d];have n:¬p.length<i:=by
   intro a;have:=g p.length a;simp[ad6] at this
  have k:¬i<p.length:=by
   intro a;simp only[ad6,x8] at f;obtain⟨t,b⟩:=f;have j:(p++c::r).drop i=p.drop i++c::r:=by rw[aa4 (by omega)]
   rw[j] at b;cases e:p.drop i with
   | nil=>have:=List.length_drop (i:=i) (l:=p);rw[e] at this;simp at this;omega
   | cons x y=>
    rw[e] at b;simp at b;have:x∈p:=ac7 (i:=i) (by rw[e];simp);rw[<-b.1] at this;exact h this
  omega
theorem B68(s:By):C8 s≠[]:=by
 unfold C8;split
 ·rename_i h;intro e;have:=congrArg a8 e;simp at this;omega
 ·exact YT _ _
theorem Na{s x:By}(h:x∈C8 s):x.length<=s.length:=by
 unfold C8 at h;split at h
 ·exact(Cr ((List.dropLast_sublist _).subset h)).2
 ·exact(Cr h).2
theorem Bk(s:By):1<=(C8 s).length/\(C8 s).length<=s.length+1:=by
 have a:=aa9.2 (B68 s);have b:=Jf 46 s;have c:=Hk 46 s;refine⟨a,?_⟩;unfold C8;split
 ·rw[List.length_dropLast];omega
 ·omega
theorem CH(s:By):(C8 s).getD ((C8 s).length-1) []=Dd s:=by unfold Dd;rw[List.getLastD_eq_getLast?,List.getLast?_eq_getElem?,o5]
theorem QW(s:By):Dd s∈C8 s:=by have h:=(Bk s).1;rw[<-CH,o5,p6 (by omega)];exact ab5 _
theorem Jy{base:Nat}:∀{s:By} {n i:Nat},i<s.length->base<=dig (s.getD i 0)->F0 base n s=none
 | [],n,i,h,_=>by simp at h
 | b::r,n,0,h,a=>by
  simp only[w9] at a;simp only[F0];rw[G0]
 | b::r,n,i+1,h,a=>by
  simp only[ad1] at a;simp only[F0];split
  ·exact Jy (i:=i) (by simpa using h) a
  ·rfl
theorem Gq(s:By):Y9 s=true↔s.getD 0 0=48/\(s.getD 1 0=120\/s.getD 1 0=88):=by simp[Y9]
theorem Ky{s:By}(h:Y9 s=true):2<=s.length:=by
 rw[Gq] at h
 match s with
 | []=>simp at h
 | [a]=>simp at h
 | a::b::r=>simp
theorem Cs6(l:By):(if Y9 l then (F0 16 0 (l.drop 2)).isSome else !l.isEmpty&&(F0 10 0 l).isSome) =
  (if (!l.isEmpty&&(F0 10 0 l).isSome)=true then true else (if (Ac l).isSome=true then decide (2<=l.length)&&(l.getD 1 0==120||l.getD 1 0==88) else false)):=by
 by_cases b:Y9 l=true
 ·have g:=Ky b;have j:=(Gq l).1 b;have f:F0 10 0 l=none:=Jy (i:=1) (by omega) (by rcases j.2 with h|h<;>rw[h]<;>decide);have d:Ac l=F0 16 0 (l.drop 2):=by
   unfold Ac;rw[if_neg (by intro e;rw[e] at g;simp at g),if_pos b]
  rw[if_pos b,f,d];have c:(l.getD 1 0==120||l.getD 1 0==88)=true:=by simpa using j.2
  rw[c];simp[g]
 ·rw[if_neg b];cases n:(!l.isEmpty&&(F0 10 0 l).isSome) with
  | true=>rfl
  | false=>
   rw[if_neg (by simp)];cases d:Ac l with
   | none=>rfl
   | some v=>
    rw[show(some v).isSome=true from rfl,if_pos rfl]
    symm
    rw[Bool.and_eq_false_iff];by_cases c:2<=l.length
    ·right
     apply Classical.byContradiction;intro a;have a:l.getD 1 0=120\/l.getD 1 0=88:=by
      cases k:(l.getD 1 0==120||l.getD 1 0==88) with
      | false=>exact absurd k a
      | true=>simpa using k
     have m:¬l.getD 0 0=48:=λh=>b ((Gq l).2 ⟨h,a⟩)
     have f:F0 10 0 l=none:=Jy (i:=1) (by omega) (by rcases a with h|h<;>rw[h]<;>decide);unfold Ac at d;rw[if_neg (by intro e;rw[e] at c;simp at c),if_neg b,if_neg (by intro h;exact m h.2),f] at d;cases d
    ·left;simpa using c
end
section
open Go Go.Proofs
theorem B53{R:Type}{a:Bool->Option R}(s p:By)(b:A3 s.length=true):Dd1 LF s p a=a (p.isPrefixOf s):=by
 have:=M5 b;unfold Dd1;rw[Fi];by_cases h:p.length<=s.length
 ·simp_all
 ·simp (disch:=omega) [h]
theorem B30{R:Type}{a:Bool->Option R}(s p:By)(b:A3 s.length=true):Px LF s p a=a (p.isPrefixOf s):=by unfold Px;rw[b];rfl
theorem B54{R:Type}{a:Bool->Option R}(s p:By)(b:A3 s.length=true):Dd3 LF s p a=a (p.isSuffixOf s):=by
 have:=M5 b;unfold Dd3;rw[Ok];by_cases h:p.length<=s.length
 ·have e:((s.length:Int)-(p.length:Int)).toNat=s.length-p.length:=by omega
  simp (disch:=omega) [h,e]
 ·simp (disch:=omega) [h]
theorem B31{R:Type}{a:Bool->Option R}(s p:By)(b:A3 s.length=true):Db4 LF s p a=a (p.isSuffixOf s):=by unfold Db4;rw[b];rfl
theorem A80{R:Type}{b:By->Option R}(s p:By)(a:A3 s.length=true):Bv2 LF s p b=b (Aa5 s p):=by
 have:=M5 a;unfold Bv2 Aa5;rw[a];cases h:p.isSuffixOf s with
 | false=>simp
 | true=>
  have:p.length<=s.length:=by rw[Ok] at h;simp at h;exact h.1
  have e:((s.length:Int)-(p.length:Int)).toNat=s.length-p.length:=by omega
  simp (disch:=omega) [e]
theorem Bl8{R:Type}{a:By->Option R}(s p:By)(b:A3 s.length=true):By1 LF s p a=a (Aa5 s p):=by unfold By1;rw[b];rfl
theorem A69{R:Type}{b:By->Bool->Option R}(s p:By)(a:A3 s.length=true):Bu5 LF s p b=b (Hl s p) (p.isPrefixOf s):=by
 have:=M5 a;unfold Bu5 Hl;rw[a];cases h:p.isPrefixOf s with
 | false=>simp
 | true=>
  have:p.length<=s.length:=by rw[Fi] at h;simp at h;exact h.1
  simp_all
theorem B04{R:Type}{a:By->Bool->Option R}(s p:By)(b:A3 s.length=true):C77 LF s p a=a (Hl s p) (p.isPrefixOf s):=by unfold C77;rw[b];rfl
theorem At7{R:Type}{a:LL->Option R}(s p:By)(b:A3 s.length=true)(c:(p.length==1)=true):ZZ LF s p a=a (D5 (pcs (p.getD 0 0) s)):=by unfold ZZ;rw[b,c];rfl
theorem B50{R:Type}{k0:LL->Option R}(s:By)(o:s.length<=1000000000):∀(r i n:Nat),i+r=s.length->r<n->Fu LF n s (s.length:Int) (i:Int) ((B5 (s.take i)).map E2) k0=k0 ((B5 s).map E2):=by
 intro r
 induction r with
 | zero=>
  intro i n g j;obtain⟨n,rfl⟩:∃m,n=m+1:=⟨n-1,by omega⟩
  rw[Fu];rw[A6,aa2 (by omega)];rfl
 | succ r a=>
  intro i n g j;obtain⟨n,rfl⟩:∃m,n=m+1:=⟨n-1,by omega⟩
  rw[Fu];have h:(B5 (s.take i)).length=i:=by simp[B5];omega
  have a:=a (i+1) n (by omega) (by omega);rw[LU s i (by omega)] at a;rw[D3];have l:=(s.getD i 0).toNat_lt;generalize s.getD i 0=b at *;have c:((i:Int)+1)=((i+1:Nat):Int):=by omega
  simp (disch:=omega) only[B9,K7,cond_true,vl,aa8,h,F7,D1];rw[c];rcases K9 b with⟨d,e⟩|⟨d,e⟩|⟨d,k,e⟩
  ·simp (disch:=omega) only[B9,j7,cond_false];rw[e] at a;exact a
  ·simp (disch:=omega) only[E6,B9,j7,j8,cond_false,cond_true];rw[e] at a;exact a
  ·have f:wu8 ((b.toNat:Int)+32)=((X9 b).toNat:Int):=by
    rw[N1];omega
   simp (disch:=omega) only[E6,j8,cond_true,f];exact a
theorem B51{R:Type}{k0:By->LL->Option R}(s:By)(b:A3 s.length=true):Dc9 LF s k0=k0 (B5 s) ((B5 s).map E2):=by have c:=M5 b;have:=C5;unfold Dc9;simp (disch:=omega) only[j6,F7,af7];rw[show(decide ((0:Int)<=(s.length:Int)))=true by simp];have:=B50 (k0:=λa=>cond (w8 a Ou) (k0 (p4 Ml a) a) none) s c s.length 0 LF (by omega) (by omega);simp only[List.take_zero,B5,List.map_nil] at this;rw[cond_true];refine j2 this ?_;rw[show(p4 X9 s).map E2=(B5 s).map E2 from rfl,Y2,Z1];rfl
theorem B95{R:Type}{k0:LL->Option R}(s:By)(o:s.length<=1000000000):∀(r i n:Nat),i+r=s.length->r<n->Gc LF n s (i:Int) ((B5 (s.take i)).map E2) k0=k0 ((B5 s).map E2):=by
 intro r
 induction r with
 | zero=>
  intro i n g j;obtain⟨n,rfl⟩:∃m,n=m+1:=⟨n-1,by omega⟩
  rw[Gc];rw[A6,aa2 (by omega)];rfl
 | succ r a=>
  intro i n g j;obtain⟨n,rfl⟩:∃m,n=m+1:=⟨n-1,by omega⟩
  rw[Gc];have h:(B5 (s.take i)).length=i:=by simp[B5];omega
  have a:=a (i+1) n (by omega) (by omega);rw[LU s i (by omega)] at a;rw[D3];have l:=(s.getD i 0).toNat_lt;generalize s.getD i 0=b at *;have c:((i:Int)+1)=((i+1:Nat):Int):=by omega
  simp (disch:=omega) only[B9,K7,cond_true,vl,aa8,h,F7,D1];rw[c];rcases K9 b with⟨d,e⟩|⟨d,e⟩|⟨d,k,e⟩
  ·simp (disch:=omega) only[B9,j7,cond_false];rw[e] at a;exact a
  ·simp (disch:=omega) only[E6,B9,j7,j8,cond_false,cond_true];rw[e] at a;exact a
  ·have f:wu8 ((b.toNat:Int)+32)=((X9 b).toNat:Int):=by
    rw[N1];omega
   simp (disch:=omega) only[E6,j8,cond_true,f];exact a
theorem B96{R:Type}{k0:By->LL->Option R}(s:By)(b:A3 s.length=true):Dh4 LF s k0=k0 (B5 s) ((B5 s).map E2):=by have c:=M5 b;have:=C5;unfold Dh4;have:=B95 (k0:=λa=>cond (w8 a Ou) (k0 (p4 Ml a) a) none) s c s.length 0 LF (by omega) (by omega);refine j2 this ?_;rw[Y2,Z1];rfl
theorem B27{R:Type}{c:Bool->Option R}(s:By)(d:A3 s.length=true):Da9 LF s c=c (Y9 s):=by
 unfold Da9;have key:Y9 s=(([48,120]:By).isPrefixOf s||([48,88]:By).isPrefixOf s):=by
  match s with
  | []=>rfl
  | [a]=>simp[Y9,o8]
  | a::b::r=>
   simp only[Y9,o8,w9,ad1,af7];rw[ah8 (a:=(48:UInt8)),ah8 (a:=(120:UInt8)),ah8 (a:=(88:UInt8))];cases (a==48)<;>simp
 grind
theorem B09{R:Type}{k0:Unit->Option R}{k1:Int->Option R}(s:By)(C:s.length<=1000000000)(base:Nat)(B:base<=16):∀(r i a n:Nat),i+r=s.length->r<n->a<=W8->
  Iy LF n s (base:Int) (a:Int) (s.length:Int) (i:Int) k0 k1=match F0 base a (s.drop i) with|some v=>k1 (v:Int)|none=>k0 ():=by
 intro r
 induction r with
 | zero=>
  intro i a n u w q;obtain⟨n,rfl⟩:∃m,n=m+1:=⟨n-1,by omega⟩
  rw[Iy];rw[A6,o6 (by omega)];rfl
 | succ r l=>
  intro i a n u w q;obtain⟨n,rfl⟩:∃m,n=m+1:=⟨n-1,by omega⟩
  rw[Iy,D6 s i (by omega)];rw[D3];have t:=(s.getD i 0).toNat_lt;generalize s.getD i 0=b at *;have k:((i:Int)+1)=((i+1:Nat):Int):=by omega
  have o:W8=1099511627776:=rfl;have step:∀d:Nat,d<base->(a*base+d<100000000000000/\A1 (A1 ((a:Int)*(base:Int))+(d:Int))=((a*base+d:Nat):Int)):=by
   intro d c;have h:a*base<=1099511627776*16:=af4 (by omega) (by omega);refine⟨by omega,?_⟩;have p:A1 ((a*base:Nat):Int)=((a*base:Nat):Int):=A7;rw[<-ae8,p,A7];rfl
  simp (disch:=omega) only[B9,K7,cond_true,vl,D1,Wo,Wn,Wm];rw[k];simp only[F0];rcases Dm b with⟨h,j,e⟩|⟨h,j,e⟩|⟨h,j,e⟩|⟨h,j,A,e⟩
  ·have f:wu8 ((b.toNat:Int)-48)=((dig b:Nat):Int):=by rw[N1];omega
   simp (disch:=omega) only[B9,E6,j7,j8,cond_false,cond_true,f,D1];by_cases c:dig b<base
   ·rw[if_pos c,A8,(step _ c).2,Cy4];exact l (i+1) _ n (by omega) (by omega) (by omega)
   ·rw[if_neg c,A6];rfl
  ·have f:wu8 ((b.toNat:Int)-97)+10=((dig b:Nat):Int):=by rw[N1];omega
   have g:wu8 ((b.toNat:Int)-97)=((b.toNat:Int)-97):=N1;rw[g] at f;simp (disch:=omega) only[B9,E6,j7,j8,cond_false,cond_true,g,D1,f];by_cases c:dig b<base
   ·rw[if_pos c,A8,(step _ c).2,Cy4];exact l (i+1) _ n (by omega) (by omega) (by omega)
   ·rw[if_neg c,A6];rfl
  ·have f:wu8 ((b.toNat:Int)-65)+10=((dig b:Nat):Int):=by rw[N1];omega
   have g:wu8 ((b.toNat:Int)-65)=((b.toNat:Int)-65):=N1;rw[g] at f;simp (disch:=omega) only[B9,E6,j7,j8,cond_false,cond_true,g,D1,f];by_cases c:dig b<base
   ·rw[if_pos c,A8,(step _ c).2,Cy4];exact l (i+1) _ n (by omega) (by omega) (by omega)
   ·rw[if_neg c,A6];rfl
  ·rw[if_neg (show ¬dig b<base by omega)];by_cases x:b.toNat<48
   ·simp (disch:=omega) only[B9,E6,j7,j8,cond_false,cond_true]
   ·by_cases y:b.toNat<65
    ·simp (disch:=omega) only[B9,E6,j7,j8,cond_false,cond_true]
    ·by_cases z:b.toNat<97
     ·simp (disch:=omega) only[B9,E6,j7,j8,cond_false,cond_true]
     ·simp (disch:=omega) only[B9,E6,j7,j8,cond_false,cond_true]
theorem B10{R:Type}{k0:Int->Bool->Option R}(s:By)(base:Int)(c:A3 s.length=true)(d:ltN base 17=true):Cn1 LF s base k0=k0 (N7 (F0 base.toNat 0 s):Int) (F0 base.toNat 0 s).isSome:=by have f:=M5 c;have:=C5;obtain⟨a,e⟩:=E0.1 d;obtain⟨b,rfl⟩:=o0 a;unfold Cn1;have:=B09 (k0:=λ_=>k0 0 false) (k1:=λn=>k0 n true) s f b (by omega) s.length 0 0 LF (by omega) (by omega) (by unfold W8;omega);refine j2 this ?_;rw[v8,j6];cases F0 b 0 s<;>rfl
theorem Cs5{R:Type}{f:Int->Bool->Option R}(s:By)(d:A3 s.length=true):num LF s f=f (N7 (Ac s):Int) (Ac s).isSome:=by
 have k:=M5 d;unfold num Ac;rw[d];by_cases a:s=[]
 ·subst a;rfl
 have c:(s==([]:By))=false:=by simpa using a
 have j:0<s.length:=aa9.2 a;rw[if_neg a,c];simp only[cond_true,cond_false,vl];cases h:Y9 s with
 | true=>
  have:=Ky h;simp (disch:=first|omega|(simp;omega)) only[cond_true,if_true,Au,R6,E5,Sv];rfl
 | false=>
  simp only[cond_false,ab0,if_false];have i:(F0 10 0 s)=F0 10 0 s:=rfl;by_cases g:1<s.length
  ·simp (disch:=omega) only[B9,K7,cond_true,Ax,g,true_and];have e:=R4 (s.getD 0 0) 48 (by omega);rw[show((48:Nat):Int)=48 from rfl] at e;rw[e];by_cases b:s.getD 0 0=48
   ·rw[if_pos b,b,show((48:UInt8)==k9 48)=true from rfl];simp (disch:=first|omega|(simp;omega)) only[Au,R6,E5,Sv,cond_true];rfl
   ·rw[if_neg b,show(s.getD 0 0==k9 48)=false from beq_eq_false_iff_ne.2 b];rfl
  ·rw[A6,G0];rfl
theorem YK{R:Type}{b:Bool->Option R}(s:By)(a:A3 s.length=true):GI LF s b=b (E9 s):=by
 have i:=M5 a;have h:=Bk s;have g:=Na (QW s);have d:=CH s;have c:((C8 s).length:Int)-1=(((C8 s).length-1:Nat):Int):=by omega
 unfold GI E9;rw[a];simp (disch:=omega) only[cond_true,vl,F2,c,D1,K7,j6,R1,V3,d,E5];cases f:Y9 (Dd s) with
 | true=>
  have:=Ky f;have e:Ac (Dd s)=F0 16 0 ((Dd s).drop 2):=by
   unfold Ac;grind
  simp[e]
 | false=>
  simp only[cond_false,ab0,if_false];cases F0 10 0 (Dd s) with
  | none=>simp
  | some v=>cases Dd s<;>rfl
theorem OR{R:Type}{c:Bool->Option R}(s:By)(a:A3 s.length=true):Yp LF s c=c (E9 s):=by
 have j:=M5 a;have i:=Bk s;have h:=Na (QW s);have e:=CH s;have d:((C8 s).length:Int)-1=(((C8 s).length-1:Nat):Int):=by omega
 unfold Yp E9;rw[a,Cs6];simp (disch:=omega) only[cond_true,vl,F2,d,D1,K7,j6,R1,V3,e,E5];generalize Dd s=l at *;cases (!l.isEmpty&&(F0 10 0 l).isSome) with
 | true=>rfl
 | false=>
  simp only[cond_false,ab0,if_false];cases Ac l with
  | none=>rfl
  | some v=>
   simp only[p5,cond_true,if_true,Br7];by_cases b:2<=l.length
   ·simp (disch:=omega) only[E6,K7,j8,cond_true,b,decide_true,Bool.true_and];have f:=R4 (l.getD 1 0) 120 (by omega);have g:=R4 (l.getD 1 0) 88 (by omega);grind
   ·rw[A8];simp[b]
theorem XN{R:Type}{e:By->Option R}(b:Nat)(j:b<=9223372036854775808)(n:Int)(f:ltN n (b+1)=true):GA b n e=e (j5 n.toNat):=by
 obtain⟨a,g⟩:=E0.1 f;obtain⟨m,rfl⟩:=o0 a;have key:∀d:Nat,d<10->wu8 (A1 (48+(d:Int)))=((48+d:Nat):Int):=by
  intro d i;rw[A7,N1];rfl
 have c:∀d:Nat,d<10->[[SV.int .u8 ((48+d:Nat):Int)]]=[k9 (48+d)].map E2:=by
  intro d i;rw[C08 (by omega)];rfl
 unfold GA;rw[j6];by_cases h:m<10
 ·rw[A8,key m h,ab2 h];simp only[cond_true,vl];rw[c m h,Y2,Z1];rfl
 ·have l:=Gm 19 (m / 10) (by omega) (by omega);rw[A6,show(10:Int)=((10:Nat):Int) from rfl,M8,Cy];simp (disch:=omega) only[cond_false,vl,D1,cond_true,j6];rw[M4];simp only[cond_true];have k:=key (m % 10) (by omega);rw[A7] at k;rw[k,c (m % 10) (by omega),Y2,Z1,G5 (by simp;omega),X1 m h];rfl
theorem B83{R:Type}{f:Int->Option R}{c:Unit->Option R}(s:By):∀(r m n:Nat),m+r=256->r<n->Nd LF n s (m:Int) f c=match oct s with|some v=>(if m<=v then f (v:Int) else c ())|none=>c ():=by
 intro r
 induction r with
 | zero=>
  intro m n g i;obtain⟨n,rfl⟩:∃m,n=m+1:=⟨n-1,by omega⟩
  rw[Nd];rw[A6];cases h:oct s with
  | none=>rfl
  | some v=>have:=(Xz.1 h).1;simp only[cond_false];rw[G0]
 | succ r j=>
  intro m n g i;obtain⟨n,rfl⟩:∃m,n=m+1:=⟨n-1,by omega⟩
  rw[Nd];have b:((m:Int)+1)=((m+1:Nat):Int):=by omega
  simp (disch:=omega) only[B9,Sv,cond_true,vl,D1,j6];by_cases a:j5 m=s
  ·rw[show(j5 m==s)=true by simpa using a,Xz.2 ⟨by omega,a⟩];simp
  ·rw[show(j5 m==s)=false by simpa using a,cond_false,b,j (m+1) n (by omega) (by omega)];cases h:oct s with
   | none=>rfl
   | some v=>
    have:=(Xz.1 h).2;have:v≠m:=by intro e;subst e;exact a this
    simp only[];by_cases d:m<=v
    ·rw[if_pos d,Q5]
    ·rw[if_neg d,G0]
theorem B84{R:Type}{a:Int->Bool->Option R}(s:By)(b:A3 s.length=true):Dg2 LF s a=a (N7 (oct s):Int) (oct s).isSome:=by have:=C5;unfold Dg2;refine j2 (B83 s 256 0 LF (by omega) (by omega)) ?_;cases oct s<;>rfl
theorem D29(s:By)(a b:Nat)(h:a<=b)(c:b<s.length):cut s (a:Int) ((b+1:Nat):Int)=cut s (a:Int) (b:Int)++[s.getD b 0]:=by rw[Fp,Fp,SL s b c,aa4 (by rw[List.length_take];omega)]
theorem Cm8(s:By)(a:Nat):cut s (a:Int) (a:Int)=[]:=by rw[Fp];grind
theorem Ap0{R:Type}{k0:LL->Option R}(s:By)(p:s.length<=1000000000)(c:UInt8):∀(r i a n:Nat) (l:List By),i+r=s.length->r+1<n->a<=i->l.length<=i->
  X3 LF n s (c.toNat:Int) (a:Int) (i:Int) (D5 l) k0=k0 (D5 (l++M7 c (cut s (a:Int) (i:Int)) (s.drop i))):=by
 intro r
 induction r with
 | zero=>
  intro i a n l j o f k;obtain⟨n,rfl⟩:∃m,n=m+1:=⟨n-1,by omega⟩
  obtain⟨n,rfl⟩:∃m,n=m+1:=⟨n-1,by omega⟩
  have b:i=s.length:=by omega
  subst b;rw[X3];simp (disch:=omega) only[E6,j8,cond_true,beq_self_eq_true,Au,F2,F7,D1];rw[X3];rw[A8,List.drop_length];simp only[j7,cond_false,M7,Zh];rfl
 | succ r g=>
  intro i a n l j o f k;obtain⟨n,rfl⟩:∃m,n=m+1:=⟨n-1,by omega⟩
  rw[X3];have d:((i:Int)+1)=((i+1:Nat):Int):=by omega
  have e:((i:Int)==(s.length:Int))=false:=by rw[beq_eq_false_iff_ne];omega
  simp (disch:=omega) only[E6,j8,cond_true,cond_false,e,K7,D3,Dr8,Au,F2,F7,D1];rw[d,D6 s i (by omega)];simp only[M7];by_cases h:s.getD i 0=c
  ·rw[show(s.getD i 0==c)=true by simpa using h,if_pos h,cond_true];have:=g (i+1) (i+1) n (l++[cut s (a:Int) (i:Int)]) (by omega) (by omega) (by omega) (by simp<;>omega);rw[Zh] at this;refine j2 this ?_;rw[Cm8];simp
  ·rw[show(s.getD i 0==c)=false from beq_eq_false_iff_ne.2 h,if_neg h,cond_false];rw[g (i+1) a n l (by omega) (by omega) (by omega) (by omega),D29 s a i f (by omega)]
theorem Bi5{R:Type}{k0:LL->Option R}(s:By)(c:Int)(a:A3 s.length=true)(d:inR c 256=true):MU LF s c k0=k0 (D5 (pcs (u8n c) s)):=by
 have f:=M5 a;have:=C5;simp only[inR,x3,decide_eq_true_eq] at d;have e:c=((u8n c).toNat:Int):=by
  unfold u8n;simp;omega
 unfold MU;generalize u8n c=b at *;subst e;have:=Ap0 (k0:=k0) s f b s.length 0 0 LF [] (by omega) (by omega) (by omega) (by simp);refine j2 this ?_;rw[Cm8];rfl
theorem At9(c:UInt8)(s:By):(D5 (pcs c s)).isEmpty=false:=by
 cases h:pcs c s with
 | nil=>exact absurd h (YT c s)
 | cons a r=>rfl
theorem Ap1(s:By)(c:Int)(a:A3 s.length=true)(b:inR c 256=true):∃r H,MU LF s c (λl=>rv (.fl 0) [.arr true 9 1 l])=rv r H/\r.stab [1] H = .s (.sl false false 1 (D5 (pcs (u8n c) s))):=by refine⟨_,_,Bi5 s c a b,?_⟩;simp[PV.stab,Sk,PV.snap,At9]
theorem Cy5(d:List By)(x:By)(m:Nat):aa5 (D5 (d++j1 (m+1) [])) d.length (G3 (b9 (D5 (d++j1 (m+1) [])) d.length []) 0 [SV.str x])=D5 ((d++[x])++j1 m []):=by
 have a:b9 (D5 (d++j1 (m+1) [])) d.length []=[SV.str []]:=by
  unfold D5;grind
 rw[a];simp only[G3,List.set_cons_zero,Zh];rw[show d.length=(D5 d).length by simp,List.set_append_right _ _ (by omega),Nat.sub_self,List.replicate_succ];simp[D5]
theorem Ai1{R:Type}{k0:By->Int->LL->Option R}(c:UInt8):∀(m n:Nat) (s:By) (d:List By),s.length<=1000000000->m=s.count c->d.length+m<=1000000000->m<n->
  ∃(f:List By) (e:By),pcs c s=f++[e]/\e.length<=s.length/\Bt LF n s [c] 0 ((d.length+m:Nat):Int) (d.length:Int) (D5 (d++j1 (m+1) [])) k0=k0 e ((d.length+m:Nat):Int) (D5 ((d++f)++[[]])):=by
 intro m
 induction m with
 | zero=>
  intro n s d k b x y;obtain⟨n,rfl⟩:∃m,n=m+1:=⟨n-1,by omega⟩
  have a:c∉s:=ab1.1 b.symm;refine⟨[],s,Lf a,aa6 _,?_⟩;rw[Bt];rw[A6];simp
 | succ m z=>
  intro n s d k b x y;obtain⟨n,rfl⟩:∃m,n=m+1:=⟨n-1,by omega⟩
  rcases Q7 c s with a|⟨p,r,rfl,a⟩
  ·rw[ab1.2 a] at b;omega
  ·have i:m=r.count c:=by
    rw[List.count_append,ae9,ab1.2 a] at b;simp at b;omega
   simp only[y8,ab6] at k;obtain⟨f,e,w,B,j⟩:=z n r (d++[p]) (by omega) i (by simp<;>omega) (by omega);refine⟨p::f,e,by rw[GL a,w];rfl,by simp<;>omega,?_⟩;rw[Bt];have l:((p.length:Int)+1)=((p.length+1:Nat):Int):=by omega
   have o:(d.length:Int)+1=((d.length+1:Nat):Int):=by omega
   have q:((p.length+1:Nat):Int).toNat=p.length+1:=by omega
   have A:(((p++c::r).length:Nat):Int)=((p.length+(r.length+1):Nat):Int):=by simp
   have t:(p++c::r).take p.length=p:=List.take_left' rfl;have u:(p++c::r).drop (p.length+1)=r:=by
    rw[show p++c::r=(p++[c])++r by simp,List.drop_left' (by simp)]
   rw[CC a];have v:(D5 (d++j1 (m+1+1) [])).length=d.length+(m+2):=by simp<;>omega
   simp (disch:=first|omega|(simp;omega)) only[B9,E6,E5,cond_true,cond_false,vl,Int.add_zero,D1,Au,K7,v,j6,x6,R6,L1,t,Cy5];rw[decide_eq_true (show d.length<d.length+(m+2) by omega),cond_true,show((1:Nat):Int)=1 from rfl,l];simp (disch:=first|omega|(simp;omega)) only[D1,Au,cond_true,R6,q,u,o];have g:((((d++[p]).length+m:Nat):Int))=((d.length+(m+1):Nat):Int):=by simp<;>omega
   have h:(((d++[p]).length:Nat):Int)=((d.length+1:Nat):Int):=by simp
   rw[g,h] at j;rw[j];simp
theorem KZ{R:Type}{k0:Unit->Option R}{g:Nat->LL->Option R}(s p:By)(v n:Int)(w:A3 s.length=true)(x:(p.length==1)=true)(y:(v==0)=true)(z:(n==(-1))=true) :
  KY LF s p v n k0 g=g (pcs (p.getD 0 0) s).length (D5 (pcs (p.getD 0 0) s)):=by
 have C:=M5 w;have:=C5;obtain⟨c,rfl⟩:∃c,p=[c]:=by
  match p,x with
  | [c],_=>exact⟨c,rfl⟩
 have:v=0:=by simpa using y
 subst this;have:n=-1:=by simpa using z
 subst this;have G:=Hk c s;have B:=Jf c s;obtain⟨d,D,u,F,h⟩:=Ai1 (R:=R) (k0:=λf a b=>cond (inR a (a8 b))
     (cond (decide ((b8 a)<(a8 b)))
      (vl (A1 (a+(1))) λe=>
      cond (I9 (0) e (a8 (aa5 b (b8 a) (G3 (b9 b (b8 a) []) 0 [(SV.str f)]))))
       (g ((b8 e)-0) (aa5 b (b8 a) (G3 (b9 b (b8 a) []) 0 [(SV.str f)])))
       (none))
      (none))
     (none)) c (s.count c) LF s [] C rfl (by simp<;>omega) (by omega)
 unfold KY;have i:A1 ((s.count c:Int)+1)=((s.count c+1:Nat):Int):=A7;have j:A1 ((s.length:Int)+1)=((s.length+1:Nat):Int):=A7;have k:(if ((s.length+1:Nat):Int)<((s.count c+1:Nat):Int) then ((s.length+1:Nat):Int) else ((s.count c+1:Nat):Int))=((s.count c+1:Nat):Int):=G0;have l:((s.count c+1:Nat):Int)-1=(s.count c:Int):=by omega
 have m:(j1 (s.count c+1) [SV.str ([]:By)])=D5 ([]++j1 (s.count c+1) []):=by simp[D5]
 simp only[w9,vl,x6,i,j,k,j6,m];rw[show((-1:Int)==0)=false from rfl,show([c]==([]:By))=false from rfl,show ltI (-1) 0=true from rfl,decide_eq_true (show(0:Int)<=((s.count c+1:Nat):Int) by omega),decide_eq_true (show((s.count c+1:Nat):Int)<=((s.count c+1:Nat):Int) by omega),F7 (by omega),l,A7];simp only[cond_true,cond_false,beq_self_eq_true,Bool.and_self];simp only[af0,ah7] at h;refine j2 h ?_;have o:(D5 ((([]:List By)++d)++[[]]))=D5 (d++j1 (0+1) []):=by simp
 have A:d.length=s.count c:=by grind
 have q:=Cy5 d D 0;rw[<-A,o];have t:(D5 (d++j1 (0+1) ([]:By))).length=d.length+1:=by simp
 have r:A1 ((d.length:Int)+1)=((d.length+1:Nat):Int):=A7;simp only[j6,q,t,vl,r];rw[F1,decide_eq_true (show d.length<d.length+1 by omega),Au (by omega) (by omega) (by simp),u];simp
theorem Ai2(s p:By)(v n:Int)(a:A3 s.length=true)(b:(p.length==1)=true)(c:(v==0)=true)(d:(n==(-1))=true) :
  ∃r H,KY LF s p v n (λ_=>rv (.fl 0) [.arr true 9 1 []]) (λi l=>rv (.vw 0 0 i) [.arr false 9 1 l])=rv r H/\r.stab [1] H = .s (.sl false false 1 (D5 (pcs (p.getD 0 0) s))):=by
 refine⟨_,_,KZ s p v n a b c d,?_⟩;simp[PV.stab,Sk,PV.snap,aa2]
theorem Aa0{R:Type}{a:Nat->LL->Option R}(s p:By)(b:A3 s.length=true)(c:(p.length==1)=true):GY LF s p a=a (pcs (p.getD 0 0) s).length (D5 (pcs (p.getD 0 0) s)):=by unfold GY;rw[b,c];rfl
theorem RF{l:List By}{i:Nat}(h:i<l.length):l.getD i []∈l:=by grind
theorem A95{R:Type}{d:LL->Option R}(s:By)(b:A3 s.length=true):parts LF s d=d (D5 (C8 s)):=by
 have j:=M5 b;have g:=Jf 46 s;have i:=Hk 46 s;unfold parts;rw[b];have e:A1 (((pcs 46 s).length:Int)-1)=(((pcs 46 s).length-1:Nat):Int):=by rw[A7];omega
 simp only[cond_true,vl,w9,show((1:Nat)==1)=true from rfl,F2,e,j6];by_cases c:1<(pcs 46 s).length
 ·rw[A8,F1,R1 (by omega),V3];have f:(pcs 46 s).getD ((pcs 46 s).length-1) []=(pcs 46 s).getLastD []:=by grind
  rw[f];by_cases a:(pcs 46 s).getLastD []=[]
  ·rw[a,show(([]:By)==[])=true from rfl,I8];have:C8 s=(pcs 46 s).dropLast:=by unfold C8;rw[if_pos ⟨c,a⟩]
   rw[this,ac3,L1,j6];simp[D5]
  ·rw[show((pcs 46 s).getLastD []==[])=false from beq_eq_false_iff_ne.2 a];have:C8 s=pcs 46 s:=by unfold C8;rw[if_neg (λh=>a h.2)]
   grind
 ·rw[A6];have:C8 s=pcs 46 s:=by unfold C8;rw[if_neg (λh=>c h.1)]
  grind
theorem Ao1{R:Type}{d:LL->Option R}(s:By)(b:A3 s.length=true):ZK LF s d=d (D5 (C8 s)):=by
 have j:=M5 b;have g:=Jf 46 s;have i:=Hk 46 s;unfold ZK;rw[b];have e:A1 (((pcs 46 s).length:Int)-1)=(((pcs 46 s).length-1:Nat):Int):=by rw[A7];omega
 simp only[cond_true,vl,show u8n 46=46 from rfl,F2,e,j6];by_cases c:1<(pcs 46 s).length
 ·rw[A8,F1,R1 (by omega),V3];have f:(pcs 46 s).getD ((pcs 46 s).length-1) []=(pcs 46 s).getLastD []:=by grind
  rw[f];by_cases a:(pcs 46 s).getLastD []=[]
  ·rw[a,show(([]:By)==[])=true from rfl,I8];have:C8 s=(pcs 46 s).dropLast:=by unfold C8;rw[if_pos ⟨c,a⟩]
   rw[this,ac3,L1,j6];simp[D5]
  ·rw[show((pcs 46 s).getLastD []==[])=false from beq_eq_false_iff_ne.2 a];have:C8 s=pcs 46 s:=by unfold C8;rw[if_neg (λh=>a h.2)]
   grind
 ·rw[A6];have:C8 s=pcs 46 s:=by unfold C8;rw[if_neg (λh=>c h.1)]
  grind
theorem Kc(l:List By)(i:Nat)(h:i<l.length):l.drop i=l.getD i []::l.drop (i+1):=by simp_all
theorem B73{R:Type}{g:Unit->Option R}{j:Int->Option R}(l:List By)(B:1<=l.length)(L:l.length<=4)(A:∀x∈l,x.length<=1000000000):∀(r i v n:Nat),i+r=l.length->0<r->r<n->v<256 ^ i->
  Ji LF n (D5 l) (v:Int) (l.length:Int) (i:Int) g j=match Uy (8*(5-l.length)) v (l.drop i) with|some w=>j (w:Int)|none=>g ():=by
 intro r
 induction r with
 | zero=>intro i v n _ h;omega
 | succ r J=>
  intro i v n K _ M H;obtain⟨n,rfl⟩:∃m,n=m+1:=⟨n-1,by omega⟩
  rw[Ji,Kc l i (by omega)];have N:=A _ (RF (show i<l.length by omega));have f:W8=1099511627776:=rfl;have C:256 ^ i<=16777216:=by
   have:i=0\/i=1\/i=2\/i=3:=by omega
   rcases this with rfl|rfl|rfl|rfl<;>decide
  simp (disch:=omega) only[B9,F2,K7,cond_true,j6,R1,V3,E5,vl];simp only[Uy];have c:((i:Int)+1)=((i+1:Nat):Int):=by omega
  cases D:Ac (l.getD i []) with
  | none=>rfl
  | some q=>
   have F:=Bv7 D;have p:A1 ((l.length:Int)-1)=((l.length-1:Nat):Int):=by rw[A7];omega
   simp only[p5,j7,cond_false,N7,v7,p];by_cases G:r=0
   ·subst G;have t:l.drop (i+1)=[]:=o6 (by omega);have o:A1 (8*A1 (5-(l.length:Int)))=((8*(5-l.length):Nat):Int):=by
     rw[D1 (n:=5-(l.length:Int)) (by omega) (by omega),A7];omega
    have b:2 ^ (8*(5-l.length))*256 ^ i=4294967296:=by
     have:l.length=1\/l.length=2\/l.length=3\/l.length=4:=by omega
     grind
    have u:1*2 ^ (8*(5-l.length))<=4294967296:=by
     rw[<-b,ac8];exact ab9 _ (ae7 (by omega))
    rw[t,A6,o,decide_eq_true (show(0:Int)<=((8*(5-l.length):Nat):Int) by omega)];simp only[cond_false,cond_true];have k:=As4 1 (8*(5-l.length)) (by omega) (by omega);have I:v*2 ^ (8*(5-l.length))<4294967296:=by
     rw[<-b,ah6];exact Nat.mul_lt_mul_of_pos_left H (ae7 (by omega))
    have e:=As4 v (8*(5-l.length)) (by omega) (by omega);rw[show((1:Nat):Int)=1 from rfl] at k;rw[k,e,ac8];by_cases a:q<2 ^ (8*(5-l.length))
    ·rw[A8,if_pos a,Dq6 _ _ (by omega) (by omega),GK v q _ a];simp only[j7,cond_false];obtain⟨n,rfl⟩:∃m,n=m+1:=⟨n-1,by omega⟩
     rw[Ji];rw[c,A7,A6];rfl
    ·rw[A6,if_neg a];rfl
   ·obtain⟨y,z,d⟩:∃y z,l.drop (i+1)=y::z:=⟨_,_,Kc l (i+1) (by omega)⟩
    rw[d,A8];simp only[cond_true];by_cases a:q<=255
    ·have e:=As4 v 8 (by omega) (by omega);rw[show((8:Nat):Int)=8 from rfl] at e;rw[A6,if_pos a,e,Dq6 _ _ (by omega) (by omega),GK v q 8 (by omega),c,A7];rw[<-d];exact J (i+1) _ n (by omega) (by omega) (by omega) (by rw[y7];omega)
    ·rw[A8,if_neg a];rfl
theorem Bw2(free m:Nat):∀(l:List By) (v w:Nat),v<256 ^ m->Uy free v l=some w->w<256 ^ (m+(l.length-1))*2 ^ free
 | [],v,w,b,h=>by cases h
 | p::r,v,w,b,h=>by
  simp only[Uy] at h;cases a:Ac p with
  | none=>simp[a] at h
  | some q=>
   simp only[a] at h;cases r with
   | nil=>
    simp only at h;split at h
    ·rename_i c;cases h;simp only[ab6,af0,Nat.add_sub_cancel,Nat.add_zero];have:(v+1)*2 ^ free<=256 ^ m*2 ^ free:=Nat.mul_le_mul_right _ b;grind
    grind
   | cons y z=>
    simp only at h;split at h
    ·rename_i c;have:=Bw2 free (m+1) (y::z) (v*256+q) w (by rw[y7];omega) h;grind
    grind
theorem Ct7{s:By}{w:Nat}(h:pnB s=some w):w<4294967296:=by
 unfold pnB at h;split at h
 ·cases h
 ·rename_i a;have b:=Bk s;have:=Bw2 _ 0 (C8 s) 0 w (by decide) h;have e:(C8 s).length=1\/(C8 s).length=2\/(C8 s).length=3\/(C8 s).length=4:=by omega
  grind
theorem B74{R:Type}{b:Int->Bool->Option R}(s:By)(a:A3 s.length=true):Df4 LF s b=b (N7 (pnB s):Int) (pnB s).isSome:=by
 have f:=M5 a;have:=C5;have c:=Bk s;unfold Df4;rw[a,F2];by_cases h:4<(C8 s).length
 ·rw[A8];unfold pnB;rw[if_pos h];rfl
 ·rw[A6];simp only[cond_true,cond_false];refine j2 (B73 (C8 s) c.1 (by omega) (λx g=>ac0 (Na g) f) (C8 s).length 0 0 LF (by omega) (by omega) (by omega) (by decide)) ?_;have e:pnB s=Uy (8*(5-(C8 s).length)) 0 (C8 s):=by unfold pnB;rw[if_neg h]
  rw[v8,<-e];cases d:pnB s with
  | none=>rfl
  | some w=>
   have:=Ct7 d;simp only[N7,v7,p5];rw[Oa]
theorem Bh0{R:Type}{k0:Unit->Option R}{k1:Int->Option R}(l:List By)(F:1<=l.length)(L:l.length<=4)(D:∀x∈l,x.length<=1000000000):∀(r i v n:Nat),i+r=l.length->0<r->r<n->v<256 ^ i->
  Ex LF n (D5 l) ((v*2 ^ (32-8*i):Nat):Int) (i:Int) k0 k1=match Uy (8*(5-l.length)) v (l.drop i) with|some w=>k1 (w:Int)|none=>k0 ():=by
 intro r
 induction r with
 | zero=>intro i v n _ h;omega
 | succ r J=>
  intro i v n K _ M N;obtain⟨n,rfl⟩:∃m,n=m+1:=⟨n-1,by omega⟩
  rw[Ex,Kc l i (by omega)];have O:=D _ (RF (show i<l.length by omega));have k:W8=1099511627776:=rfl;have a:v*2 ^ (32-8*i)<4294967296:=by
   have:i=0\/i=1\/i=2\/i=3:=by omega
   rcases this with rfl|rfl|rfl|rfl
   all_goals omega
  simp (disch:=omega) only[B9,F2,K7,cond_true,j6,R1,V3,E5,vl];simp only[Uy];have c:((i:Int)+1)=((i+1:Nat):Int):=by omega
  cases G:Ac (l.getD i []) with
  | none=>rfl
  | some q=>
   have H:=Bv7 G;have A:A1 ((l.length:Int)-1)=((l.length-1:Nat):Int):=by rw[A7];omega
   simp only[p5,j7,cond_false,N7,v7,A];by_cases I:r=0
   ·subst I;have B:l.drop (i+1)=[]:=o6 (by omega);have u:A1 (8*A1 (5-(l.length:Int)))=((8*(5-l.length):Nat):Int):=by
     rw[D1 (n:=5-(l.length:Int)) (by omega) (by omega),A7];omega
    have f:2 ^ (8*(5-l.length))*256 ^ i=4294967296:=by
     have:l.length=1\/l.length=2\/l.length=3\/l.length=4:=by omega
     grind
    have C:1*2 ^ (8*(5-l.length))<=4294967296:=by
     rw[<-f,ac8];exact ab9 _ (ae7 (by omega))
    have e:((i:Int)==((l.length-1:Nat):Int))=true:=by rw[beq_iff_eq];omega
    rw[B,e,u,decide_eq_true (show(0:Int)<=((8*(5-l.length):Nat):Int) by omega)];simp only[cond_true];have o:=As4 1 (8*(5-l.length)) (by omega) (by omega);rw[show((1:Nat):Int)=1 from rfl] at o;rw[o,ac8];by_cases b:q<2 ^ (8*(5-l.length))
    ·rw[A8,if_pos b];simp only[j7,cond_false];obtain⟨n,rfl⟩:∃m,n=m+1:=⟨n-1,by omega⟩
     rw[Ex];rw[c,D1 (n:=((i+1:Nat):Int)) (by omega) (by omega),F2,A6];have:32-8*i=8*(5-l.length):=by omega
     rw[this] at a ⊢;rw[cond_false,A7];rfl
    ·rw[A6,if_neg b];rfl
   ·obtain⟨y,z,d⟩:∃y z,l.drop (i+1)=y::z:=⟨_,_,Kc l (i+1) (by omega)⟩
    have e:((i:Int)==((l.length-1:Nat):Int))=false:=by rw[beq_eq_false_iff_ne];omega
    rw[d,e];simp only[cond_false];by_cases b:q<=255
    ·have j:A1 (24-A1 (8*(i:Int)))=((24-8*i:Nat):Int):=by
      rw[D1 (n:=8*(i:Int)) (by omega) (by omega),A7];omega
     have g:q*2 ^ (24-8*i)<4294967296:=by
      have:i=0\/i=1\/i=2:=by omega
      clear a;rcases this with rfl|rfl|rfl
      ·show q*16777216<_;omega
      ·show q*65536<_;omega
      ·show q*256<_;omega
     have p:=As4 q (24-8*i) (by omega) (by omega);rw[A6,if_pos b,j,decide_eq_true (show(0:Int)<=((24-8*i:Nat):Int) by omega),p,c,D1 (n:=((i+1:Nat):Int)) (by omega) (by omega)];have t:A1 (((v*2 ^ (32-8*i):Nat):Int)+((q*2 ^ (24-8*i):Nat):Int))=(((v*256+q)*2 ^ (32-8*(i+1)):Nat):Int):=by
      rw[A7];have:i=0\/i=1\/i=2:=by omega
      clear a g p j;rcases this with rfl|rfl|rfl
      ·show((v*4294967296:Nat):Int)+((q*16777216:Nat):Int)=(((v*256+q)*16777216:Nat):Int);omega
      ·show((v*16777216:Nat):Int)+((q*65536:Nat):Int)=(((v*256+q)*65536:Nat):Int);omega
      ·show((v*65536:Nat):Int)+((q*256:Nat):Int)=(((v*256+q)*256:Nat):Int);omega
     rw[t,<-d];exact J (i+1) _ n (by omega) (by omega) (by omega) (by rw[y7];omega)
    ·rw[A8,if_neg b];rfl
theorem Bh1{R:Type}{k0:Int->Bool->Option R}(s:By)(a:A3 s.length=true):Bx2 LF s k0=k0 (N7 (pnB s):Int) (pnB s).isSome:=by
 have f:=M5 a;have:=C5;have c:=Bk s;unfold Bx2;rw[a,F2];by_cases h:4<(C8 s).length
 ·rw[A8];unfold pnB;rw[if_pos h];rfl
 ·rw[A6];simp only[cond_true,cond_false];have b:=Bh0 (k0:=λ_=>k0 0 false) (k1:=λv=>k0 (DL v) true) (C8 s) c.1 (by omega) (λx g=>ac0 (Na g) f) (C8 s).length 0 0 LF (by omega) (by omega) (by omega) (by decide);rw[Nat.zero_mul] at b;refine j2 b ?_;have e:pnB s=Uy (8*(5-(C8 s).length)) 0 (C8 s):=by unfold pnB;rw[if_neg h]
  rw[v8,<-e];cases d:pnB s with
  | none=>rfl
  | some w=>
   have:=Ct7 d;simp only[N7,v7,p5];rw[Oa]
theorem Bv8:∀(l:List By) (v w m:Nat),v<256 ^ m->MC v l=some w->w<256 ^ (m+l.length)
 | [],v,w,m,b,h=>by simp only[MC,x7] at h;subst h;simpa using b
 | p::r,v,w,m,b,h=>by
  simp only[MC] at h;cases a:oct p with
  | none=>simp[a] at h
  | some q=>
   simp only[a] at h;have c:=(Xz.1 a).1;have:=Bv8 r (v*256+q) w (m+1) (by rw[y7];omega) h;grind
theorem De3(s:By):oct s=match F0 10 0 s with|some n=>(if n<=255 then (if j5 n=s then some n else none) else none)|none=>none:=by unfold oct;grind
theorem C18{R:Type}{e:Unit->Option R}{f:Int->Option R}(l:List By)(z:l.length=4)(j:∀x∈l,x.length<=1000000000):∀(r i v n:Nat),i+r=4->r<n->v<256 ^ i->
  Vv LF n (v:Int) (D5 l) 4 (i:Int) e f=match MC v (l.drop i) with|some w=>f (w:Int)|none=>e ():=by
 intro r
 induction r with
 | zero=>
  intro i v n h k u;obtain⟨n,rfl⟩:∃m,n=m+1:=⟨n-1,by omega⟩
  rw[Vv];rw[A6,o6 (by omega)];rfl
 | succ r y=>
  intro i v n h k u;obtain⟨n,rfl⟩:∃m,n=m+1:=⟨n-1,by omega⟩
  rw[Vv,Kc l i (by omega)];have A:=j _ (RF (show i<l.length by omega));have o:256 ^ i<=16777216:=by
   have:i=0\/i=1\/i=2\/i=3:=by omega
   grind
  simp (disch:=omega) only[B9,F2,K7,cond_true,j6,R1,V3,E5,Sv,vl];simp only[MC];have b:((i:Int)+1)=((i+1:Nat):Int):=by omega
  rw[De3];cases p:F0 10 0 (l.getD i []) with
  | none=>rfl
  | some q=>
   have t:=KL (by unfold W8;omega) p;have d:W8=1099511627776:=rfl;simp only[p5,j7,cond_false,N7,v7,j6];by_cases c:q<=255
   ·rw[A6,if_pos c,M4];simp only[cond_false,cond_true];by_cases a:j5 q=l.getD i []
    ·have g:=D48 v 8 (by omega) (by omega);rw[show((8:Nat):Int)=8 from rfl] at g;rw[show(j5 q==l.getD i [])=true by simpa using a,if_pos a,g,Oa,D28 _ _ (by omega) (by omega),GK v q 8 (by omega),b,A7];exact y (i+1) _ n (by omega) (by omega) (by rw[y7];omega)
    ·rw[show(j5 q==l.getD i [])=false from beq_eq_false_iff_ne.2 a,if_neg a];rfl
   ·rw[A8,if_neg c];rfl
theorem C19{R:Type}{b:Int->Bool->Option R}(s:By)(a:A3 s.length=true):v4p LF s b=b (N7 (v4B s):Int) (v4B s).isSome:=by
 have c:=M5 a;have:=C5;unfold v4p v4B;rw[a];simp only[cond_true,vl,w9,F2,show((1:Nat)==1)=true from rfl];by_cases h:(pcs 46 s).length=4
 ·rw[if_pos h,h,show(((4:Nat):Int)!=4)=false from rfl,cond_false];refine j2 (C18 (pcs 46 s) h (λx d=>ac0 (Cr d).2 c) 4 0 0 LF (by omega) (by omega) (by decide)) ?_;rw[v8];cases MC 0 (pcs 46 s)<;>rfl
 ·rw[if_neg h,show(((pcs 46 s).length:Int)!=4)=true by simp<;>omega];rfl
theorem Cb4{R:Type}{b:Unit->Option R}{c:Int->Option R}(l:List By)(y:l.length=4)(h:∀x∈l,x.length<=1000000000):∀(r i v n:Nat),i+r=4->r<n->v<256 ^ i->
  No LF n (D5 l) (v:Int) (i:Int) b c=match MC v (l.drop i) with|some w=>c (w:Int)|none=>b ():=by
 intro r
 induction r with
 | zero=>
  intro i v n g j t;obtain⟨n,rfl⟩:∃m,n=m+1:=⟨n-1,by omega⟩
  rw[No];rw[A6,o6 (by omega)];rfl
 | succ r u=>
  intro i v n g j t;obtain⟨n,rfl⟩:∃m,n=m+1:=⟨n-1,by omega⟩
  rw[No,Kc l i (by omega)];have z:=h _ (RF (show i<l.length by omega));have k:256 ^ i<=16777216:=by
   have:i=0\/i=1\/i=2\/i=3:=by omega
   grind
  simp (disch:=omega) only[B9,F2,K7,cond_true,j6,R1,V3,E5,Sv,vl];simp only[MC];have a:((i:Int)+1)=((i+1:Nat):Int):=by omega
  cases o:oct (l.getD i []) with
  | none=>rfl
  | some q=>
   have p:=(Xz.1 o).1;simp only[p5,j7,cond_false,N7,v7];have d:DL ((v:Int)*256)=((v*256:Nat):Int):=by rw[Oa];simp
   have e:DL (q:Int)=(q:Int):=Oa;have f:DL (((v*256:Nat):Int)+(q:Int))=((v*256+q:Nat):Int):=by rw[Oa];simp
   rw[d,e,f,a,A7];exact u (i+1) _ n (by omega) (by omega) (by rw[y7];omega)
theorem Cb5{R:Type}{b:Int->Bool->Option R}(s:By)(a:A3 s.length=true):Di7 LF s b=b (N7 (v4B s):Int) (v4B s).isSome:=by
 have c:=M5 a;have:=C5;unfold Di7 v4B;rw[a];simp only[cond_true,vl,show u8n 46=46 from rfl,F2];by_cases h:(pcs 46 s).length=4
 ·rw[if_pos h,h,show(((4:Nat):Int)!=4)=false from rfl,cond_false];refine j2 (Cb4 (pcs 46 s) h (λx d=>ac0 (Cr d).2 c) 4 0 0 LF (by omega) (by omega) (by decide)) ?_;rw[v8];cases MC 0 (pcs 46 s)<;>rfl
 ·rw[if_neg h,show(((pcs 46 s).length:Int)!=4)=true by simp<;>omega];rfl
theorem C17{R:Type}{j:By->Option R}(v:Int)(o:ltN v 4294967296=true):v4f LF v j=j (V0 v.toNat):=by
 obtain⟨c,p⟩:=E0.1 o;obtain⟨m,rfl⟩:=o0 c;have:=C5;obtain⟨f,q⟩:∃f,LF=f+1+1+1+1+1:=⟨LF-5,by omega⟩
 have step:∀(n:Nat) (i:Nat) (out:By) (K:By->Option R),i<=24->out.length<=1000->Iq LF (n+1) (m:Int) out (i:Int) K=Iq LF n (m:Int) (out++(j5 (m / 2 ^ i % 256)++[46])) ((i:Int)-8) K:=by
  intro n i out K y A;rw[Iq];have g:m / 2 ^ i<4294967296:=ad3 (af2 _ _) (by omega);have k:Az5 .u32 (Qp .u32 (m:Int) (i:Int)) 255=((m / 2 ^ i % 256:Nat):Int):=by
   rw[Sf .u32 m i (by show i<=32;omega),show(255:Int)=((255:Nat):Int) from rfl,Ds6 _ _ g (by omega),Ds5]
  have z:=F9 (m / 2 ^ i % 256) (by omega);have l:A1 ((m / 2 ^ i % 256:Nat):Int)=((m / 2 ^ i % 256:Nat):Int):=A7;rw[A6,decide_eq_true (show(0:Int)<=(i:Int) by omega),k];simp only[vl,l,j6,j8,cond_true];rw[M4,G5 (by omega),G5 (by simp<;>omega),A7];rfl
 have b:∀(n:Nat) (out:By) (K:By->Option R),Iq LF (n+1) (m:Int) out (-8) K=K out:=by
  intro n out K;rw[Iq];simp_all
 have x:=F9 (m / 2 ^ 24 % 256) (by omega);have w:=F9 (m / 2 ^ 16 % 256) (by omega);have D:=F9 (m / 2 ^ 8 % 256) (by omega);have C:=F9 (m / 2 ^ 0 % 256) (by omega);have u:=F9 (m / 16777216 % 256) (by omega);have t:=F9 (m / 65536 % 256) (by omega);have B:=F9 (m / 256 % 256) (by omega);have r:=F9 (m % 256) (by omega);unfold v4f;rw[show Iq LF LF=Iq LF (f+1+1+1+1+1) by rw[<-q]];rw[show(24:Int)=((24:Nat):Int) from rfl,step _ 24 _ _ (by omega) (by simp)];rw[show((24:Nat):Int)-8=((16:Nat):Int) from rfl,step _ 16 _ _ (by omega) (by simp<;>omega)];rw[show((16:Nat):Int)-8=((8:Nat):Int) from rfl,step _ 8 _ _ (by omega) (by simp<;>omega)];rw[show((8:Nat):Int)-8=((0:Nat):Int) from rfl,step _ 0 _ _ (by omega) (by simp<;>omega)];rw[show((0:Nat):Int)-8=-8 from rfl,b];have h:m / 2 ^ 24 % 256=m / 16777216:=by omega
 have e:(([]:By)++(j5 (m / 2 ^ 24 % 256)++[46])++(j5 (m / 2 ^ 16 % 256)++[46])++(j5 (m / 2 ^ 8 % 256)++[46])++(j5 (m / 2 ^ 0 % 256)++[46]))=V0 m++[46]:=by
  unfold V0;grind
 have a:(V0 m++[46]).length<=1000:=by rw[<-e];simp;omega
 rw[e];have d:((V0 m++[46]).length:Int)-1=((V0 m).length:Int):=by simp<;>omega
 simp only[vl,d];simp only[y8,x6] at a;rw[A7,Au (by omega) (by omega) (by simp<;>omega),L1,j6,j6];grind
theorem Cb3{R:Type}{b:By->Option R}(v:Int)(f:ltN v 4294967296=true):Di5 LF v b=b (V0 v.toNat):=by
 obtain⟨a,g⟩:=E0.1 f;obtain⟨m,rfl⟩:=o0 a;have i:=F9 (m / 16777216) (by omega);have h:=F9 (m / 65536 % 256) (by omega);have l:=F9 (m / 256 % 256) (by omega);have k:=F9 (m % 256) (by omega);have c:Qp .u32 (m:Int) 24=((m / 16777216:Nat):Int):=Sf .u32 m 24 (by decide);have d:Qp .u32 (m:Int) 16=((m / 65536:Nat):Int):=Sf .u32 m 16 (by decide);have e:Qp .u32 (m:Int) 8=((m / 256:Nat):Int):=Sf .u32 m 8 (by decide);have t:∀x:Nat,x5 (x:Int) 256=((x % 256:Nat):Int):=λx=>Cy x 256
 have w:∀x:Nat,x<4294967296->A1 (x:Int)=(x:Int):=λx j=>A7
 unfold Di5;simp only[vl,c,d,e,t];rw[w _ (by omega),w _ (by omega),w _ (by omega),w _ (by omega)];simp only[j6];rw[M4,M4,M4,M4];simp only[cond_true];rw[G5 (by omega),G5 (by simp<;>omega),G5 (by simp<;>omega),G5 (by simp<;>omega),G5 (by simp<;>omega),G5 (by simp<;>omega)];simp only[cond_true,V0,j6];grind
theorem ZA{R:Type}{g:Unit->Option R}{h:By->Option R}(s:By)(q:s.length<=1000000000):∀(r i n v:Nat),i+r=s.length->r<n->Bl LF n s (i:Int) g h=if (F0 10 v (s.drop i)).isSome then h s else g ():=by
 intro r
 induction r with
 | zero=>
  intro i n v k l;obtain⟨n,rfl⟩:∃m,n=m+1:=⟨n-1,by omega⟩
  rw[Bl];rw[A6,o6 (by omega)];rfl
 | succ r o=>
  intro i n v k l;obtain⟨n,rfl⟩:∃m,n=m+1:=⟨n-1,by omega⟩
  rw[Bl,D6 s i (by omega)];rw[D3];have j:=(s.getD i 0).toNat_lt;generalize s.getD i 0=b at *;have f:((i:Int)+1)=((i+1:Nat):Int):=by omega
  simp (disch:=omega) only[B9,K7,cond_true,D1];simp only[F0];rw[f,o (i+1) n (min (v*10+dig b) W8) (by omega) (by omega)];rcases Dm b with⟨a,d,e⟩|⟨a,d,e⟩|⟨a,d,e⟩|⟨a,d,p,e⟩
  ·simp only[if_pos (show dig b<10 by omega)];rw[A6,A6];rfl
  ·simp only[if_neg (show ¬dig b<10 by omega)];rw[A6,A8];rfl
  ·simp only[if_neg (show ¬dig b<10 by omega)];rw[A6,A8];rfl
  ·simp only[if_neg (show ¬dig b<10 by omega)];by_cases c:b.toNat<48
   ·rw[A8];rfl
   ·rw[A6,A8];rfl
theorem ZB{R:Type}{a:Bool->Option R}(s:By)(b:A3 s.length=true):GN LF s a=a (!s.isEmpty&&(F0 10 0 s).isSome):=by
 have c:=M5 b;have:=C5;unfold GN;refine j2 (ZA s c s.length 0 LF 0 (by omega) (by omega)) ?_;rw[v8];cases d:F0 10 0 s with
 | none=>simp
 | some v=>cases s<;>rfl
theorem B85{R:Type}{g:Int->Option R}(b:Int)(h:inR b 256=true):Cu3 LF b g=g (dig (u8n b):Int):=by
 simp only[inR,x3,decide_eq_true_eq] at h;have j:b=((u8n b).toNat:Int):=by
  unfold u8n;simp;omega
 generalize u8n b=c at *;subst j;have i:=c.toNat_lt;unfold Cu3;simp only[Yg,Yf,vl];rcases Dm c with⟨d,f,e⟩|⟨d,f,e⟩|⟨d,f,e⟩|⟨d,f,o,e⟩
 ·have a:A1 (wu8 ((c.toNat:Int)-48))=((dig c:Nat):Int):=by
   rw[N1,A7];omega
  simp (disch:=omega) only[B9,E6,j7,j8,cond_false,cond_true,a]
 ·have a:A1 (A1 (wu8 ((c.toNat:Int)-97))+10)=((dig c:Nat):Int):=by
   rw[N1,D1 (n:=(c.toNat:Int)-97) (by omega) (by omega),A7];omega
  simp (disch:=omega) only[B9,E6,j7,j8,cond_false,cond_true,a]
 ·have a:A1 (A1 (wu8 ((c.toNat:Int)-65))+10)=((dig c:Nat):Int):=by
   rw[N1,D1 (n:=(c.toNat:Int)-65) (by omega) (by omega),A7];omega
  simp (disch:=omega) only[B9,E6,j7,j8,cond_false,cond_true,a]
 ·rw[e];by_cases k:c.toNat<48
  ·simp (disch:=omega) only[B9,E6,j7,j8,cond_false,cond_true];rfl
  ·by_cases l:c.toNat<65
   ·simp (disch:=omega) only[B9,E6,j7,j8,cond_false,cond_true];rfl
   ·by_cases m:c.toNat<97
    ·simp (disch:=omega) only[B9,E6,j7,j8,cond_false,cond_true];rfl
    ·simp (disch:=omega) only[B9,E6,j7,j8,cond_false,cond_true];rfl
theorem An9{R:Type}{g:Unit->Option R}{h:Int->Option R}(s:By)(p:s.length<=1000000000):∀(r i a n:Nat),i+r=s.length->r<n->a<=W8->
  Jk LF n s (a:Int) (i:Int) g h=match F0 16 a (s.drop i) with|some v=>h (v:Int)|none=>g ():=by
 intro r
 induction r with
 | zero=>
  intro i a n k l j;obtain⟨n,rfl⟩:∃m,n=m+1:=⟨n-1,by omega⟩
  rw[Jk];rw[A6,o6 (by omega)];rfl
 | succ r o=>
  intro i a n k l j;obtain⟨n,rfl⟩:∃m,n=m+1:=⟨n-1,by omega⟩
  rw[Jk,D6 s i (by omega)];rw[D3,Jr,Aa8];generalize s.getD i 0=b at *;have c:((i:Int)+1)=((i+1:Nat):Int):=by omega
  have f:W8=1099511627776:=rfl;simp (disch:=omega) only[B9,K7,cond_true,vl,D1];simp only[F0];rw[c];by_cases e:dig b<16
  ·have d:A1 (A1 ((a:Int)*16)+(dig b:Int))=((a*16+dig b:Nat):Int):=by
    rw[D1 (n:=(a:Int)*16) (by omega) (by omega),A7];simp
   rw[if_pos e,A8];simp (disch:=omega) only[D1,j7,cond_false] at d ⊢;rw[d,Cy4];exact o (i+1) _ n (by omega) (by omega) (by omega)
  ·rw[if_neg e,A6];rfl
theorem Bg1{R:Type}{f:Unit->Option R}{g:Int->Option R}(s:By)(t:s.length<=1000000000)(base:Nat)(q:base<=16):∀(r i a n:Nat),i+r=s.length->r<n->a<=W8->
  Gd LF n s (base:Int) (a:Int) (i:Int) f g=match F0 base a (s.drop i) with|some v=>g (v:Int)|none=>f ():=by
 intro r
 induction r with
 | zero=>
  intro i a n k l j;obtain⟨n,rfl⟩:∃m,n=m+1:=⟨n-1,by omega⟩
  rw[Gd];rw[A6,o6 (by omega)];rfl
 | succ r o=>
  intro i a n k l j;obtain⟨n,rfl⟩:∃m,n=m+1:=⟨n-1,by omega⟩
  rw[Gd,D6 s i (by omega)];rw[D3,Jr,Aa8];generalize s.getD i 0=b at *;have c:((i:Int)+1)=((i+1:Nat):Int):=by omega
  have e:W8=1099511627776:=rfl;simp only[F0,vl];rw[A8,F1,c,D1 (n:=((i+1:Nat):Int)) (by omega) (by omega)];simp only[cond_true];by_cases d:dig b<base
  ·have p:a*base<=1099511627776*16:=af4 (by omega) (by omega);have e0:A1 ((a:Int)*(base:Int))=((a*base:Nat):Int):=by
    rw[<-ae8];exact A7
   have h:A1 (((a*base:Nat):Int)+(dig b:Int))=((a*base+dig b:Nat):Int):=by
    rw[A7];rfl
   rw[if_pos d,A8,e0,h,Cy4];exact o (i+1) _ n (by omega) (by omega) (by omega)
  ·rw[if_neg d,A6];rfl
theorem B97{R:Type}{a:Int->Bool->Option R}(s:By)(p:A3 s.length=true):Cw4 LF s a=a (N7 (Ac s):Int) (Ac s).isSome:=by
 have u:=M5 p;have:=C5;have o:∀x:By,x.length<=1000000000->Jk LF LF x 0 0 (λ_=>a 0 false) (λn=>a n true)=a (N7 (F0 16 0 x):Int) (F0 16 0 x).isSome:=by
  intro x f;refine j2 (An9 x f x.length 0 0 LF (by omega) (by omega) (by unfold W8;omega)) ?_;rw[v8];cases F0 16 0 x<;>rfl
 have c:∀(x:By) (b:Nat),b<=16->x.length<=1000000000->Gd LF LF x (b:Int) 0 0 (λ_=>a 0 false) (λn=>a n true)=a (N7 (F0 b 0 x):Int) (F0 b 0 x).isSome:=by
  intro x b q f;refine j2 (Bg1 x f b q x.length 0 0 LF (by omega) (by omega) (by unfold W8;omega)) ?_;rw[v8];cases F0 b 0 x<;>rfl
 have d:=λx=>c x 10 (by omega)
 have g:=λx=>c x 8 (by omega)
 have i:=λx=>c x 16 (by omega)
 rw[show((10:Nat):Int)=10 from rfl] at d;rw[show((8:Nat):Int)=8 from rfl] at g;rw[show((16:Nat):Int)=16 from rfl] at i;unfold Cw4 Ac;by_cases e:s=[]
 ·subst e;rfl
 have j:(s==([]:By))=false:=by simpa using e
 have t:0<s.length:=aa9.2 e;rw[if_neg e,j];simp only[cond_false,GS,GU,Rz,Sa,Sb,vl];have k:=R4 (s.getD 0 0) 48 (by omega);have l:=R4 (s.getD 1 0) 120 (by omega);have m:=R4 (s.getD 1 0) 88 (by omega);rw[show((48:Nat):Int)=48 from rfl] at k;rw[show((120:Nat):Int)=120 from rfl] at l;rw[show((88:Nat):Int)=88 from rfl] at m;simp only[Ax,Br7,k,l,m,show k9 48=(48:UInt8) from rfl,show k9 120=(120:UInt8) from rfl,show k9 88=(88:UInt8) from rfl];by_cases r:2<=s.length
 ·simp (disch:=omega) only[E6,K7,Au,j8,cond_true,R6,show 1<s.length by omega,true_and];unfold Y9;grind
 ·rw[A8];have f:Y9 s=false:=by
   cases h:Y9 s with
   | false=>rfl
   | true=>have:=Ky h;omega
  grind
end
end Go.Proofs.YtfkhfkjcidamaaaGreatDoor.E
