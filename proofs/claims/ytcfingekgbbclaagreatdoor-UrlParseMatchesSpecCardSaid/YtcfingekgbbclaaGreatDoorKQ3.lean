/-
  Parts of the proof, merged by a program of the prover's own; no condition.
-/
import Derived.Test.YtcfingekgbbclaaGreatDoorKQ2
import Derived.Deep.Draws
import Derived.KernelRfl
import Derived.Laws.RangeString
import Derived.Lib.IndexMore
import Derived.Lib.ItoaNum
import Derived.Lib.Join
import Derived.Lib.LaidTab
import Derived.Lib.LaidU8
import Derived.Lib.LastIndexLaws
import Derived.Lib.RuneCount
import Derived.Lib.TrailingZeros
import Derived.Lib.ValidU
import Derived.Sort.Grow
import Derived.Test.YtcfingekgbbclaaGreatDoorProg
open List renaming length->a8,getD->b8,flatten->c9,replicate->d7,isEmpty->f9,drop_of_length_le->g6,getD_eq_getElem?_getD->g7,isPrefixOf->j2,drop_zero->j6,getElem?_eq_getElem->j7,map->j8,getD_cons_zero->k9,all->o0,length_singleton->o6,isPrefixOf_iff_prefix->o7,take->o9,length_pos_iff->p4,length_append->p6,take_of_length_le->s7,drop_append_of_le_length->s9,set->t7,length_map->v7,count_eq_zero->w9,mem_cons->x6,cons_append->x7,getElem_mem->x8,length_cons->x9,prefix_iff_eq_take->y4,suffix_iff_eq_drop->y5,dropLast_eq_take->y9,getElem?_eq_none->z7,mem_of_mem_drop->aa3,drop->aa5,getD_cons_succ->aa6,count_cons->ac4,isSuffixOf->ac5,length_nil->ac6,map_append->ac7
open Int renaming toNat->b9,toNat_natCast->f7,eq_ofNat_of_zero_le->j1,tdiv->w8,natCast_mul->ac3,tmod->ae7
open Eq renaming trans->d8
open Bool renaming not_false->d9,not_true->f0,and_eq_true->m9,false_eq_true->p5,eq_iff_iff->y7,and_true->ad2
open Option renaming isSome->f6,isSome_some->i6,getD_some->j5,map_some->y8,isSome_none->aa9
open Go.Lib renaming decDigits->f8,cut->m7,index->o8,decDigits_one->x3,decodeL->aa1,join->aa2,occAt->ab1,index_spec->ac9
open Option.some renaming injEq->g8
open UInt8 renaming ofNat->g9,le_iff_toNat_le->s8,toNat->af6
open Go.IntKind renaming wrap->j0,bits->j9,signed->p9
open Nat renaming mod_eq_of_lt->j4,ble->m5,pow_succ->m6,le_refl->t8,min_eq_left->v8,le_trans->w6,beq->x4,or_lt_two_pow->x5,le_mul_of_pos_right->y6,one_mul->aa4,lt_of_le_of_lt->aa7,lt_of_lt_of_le->aa8,pow_pos->ac2,div_le_self->ac8,mul_le_mul->ad0,add_comm->ae2,blt->ae3,mul_comm->ae4,zero_add->ae5
open BitVec renaming ofInt->o5,ofInt_natCast->aa0
open Go.Fn renaming func->p7
open Go.Proofs.Tryz renaming f84->ab0,f114->ab2,f118->ab3,f124->ab4,f135->ab5,f146->ab6,f147->ab7,f152->ab8,f170->ab9,f179->ac0,f189->ac1,f64->ad1,f108->ad4,f113->ad5,f117->ad6,f138->ad7,f145->ad8,f164->ad9,f173->ae0,f180->ae1,f17->ae9,f56->af0,f67->af1,f87->af2,f88->af3,f95->af4,f96->af5
open Prod.mk renaming injEq->ad3
open BEq renaming comm->ae6
open Go.Fence renaming wide->af7
namespace Go.Proofs.YtcfingekgbbclaaGreatDoor.E
set_option linter.all false
section
open Go
section
variable {Z R : Type} {C : Cfg} {Y : F6} {L : Yh Z} {c a b : Code} {Q : St Z} {k : Out -> St Z -> Option R} {id : Nat}
theorem A0{b:Bool}{x y d e:Option R}(f:x=d)(g:y=e):cond b x y=cond b d e:=by rw[f,g]
end
def B03{α:Type}(z:α)(f:Nat->α->α):Nat->α
 | 0=>z
 | n+1=>f n (B03 z f n)
def A4{b:Type}:List (Nat × b)->Nat->Option b
 | [],_=>none
 | (a,l)::r,n=>cond (x4 n a) (some l) (A4 r n)
def bds(n:Nat):List PV:=d7 n .bad
def tps(n:Nat):List PV:=d7 n (.tup [])
def gp:List (Nat × PV)->Nat->List PV
 | [],n=>bds n
 | (m,v)::r,n=>bds m++v::gp r n
abbrev LL:=List (List SV)
abbrev By:=List UInt8
def A1(n:Int):Int:=j0 .i64 n
def Cz3(n:Int):Int:=j0 .u64 n
def Zj(n:Int):Int:=j0 .u32 n
def Ll(n:Int):Int:=j0 .u16 n
def wu8(n:Int):Int:=j0 .u8 n
def Ae7(k:IntKind)(a b:Int):Int:=k.wrap (o5 k.bits a &&& o5 k.bits b).toNat
def bOr(k:IntKind)(a b:Int):Int:=k.wrap (o5 k.bits a ||| o5 k.bits b).toNat
def Pq(k:IntKind)(a b:Int):Int:=k.wrap (a*2 ^ min b.toNat k.bits)
def SH(k:IntKind)(a b:Int):Int:=a.fdiv (2 ^ min b.toNat k.bits)
def inR(n:Int)(m:Nat):Bool:=decide (0<=n)&&decide (n<m)
def Jm:TI:=⟨true,false,[.int .i64]⟩
def Ps:TI:=⟨true,false,[.str]⟩
def okE(t:TI)(l:LL)(i o:Nat):Bool:=decide (i<l.length)&&okS t (l.getD i []) o
def gC(l:LL)(i j:Nat):SV:=(l.getD i []).getD j .nilp
def gE(l:LL)(i j:Nat):Int:=(gC l i j).gI
def gX(l:LL)(i j:Nat):By:=(gC l i j).gS
def bAt(s:By)(n:Int):Int:=((s.getD n.toNat 0).toNat:Int)
def I5(l h:Int)(n:Nat):Bool:=decide (0<=l)&&decide (l<=h)&&decide (h<=n)
def cut{a:Type}(s:List a)(l h:Int):List a:=(s.take h.toNat).drop l.toNat
def C65:Code->Bool | .rangeFunc _ _ _ _=>true|_=>false
def rgX:Code->Operand | .rangeFunc x _ _ _=>x|_=>.tmp 0
def rgP:Code->Array Tmp | .rangeFunc _ p _ _=>p|_=>#[]
theorem PY:∀(p:List Nat),cd p .skip = .skip
 | []=>rfl
 | 0::_=>rfl
 | 1::_=>rfl
 | (_+2)::_=>rfl
theorem Fh:∀(p q:List Nat) (c:Code),cd (p++q) c=cd q (cd p c)
 | [],q,c=>rfl
 | i::p,q,c=>by
  rw[x7]
  match i,c with
  | 0,.seq a b=>exact Fh p q a
  | 1,.seq a b=>exact Fh p q b
  | 0,.cond _ a b=>exact Fh p q a
  | 1,.cond _ a b=>exact Fh p q b
  | 0,.block _ a=>exact Fh p q a
  | 0,.loop a=>exact Fh p q a
  | 0,.scope a=>exact Fh p q a
  | 0,.rangeFunc _ _ a b=>exact Fh p q a
  | 1,.rangeFunc _ _ a b=>exact Fh p q b
  | 0,.skip|0,.region _ _ _|0,.exit _|0,.label _|0,.goto _|0,.ret|0,.refuse _=>exact(PY q).symm
  | 1,.skip|1,.region _ _ _|1,.exit _|1,.scope _|1,.label _|1,.goto _|1,.ret|1,.refuse _|1,.block _ _|1,.loop _=>exact(PY q).symm
  | _+2,.skip|_+2,.region _ _ _|_+2,.exit _|_+2,.scope _|_+2,.label _|_+2,.goto _|_+2,.ret|_+2,.refuse _|_+2,.block _ _|_+2,.loop _|_+2,.seq _ _|_+2,.cond _ _ _|_+2,.rangeFunc _ _ _ _=>exact(PY q).symm
section
variable {Z R : Type} {C : Cfg} {L : F6} {Y : Yh Z} {B : Code} {Q : St Z} {k : Out -> St Z -> Option R}
theorem C35(p:List Nat)(h:C65 (cd p B)=true):A9 C L Y (cd p B) Q k=Rq C L (opnd C Q.sl (rgX (cd p B))) Q (λa=>Ic (rgP (cd p B)) a (bd C L Y (cd (p++[0]) B)) (bd C L Y (cd (p++[1]) B))) (λa=>Aa (rgP (cd p B)) a (bd C L Y (cd (p++[0]) B)) (bd C L Y (cd (p++[1]) B))) k:=by rw[Fh,Fh];cases b:cd p B<;>rw[b] at h<;>first|rfl|cases h
theorem Am7{c:Bool}{x y:Option R}(h:x=y):need c x=cond c y none:=by rw[h];rfl
end
abbrev pS(l:List UInt8):PV:=.s (.str l)
abbrev pB(b:Bool):PV:=.s (.bool b)
abbrev pI(n:Int):PV:=.s (.int .i64 n)
abbrev p8(n:Int):PV:=.s (.int .u8 n)
abbrev p16(n:Int):PV:=.s (.int .u16 n)
abbrev p32(n:Int):PV:=.s (.int .u32 n)
abbrev p64(n:Int):PV:=.s (.int .u64 n)
abbrev vl{a b:Type}(e:a)(f:a->b):b:=f e
theorem A2{a R:Type}{e:a}{f g:a->Option R}(h:∀x,f x=g x):vl e f=vl e g:=h e
def K8(m n:Nat):Bool:=decide (m+n<4611686018427387904)
theorem fx1{A R:Type}{f g:A->R}(b:∀a,f a=g a):f=g:=funext b
theorem fx2{A B R:Type}{f g:A->B->R}(c:∀a b,f a b=g a b):f=g:=funext λa=>fx1 (c a)
theorem fx3{A B C R:Type}{f g:A->B->C->R}(d:∀a b c,f a b c=g a b c):f=g:=funext λa=>fx2 (d a)
theorem fx4{A B C D R:Type}{f g:A->B->C->D->R}(e:∀a b c d,f a b c d=g a b c d):f=g:=funext λa=>fx3 (e a)
theorem fx5{A B C D E R:Type}{f g:A->B->C->D->E->R}(h:∀a b c d e,f a b c d e=g a b c d e):f=g:=funext λa=>fx4 (h a)
theorem fx6{A B C D E H R:Type}{f g:A->B->C->D->E->H->R}(i:∀a b c d e h,f a b c d e h=g a b c d e h):f=g:=funext λa=>fx5 (i a)
theorem fx7{A B C D E H I R:Type}{f g:A->B->C->D->E->H->I->R}(j:∀a b c d e h i,f a b c d e h i=g a b c d e h i):f=g:=funext λa=>fx6 (j a)
theorem fx8{A B C D E H I J R:Type}{f g:A->B->C->D->E->H->I->J->R}(k:∀a b c d e h i j,f a b c d e h i j=g a b c d e h i j):f=g:=funext λa=>fx7 (k a)
theorem fx9{A B C D E H I J K R:Type}{f g:A->B->C->D->E->H->I->J->K->R}(l:∀a b c d e h i j k,f a b c d e h i j k=g a b c d e h i j k):f=g:=funext λa=>fx8 (l a)
theorem Cd3{A B C D E H I J K L R:Type}{f g:A->B->C->D->E->H->I->J->K->L->R}(m:∀a b c d e h i j k l,f a b c d e h i j k l=g a b c d e h i j k l):f=g:=funext λa=>fx9 (m a)
def C45{α a:Type}(z:α)(f:a->List a->α->α):List a->α
 | []=>z
 | x::xs=>f x xs (C45 z f xs)
def Pm(n:Nat):PV->PV
 | .s (.sl z t k a)=>if n=0 then .s (.sl z t k a) else if k=n then .s (.sl z t k a) else .s (.sl z t (cond z n k) a)
 | v=>v
def Mz:List Nat->List PV->List PV
 | n::r,v::l=>Pm n v::Mz r l
 | _,l=>l
def Cv1(a:List Nat):PV->PV
 | .agg l=>.agg (Mz a l)
 | v=>Pm (a.headD 0) v
def C2:List (List Nat)->List PV->List PV
 | s::r,v::l=>Cv1 s v::C2 r l
 | _,l=>l
section
variable {L : Ctx} {sh : Nat -> Option Shp} {w : World}
theorem BM{n:Nat}{v:PV}{V:Value}(h:VP L sh w v V):VP L sh w (Pm n v) V:=by
 unfold Pm;split
 ·rename_i z t k a;split
  ·exact h
  ·split
   ·exact h
   ·cases z with
    | false=>exact h
    | true=>
     have b:=h.inv_s;cases b with
     | nil=>exact .s _ _ (.nil _ _)
 ·exact h
theorem Tk:∀(a:List Nat) (l:List PV),(Mz a l).length=l.length
 | [],_=>rfl
 | _::_,[]=>rfl
 | n::r,v::l=>by simp[Mz,Tk r l]
theorem FL:∀(a:List Nat) (l:List PV) (j:Nat) (h:j<l.length) (b:j<(Mz a l).length),∃n,(Mz a l)[j]=Pm n l[j]
 | [],l,j,h,b=>⟨0,by
  have e:Mz [] l=l:=by cases l<;>rfl
  simp only[e];unfold Pm;split
  ·rename_i c;rw[c];simp
  ·rfl⟩
 | n::r,v::l,0,h,b=>⟨n,rfl⟩
 | n::r,v::l,j+1,h,b=>by
  obtain⟨m,e⟩:=FL r l j (by simpa using h) (by simpa[Mz] using b);exact⟨m,by simpa[Mz] using e⟩
theorem Cc9{b:List Nat}{v:PV}{V:Value}(h:VP L sh w v V):VP L sh w (Cv1 b v) V:=by
 unfold Cv1;split
 ·rename_i l;obtain⟨A,rfl,hA,f⟩:=h.inv_agg;refine VP.mk_agg (by rw[Tk];exact hA) λj c=>?_
  have a:j<l.length:=by rw[Tk] at c;exact c
  obtain⟨U,e,k⟩:=f j a;obtain⟨m,d⟩:=FL b l j a c;exact⟨U,e,by rw[d];exact BM k⟩
 ·exact BM h
theorem VK:∀(a:List (List Nat)) (l:List PV),(C2 a l).length=l.length
 | [],_=>rfl
 | _::_,[]=>rfl
 | n::r,v::l=>by simp[C2,VK r l]
theorem Cd0:∀(a:List (List Nat)) (l:List PV) (V:Array Value),CR L sh w l V->CR L sh w (C2 a l) V:=by
 intro a l V h;refine⟨by rw[VK];exact h.1,?_⟩;have key:∀(a:List (List Nat)) (l:List PV) (b:Nat->Option Value),(∀j (h:j<l.length),∃U,b j=some U/\VP L sh w (l[j]) U)->∀j (h:j<(C2 a l).length),∃U,b j=some U/\VP L sh w ((C2 a l)[j]) U:=by
  intro a
  induction a with
  | nil=>intro l b d j c;exact d j (by cases l<;>exact c)
  | cons s r f=>
   intro l b d j c;cases l with
   | nil=>simp[C2] at c
   | cons v l=>
    cases j with
    | zero=>
     obtain⟨U,e,k⟩:=d 0 (by simp);exact⟨U,e,Cc9 k⟩
    | succ j=>
     have:=f l (λj=>b (j+1)) (λj h=>d (j+1) (by simpa using h)) j (by simpa[C2] using c);simpa[C2] using this
 exact key a l (λj=>V[j]?) h.2
end
theorem B0.fix{P:Program}{G:GT}{g:Nat}{pf:List PV->Tr}(szs:List (List Nat))(h:B0 P G g pf):B0 P G g (λargs=>pf (C2 szs args)):=
 λargs ret Hc hpf C hP hGe Γ w Vs hnm hH hG hc=>h (C2 szs args) ret Hc hpf C hP hGe Γ w Vs hnm hH hG (Cd0 szs args Vs hc)
theorem I7{v:PV}{H:List Blk}{ret:PV}{a:List Blk}(h:K7 (.ret v H)=some (ret,a)):ret=v/\a=H:=by simp only[K7,Gd,g8,ad3] at h;grind
theorem B8{c:Bool}{t:Tr}{ret:PV}{a:List Blk}(h:K7 (.need c t)=some (ret,a)):c=true/\K7 t=some (ret,a):=by
 cases c with
 | true=>exact⟨rfl,h⟩
 | false=>cases h
theorem B47{c:Bool}{a b:Tr}{ret:PV}{d:List Blk}(h:K7 (.split c a b)=some (ret,d)):(c=true/\K7 a=some (ret,d))\/(c=false/\K7 b=some (ret,d)):=by
 cases c with
 | true=>exact .inl ⟨rfl,h⟩
 | false=>exact .inr ⟨rfl,h⟩
theorem Cr2:∃n:Nat,100000000000000000000<=n:=⟨_,t8 _⟩
noncomputable def LF:Nat:=Classical.choose Cr2
theorem C1:100000000000000000000<=LF:=Classical.choose_spec Cr2
attribute [irreducible] LF
theorem Bc1(b:UInt8):Kd (D7 b)=b:=by simp[Kd,D7,SV.gI]
theorem V9(l:List UInt8):(l.map D7).map Kd=l:=by
 rw[List.map_map];have:Kd ∘ D7=id:=by funext b;exact Bc1 b
 rw[this,List.map_id]
theorem Bd8(b:UInt8):Mb (D7 b)=true:=by have:=b.toNat_lt;simp only[Mb,D7,m9,decide_eq_true_eq];omega
theorem V4(l:List UInt8):(l.map D7).all Mb=true:=by rw[List.all_map];simp[Function.comp_def,Bd8]
theorem Cz2(n:Nat):j0 .u8 (n:Int)=((n % 256:Nat):Int):=by simp[j0,j9,p9]
theorem A96(n:Nat):j0 .u16 (n:Int)=((n % 65536:Nat):Int):=by simp[j0,j9,p9]
theorem Co1(n:Nat):j0 .u32 (n:Int)=((n % 4294967296:Nat):Int):=by simp[j0,j9,p9]
theorem Co2(n:Nat):j0 .u64 (n:Int)=((n % 18446744073709551616:Nat):Int):=by simp[j0,j9,p9]
theorem Co0(n:Int)(a:-9223372036854775808<=n)(b:n<9223372036854775808):j0 .i64 n=n:=by simp[j0,j9,p9];split<;>omega
theorem Bv0(n m:Nat):Int.fdiv (n:Int) (m:Int)=((n / m:Nat):Int):=by rw[Int.fdiv_eq_ediv_of_nonneg _ (by omega)];rfl
theorem L7(n m:Nat):w8 (n:Int) (m:Int)=((n / m:Nat):Int):=by rw[Int.tdiv_eq_ediv_of_nonneg (by omega)];rfl
theorem Gn(n m:Nat):ae7 (n:Int) (m:Int)=((n % m:Nat):Int):=by rw[Int.tmod_eq_emod_of_nonneg (by omega)];rfl
theorem Cu3(w a b:Nat)(c:a<2 ^ w)(d:b<2 ^ w):(o5 w (a:Int) ||| o5 w (b:Int)).toNat=a ||| b:=by simp[aa0,j4 c,j4 d]
theorem Cs5(w a b:Nat)(c:a<2 ^ w)(d:b<2 ^ w):(o5 w (a:Int) &&& o5 w (b:Int)).toNat=a &&& b:=by simp[aa0,j4 c,j4 d]
theorem Cw5(a b i:Nat)(h:a<2 ^ i):a ||| (b*2 ^ i)=a+b*2 ^ i:=by rw[ae4 b,Nat.or_comm,ae2];exact(Nat.two_pow_add_eq_or_of_lt h b).symm
theorem Az0(n:Nat):D7 (g9 n)=[SV.int .u8 ((n % 256:Nat):Int)]:=by simp[D7]
end
section
open Go Go.ChangeShapes Go.RowKit Go.Sort Go.WideShapes
theorem Qa{P:Program}{f:Nat}{fn:Func}{d:Array Value}{w:World}{R:Value->World->Prop}(m:P.funcs[f]? = some fn)(j:fn.body.isSome=true)(p:(fn.name == "runtime.NumGoroutine")=false)
  (h:Calls P f d w λe w'=>∃V,e = .returned V/\R V w'):R4 P ((callFunc f d).run P w) R:=by
 obtain⟨c,j⟩:=Option.isSome_iff_exists.1 j;intro q n o a next Q b
 have g:(callFunc f d).run P w = .ok (.enter f d) w:=by
  have k:¬ fn.name = "runtime.NumGoroutine":=by simpa using p
  simp[callFunc,m,j,k,Result.andThen]
 rw[g];simp only[Oper.uponIn_enter];refine⟨λh=>(by simp[G7,af7] at h),?_⟩;have key:CallsIn af7 (n-1) P f d w λe w'=>∃V,e = .returned V/\R V w':=callsIn_wide.2 h
 have i:CallsIn (G7 q) (n-1) P f d w λe w'=>∃V,e = .returned V/\R V w':=key
 refine i.mono ?_;rintro e w' ⟨V,rfl,l⟩;exact b V w' l
theorem Bu1{C:Cfg}{d:Ctx}{w w':World}{ret:PV}{V:Value}(a:∀b,d.nm b=none)(f:HR d [] w)(c:Below w.heap.size w w')(j:VP d (A5 []) w' ret V)(i:ret.nms=[]):Cw C I0 d [] w noΦ ret [] () V w':=by
 refine⟨d,noΦ,⟨c.os,c.tape,c.output,c.size,λ_ h=>h,λ_ h=>.inl h,λb g h=>(by rw[a] at h;cases h),λ_ h=>h.elim,λg e _ _=>c.block g e,rfl,t8 _,λb h=>(by simp at h)⟩,
  ⟨λb k g h=>(by rw[a] at h;cases h),λb g h=>(by rw[a] at h;cases h),λg e=>aa8 (f.stlt g e) c.size,λb h=>(by simp at h),λb h=>(by simp at h)⟩,j,by rw[i];simp,λ_ h=>h,λb g h=>(by rw[a] at h;cases h)⟩
theorem Mt(w:World)(n:Nat):Below w.heap.size w (w.drewN n):=⟨rfl,rfl,rfl,t8 _,λ_ _=>rfl⟩
theorem EJ(w:World)(os:Array Obj):Below w.heap.size w (grow w os):=by refine⟨rfl,rfl,rfl,by simp[grow],λk a=>?_⟩;simp only[grow];grind
theorem Ae9(w:World)(s:ByteArray)(pos:Nat):Below w.heap.size w (w.iter s pos):=(Below.refl _ w).alloc (t8 _) _
section
variable {Γ : Ctx} {sh : Nat -> Option Shp} {w : World}
theorem CR.arr1{a:PV}{A:Array Value}(h:CR Γ sh w [a] A):∃U,A = #[U]/\VP Γ sh w a U:=by obtain⟨U,e,k⟩:=h.2 0 (by simp);refine⟨U,?_,k⟩;have hs:A.size=1:=h.1;grind
theorem CR.arr2{a b:PV}{A:Array Value}(h:CR Γ sh w [a,b] A):∃U V,A = #[U,V]/\VP Γ sh w a U/\VP Γ sh w b V:=by obtain⟨U,e,k⟩:=h.2 0 (by simp);obtain⟨V,e',k'⟩:=h.2 1 (by simp);refine⟨U,V,?_,k,k'⟩;have hs:A.size=2:=h.1;grind
theorem CR.arr3{a b c:PV}{A:Array Value}(h:CR Γ sh w [a,b,c] A):∃U V W,A = #[U,V,W]/\VP Γ sh w a U/\VP Γ sh w b V/\VP Γ sh w c W:=by obtain⟨U,e,k⟩:=h.2 0 (by simp);obtain⟨V,e',k'⟩:=h.2 1 (by simp);obtain⟨W,e'',k''⟩:=h.2 2 (by simp);refine⟨U,V,W,?_,k,k',k''⟩;have hs:A.size=3:=h.1;grind
theorem VP.mk_str(l:List UInt8):VP Γ sh w (.s (.str l)) (.string ⟨l.toArray⟩):=by have:=VP.s (Γ:=Γ) (sh:=sh) (w:=w) _ _ (VS.str (St:=Γ.St) (w:=w) ⟨l.toArray⟩);omega
theorem VP.mk_int(k:IntKind)(n:Int):VP Γ sh w (.s (.int k n)) (.int k n):=.s _ _ (.int k n)
theorem VP.mk_bool(b:Bool):VP Γ sh w (.s (.bool b)) (.bool b):=.s _ _ (.bool b)
theorem VP.mk_tup3{a b c:PV}{U V W:Value}(h:VP Γ sh w a U)(k:VP Γ sh w b V)(l:VP Γ sh w c W):VP Γ sh w (.tup [a,b,c]) (.tuple #[U,V,W]):=
 VP.mk_tup rfl λj hj=>by grind
end
theorem I2{P:Program}{G:GT}{g:Nat}{fn:Func}{k:List PV->Tr}(q:P.funcs[g]? = some fn)(d:fn.body.isSome=true)(t:(fn.name == "runtime.NumGoroutine")=false)
  (h:∀args ret b,K7 (k args)=some (ret,b)->b=[]/\ret.nms=[]/\∀C:Cfg,C.P=P->C.G=G->∀a w c,GOK C a.St w->(∀g,a.St g->g<w.heap.size)->CR a (A5 []) w args c->
   Calls P g c w λe w'=>∃V,e = .returned V/\Below w.heap.size w w'/\VP a (A5 []) w' ret V):B0 P G g k:=by
 intro args ret b i C n m a w c f j r o;obtain⟨rfl,u,l⟩:=h args ret b i;exact Qa q d t ((l C n m a w c r j.stlt o).mono λe w' ⟨V,p,d,v⟩=>⟨V,p,Bu1 f j d v u⟩)
def PV.stab(szs:List Nat)(H:List Blk):PV->PV
 | .tup l=>.tup (Mz szs (K9 H l))
 | v=>Pm (szs.headD 0) (v.snap H)
theorem VP.stab{Γ:Ctx}{H:List Blk}{w:World}(szs:List Nat)(hH:HR Γ H w){v:PV}{V:Value}(h:VP Γ (A5 H) w v V):VP Γ.all (A5 H) w (v.stab szs H) V:=by
 by_cases ht:∃l,v = .tup l
 ·obtain⟨l,rfl⟩:=ht;obtain⟨A,rfl,hA,hc⟩:=h.inv_tup;simp only[PV.stab];have hl:(Mz szs (K9 H l)).length=l.length:=by rw[Tk,Gk,v7]
  refine VP.mk_tup (by rw[hl];exact hA) λj hj=>?_
  obtain⟨U,e,k⟩:=hc j (by omega);refine⟨U,e,?_⟩;have hj':j<(K9 H l).length:=by rw[Gk,v7];omega
  obtain⟨n,en⟩:=FL szs (K9 H l) j hj' hj;rw[en];have e2:(K9 H l)[j]=(l[j]'(by omega)).snap H:=by
   simp only[Gk,List.getElem_map]
  rw[e2];exact BM (k.snap hH)
 ·have e:v.stab szs H=Pm (szs.headD 0) (v.snap H):=by
   cases v with
   | tup l=>exact absurd ⟨l,rfl⟩ ht
   | _=>rfl
  rw[e];exact BM (h.snap hH)
theorem I4(n:List Nat){C₀:Cfg}{g:Nat}{pf:List PV->Tr}(M:XOK C₀)(K:Md C₀)(P:C₀.P.follows .mixedOrders=true)
  (h:∀args ret p,K7 (pf args)=some (ret,p)->C0 args=[]/\p=[]/\ret.nms=[]/\∃d c k,evC C₀ d Unit noY g args [] ()=some (c,k,())/\c.stab n k=ret):B0 C₀.P C₀.G g pf:=by
 intro args ret p A C L t Γ w F z J I N;obtain⟨y,rfl,m,d,c,k,u,rfl⟩:=h args ret p A;have G:=Ob (C₀:=C₀) (g:=g) (pf:=λa=>match evC C₀ d Unit noY g a [] () with|some (r,H,_)=>cond (C0 a).isEmpty (.ret r H) .fail|none=>.fail) M K P (λa r H j=>by
  split at j
  ·rename_i S H' _ R;cases D:(C0 a).isEmpty with
   | true=>
    rw[D] at j;simp only[cond_true,K7,Gd,g8,ad3] at j;grind
   | false=>rw[D] at j;cases j
  ·cases j)
 refine(G args c k (by dsimp only;rw[u];dsimp only;rw[y];rfl) C L t Γ w F z J I N).mono ?_;rintro V w' ⟨o,B,e,i,Q,hvn,v,O⟩;let Γ2:Ctx:={ o.all with nm:=λ_=>none }
 have x:∀g,Γ2.St g->g<w'.heap.size:=λg f=>by
  rcases f with f|⟨b,l⟩
  ·exact i.stlt g f
  ·exact(i.lt b g l).2.1
 refine⟨Γ2,B,⟨e.os,e.tape,e.output,e.size,λg f=>.inl (e.sub g f),λg f=>?_,λb g h=>by simp[Γ2] at h,e.foot,e.frame,e.yv,t8 _,λb l=>by simp at l⟩,
  Jw (λ_=>rfl) x,?_,by rw[m];simp,v,λb g h=>by simp[Γ2] at h⟩
 ·rcases f with f|⟨b,l⟩
  ·exact e.stnew g f
  ·rcases e.own b g l with⟨q,_⟩|q
   ·simp at q
   ·exact .inr q
 ·exact VP.mono (Γ:=o.all) (Γ':=Γ2) (w:=w') (w':=w') (sh:=A5 k) (ok:=λ_=>False) ⟨λ_ _=>rfl,λ_ h=>h,λ_ h=>h.elim,λ_ h=>h.elim,λ_ _ h=>h.elim,rfl⟩ (Q.stab n i) (by rw[m];simp)
def Tr.Good(szs:List Nat)(args:List PV)(e:Option (PV × List Blk × Unit)):Tr->Prop
 | .ret v H=>C0 args=[]/\H=[]/\v.nms=[]/\∃r H0,e=some (r,H0,())/\r.stab szs H0=v
 | .need c t=>c=true->Good szs args e t
 | .split c a b=>(c=true->Good szs args e a)/\(c=false->Good szs args e b)
 | .fail=>True
theorem Tr.Good.res{szs:List Nat}{args:List PV}{e:Option (PV × List Blk × Unit)}{ret:PV}{Hc:List Blk}:∀{t:Tr},t.Good szs args e->K7 t=some (ret,Hc)->C0 args=[]/\Hc=[]/\ret.nms=[]/\∃r H0,e=some (r,H0,())/\r.stab szs H0=ret
 | .ret v H,h,hr=>by
  obtain⟨rfl,rfl⟩:=I7 hr;exact h
 | .need c t,h,hr=>by
  obtain⟨h0,hr⟩:=B8 hr;exact res (h h0) hr
 | .split c a b,h,hr=>by
  rcases B47 hr with⟨h0,hr⟩|⟨h0,hr⟩
  ·exact res (h.1 h0) hr
  ·exact res (h.2 h0) hr
theorem xf(b:List Nat)(a:Cfg){g:Nat}(d:List PV->Tr){e:List (List Nat)}{l:List (Nat × (List PV->Tr))}{c:List Nat}(m:a.X=ZX l)(q:L1 a.P a.G l)(o:a.okf=okL c)(k:An1 a c=true)(n:a.P.follows .mixedOrders=true)
  (h:∀args,(d args).Good b args (evC a 1 Unit noY g args [] ())) (i:a.Y=Ze []:=by rfl) (j:a.S=Ze []:=by rfl):B0 a.P a.G g (λargs=>d (C2 e args)):=
 B0.fix e (I4 b (L1.ok m q i j) (H7 o k) n λargs ret y p=>by
  obtain⟨t,u,v,r,f,w,x⟩:=(h args).res p;exact⟨t,u,v,1,r,f,w,x⟩)
end
section
open Go
def Ak4(n:Nat)(ret:PV)(H:List Blk):Bool:=ret.nms.all (ae3 · n)&&H.all λb=>b.nms.all (ae3 · n)
theorem Cw.head{C:Cfg}{Z:Type}{I:Z->(Nat->Prop)->(Nat->Prop)->World->Prop}{Γ:Ctx}{H Hc T:List Blk}{w w':World}{Φ:Nat->Prop}{s':Z}{ret:PV}{V:Value}
  (h:Cw C I Γ H w Φ ret (Hc++T) s' V w') (hl:H.length<=Hc.length) (hok:Ak4 Hc.length ret Hc=true):Cw C I Γ H w Φ ret Hc s' V w':=by
 obtain⟨Γ1,Φ1,hs,hH1,hv,hvn,hi1,hd1⟩:=h;simp only[Ak4,m9,List.all_eq_true,Nat.blt_eq] at hok;let Γ2:Ctx:={ Γ1 with nm:=λb=>if b<Hc.length then Γ1.nm b else none }
 have hnm:∀b g,Γ2.nm b=some g->b<Hc.length/\Γ1.nm b=some g:=λb g h=>by grind
 have get:∀b (h:b<Hc.length) (h':b<(Hc++T).length),(Hc++T)[b]=Hc[b]:=λb h h'=>List.getElem_append_left h
 have shp:∀b,b<Hc.length->A5 Hc b=A5 (Hc++T) b:=λb hb=>by
  simp only[A5];grind
 have M:Y8 Γ1 (A5 (Hc++T)) w' Γ2 (A5 Hc) w' (· < Hc.length):=⟨λ_ _=>rfl,λ_ h=>h,λb hb=>by simp only[Γ2];rw[if_pos hb],λb hb=>shp b hb,λ_ _ _ _=>rfl,rfl⟩
 refine⟨Γ2,Φ1,⟨hs.os,hs.tape,hs.output,hs.size,hs.sub,hs.stnew,λb g h=>hs.own b g (hnm b g h).2,hs.foot,hs.frame,hs.yv,hl,λb hb hf=>?_⟩,
  ⟨λb b' g h1 h2=>hH1.inj b b' g (hnm b g h1).2 (hnm b' g h2).2,λb g h=>by have:=hH1.lt b g (hnm b g h).2;exact⟨(hnm b g h).1,this.2⟩,hH1.stlt,λb hb c hc=>hok.2 _ (x8 hb) c hc,λb hb=>?_⟩,
  hv.mono M (λb hb=>hok.1 b hb),λc hc=>hok.1 c hc,hi1,λb g h=>hd1 b g (hnm b g h).2⟩
 ·obtain⟨m1,m2,m3⟩:=hs.keep b hb hf;have hb2:b<Hc.length:=aa8 hb hl;exact⟨by simp only[Γ2];rw[if_pos hb2];exact m1,by rw[shp b hb2];exact m2,m3⟩
 ·have hb':b<(Hc++T).length:=by rw[p6];omega
  have:=hH1.blk b hb';rw[get b hb hb'] at this;exact this.mono M (M.nm b hb) (λ_ _=>rfl) (λc hc=>hok.2 _ (x8 hb) c hc)
theorem Eo{C₀:Cfg}{g:Nat}{m:List PV->List Blk->Tr}(v:XOK C₀)(t:Md C₀)(D:C₀.P.follows .mixedOrders=true)
  (h:∀args H ret a,K7 (m args H)=some (ret,a)->m5 H.length a.length=true/\Ak4 a.length ret a=true/\∀(Z:Type) (e:Yh Z) (s:Z),∃d b,evC C₀ d Z e g args H s=some (ret,b,s)/\b.take a.length=a):Zl C₀.P C₀.G g m:=by
 intro C u p Z I e R r L args H s ret a i S T w n j q z A y x F;obtain⟨B,f,o⟩:=h args H ret a i;obtain⟨d,b,c,K⟩:=o Z e s;rw[<-List.take_append_drop a.length b,K] at c;refine(Iu v t D d Z I e R r L g args H s ret (a++b.drop a.length) s c S T w n j q (z.congr p.symm) A y x F).mono ?_;rintro V w' G;obtain⟨k,l,J,M,N,O,P,Q⟩:=G.head (Nat.le_of_ble_eq_true B) f;exact⟨k,l,J.congr u.symm,M,N,O,P,Q⟩
def Fc:List Int:=(List.range 32).map λi=>((if i % 2=0 then Lib.accLo (i / 2) else Lib.accHi (i / 2):Nat):Int)
def GX:GT:=⟨λg=>cond (x4 g 2) (some (.u8,Lib.firstTab)) (cond (x4 g 3) (some (.u8,Fc)) (cond (x4 g 1) (some (.u64,Lib.pow10Tab)) (cond (x4 g 5) (some (.u8,Lib.deBruijn64tab.map λn:Nat=>(n:Int))) none))),λg=>x4 g 0⟩
def C42:List (Nat × Nat × Nat × Nat)->Nat->Nat->Nat × Nat
 | [],_,_=>(0,0)
 | (t,j,e,k)::r,b,a=>cond (x4 t b&&x4 j a) (e,k) (C42 r b a)
def Cs8:List (Nat × Nat)->Nat->Option Nat
 | [],_=>none
 | (a,b)::r,i=>cond (x4 a i) (some b) (Cs8 r i)
noncomputable def B7(g:Nat)(f:List Nat)(d:Nat->Option (List Nat))(X:List (Nat × (List PV->Tr)))(b:Nat->Option (List Nat):=λ_=>none)(h:List Nat:=[])(a:Nat->Option (List Nat):=λ_=>none)(c:Option (List Nat):=none)(Y:List (Nat × (List PV->List Blk->Tr)):=[])(S:List (Nat × (List PV->List Blk->Option (Bool × List (List PV)))):=[])(e:List Nat:=[])(nt:List (Nat × Nat × Nat × Nat):=[])(rw:List (Nat × Nat):=[]):Cfg:=
 { P:=Tryz.prog,G:=GX,X:=ZX X,lend:=okL e,okf:=okL f,lf:=g,keep:=d,keepR:=b,xp:=okL h,keepE:=a,keepT:=c,Y:=Ze Y,S:=Ze S,nilT:=C42 nt,rowR:=Cs8 rw }
theorem follows:Tryz.prog.follows .mixedOrders=true:=by kernel_rfl
theorem Bj0{n:Nat}:F2 n=true↔n<=68719476736:=by simp[F2]
theorem E9{n:Nat}(h:n<=68719476736):F2 n=true:=Bj0.2 h
theorem B4{a b:Int}(h:a<b):ltI a b=true:=by rw[Rm];simpa using h
theorem E1{a b:Int}(h:b<=a):ltI a b=false:=by rw[Rm];simpa using h
theorem Km{a b:Int}:ltI a b=true↔a<b:=by rw[Rm];simp
theorem Ni{a b:Int}:ltI a b=false↔b<=a:=by rw[Rm];simp
theorem C4{n:Int}(a:-9223372036854775808<=n)(b:n<9223372036854775808):A1 n=n:=Co0 n a b
theorem TM{n:Int}(a:0<=n)(b:n<18446744073709551616):Cz3 n=n:=by obtain⟨m,rfl⟩:=j1 a;unfold Cz3;rw[Co2,j4 (by omega)]
theorem A98{n:Int}(a:0<=n)(b:n<4294967296):Zj n=n:=by obtain⟨m,rfl⟩:=j1 a;unfold Zj;rw[Co1,j4 (by omega)]
theorem A97{n:Int}(a:0<=n)(b:n<65536):Ll n=n:=by obtain⟨m,rfl⟩:=j1 a;unfold Ll;rw[A96,j4 (by omega)]
theorem TN{n:Int}(a:0<=n)(b:n<256):wu8 n=n:=by obtain⟨m,rfl⟩:=j1 a;unfold wu8;rw[Cz2,j4 (by omega)]
theorem A8{a b:Int}(h:a<b:=by omega):ltI a b=true:=B4 h
theorem A6{a b:Int}(h:b<=a:=by omega):ltI a b=false:=E1 h
theorem A7{n:Int}(h:-9223372036854775808<=n:=by omega)(g:n<9223372036854775808:=by omega):A1 n=n:=C4 h g
theorem Lm{n:Int}(h:0<=n:=by omega)(g:n<4294967296:=by omega):Zj n=n:=A98 h g
theorem Oa{n:Int}(h:0<=n:=by omega)(g:n<65536:=by omega):Ll n=n:=A97 h g
theorem L0{n:Int}(h:0<=n:=by omega)(g:n<256:=by omega):wu8 n=n:=TN h g
theorem R7{d:Sort _}{c:Prop}[Decidable c]{a b:d}(h:c:=by omega):(if c then a else b)=a:=if_pos h
theorem F8{d:Sort _}{c:Prop}[Decidable c]{a b:d}(h:¬c:=by omega):(if c then a else b)=b:=if_neg h
theorem Aa9(n:Nat):Ll (n:Int)=((n % 65536:Nat):Int):=A96 n
theorem SJ(k:IntKind)(a m:Nat)(h:m<=k.bits):SH k (a:Int) (m:Int)=((a / 2 ^ m:Nat):Int):=by
 unfold SH;rw[f7,v8 h];have:(2:Int) ^ m=((2 ^ m:Nat):Int):=by simp
 rw[this,Bv0]
theorem B54{n:Nat}(h:n<256):[SV.int .u8 (n:Int)]=D7 (g9 n):=by rw[Az0,j4 h]
theorem Y6{l h:Int}{n:Nat}(a:0<=l)(b:l<=h)(c:h<=n):I5 l h n=true:=by simp[I5,a,b,c]
theorem L5{i:Int}{n:Nat}(a:0<=i)(b:i<n):inR i n=true:=by simp[inR,a,b]
theorem H9{l h:Int}{n:Nat}(a:0<=l:=by omega)(b:l<=h:=by omega)(c:h<=n:=by omega):I5 l h n=true:=Y6 a b c
theorem E4{i:Int}{n:Nat}(a:0<=i:=by omega)(b:i<n:=by omega):inR i n=true:=L5 a b
end
section
open Go Go.Proofs
def CA(r:Option (PV × List Blk × Unit)):Bool:=match r with
 | some (.s (.bool true),_,_)=>true
 | _=>false
theorem RU{r:Option (PV × List Blk × Unit)}(h:CA r=true):∃H,r=some (.s (.bool true),H,()):=by
 unfold CA at h;split at h
 ·exact⟨_,rfl⟩
 ·cases h
theorem A12{C₀:Cfg}{g d:Nat}(f:XOK C₀)(c:Md C₀)(i:C₀.P.follows .mixedOrders=true)(h:CA (evC C₀ d Unit noY g [] [] ())=true):B0 C₀.P C₀.G g (λargs=>match args with|[]=>.ret (.s (.bool true)) []|_=>.fail):=
 TQ f c i λargs ret j b=>by
  cases args with
  | nil=>
   obtain⟨rfl,rfl⟩:=I7 b;obtain⟨H,e⟩:=RU h;exact⟨rfl,rfl,rfl,d,_,H,e,rfl⟩
  | cons a r=>cases b
theorem Ca9{P:Program}{t:Nat}{v:PV}{f:Ty}(h:JD P t v)(e:Jn P 20 t=some [f])(i:Zm P t=false):∃x,v = .s x/\f.of x:=by
 obtain⟨j,l,b,c,a⟩:=h;rw[e] at b;simp only[g8] at b;subst b;rcases a with⟨a,_⟩|⟨_,x,rfl,rfl⟩
 ·rw[i] at a;cases a
 ·simp only[Ty.ofL] at c;obtain⟨v,q,d,g,rfl⟩:=c;simp only[List.cons.injEq,and_true] at d;subst d;exact⟨_,rfl,g⟩
theorem Cb0{P:Program}{t:Nat}{v:PV}(h:JD P t v)(e:Jn P 20 t=some [.str])(b:Zm P t=false):∃l,v = .s (.str l)/\l.length<=maxLen:=by obtain⟨x,rfl,l,rfl,a⟩:=Ca9 h e b;exact⟨l,rfl,a⟩
end
section
open Go
def D4(l:List By):LL:=l.map λs=>[SV.str s]
def D6(l:List Nat):LL:=l.map λn=>[SV.int .u16 (Int.ofNat n)]
def O8(c:UInt8):By->By->List By
 | a,[]=>[a]
 | a,b::r=>if b=c then a::O8 c [] r else O8 c (a++[b]) r
def pcs(c:UInt8)(s:By):List By:=O8 c [] s
theorem Hm(c:UInt8):∀(s a:By),(O8 c a s).length=s.count c+1
 | [],a=>rfl
 | b::r,a=>by
  simp only[O8,ac4];by_cases h:b=c
  ·simp[h,Hm c r]
  ·simp[h,Hm c r]
theorem Vr(c:UInt8):∀(s a:By),c∉s->O8 c a s=[a++s]
 | [],a,_=>by simp[O8]
 | b::r,a,h=>by
  simp only[x6,not_or] at h;simp only[O8];rw[if_neg (λe=>h.1 e.symm),Vr c r _ h.2];simp
theorem AV(c:UInt8):∀(p a s:By),c∉p->O8 c a (p++c::s)=(a++p)::O8 c [] s
 | [],a,s,_=>by simp[O8]
 | b::r,a,s,h=>by
  simp only[x6,not_or] at h;simp only[x7,O8];rw[if_neg (λe=>h.1 e.symm),AV c r _ s h.2];simp
theorem Ay0(c:UInt8)(s a:By):O8 c a s≠[]:=by intro h;have:=Hm c s a;rw[h] at this;simp at this
theorem Ns(c:UInt8):∀(s a:By),c∉a->∀x∈O8 c a s,c∉x/\x.length<=a.length+s.length
 | [],a,h,x,d=>by
  simp only[O8,List.mem_singleton] at d;subst d;exact⟨h,by simp⟩
 | b::r,a,h,x,d=>by
  simp only[O8] at d;split at d
  ·rcases x6.1 d with rfl|d
   ·exact⟨h,by simp⟩
   ·have:=Ns c r [] (by simp) x d;refine⟨this.1,?_⟩;have:=this.2;simp at this ⊢;omega
  ·rename_i e;have:=Ns c r (a++[b]) (by simp[h,Ne.symm e]) x d;refine⟨this.1,?_⟩;have:=this.2;simp at this ⊢;omega
def Bd(b:UInt8):UInt8:=if 65<=b/\b<=90 then b+32 else b
def B5(s:By):By:=s.map Bd
def dig(b:UInt8):Nat:=
 if 48<=b.toNat/\b.toNat<=57 then b.toNat-48 else if 97<=b.toNat/\b.toNat<=102 then b.toNat-87 else if 65<=b.toNat/\b.toNat<=70 then b.toNat-55 else 99
def Bm:Nat:=1099511627776
def E5(base:Nat):Nat->By->Option Nat
 | n,[]=>some n
 | n,b::r=>if dig b<base then E5 base (min (n*base+dig b) Bm) r else none
def Bb(s:By):Bool:=s.getD 0 0==48&&(s.getD 1 0==120||s.getD 1 0==88)
def Z4(s:By):Option Nat:=
 if s=[] then none else if Bb s then E5 16 0 (s.drop 2) else if 1<s.length/\s.getD 0 0=48 then E5 8 0 (s.drop 1) else E5 10 0 s
def C6(s:By):List By:=if 1<(pcs 46 s).length/\(pcs 46 s).getLastD []=[] then (pcs 46 s).dropLast else pcs 46 s
def Ix(s:By):By:=(C6 s).getLastD []
def F4(s:By):Bool:=if Bb (Ix s) then (E5 16 0 ((Ix s).drop 2)).isSome else !(Ix s).isEmpty&&(E5 10 0 (Ix s)).isSome
def Um(free:Nat):Nat->List By->Option Nat
 | _,[]=>none
 | v,p::r=>match Z4 p with
  | none=>none
  | some n=>match r with
   | []=>if n<2 ^ free then some (v*2 ^ free+n) else none
   | r=>if n<=255 then Um free (v*256+n) r else none
def pnB(s:By):Option Nat:=if 4<(C6 s).length then none else Um (8*(5-(C6 s).length)) 0 (C6 s)
def oct(s:By):Option Nat:=match E5 10 0 s with
 | some n=>if n<=255/\f8 n=s then some n else none
 | none=>none
def GN:Nat->List By->Option Nat
 | v,[]=>some v
 | v,p::r=>match oct p with
  | some n=>GN (v*256+n) r
  | none=>none
def v4B(s:By):Option Nat:=if (pcs 46 s).length=4 then GN 0 (pcs 46 s) else none
def Nx(v:Nat):By:=f8 (v / 16777216)++46::(f8 (v / 65536 % 256)++46::(f8 (v / 256 % 256)++46::f8 (v % 256)))
def Fr:Nat->By->Option Nat
 | n,[]=>some n
 | n,b::r=>if dig b<16 then Fr (n*16+dig b) r else none
def grp(s:By):Option Nat:=if s=[]\/4<s.length then none else Fr 0 s
def Db(last:Bool):List By->Option (List Nat)
 | []=>some []
 | x::r=>match grp x with
  | some v=>(Db last r).map (v::·)
  | none=>match v4B x with
   | some v=>if last=true/\r=[] then some [v / 65536,v % 65536] else none
   | none=>none
def P0(s:By)(last:Bool):Option (List Nat):=if s=[] then some [] else Db last (pcs 58 s)
def v6B(s:By):Option (List Nat):=
 match P0 (m7 s [58,58]).1 (!(m7 s [58,58]).2.2),P0 (m7 s [58,58]).2.1 true with
 | some x,some y=>if (m7 s [58,58]).2.2 then (if x.length+y.length<=7 then some (x++d7 (8-x.length-y.length) 0++y) else none)
   else if x.length+y.length=8 then some (x++y) else none
 | _,_=>none
def Yx(l:List Nat):Nat:=(l.takeWhile (· == 0)).length
def zGo:List Nat->Nat->Nat->Nat->Nat × Nat
 | [],_,z,m=>(z,m)
 | x::r,i,z,m=>if m<Yx (x::r) then zGo r (i+1) i (Yx (x::r)) else zGo r (i+1) z m
def BD(n:Nat):UInt8:=if n<10 then g9 (48+n) else g9 (87+n)
def Ba(v:Nat):By:=if h:v<16 then [BD v] else Ba (v / 16)++[BD (v % 16)]
 termination_by v
 decreasing_by omega
def Dd(l:List Nat):By:=aa2 (l.map Ba) [58]
def AZ(a:List Nat):By:=if (zGo a 0 0 0).2<2 then Dd a else Dd (a.take (zGo a 0 0 0).1)++58::58::Dd (a.drop ((zGo a 0 0 0).1+(zGo a 0 0 0).2))
def T9(n:Nat):Bool:=m5 n 1114111&&(ae3 n 55296||ae3 57343 n)
def Xc(d k:Nat):Nat:=if h:455<d then Xc (d / 35) (k+36) else k+36*d / (d+38)
 termination_by d
 decreasing_by omega
def P4(delta count:Nat)(first:Bool):Nat:=
 let d:=if first then delta / 700 else delta / 2
 Xc (d+d / count) 0
def thr(k a:Nat):Nat:=max 1 (min 26 (36*(k+1)-a))
theorem U3(k a:Nat):1<=thr k a/\thr k a<=26:=by unfold thr;omega
def Z3(d:Nat):UInt8:=if d<26 then g9 (97+d) else g9 (22+d)
def Lz(b:UInt8):Option Nat:=
 if 97<=b.toNat/\b.toNat<=122 then some (b.toNat-97) else if 65<=b.toNat/\b.toNat<=90 then some (b.toNat-65) else if 48<=b.toNat/\b.toNat<=57 then some (b.toNat-22) else none
def O4(q k a:Nat):By:=
 if h:q<thr k a then [Z3 q] else Z3 (thr k a+(q-thr k a) % (36-thr k a))::O4 ((q-thr k a) / (36-thr k a)) (k+1) a
 termination_by q
 decreasing_by
  have:=U3 k a;exact aa7 (ac8 _ _) (by omega)
structure MH where
 delta:Nat
 bias:Nat
 done:Nat
 out:By
def G8(n a:Nat):List Nat->MH->MH
 | [],s=>s
 | p::r,s=>if p<n then G8 n a r { s with delta:=s.delta+1 }
  else if p=n then G8 n a r { delta:=0,bias:=P4 s.delta (s.done+1) (s.done==a),done:=s.done+1,out:=s.out++O4 s.delta 0 s.bias }
  else G8 n a r s
def G5(n:Nat):List Nat->Nat->Nat
 | [],m=>m
 | p::r,m=>G5 n r (if n<=p then min m p else m)
def Q2(b:List Nat)(a:Nat):Nat->Nat->MH->MH
 | 0,_,s=>s
 | f+1,n,s=>if s.done<b.length then
   let m:=G5 n b 1114112;let c:=G8 m a b { s with delta:=s.delta+(m-n)*(s.done+1) }
   Q2 b a f (m+1) { c with delta:=c.delta+1 }
  else s
def H6(a:List Nat):By:=(a.filter (· < 128)).map g9
def Bz(a:List Nat):By × Nat:=
 if 256<a.length then ([],3) else if !(a.all T9) then ([],2)
 else ((Q2 a (H6 a).length 256 128 { delta:=0,bias:=72,done:=(H6 a).length,out:=if (H6 a).isEmpty then [] else H6 a++[45] }).out,0)
def D5(a:Nat):By->Nat->Nat->Nat->Nat × By × Nat
 | [],i,w,k=>(0,[],4)
 | b::r,i,w,k=>match Lz b with
  | none=>(0,[],4)
  | some x=>if Bm<i+x*w then (0,[],19) else if x<thr k a then (i+x*w,r,0)
   else if Bm<w*(36-thr k a) then (0,[],19) else D5 a r (i+x*w) (w*(36-thr k a)) (k+1)
theorem Om(a:Nat):∀(s:By) (i w k:Nat),(D5 a s i w k).2.2=0->(D5 a s i w k).2.1.length<s.length
 | [],i,w,k,h=>by simp[D5] at h
 | b::r,i,w,k,h=>by
  unfold D5 at h ⊢;cases d:Lz b with
  | none=>simp[d] at h
  | some x=>
   simp only[d] at h ⊢;split at h
   ·simp at h
   ·rename_i e;rw[if_neg e];split at h
    ·rename_i c;rw[if_pos c];simp
    ·rename_i c;rw[if_neg c];split at h
     ·simp at h
     ·rename_i f;rw[if_neg f];have:=Om a r _ _ _ h;simp only[x9];omega
def T8(l:List Nat)(i n:Nat):List Nat:=l.take i++n::l.drop i
def G4(s:By)(b:List Nat)(n i a:Nat)(first:Bool):List Nat × Nat:=
 if e:s=[] then (b,0) else
  let q:=D5 a s i 1 0
  if d:q.2.2=0 then
   let count:=b.length+1;let c:=n+q.1 / count
   if T9 c then (if 256<count then ([],3) else G4 q.2.1 (T8 b (q.1 % count) c) c (q.1 % count+1) (P4 (q.1-i) count first) false)
   else ([],2)
  else ([],q.2.2)
 termination_by s.length
 decreasing_by exact Om a s i 1 0 d
def F9:By->Nat
 | []=>0
 | b::r=>if 45∈r then F9 r+1 else 0
def M6(s:By):List Nat × Nat:=
 if 1024<s.length then ([],3) else if s.any (λb=>m5 128 b.toNat) then ([],4)
 else if 256<F9 s then ([],3)
 else G4 (if F9 s=0 then s else s.drop (F9 s+1)) ((s.take (F9 s)).map (·.toNat)) 128 0 72 true
def X8:Nat->By->Option (List Nat)
 | 0,_=>some []
 | f+1,l=>if l=[] then some [] else if (aa1 l).1=65533/\(aa1 l).2=1 then none else (X8 f (l.drop (aa1 l).2)).map ((aa1 l).1::·)
def Ci(s:By):Option (List Nat):=X8 s.length s
def Ct(s:By):Bool:=
 (M6 s).2==0&&!((M6 s).1.any λp=>m5 65 p&&m5 p 90)&&((M6 s).1.any λp=>m5 128 p)&&(Bz (M6 s).1).2==0&&(Bz (M6 s).1).1==s
def S9(b:UInt8):Bool:=(m5 97 b.toNat&&m5 b.toNat 122)||(m5 48 b.toNat&&m5 b.toNat 57)||b==45||b==95
def xnB:By:=[120,110,45,45]
def K2(s:By):Bool:=
 !s.isEmpty&&m5 s.length 63&&s.getD 0 0 !=45&&s.getD (s.length-1) 0 !=45&&s.all S9&&(!(xnB.isPrefixOf s)||Ct (s.drop 4))
def I1(s:By):By × Nat:=match Ci s with
 | none=>([],4)
 | some p=>if 256<p.length then ([],3)
  else if p.length<s.length then (match Ci (B5 s) with
   | none=>([],14)
   | some q=>if (Bz q).2=0 then (if K2 (xnB++(Bz q).1) then (xnB++(Bz q).1,0) else ([],14)) else ([],14))
  else if K2 (B5 s) then (B5 s,0) else ([],14)
def R1:By->Option By
 | []=>some []
 | b::r=>if b=37 then (match r with
   | x::y::a=>if dig x<16/\dig y<16 then (R1 a).map (g9 (16*dig x+dig y)::·) else none
   | _=>none)
  else (R1 r).map (b::·)
structure B2 where
 kind:Nat
 name:By
 v4:Nat
 v6:List Nat
 deriving DecidableEq
def z8:List Nat:=[0,0,0,0,0,0,0,0]
def J8:B2:=⟨0,[],0,z8⟩
def F1:List By->List By × Nat
 | []=>([],0)
 | x::r=>if (I1 x).2=0 then ((I1 x).1::(F1 r).1,(F1 r).2) else ([],(I1 x).2)
def H5(s:By):By:=if s.getLast? = some 46 then s.dropLast else s
def C5(s:By):B2 × Nat:=
 if 1024<s.length then (J8,3)
 else if s.head? = some 91 then (if s.getLast? = some 93/\2<=s.length then (match v6B ((s.take (s.length-1)).drop 1) with
   | some a=>(⟨3,[],0,a⟩,0)
   | none=>(J8,14)) else (J8,14))
 else match R1 s with
  | none=>(J8,14)
  | some t=>if F4 (H5 t) then (match pnB (H5 t) with
    | some v=>(⟨2,[],v,z8⟩,0)
    | none=>(J8,14))
   else if (F1 (pcs 46 (H5 t))).2=0 then (
    let name:=aa2 (F1 (pcs 46 (H5 t))).1 [46]
    if 253<name.length then (J8,3) else if F4 name then (J8,14) else (⟨1,name,0,z8⟩,0))
   else (J8,(F1 (pcs 46 (H5 t))).2)
def Ij(s:By):Bool:=m5 s.length 253&&!(F4 s)&&(pcs 46 s).all K2
def Y7(h:B2):Bool:=
 if h.kind=1 then Ij h.name&&h.v4==0&&h.v6==z8 else if h.kind=2 then h.name.isEmpty&&h.v6==z8 else if h.kind=3 then h.name.isEmpty&&h.v4==0 else false
def Pn(h:B2):By:=if Y7 h then (if h.kind=1 then h.name else if h.kind=2 then Nx h.v4 else 91::(AZ h.v6++[93])) else []
def A3(n:Nat):Bool:=decide (n<=1000000000)
theorem LY{n:Nat}:A3 n=true↔n<=1000000000:=by simp[A3]
def isS:List SV->Bool|[.str _]=>true|_=>false
def elS(a:List SV):By:=(a.getD 0 .nilp).gS
def L9(o:Option Nat):Nat:=o.getD 0
def u8n(c:Int):UInt8:=g9 c.toNat
def TA(s p:By):By:=if p.isSuffixOf s then s.take (s.length-p.length) else s
def Fl(s p:By):By:=if p.isPrefixOf s then s.drop p.length else s
def ltN(v:Int)(n:Nat):Bool:=match v with
 | .ofNat m=>m5 (m+1) n
 | .negSucc _=>false
theorem E6{v:Int}{n:Nat}:ltN v n=true↔0<=v/\v<(n:Int):=by
 cases v with
 | ofNat m=>
  simp only[ltN,Nat.ble_eq,Int.ofNat_eq_natCast];omega
 | negSucc m=>
  refine⟨λh=>(by cases h),λh=>?_⟩;have:=Int.negSucc_lt_zero m;omega
def Gs(b:Nat):List PV->Tr
 | [.s (.int .i64 n)]=>.need (ltN n b) (.ret (.s (.str (f8 (b9 n)))) [])
 | _=>.fail
def Jr(b:Nat)(args:List PV):Tr:=Gs b (C2 [[0]] args)
def gvs(s:By)(last:Bool):List Nat:=(P0 s last).getD []
def v6c(i:Nat)(s:By):Nat:=((v6B s).getD z8).getD i 0
def n8(a b c d e f g h:Int):List Nat:=[a.toNat,b.toNat,c.toNat,d.toNat,e.toNat,f.toNat,g.toNat,h.toNat]
def ok8(a b c d e f g h:Int):Bool:=[a,b,c,d,e,f,g,h].all λx=>ltN x 65536
def Tx:List SV->Bool|[.int .u16 n]=>ltN n 65536|_=>false
def elN(a:List SV):Nat:=(a.getD 0 .nilp).gI.toNat
def FD(s:By):Int:=o8 s [58,58]
def ptI(n:Int):Bool:=match n with | .ofNat m=>T9 m | .negSucc _=>false
def D8(b:UInt8):Int:=match Lz b with|some n=>n|none=>-1
def J9(k b:Int):Int:=max 1 (min 26 (k+36-b))
def Lt:List SV->Bool|[.int .i64 _]=>true|_=>false
def elI(a:List SV):Int:=(a.getD 0 .nilp).gI
def U7(l:List Int):By × Nat:=if 256<l.length then ([],3) else if l.all ptI then Bz (l.map b9) else ([],2)
def S6(b:Int):By->Int->Int->Int->Int × By × Int
 | [],i,w,k=>(4,[],i)
 | c::r,i,w,k=>if D8 c<0 then (4,c::r,i) else if 1099511627776<i+D8 c*w then (19,r,i+D8 c*w)
  else if D8 c<J9 k b then (0,r,i+D8 c*w) else if 1099511627776<w*(36-J9 k b) then (19,r,i+D8 c*w)
  else S6 b r (i+D8 c*w) (w*(36-J9 k b)) (k+36)
def GK(b:Int)(s:By)(i:Int):Int:=(S6 b s i 1 0).1
def GM(b:Int)(s:By)(i:Int):By:=(S6 b s i 1 0).2.1
def Ro(b:Int)(s:By)(i:Int):Int:=(S6 b s i 1 0).2.2
def Ki(l:List (List SV))(i:Nat)(n:Int):List (List SV):=l.take i++[SV.int .i64 n]::l.drop i
structure DS where
 rest:By
 n:Int
 i:Int
 b:Int
 st:Bool
 l:List (List SV)
def E8(s:DS):Int × DS:=
 if GK s.b s.rest s.i=0 then
  let c:Int:=s.l.length+1;let x:=Ro s.b s.rest s.i;let d:DS:={ rest:=GM s.b s.rest s.i,n:=s.n+w8 x c,i:=ae7 x c,b:=P4 (x-s.i).toNat c.toNat (!s.st),st:=true,l:=s.l }
  if ptI d.n then (if 256<c then (3,d) else (0,{ d with i:=d.i+1,l:=Ki s.l d.i.toNat d.n })) else (2,d)
 else (GK s.b s.rest s.i,{ s with rest:=GM s.b s.rest s.i,i:=Ro s.b s.rest s.i })
def K6(c:UInt8):By->Int
 | []=>-1
 | b::r=>if K6 c r<0 then (if b=c then 0 else -1) else K6 c r+1
def Ko(l:List Nat):List (List SV):=l.map λx:Nat=>[SV.int .i64 (x:Int)]
def Pp(s:By):List Nat:=(Ci s).getD []
def Dw(b:UInt8):Int:=if dig b<16 then dig b else -1
def Ed(s:By):By:=(R1 s).getD []
def O9(s:By):B2 × Nat:=if s.getLast? = some 93/\2<=s.length then (match v6B ((s.take (s.length-1)).drop 1) with
 | some a=>(⟨3,[],0,a⟩,0)
 | none=>(J8,14)) else (J8,14)
def mkH(b:Int)(c:By)(v4:Int)(a:List Nat):B2:=⟨if ltN b 4 then b.toNat else 0,c,v4.toNat,a⟩
def Bw6(s:By):Bool:=([91]:By).isPrefixOf s
end
section
open Go Go.Proofs
set_option maxRecDepth 100000
section
def Qe:List PV->Tr
 | [.s (.str s),.s (.str p),.s (.int .i64 v),.s (.int .i64 n)]=>.need (A3 (a8 s)) (.need ((a8 p)==1) (.need (v==(0:Int)) (.need (n==((-1):Int)) (.ret (.vw 0 0 (a8 (pcs (b8 p 0 0) s))) [.arr false 9 1 (D4 (pcs (b8 p 0 0) s))]))))
 | _=>.fail
def Wi(args:List PV):Tr:=Qe (C2 [[0],[0],[0],[0]] args)
def Ql:List PV->Tr
 | [.s (.str s),.s (.str p)]=>.need (A3 (a8 s)) (.need ((a8 p)==1) (.ret (.vw 0 0 (a8 (pcs (b8 p 0 0) s))) [.arr false 9 1 (D4 (pcs (b8 p 0 0) s))]))
 | _=>.fail
def JJ(args:List PV):Tr:=Ql (C2 [[0],[0]] args)
def NC:List PV->Tr
 | [.s (.str s),.s (.str p)]=>.need (A3 (a8 s)) (.ret (.s (.bool (j2 p s))) [])
 | _=>.fail
def NB(args:List PV):Tr:=NC (C2 [[0],[0]] args)
def MT:List PV->Tr
 | [.s (.str s),.s (.str p)]=>.need (A3 (a8 s)) (.ret (.s (.bool (j2 p s))) [])
 | _=>.fail
def CO(args:List PV):Tr:=MT (C2 [[0],[0]] args)
def NE:List PV->Tr
 | [.s (.str s),.s (.str p)]=>.need (A3 (a8 s)) (.ret (.s (.bool (ac5 p s))) [])
 | _=>.fail
def Bq2(args:List PV):Tr:=NE (C2 [[0],[0]] args)
def CZ:List PV->Tr
 | [.s (.str s),.s (.str p)]=>.need (A3 (a8 s)) (.ret (.s (.str (TA s p))) [])
 | _=>.fail
def A23(args:List PV):Tr:=CZ (C2 [[0],[0]] args)
def DX:List PV->Tr
 | [.s (.str s),.s (.str p)]=>.need (A3 (a8 s)) (.ret (.s (.str (TA s p))) [])
 | _=>.fail
def A36(args:List PV):Tr:=DX (C2 [[0],[0]] args)
def CV:List PV->Tr
 | [.s (.str s),.s (.str p)]=>.need (A3 (a8 s)) (.ret (.tup [.s (.str (Fl s p)),.s (.bool (j2 p s))]) [])
 | _=>.fail
def A20(args:List PV):Tr:=CV (C2 [[0],[0]] args)
def MI:List PV->Tr
 | [.s (.str s),.s (.str p)]=>.need (A3 (a8 s)) (.ret (.tup [.s (.str (Fl s p)),.s (.bool (j2 p s))]) [])
 | _=>.fail
def Ab8(args:List PV):Tr:=MI (C2 [[0],[0]] args)
def OC:List PV->Tr
 | [.s (.str s),.s (.str p)]=>.need (A3 (a8 s)) (.ret (.s (.int .i64 (o8 s p))) [])
 | _=>.fail
def DT(args:List PV):Tr:=OC (C2 [[0],[0]] args)
def OA:List PV->Tr
 | [.s (.str s),.s (.str p)]=>.need ((a8 p)==1) (.ret (.s (.int .i64 (↑(List.count (b8 p 0 0) s):Int))) [])
 | _=>.fail
def Ad3(args:List PV):Tr:=OA (C2 [[0],[0]] args)
def CJ:List PV->Tr
 | [.s (.str s),.s (.int .i64 n)]=>.fail
 | _=>.fail
def Ik(args:List PV):Tr:=CJ (C2 [[0],[0]] args)
def Wh:List PV->Tr
 | [.s (.str s),.s (.str p),.s (.int .i64 v),.s (.int .i64 n)]=>.need (A3 (a8 s)) (.need ((a8 p)==1) (.need (v==(0:Int)) (.need (n==((-1):Int)) (.ret (.s (.sl false false 1 (D4 (pcs (b8 p 0 0) s)))) []))))
 | _=>.fail
def TV(args:List PV):Tr:=Wh (C2 [[0],[0],[0],[0]] args)
def Wv:List PV->Tr
 | [.s (.str s),.s (.str p)]=>.need (A3 (a8 s)) (.need ((a8 p)==1) (.ret (.s (.sl false false 1 (D4 (pcs (b8 p 0 0) s)))) []))
 | _=>.fail
def Sq(args:List PV):Tr:=Wv (C2 [[0],[0]] args)
def MY:List PV->Tr
 | [.s (.int .i64 n)]=>.need (ltN n 4294967296) (.ret (.s (.str (f8 (b9 n)))) [])
 | _=>.fail
def Ac2(args:List PV):Tr:=MY (C2 [[0]] args)
def NA:List PV->Tr
 | [.s (.str s)]=>.need (A3 (a8 s)) (.ret (.s (.str (B5 s))) [])
 | _=>.fail
def Ac3(args:List PV):Tr:=NA (C2 [[0]] args)
def MR:List PV->Tr
 | [.s (.str s)]=>.need (A3 (a8 s)) (.ret (.s (.bool (Bb s))) [])
 | _=>.fail
def Ac0(args:List PV):Tr:=MR (C2 [[0]] args)
def MK:List PV->Tr
 | [.s (.str s),.s (.int .i64 base)]=>.need (A3 (a8 s)) (.need (ltN base 17) (.ret (.tup [.s (.int .i64 (↑(L9 (E5 (b9 base) 0 s)):Int)),.s (.bool (f6 (E5 (b9 base) 0 s)))]) []))
 | _=>.fail
def MJ(args:List PV):Tr:=MK (C2 [[0],[0]] args)
def Ac4:List PV->Tr
 | [.s (.str s)]=>.need (A3 (a8 s)) (.ret (.tup [.s (.int .i64 (↑(L9 (Z4 s)):Int)),.s (.bool (f6 (Z4 s)))]) [])
 | _=>.fail
def Bq3(args:List PV):Tr:=Ac4 (C2 [[0]] args)
def DA:List PV->Tr
 | [.s (.str s)]=>.need (A3 (a8 s)) (.ret (.s (.sl false false 1 (D4 (C6 s)))) [])
 | _=>.fail
def NI(args:List PV):Tr:=DA (C2 [[0]] args)
def Qf:List PV->Tr
 | [.s (.str s)]=>.need (A3 (a8 s)) (.ret (.s (.bool (F4 s))) [])
 | _=>.fail
def Od(args:List PV):Tr:=Qf (C2 [[0]] args)
def NM:List PV->Tr
 | [.s (.str s)]=>.need (A3 (a8 s)) (.ret (.tup [.s (.int .u32 (↑(L9 (pnB s)):Int)),.s (.bool (f6 (pnB s)))]) [])
 | _=>.fail
def Bq5(args:List PV):Tr:=NM (C2 [[0]] args)
def Ad9:List PV->Tr
 | [.s (.str s)]=>.need (A3 (a8 s)) (.ret (.tup [.s (.int .u32 (↑(L9 (v4B s)):Int)),.s (.bool (f6 (v4B s)))]) [])
 | _=>.fail
def Cr7(args:List PV):Tr:=Ad9 (C2 [[0]] args)
def Ad8:List PV->Tr
 | [.s (.int .u32 v)]=>.need (ltN v 4294967296) (.ret (.s (.str (Nx (b9 v)))) [])
 | _=>.fail
def Cr6(args:List PV):Tr:=Ad8 (C2 [[0]] args)
def Qg:List PV->Tr
 | [.s (.str s)]=>.need (A3 (a8 s)) (.ret (.s (.bool ((not (f9 s))&&(f6 (E5 10 0 s))))) [])
 | _=>.fail
def JF(args:List PV):Tr:=Qg (C2 [[0]] args)
def NT:List PV->Tr
 | [.s (.str s)]=>.need (A3 (a8 s)) (.ret (.s (.str (B5 s))) [])
 | _=>.fail
def Ad0(args:List PV):Tr:=NT (C2 [[0]] args)
def Wq:List PV->Tr
 | [.s (.str s),.s (.int .u8 c)]=>.need (A3 (a8 s)) (.need (inR c 256) (.ret (.s (.sl false false 1 (D4 (pcs (u8n c) s)))) []))
 | _=>.fail
def Ml(args:List PV):Tr:=Wq (C2 [[0],[0]] args)
def Ab9:List PV->Tr
 | [.s (.int .i64 n)]=>.need (ltN n 4294967296) (.ret (.s (.str (f8 (b9 n)))) [])
 | _=>.fail
def JE(args:List PV):Tr:=Ab9 (C2 [[0]] args)
def NQ:List PV->Tr
 | [.s (.int .u8 b)]=>.need (inR b 256) (.ret (.s (.int .i64 (↑(dig (u8n b)):Int))) [])
 | _=>.fail
def Bq7(args:List PV):Tr:=NQ (C2 [[0]] args)
def NU:List PV->Tr
 | [.s (.str s)]=>.need (A3 (a8 s)) (.ret (.tup [.s (.int .i64 (↑(L9 (Z4 s)):Int)),.s (.bool (f6 (Z4 s)))]) [])
 | _=>.fail
def Ad1(args:List PV):Tr:=NU (C2 [[0]] args)
def Wo:List PV->Tr
 | [.s (.str s)]=>.need (A3 (a8 s)) (.ret (.s (.sl false false 1 (D4 (C6 s)))) [])
 | _=>.fail
def DK(args:List PV):Tr:=Wo (C2 [[0]] args)
def Mj:List PV->Tr
 | [.s (.str s)]=>.need (A3 (a8 s)) (.ret (.s (.bool (F4 s))) [])
 | _=>.fail
def DJ(args:List PV):Tr:=Mj (C2 [[0]] args)
def DM:List PV->Tr
 | [.s (.str s)]=>.need (A3 (a8 s)) (.ret (.tup [.s (.int .u32 (↑(L9 (pnB s)):Int)),.s (.bool (f6 (pnB s)))]) [])
 | _=>.fail
def A30(args:List PV):Tr:=DM (C2 [[0]] args)
def NP:List PV->Tr
 | [.s (.str s)]=>.need (A3 (a8 s)) (.ret (.tup [.s (.int .i64 (↑(L9 (oct s)):Int)),.s (.bool (f6 (oct s)))]) [])
 | _=>.fail
def Bq6(args:List PV):Tr:=NP (C2 [[0]] args)
def NX:List PV->Tr
 | [.s (.str s)]=>.need (A3 (a8 s)) (.ret (.tup [.s (.int .u32 (↑(L9 (v4B s)):Int)),.s (.bool (f6 (v4B s)))]) [])
 | _=>.fail
def Br0(args:List PV):Tr:=NX (C2 [[0]] args)
def MO:List PV->Tr
 | [.s (.str s)]=>.need (A3 (a8 s)) (.ret (.tup [.s (.int .u16 (↑(L9 (grp s)):Int)),.s (.bool (f6 (grp s)))]) [])
 | _=>.fail
def Bp6(args:List PV):Tr:=MO (C2 [[0]] args)
def CM:List PV->Tr
 | [.s (.str s),.s (.bool last)]=>.need (A3 (a8 s)) (.ret (.tup [.s (.sl (f9 (gvs s last)) (f9 (gvs s last)) 1 (D6 (gvs s last))),.s (.bool (f6 (P0 s last)))]) [])
 | _=>.fail
def A17(args:List PV):Tr:=CM (C2 [[0],[0]] args)
def Ae2:List PV->Tr
 | [.s (.str s)]=>.need (A3 (a8 s)) (.ret (.tup [.agg [.s (.int .u16 (↑(v6c 0 s):Int)),.s (.int .u16 (↑(v6c 1 s):Int)),.s (.int .u16 (↑(v6c 2 s):Int)),.s (.int .u16 (↑(v6c 3 s):Int)),.s (.int .u16 (↑(v6c 4 s):Int)),.s (.int .u16 (↑(v6c 5 s):Int)),.s (.int .u16 (↑(v6c 6 s):Int)),.s (.int .u16 (↑(v6c 7 s):Int))],.s (.bool (f6 (v6B s)))]) [])
 | _=>.fail
def Cs0(args:List PV):Tr:=Ae2 (C2 [[0]] args)
def EC:List PV->Tr
 | [.agg [.s (.int .u16 a),.s (.int .u16 b),.s (.int .u16 c),.s (.int .u16 d),.s (.int .u16 e),.s (.int .u16 f),.s (.int .u16 g),.s (.int .u16 h)]]=>.need (ok8 a b c d e f g h) (.ret (.tup [.s (.int .i64 (↑((zGo (n8 a b c d e f g h) 0 0 0)).1:Int)),.s (.int .i64 (↑((zGo (n8 a b c d e f g h) 0 0 0)).2:Int))]) [])
 | _=>.fail
def A38(args:List PV):Tr:=EC (C2 [[0,0,0,0,0,0,0,0]] args)
def Br4:List PV->Tr
 | [.s (.int .u64 x)]=>.need (x==(16:Int)) (.ret (.s (.int .i64 (4:Int))) [])
 | _=>.fail
def Ct5(args:List PV):Tr:=Br4 (C2 [[0]] args)
def CQ:List PV->Tr
 | [.s (.int .i64 x)]=>.need (x==(16:Int)) (.ret (.s (.bool true)) [])
 | _=>.fail
def MW(args:List PV):Tr:=CQ (C2 [[0]] args)
def CL:List PV->Tr
 | [.s (.sl c a 0 ds),.s (.int .u64 v),.s (.int .i64 b),.s (.bool neg),.s (.bool app)]=>.need (ltN v 65536) (.need (b==(16:Int)) (.need (not neg) (.need (not app) (.ret (.tup [.s (.sl true true 1 List.nil),.s (.str (Ba (b9 v)))]) []))))
 | _=>.fail
def MM(args:List PV):Tr:=CL (C2 [[0],[0],[0],[0],[0]] args)
def CP:List PV->Tr
 | [.s (.int .u64 v),.s (.int .i64 b)]=>.need (ltN v 65536) (.need (b==(16:Int)) (.ret (.s (.str (Ba (b9 v)))) []))
 | _=>.fail
def MV(args:List PV):Tr:=CP (C2 [[0],[0]] args)
def MN:List PV->Tr
 | [.s (.int .u64 v),.s (.int .i64 b)]=>.need (ltN v 65536) (.need (b==(16:Int)) (.ret (.s (.str (Ba (b9 v)))) []))
 | _=>.fail
def Bp5(args:List PV):Tr:=MN (C2 [[0],[0]] args)
def DW:List PV->Tr
 | [.s (.sl b a 1 l),.s (.str p)]=>.need (o0 l isS) (.need (A3 (a8 (aa2 (j8 elS l) p))) (.need (A3 (a8 l)) (.ret (.s (.str (aa2 (j8 elS l) p))) [])))
 | _=>.fail
def OF(args:List PV):Tr:=DW (C2 [[1],[0]] args)
def OB:List PV->Tr
 | [.s (.str s),.s (.str p)]=>.need (A3 (a8 s)) (.ret (.tup [.s (.str ((m7 s p)).1),.s (.str (((m7 s p)).2).1),.s (.bool (((m7 s p)).2).2)]) [])
 | _=>.fail
def Ad4(args:List PV):Tr:=OB (C2 [[0],[0]] args)
def Ae1:List PV->Tr
 | [.s (.sl b a 1 l)]=>.need (o0 l Tx) (.need (m5 (a8 l) 8) (.ret (.s (.str (Dd (j8 elN l)))) []))
 | _=>.fail
def Cr9(args:List PV):Tr:=Ae1 (C2 [[1]] args)
def Ae0:List PV->Tr
 | [.agg [.s (.int .u16 a),.s (.int .u16 b),.s (.int .u16 c),.s (.int .u16 d),.s (.int .u16 e),.s (.int .u16 f),.s (.int .u16 g),.s (.int .u16 h)]]=>.need (ok8 a b c d e f g h) (.ret (.s (.str (AZ (n8 a b c d e f g h)))) [])
 | _=>.fail
def Cr8(args:List PV):Tr:=Ae0 (C2 [[0,0,0,0,0,0,0,0]] args)
def NS:List PV->Tr
 | [.s (.str s)]=>.need (A3 (a8 s)) (.ret (.tup [.s (.int .u16 (↑(L9 (grp s)):Int)),.s (.bool (f6 (grp s)))]) [])
 | _=>.fail
def Bq8(args:List PV):Tr:=NS (C2 [[0]] args)
def DF:List PV->Tr
 | [.s (.str s),.s (.bool last)]=>.need (A3 (a8 s)) (.ret (.tup [.s (.sl (f9 (gvs s last)) (f9 (gvs s last)) 1 (D6 (gvs s last))),.s (.bool (f6 (P0 s last)))]) [])
 | _=>.fail
def A25(args:List PV):Tr:=DF (C2 [[0],[0]] args)
def Qh:List PV->Tr
 | [.s (.str s)]=>.need (A3 (a8 s)) (.ret (.s (.int .i64 (FD s))) [])
 | _=>.fail
def JG(args:List PV):Tr:=Qh (C2 [[0]] args)
def NY:List PV->Tr
 | [.s (.str s)]=>.need (A3 (a8 s)) (.ret (.tup [.agg [.s (.int .u16 (↑(v6c 0 s):Int)),.s (.int .u16 (↑(v6c 1 s):Int)),.s (.int .u16 (↑(v6c 2 s):Int)),.s (.int .u16 (↑(v6c 3 s):Int)),.s (.int .u16 (↑(v6c 4 s):Int)),.s (.int .u16 (↑(v6c 5 s):Int)),.s (.int .u16 (↑(v6c 6 s):Int)),.s (.int .u16 (↑(v6c 7 s):Int))],.s (.bool (f6 (v6B s)))]) [])
 | _=>.fail
def Br1(args:List PV):Tr:=NY (C2 [[0]] args)
def Wm:List PV->Tr
 | [.s (.int .i64 n)]=>.ret (.s (.bool (ptI n))) []
 | _=>.fail
def Mi(args:List PV):Tr:=Wm (C2 [[0]] args)
def Wl:List PV->Tr
 | [.s (.int .i64 d),.s (.int .i64 c),.s (.bool f)]=>.need (ltN d 1152921504606846976) (.need (ltN c 1000000) (.need (ltI (0:Int) c) (.ret (.s (.int .i64 (↑(P4 (b9 d) (b9 c) f):Int))) [])))
 | _=>.fail
def Mh(args:List PV):Tr:=Wl (C2 [[0],[0],[0]] args)
def NK:List PV->Tr
 | [.s (.int .i64 d)]=>.need (ltN d 36) (.ret (.s (.int .u8 (↑(af6 (Z3 (b9 d))):Int))) [])
 | _=>.fail
def Ac5(args:List PV):Tr:=NK (C2 [[0]] args)
def NO:List PV->Tr
 | [.s (.int .u8 b)]=>.need (inR b 256) (.ret (.s (.int .i64 (D8 (u8n b)))) [])
 | _=>.fail
def Ac7(args:List PV):Tr:=NO (C2 [[0]] args)
def NN:List PV->Tr
 | [.s (.int .i64 b)]=>.ret (.fnr (p7 188) [] [.ptr 1 0 0,.ptr 0 0 0]) [.box [.s (.int .i64 b)],.box [.s (.int .i64 (0:Int))]]
 | _=>.fail
def DB(args:List PV):Tr:=NN (C2 [[0]] args)
def Oe:List PV->List Blk->Tr
 | [.ptr 0 0 0,.ptr 1 0 0],[.box [.s (.int .i64 k)],.box [.s (.int .i64 b)]]=>.need (ltN k 1000000000000) (.need (ltN b 1000000) (.ret (.s (.int .i64 (J9 k b))) [.box [.s (.int .i64 (Int.add k (36:Int)))],.box [.s (.int .i64 b)]]))
 | _,_=>.fail
def NH:List PV->List Blk->Tr
 | [.fl 0,.s (.int .i64 q),.s (.int .i64 b)],[.arr z 5 1 l]=>.need (ltN q 1152921504606846976) (.need (ltN b 1000000) (.need (m5 (a8 l) 100000) (.ret (.fl 0) [.arr z 5 1 (List.append l (j8 D7 (O4 (b9 q) 0 (b9 b))))])))
 | _,_=>.fail
def NL:List PV->Tr
 | [.s (.sl b a 1 p)]=>.need (o0 p Lt) (.ret (.tup [.s (.str ((U7 (j8 elI p))).1),.s (.int .i64 (↑((U7 (j8 elI p))).2:Int))]) [])
 | _=>.fail
def Ac6(args:List PV):Tr:=NL (C2 [[1]] args)
def OE:List PV->List Blk->Tr
 | [.fl 0,.s (.int .i64 i),.fl 1],[.arr z 3 1 l,.arr false 3 1 [[.int .i64 n]]]=>.need (ltN i (Nat.add (a8 l) 1)) (.need (m5 (a8 l) 100000) (.ret (.fl 0) [.arr z 3 1 (Ki l (b9 i) n),.arr false 3 1 [[.int .i64 n]]]))
 | _,_=>.fail
def ML:List PV->List Blk->Tr
 | [.ptr 0 0 0],[.box [.s (.str a),.fl 1,.s (.int .i64 n),.s (.int .i64 i),.s (.int .i64 b),.s (.bool c)],.arr z 3 1 l]=>.need (A3 (a8 a)) (.need (ltN b 1000000) (.need (ltN i 1099511627777) (.ret (.s (.int .i64 (GK b a i))) [.box [.s (.str (GM b a i)),.fl 1,.s (.int .i64 n),.s (.int .i64 (Ro b a i)),.s (.int .i64 b),.s (.bool c)],.arr z 3 1 l])))
 | _,_=>.fail
def BH:List PV->List Blk->Tr
 | [.ptr 0 0 0],[.box [.s (.str a),.fl 1,.s (.int .i64 n),.s (.int .i64 i),.s (.int .i64 b),.s (.bool c)],.arr z 3 1 l]=>.need (A3 (a8 a)) (.need (ltN b 1000000) (.need (ltN i 1099511627777) (.need (ltN n 1152921504606846976) (.need (m5 (a8 l) 100000) (.ret (.s (.int .i64 ((E8 (DS.mk a n i b c l))).1)) [.box [.s (.str (DS.rest ((E8 (DS.mk a n i b c l))).2)),.fl 1,.s (.int .i64 (DS.n ((E8 (DS.mk a n i b c l))).2)),.s (.int .i64 (DS.i ((E8 (DS.mk a n i b c l))).2)),.s (.int .i64 (DS.b ((E8 (DS.mk a n i b c l))).2)),.s (.bool (DS.st ((E8 (DS.mk a n i b c l))).2))],.arr z 3 1 (DS.l ((E8 (DS.mk a n i b c l))).2)])))))
 | _,_=>.fail
def Wk:List PV->Tr
 | [.s (.str s),.s (.int .u8 c)]=>.need (A3 (a8 s)) (.need (inR c 256) (.ret (.s (.int .i64 (K6 (u8n c) s))) []))
 | _=>.fail
def TX(args:List PV):Tr:=Wk (C2 [[0],[0]] args)
def CT:List PV->Tr
 | [.s (.str s),.s (.int .u8 c)]=>.need (A3 (a8 s)) (.need (inR c 256) (.ret (.s (.int .i64 (K6 (u8n c) s))) []))
 | _=>.fail
def BI(args:List PV):Tr:=CT (C2 [[0],[0]] args)
def NJ:List PV->Tr
 | [.s (.str s)]=>.need (A3 (a8 s)) (.ret (.tup [.s (.sl (f9 ((M6 s)).1) (f9 ((M6 s)).1) 1 (Ko ((M6 s)).1)),.s (.int .i64 (↑((M6 s)).2:Int))]) [])
 | _=>.fail
def Bq4(args:List PV):Tr:=NJ (C2 [[0]] args)
def TU:List PV->Tr
 | [.s (.str t)]=>.fail
 | _=>.fail
def Sn(args:List PV):Tr:=TU (C2 [[0]] args)
def CX:List PV->Tr
 | [.s (.str t),.s (.str p),.s (.int .i64 n)]=>.ret (.fnr (p7 152) [] [.ptr 1 0 0,.ptr 0 0 0,.ptr 2 0 0]) [.box [.s (.str t)],.box [.s (.str p)],.box [.s (.int .i64 n)]]
 | _=>.fail
def ND(args:List PV):Tr:=CX (C2 [[0],[0],[0]] args)
def OG:List PV->Tr
 | [.s (.str t),.s (.str p)]=>.ret (.fnr (p7 152) [] [.ptr 1 0 0,.ptr 0 0 0,.ptr 2 0 0]) [.box [.s (.str t)],.box [.s (.str p)],.box [.s (.int .i64 (0:Int))]]
 | _=>.fail
def Ad5(args:List PV):Tr:=OG (C2 [[0],[0]] args)
def BJ:List PV->List Blk->Option (Bool × List (List PV))
 | [.yd,.ptr 0 0 0,.ptr 1 0 0,.ptr 2 0 0],[.box [.s (.str p)],.box [.s (.str t)],.box [.s (.int .i64 n)]]=>some (((A3 (a8 t))&&(((a8 p)==1)&&(n==(0:Int)))),j8 (λ(x:By)=>([.s (.str x)]:List PV)) (pcs (b8 p 0 0) t))
 | _,_=>none
def Wp:List PV->Tr
 | [.s (.int .i64 n)]=>.ret (.s (.bool (ptI n))) []
 | _=>.fail
def So(args:List PV):Tr:=Wp (C2 [[0]] args)
def Wn:List PV->Tr
 | [.s (.int .i64 d),.s (.int .i64 c),.s (.bool f)]=>.need (ltN d 1152921504606846976) (.need (ltN c 1000000) (.need (ltI (0:Int) c) (.ret (.s (.int .i64 (↑(P4 (b9 d) (b9 c) f):Int))) [])))
 | _=>.fail
def DD(args:List PV):Tr:=Wn (C2 [[0],[0],[0]] args)
def NW:List PV->Tr
 | [.s (.int .i64 k),.s (.int .i64 b)]=>.need (ltN k 10000000000) (.need (ltN b 1000000) (.ret (.s (.int .i64 (J9 (Int.mul (36:Int) k) b))) []))
 | _=>.fail
def Ad2(args:List PV):Tr:=NW (C2 [[0],[0]] args)
def DE:List PV->Tr
 | [.s (.int .i64 d)]=>.need (ltN d 36) (.ret (.s (.int .u8 (↑(af6 (Z3 (b9 d))):Int))) [])
 | _=>.fail
def A24(args:List PV):Tr:=DE (C2 [[0]] args)
def NZ:List PV->Tr
 | [.s (.int .u8 b)]=>.need (inR b 256) (.ret (.s (.int .i64 (D8 (u8n b)))) [])
 | _=>.fail
def Br2(args:List PV):Tr:=NZ (C2 [[0]] args)
def NR:List PV->Tr
 | [.s (.sl b a 1 p)]=>.need (o0 p Lt) (.ret (.tup [.s (.str ((U7 (j8 elI p))).1),.s (.int .i64 (↑((U7 (j8 elI p))).2:Int))]) [])
 | _=>.fail
def Ac8(args:List PV):Tr:=NR (C2 [[1]] args)
def DL:List PV->Tr
 | [.s (.str s)]=>.need (A3 (a8 s)) (.ret (.tup [.s (.sl (f9 ((M6 s)).1) (f9 ((M6 s)).1) 1 (Ko ((M6 s)).1)),.s (.int .i64 (↑((M6 s)).2:Int))]) [])
 | _=>.fail
def A29(args:List PV):Tr:=DL (C2 [[0]] args)
def CW:List PV->Tr
 | [.s (.str s)]=>.need (A3 (a8 s)) (.ret (.s (.bool (Ct s))) [])
 | _=>.fail
def A21(args:List PV):Tr:=CW (C2 [[0]] args)
def NG:List PV->Tr
 | [.s (.str s)]=>.need (A3 (a8 s)) (.ret (.s (.bool (K2 s))) [])
 | _=>.fail
def NF(args:List PV):Tr:=NG (C2 [[0]] args)
def Wz:List PV->Tr
 | [.s (.str s)]=>.need (A3 (a8 s)) (.ret (.s (.bool (f6 (Ci s)))) [])
 | _=>.fail
def UE(args:List PV):Tr:=Wz (C2 [[0]] args)
def Ww:List PV->Tr
 | [.s (.str s)]=>.need (A3 (a8 s)) (.ret (.s (.int .i64 (↑(Lib.runeCountL s):Int))) [])
 | _=>.fail
def UC(args:List PV):Tr:=Ww (C2 [[0]] args)
def MZ:List PV->Tr
 | [.s (.str s)]=>.need (A3 (a8 s)) (.ret (.tup [.s (.str ((I1 s)).1),.s (.int .i64 (↑((I1 s)).2:Int))]) [])
 | _=>.fail
def Bq1(args:List PV):Tr:=MZ (C2 [[0]] args)
def NV:List PV->Tr
 | [.s (.str s)]=>.need (A3 (a8 s)) (.ret (.tup [.s (.sl (f9 (Pp s)) (f9 (Pp s)) 1 (Ko (Pp s))),.s (.bool (f6 (Ci s)))]) [])
 | _=>.fail
def Bq9(args:List PV):Tr:=NV (C2 [[0]] args)
def DN:List PV->Tr
 | [.s (.str s)]=>.need (A3 (a8 s)) (.ret (.s (.bool (Ct s))) [])
 | _=>.fail
def A31(args:List PV):Tr:=DN (C2 [[0]] args)
def DI:List PV->Tr
 | [.s (.str s)]=>.need (A3 (a8 s)) (.ret (.s (.bool (K2 s))) [])
 | _=>.fail
def A28(args:List PV):Tr:=DI (C2 [[0]] args)
def DH:List PV->Tr
 | [.s (.str s)]=>.need (A3 (a8 s)) (.ret (.tup [.s (.str ((I1 s)).1),.s (.int .i64 (↑((I1 s)).2:Int))]) [])
 | _=>.fail
def A27(args:List PV):Tr:=DH (C2 [[0]] args)
def MQ:List PV->Tr
 | [.s (.int .u8 b)]=>.need (inR b 256) (.ret (.s (.int .i64 (Dw (u8n b)))) [])
 | _=>.fail
def Bp8(args:List PV):Tr:=MQ (C2 [[0]] args)
def MP:List PV->Tr
 | [.s (.str s)]=>.need (A3 (a8 s)) (.ret (.tup [.s (.str (Ed s)),.s (.bool (f6 (R1 s)))]) [])
 | _=>.fail
def Bp7(args:List PV):Tr:=MP (C2 [[0]] args)
def CN:List PV->Tr
 | [.s (.str s)]=>.need (A3 (a8 s)) (.need (Bw6 s) (.ret (.tup [.agg [.s (.int .i64 (↑(B2.kind ((O9 s)).1):Int)),.s (.str (B2.name ((O9 s)).1)),.s (.int .u32 (↑(B2.v4 ((O9 s)).1):Int)),.s (.int .u16 (↑(b8 (B2.v6 ((O9 s)).1) 0 0):Int)),.s (.int .u16 (↑(b8 (B2.v6 ((O9 s)).1) 1 0):Int)),.s (.int .u16 (↑(b8 (B2.v6 ((O9 s)).1) 2 0):Int)),.s (.int .u16 (↑(b8 (B2.v6 ((O9 s)).1) 3 0):Int)),.s (.int .u16 (↑(b8 (B2.v6 ((O9 s)).1) 4 0):Int)),.s (.int .u16 (↑(b8 (B2.v6 ((O9 s)).1) 5 0):Int)),.s (.int .u16 (↑(b8 (B2.v6 ((O9 s)).1) 6 0):Int)),.s (.int .u16 (↑(b8 (B2.v6 ((O9 s)).1) 7 0):Int))],.s (.int .i64 (↑((O9 s)).2:Int))]) []))
 | _=>.fail
def A18(args:List PV):Tr:=CN (C2 [[0]] args)
def Wj:List PV->Tr
 | [.s (.str s)]=>.need (A3 (a8 s)) (.ret (.tup [.agg [.s (.int .i64 (↑(B2.kind ((C5 s)).1):Int)),.s (.str (B2.name ((C5 s)).1)),.s (.int .u32 (↑(B2.v4 ((C5 s)).1):Int)),.s (.int .u16 (↑(b8 (B2.v6 ((C5 s)).1) 0 0):Int)),.s (.int .u16 (↑(b8 (B2.v6 ((C5 s)).1) 1 0):Int)),.s (.int .u16 (↑(b8 (B2.v6 ((C5 s)).1) 2 0):Int)),.s (.int .u16 (↑(b8 (B2.v6 ((C5 s)).1) 3 0):Int)),.s (.int .u16 (↑(b8 (B2.v6 ((C5 s)).1) 4 0):Int)),.s (.int .u16 (↑(b8 (B2.v6 ((C5 s)).1) 5 0):Int)),.s (.int .u16 (↑(b8 (B2.v6 ((C5 s)).1) 6 0):Int)),.s (.int .u16 (↑(b8 (B2.v6 ((C5 s)).1) 7 0):Int))],.s (.int .i64 (↑((C5 s)).2:Int))]) [])
 | _=>.fail
def TW(args:List PV):Tr:=Wj (C2 [[0]] args)
def Ac1:List PV->Tr
 | [.s (.str s)]=>.need (A3 (a8 s)) (.ret (.s (.bool (Ij s))) [])
 | _=>.fail
def Cr4(args:List PV):Tr:=Ac1 (C2 [[0]] args)
def MU:List PV->Tr
 | [.agg [.s (.int .i64 j),.s (.str i),.s (.int .u32 v4),.s (.int .u16 a),.s (.int .u16 b),.s (.int .u16 c),.s (.int .u16 d),.s (.int .u16 e),.s (.int .u16 f),.s (.int .u16 g),.s (.int .u16 h)]]=>.need (A3 (a8 i)) (.need (ltN v4 4294967296) (.need (ok8 a b c d e f g h) (.ret (.s (.bool (Y7 (mkH j i v4 (n8 a b c d e f g h))))) [])))
 | _=>.fail
def Bq0(args:List PV):Tr:=MU (C2 [[0,0,0,0,0,0,0,0,0,0,0]] args)
def MS:List PV->Tr
 | [.agg [.s (.int .i64 j),.s (.str i),.s (.int .u32 v4),.s (.int .u16 a),.s (.int .u16 b),.s (.int .u16 c),.s (.int .u16 d),.s (.int .u16 e),.s (.int .u16 f),.s (.int .u16 g),.s (.int .u16 h)]]=>.need (A3 (a8 i)) (.need (ltN v4 4294967296) (.need (ok8 a b c d e f g h) (.ret (.s (.str (Pn (mkH j i v4 (n8 a b c d e f g h))))) [])))
 | _=>.fail
def Bp9(args:List PV):Tr:=MS (C2 [[0,0,0,0,0,0,0,0,0,0,0]] args)
def Ac9:List PV->Tr
 | [.s (.int .u8 b)]=>.need (inR b 256) (.ret (.s (.int .i64 (Dw (u8n b)))) [])
 | _=>.fail
def Cr5(args:List PV):Tr:=Ac9 (C2 [[0]] args)
def DG:List PV->Tr
 | [.s (.str s)]=>.need (A3 (a8 s)) (.ret (.tup [.s (.str (Ed s)),.s (.bool (f6 (R1 s)))]) [])
 | _=>.fail
def A26(args:List PV):Tr:=DG (C2 [[0]] args)
def Qi:List PV->Tr
 | [.s (.str s)]=>.need (A3 (a8 s)) (.ret (.tup [.agg [.s (.int .i64 (↑(B2.kind ((C5 s)).1):Int)),.s (.str (B2.name ((C5 s)).1)),.s (.int .u32 (↑(B2.v4 ((C5 s)).1):Int)),.s (.int .u16 (↑(b8 (B2.v6 ((C5 s)).1) 0 0):Int)),.s (.int .u16 (↑(b8 (B2.v6 ((C5 s)).1) 1 0):Int)),.s (.int .u16 (↑(b8 (B2.v6 ((C5 s)).1) 2 0):Int)),.s (.int .u16 (↑(b8 (B2.v6 ((C5 s)).1) 3 0):Int)),.s (.int .u16 (↑(b8 (B2.v6 ((C5 s)).1) 4 0):Int)),.s (.int .u16 (↑(b8 (B2.v6 ((C5 s)).1) 5 0):Int)),.s (.int .u16 (↑(b8 (B2.v6 ((C5 s)).1) 6 0):Int)),.s (.int .u16 (↑(b8 (B2.v6 ((C5 s)).1) 7 0):Int))],.s (.int .i64 (↑((C5 s)).2:Int))]) [])
 | _=>.fail
def JH(args:List PV):Tr:=Qi (C2 [[0]] args)
end
section
variable {Z R : Type} (Y : Nat) (W : F6) (Q : Yh Z) (s : Z) (k : Out -> St Z -> Option R)
noncomputable def PJ(Y:Nat):Cfg:=B7 Y [125] (A4 []) [] (A4 [(1,[6]),(0,[3,0,0])]) [] (A4 []) (some [6]) [] [] []
noncomputable def Bx3{R:Type}(Y:Nat)(d b:By)(a:Int)(c:By->By->Int->Option R):Option R:=c d b a
theorem Bx4(d:Nat)(a sep1 sepSave2):evC (PJ Y) (d+1) Z Q 125 [pS a,pS sep1,pI sepSave2] [] s=Bx3 Y a sep1 sepSave2 (λa c b=>some (.fnr (p7 152) [] [.ptr 1 0 0,.ptr 0 0 0,.ptr 2 0 0],[.box [pS a],.box [pS c],.box [pI b]],s)):=by refine(evE (fn:=Tryz.f125) (by kernel_rfl)).trans ?_;generalize evC (PJ Y) d=W;unfold Bx3;kernel_rfl
noncomputable def Ag5(Y:Nat):Cfg:=B7 Y [91] (A4 []) [(125,ND)] (A4 [(1,[4]),(0,[0,0])]) [] (A4 []) (some [4]) [] [] []
noncomputable def Cx5{R:Type}(Y:Nat)(c a:By)(b:By->By->Option R):Option R:=b c a
theorem Cl6(d:Nat)(a sep1):evC (Ag5 Y) (d+1) Z Q 91 [pS a,pS sep1] [] s=Cx5 Y a sep1 (λa b=>some (.fnr (p7 152) [] [.ptr 1 0 0,.ptr 0 0 0,.ptr 2 0 0],[.box [pS a],.box [pS b],.box [pI (0:Int)]],s)):=by refine(evE (fn:=Tryz.f91) (by kernel_rfl)).trans ?_;generalize evC (Ag5 Y) d=W;unfold Cx5;kernel_rfl
noncomputable abbrev JR:Code:=C8 ad1
noncomputable def Mu(Y:Nat):Cfg:=B7 Y [64] (A4 []) [(90,Od),(91,Ad5),(92,NF)] (A4 [(7,[2]),(6,[2]),(5,[2,13]),(4,[2,0]),(3,[2,9]),(2,[2]),(1,[0,1,7]),(0,[0,1])]) [90,92] (A4 [(0,[2]),(1,[2])]) (some [2]) [] [(152,BJ)] []
noncomputable def BP{R:Type}(Y:Nat)(a:By)(xs:List By)(self:Unit->Option R)(c:Unit->Option R)(b:Unit->Option R):Option R:=cond (A3 a.length) (cond (not (K2 a)) (b ()) (self ())) none
noncomputable def FT{R:Type}(Y:Nat)(L:List By)(b:Unit->Option R)(c:Unit->Option R):Option R:=C45 (α:=Unit->Option R) (λ_=>b ()) (λa xs self _=>BP Y a xs self  b c) L ()
theorem WD{R:Type}(Y:Nat)(a:By)(xs:List By)(b:Unit->Option R)(c:Unit->Option R):FT Y (a::xs)  b c=BP Y a xs (λ_=>FT Y xs  b c)  b c:=rfl
theorem Bd4(L:List By):Aa #[13] (gp [(2,.ptr 0 0 0),(9,.fnr (p7 152) [] [.bad,.bad,.bad])] 4) (bd (Mu Y) W Q (cd [1,1,0,1,0,0] JR)) (bd (Mu Y) W Q (cd [1,1,0,1,0,1] JR)) (L.map (λ(a:By)=>([pS a]:List PV))) [.box [pB false],.dead,.dead,.dead] s (rgK (gp [(2,.ptr 0 0 0),(9,.fnr (p7 152) [] [.bad,.bad,.bad])] 4) (λH=>Ag H [2,1,3] [.box [.bad],.box [.bad],.box [.bad]]) k) =
 FT Y L  (λ_=>k .normal ⟨gp [(2,.ptr 0 0 0),(9,.fnr (p7 152) [] [.bad,.bad,.bad])] 4,[.box [pB false],.box [.bad],.box [.bad],.box [.bad]],s⟩) (λ_=>k .ret ⟨gp [(2,.ptr 0 0 0),(9,.fnr (p7 152) [] [.bad,.bad,.bad])] 4,[.box [pB false],.box [.bad],.box [.bad],.box [.bad]],s⟩):=by
 induction L with
 | nil=>rfl
 | cons a xs b=>rw[WD];unfold BP;exact(d8 (by kernel_rfl) (A0 (A0 rfl b) rfl))
noncomputable def QI{R:Type}(Y:Nat)(a:By)(b:Unit->Option R)(c:Unit->Option R):Option R:=cond ((A3 a.length)&&((1==1)&&((0:Int)==0))) (FT Y (pcs (b8 ([46]:List UInt8) 0 0) a)  b c) none
abbrev WC(b:Code):Prop:=∀(k:Out->St Z->Option R) s0,A9 (Mu Y) W Q b ⟨gp [(2,.ptr 0 0 0),(9,.fnr (p7 152) [] [.ptr 2 0 0,.ptr 1 0 0,.ptr 3 0 0])] 4,[.box [pB false],.box [pS s0],.box [pS ([46]:List UInt8)],.box [pI (0:Int)]],s⟩ k=QI Y s0 (λ_=>k .normal ⟨gp [(2,.ptr 0 0 0),(9,.fnr (p7 152) [] [.bad,.bad,.bad])] 4,[.box [pB false],.box [.bad],.box [.bad],.box [.bad]],s⟩) (λ_=>k .ret ⟨gp [(2,.ptr 0 0 0),(9,.fnr (p7 152) [] [.bad,.bad,.bad])] 4,[.box [pB false],.box [.bad],.box [.bad],.box [.bad]],s⟩)
theorem Bd3:WC (R:=R) Y W Q s (cd [1,1,0,1,0] JR):=by intro k a;unfold QI;exact((C35 [1,1,0,1,0] (by kernel_rfl)).trans (by kernel_rfl)).trans (Am7 (Bd4 Y W Q s k (pcs (b8 ([46]:List UInt8) 0 0) a) ))
noncomputable def hvn{R:Type}(Y:Nat)(a:By)(b:Unit->Option R)(c:Bool->Bool->Option R):Option R:=cond (ltI 253 (a.length:Int)) (b ()) (cond (A3 a.length) (cond (F4 a) (b ()) (QI Y a (λ_=>c true true) (λ_=>c false false))) none)
theorem Cv3(a:Code)(c:WC (R:=PV × List Blk × Z) Y W Q s a)(b:By):A9 (Mu Y) W Q (cd [] (G2 [1,1,0,1,0] a JR)) ⟨[pS b]++tps 16,[],s⟩ (F5 (Mu Y) ad1)=hvn Y b (λ_=>some (pB false,[.box [pB false]],s)) (λe d=>some (pB e,[.box [pB d],.box [.bad],.box [.bad],.box [.bad]],s)):=by unfold hvn;exact(d8 (by kernel_rfl) (A0 rfl (A0 (A0 rfl ((c (E3 0 (E2 (Mu Y) W Q (cd [1,1,1] JR) (F5 (Mu Y) ad1))) b).trans (by kernel_rfl))) rfl)))
theorem Cv4(d:Nat)(name0):evC (Mu Y) (d+1) Z Q 64 [pS name0] [] s=hvn Y name0 (λ_=>some (pB false,[.box [pB false]],s)) (λb a=>some (pB b,[.box [pB a],.box [.bad],.box [.bad],.box [.bad]],s)):=
 (evE (fn:=ad1) (by kernel_rfl)).trans (d8 (by kernel_rfl) (Cv3 Y (evC (Mu Y) d) Q s (cd [1,1,0,1,0] JR) (Bd3 Y (evC (Mu Y) d) Q s) name0))
noncomputable abbrev Sw:Code:=C8 ab8
noncomputable def Z7(Y:Nat):Cfg:=B7 Y [152] (A4 [(5,[0,0,0,0]),(1,[0,1])]) [(153,Sn),(154,DT)] (A4 [(10,[]),(9,[0,0,0,0]),(8,[0,0,0,0,3,34]),(7,[0,0,0,0,3,0]),(6,[0,0,0,0,3,25]),(5,[0,0,0,0,3]),(4,[0,1]),(3,[0,1,3,18]),(2,[0,1,3]),(1,[0,1,11]),(0,[0,0,0,0,7])]) [154] (A4 [(2,[0,1]),(3,[0,0,0,0]),(0,[]),(1,[0,1])]) (some []) [] [] []
noncomputable def HV{Z R:Type}(Q:Yh Z)(Y n:Nat)(d a:By)(c:Int)(s:Z)(b:By->By->Int->Z->Option R):Option R:=match n with|0=>none|n+1=>cond (ltI 0 (a.length:Int)) none (b d a c s)
theorem ZR(n:Nat)(b c:By)(a:Int)(s:Z):C9 3 ((Z7 Y).keep 1) (bd (Z7 Y) W Q (cd [0,1,0,0,0,0] Sw)) n ⟨gp [(0,.yd),(1,.ptr 1 0 0)] 49,[.box [pS b],.box [pS c],.box [pI a]],s⟩ k =
 HV Q Y n b c a s (λb c a s=>k (.exit 0) ⟨gp [] 52,[.box [pS b],.box [pS c],.box [pI a]],s⟩):=by
 induction n generalizing b c a s with
 | zero=>rfl
 | succ n d=>rw[HV];kernel_rfl
noncomputable def R9{Z R:Type}(Q:Yh Z)(Y n:Nat)(c a:By)(g:Int)(s:Z)(i:By->By->Int->Z->Option R)(j:By->By->Int->Z->Option R):Option R:=match n with
 | 0=>none
 | n+1=>
  cond (A3 a.length)
   (cond (ltI (o8 a c) (0:Int))
   (i c a g s)
   (vl (A1 ((o8 a c)+g)) λe=>
    cond (I5 0 e a.length)
    (ydK (Q [pS (cut a 0 e)] s) λd b=>
     (cond (not d)
     (j c a g b)
     (vl (A1 ((o8 a c)+(c.length:Int))) λf=>
      cond (I5 f (a.length:Int) a.length)
      (vl (cut a f (a.length:Int)) λh=>
       R9 Q Y n c h g b i j)
      none)))
    none))
   none
theorem ZS(n:Nat)(b c:By)(a:Int)(s:Z):C9 3 ((Z7 Y).keep 5) (bd (Z7 Y) W Q (cd [1,0,0,0] Sw)) n ⟨gp [(0,.yd),(0,.ptr 0 0 0),(0,.ptr 1 0 0),(0,.ptr 2 0 0)] 48,[.box [pS b],.box [pS c],.box [pI a]],s⟩ k =
 R9 Q Y n b c a s (λb c a s=>k (.exit 2) ⟨gp [(0,.yd),(1,.ptr 1 0 0)] 49,[.box [pS b],.box [pS c],.box [pI a]],s⟩) (λb c a s=>k .ret ⟨gp [] 52,[.box [pS b],.box [pS c],.box [pI a]],s⟩):=by
 induction n generalizing b c a s with
 | zero=>rfl
 | succ n d=>rw[R9];simp only[<-d];kernel_rfl
noncomputable def ZQ{Z R:Type}(Q:Yh Z)(Y:Nat)(p t:By)(n:Int)(s:Z)(j:By->By->Int->Z->Option R):Option R:=
 cond ((p.length:Int)==0)
 (HV Q Y Y p t n s (λm o l q=>j m o l q))
 (R9 Q Y Y p t n s (λr a c e=>ydK (Q [pS a] e) λi b=>
  (j r a c b)) (λf g d h=>j f g d h))
theorem B37(d:Nat)(p t n s):evC (Z7 Y) (d+1) Z Q 152 [.yd,.ptr 0 0 0,.ptr 1 0 0,.ptr 2 0 0] [.box [pS p],.box [pS t],.box [pI n]] s=ZQ Q Y p t n s (λb c a s=>some (.tup [],[.box [pS b],.box [pS c],.box [pI a]],s)):=by refine(evE (fn:=ab8) (by kernel_rfl)).trans ?_;generalize evC (Z7 Y) d=W;unfold ZQ;exact(d8 (by kernel_rfl) (A0 ((ZR Y W Q (E3 0 (E2 (Z7 Y) W Q (cd [0,1,0,1] Sw) (E2 (Z7 Y) W Q (cd [1] Sw) (F5 (Z7 Y) ab8)))) Y p t n s).trans (by kernel_rfl)) ((ZS Y W Q (E3 2 (E2 (Z7 Y) W Q (cd [1,1] Sw) (F5 (Z7 Y) ab8))) Y p t n s).trans (by kernel_rfl))))
end
section
variable {Z R : Type} (L : Nat) (Q : F6) (Y : Yh Z) (s : Z) (k : Out -> St Z -> Option R)
noncomputable abbrev Bq:Code:=C8 ac0
noncomputable def Y0(L:Nat):Cfg:=B7 L [179] (A4 [(5,[0,1,0,0,10,0])]) [] (A4 [(16,[2,0]),(15,[0,3,10,0]),(10,[0,3,10,0]),(12,[0,3,10,0]),(14,[0,3,10,0]),(8,[2,0]),(13,[0,3,1,8,0,32]),(11,[0,3,1,8,0,18]),(9,[0,3,1,8,0,5]),(7,[0,3,1,8,0]),(6,[0,3,0,9,0]),(5,[0,3,10,0,0]),(4,[0,3,10,0]),(3,[0,3]),(2,[2,0]),(1,[0,12]),(0,[0])]) [] (A4 [(0,[4]),(1,[0,3,10,0]),(2,[0,3,10,0])]) (some [2,0]) [] [] []
noncomputable def Tn{R:Type}(i:By)(v1 c g h:Int)(d:Bool)(e:By->Int->Int->Int->Option R)(f:Unit->Option R):Option R:=cond d (vl (wu8 ((wu8 (c-65))+10)) λa=>vl (bOr .u16 (Pq .u16 v1 (4:Int)) (Ll a)) λb=>e i b g h) (f ())
abbrev KK(b:Code):Prop:=∀(k:Out->St Z->Option R) c v1 b2 a n4 b5,A9 (Y0 L) Q Y b ⟨gp [(0,pS c),(3,p16 v1),(1,p8 b2),(8,pI a),(0,pI n4),(32,pB b5)] 15,[],s⟩ k=Tn c v1 b2 a n4 b5 (λc v1 d a=>k .normal ⟨gp [(0,pS c),(3,p16 v1),(10,pI d),(0,pI a)] 48,[],s⟩) (λ_=>k .ret ⟨gp [(2,p16 (0:Int)),(0,pB false)] 61,[],s⟩)
theorem Aj1:KK (R:=R) L Q Y s (cd [1,1,1,0,1,0,0,1,1,0,0,1,1,0,1,1,1,1,1] Bq):=by intro k e v1 a c d b;unfold Tn;kernel_rfl
noncomputable def To{R:Type}(o:By)(v1 a l m:Int)(r:Bool)(f:By->Int->Int->Int->Option R)(q:Unit->Option R):Option R:=cond r (vl (wu8 ((wu8 (a-97))+10)) λg=>vl (bOr .u16 (Pq .u16 v1 (4:Int)) (Ll g)) λh=>f o h l m) (cond (not (ltI a 65)) (Tn o v1 a l m (not (ltI 70 a)) (λn p i j=>f n p i j) (λ_=>q ())) (Tn o v1 a l m false (λd e b c=>f d e b c) (λ_=>q ())))
abbrev Ya(b:Code):Prop:=∀(k:Out->St Z->Option R) c v1 b2 a n4 b5,A9 (Y0 L) Q Y b ⟨gp [(0,pS c),(3,p16 v1),(1,p8 b2),(8,pI a),(0,pI n4),(18,pB b5)] 29,[],s⟩ k=To c v1 b2 a n4 b5 (λc v1 d a=>k .normal ⟨gp [(0,pS c),(3,p16 v1),(10,pI d),(0,pI a)] 48,[],s⟩) (λ_=>k .ret ⟨gp [(2,p16 (0:Int)),(0,pB false)] 61,[],s⟩)
theorem Aj2(a:Code)(b:KK (R:=R) L Q Y s a):Ya (R:=R) L Q Y s (cd [1,1,1,0,1,0,0,1,1,0,0,1,1,0,1,1,1] (G2 [1,1,1,0,1,0,0,1,1,0,0,1,1,0,1,1,1,1,1] a Bq)):=by intro k g v1 c e f d;unfold To;simp only[<-b k];kernel_rfl
theorem Aj3:Ya (R:=R) L Q Y s (cd [1,1,1,0,1,0,0,1,1,0,0,1,1,0,1,1,1] Bq):=by intro k e v1 a c d b;exact d8 (by kernel_rfl) (Aj2 L Q Y s (cd [1,1,1,0,1,0,0,1,1,0,0,1,1,0,1,1,1,1,1] Bq) (Aj1 L Q Y s) k e v1 a c d b)
noncomputable def Tp{R:Type}(p:By)(v1 a n o:Int)(r:Bool)(j:By->Int->Int->Int->Option R)(q:Unit->Option R):Option R:=cond r (vl (Ll (wu8 (a-48))) λl=>vl (bOr .u16 (Pq .u16 v1 (4:Int)) l) λm=>j p m n o) (cond (not (ltI a 97)) (To p v1 a n o (not (ltI 102 a)) (λf h b c=>j f h b c) (λ_=>q ())) (To p v1 a n o false (λg i d e=>j g i d e) (λ_=>q ())))
abbrev Oq(b:Code):Prop:=∀(k:Out->St Z->Option R) c v1 b2 a n4 b5,A9 (Y0 L) Q Y b ⟨gp [(0,pS c),(3,p16 v1),(1,p8 b2),(8,pI a),(0,pI n4),(5,pB b5)] 42,[],s⟩ k=Tp c v1 b2 a n4 b5 (λc v1 d a=>k .normal ⟨gp [(0,pS c),(3,p16 v1),(10,pI d),(0,pI a)] 48,[],s⟩) (λ_=>k .ret ⟨gp [(2,p16 (0:Int)),(0,pB false)] 61,[],s⟩)
theorem Aj4(a:Code)(b:Ya (R:=R) L Q Y s a):Oq (R:=R) L Q Y s (cd [1,1,1,0,1,0,0,1,1,0,0,1,1,0,1] (G2 [1,1,1,0,1,0,0,1,1,0,0,1,1,0,1,1,1] a Bq)):=by intro k g v1 c e f d;unfold Tp;simp only[<-b k];kernel_rfl
theorem Aj5:Oq (R:=R) L Q Y s (cd [1,1,1,0,1,0,0,1,1,0,0,1,1,0,1] Bq):=by intro k e v1 a c d b;exact d8 (by kernel_rfl) (Aj4 L Q Y s (cd [1,1,1,0,1,0,0,1,1,0,0,1,1,0,1,1,1] Bq) (Aj3 L Q Y s) k e v1 a c d b)
noncomputable def Dy{R:Type}(L n:Nat)(b:By)(v1 q a:Int)(o:Unit->Option R)(p:Int->Option R):Option R:=match n with|0=>none|n+1=>cond (ltI a q) (cond (inR a b.length) (cond (not (ltI (bAt b a) (48:Int))) (Tp b v1 (bAt b a) q a (not (ltI 57 (bAt b a))) (λi l c d=>vl (A1 (d+1)) λe=>Dy L n i l c e o p) (λ_=>o ())) (Tp b v1 (bAt b a) q a false (λj m f g=>vl (A1 (g+1)) λh=>Dy L n j m f h o p) (λ_=>o ()))) none) (p v1)
theorem Aj6(a:Code)(b:Oq (R:=R) L Q Y s a)(n:Nat)(d:By)(v1 i c:Int):C9 0 ((Y0 L).keep 5) (bd (Y0 L) Q Y (cd [1,1,1,0,1,0,0] (G2 [1,1,1,0,1,0,0,1,1,0,0,1,1,0,1] a Bq))) n ⟨gp [(0,pS d),(3,p16 v1),(10,pI i),(0,pI c)] 48,[],s⟩ k =
 Dy L n d v1 i c (λ_=>k .ret ⟨gp [(2,p16 (0:Int)),(0,pB false)] 61,[],s⟩) (λv0=>k (.exit 0) ⟨gp [(4,p16 v0)] 60,[],s⟩):=by
 induction n generalizing d v1 i c with
 | zero=>rfl
 | succ n q=>rw[Dy];exact let p:=(E3 2 (E3 1 (E2 (Y0 L) Q Y (cd [1,1,1,0,1,0,0,1,1,1] Bq) (lpK 0 ((Y0 L).keep 5) (bd (Y0 L) Q Y (cd [1,1,1,0,1,0,0] (G2 [1,1,1,0,1,0,0,1,1,0,0,1,1,0,1] a Bq))) n k))));(d8 (by kernel_rfl) (A0 (A0 (A0 ((b p d v1 (bAt d c) i c (not (ltI 57 (bAt d c)))).trans (congr (congr rfl (fx4 λj m e r=>(d8 (by kernel_rfl) (A2 λf=>(q j m e f))))) (by kernel_rfl))) ((b p d v1 (bAt d c) i c false).trans (congr (congr rfl (fx4 λl o g t=>(d8 (by kernel_rfl) (A2 λh=>(q l o g h))))) (by kernel_rfl)))) rfl) rfl))
noncomputable def Bv6{R:Type}(L:Nat)(c:By)(b:Int->Bool->Option R):Option R:=cond (c==[]) (b 0 false) (cond (ltI 4 (c.length:Int)) (b 0 false) (Dy L L c 0 (c.length:Int) 0 (λ_=>b 0 false) (λa=>b a true)))
theorem Cd5(a:Code)(b:Oq (R:=PV × List Blk × Z) L Q Y s a)(c:By):A9 (Y0 L) Q Y (cd [] (G2 [1,1,1,0,1,0,0,1,1,0,0,1,1,0,1] a Bq)) ⟨[pS c]++tps 64,[],s⟩ (F5 (Y0 L) ac0)=Bv6 L c (λd e=>some (.tup [p16 d,pB e],[],s)):=by unfold Bv6;exact(d8 (by kernel_rfl) (A0 rfl (A0 rfl ((Aj6 L Q Y s (E3 0 (E2 (Y0 L) Q Y (cd [1,1,1,1] Bq) (F5 (Y0 L) ac0))) a b L c 0 (c.length:Int) 0).trans (by kernel_rfl)))))
theorem Cd6(d:Nat)(s0):evC (Y0 L) (d+1) Z Y 179 [pS s0] [] s=Bv6 L s0 (λa b=>some (.tup [p16 a,pB b],[],s)):=
 (evE (fn:=ac0) (by kernel_rfl)).trans (d8 (by kernel_rfl) (Cd5 L (evC (Y0 L) d) Y s (cd [1,1,1,0,1,0,0,1,1,0,0,1,1,0,1] Bq) (Aj5 L (evC (Y0 L) d) Y s) s0))
noncomputable abbrev A40:Code:=C8 ad9
noncomputable def Jx(L:Nat):Cfg:=B7 L [164] (A4 [(6,[1,2,0,0,0,10,0,0])]) [(109,Sq),(179,Bp6),(180,Cr7)] (A4 [(16,[4,0]),(15,[1,4,0,10,0,0]),(14,[6]),(13,[4,0]),(12,[6,5,39]),(11,[1,4,0,0,3,0]),(10,[1,4,0,10,0,0]),(9,[1,4,0,0,0,0,7,0,0,9]),(8,[1,4,0,0,0,0,0,6,0,0]),(7,[1,4,0,0,0,8,0,0]),(6,[1,4,0,10,0,0,0]),(5,[1,4,0,10,0,0]),(4,[1,4,0]),(3,[0,0,4]),(2,[4,0]),(1,[0,0,13]),(0,[0,0])]) [179,180] (A4 [(0,[6]),(1,[1,4,0,10,0,0])]) (some [4,0]) [] [] []
noncomputable def Dc{R:Type}(L n:Nat)(a:Bool)(c:LL)(l b:Int)(d:LL)(f:LL->Option R)(g:LL->Option R):Option R:=match n with|0=>none|n+1=>cond (ltI b l) (cond (inR b c.length) (cond (okE Ps c (b9 b) 0) (cond (A3 (a8 (gX c (b9 b) 0))) (vl (↑(L9 (grp (gX c (b9 b) 0))):Int) λh=>cond (f6 (grp (gX c (b9 b) 0))) (cond (F2 (d.length+1)) (Dc L n a c l (A1 (b+1)) (d++[[(SV.int .u16 h)]]) f g) none) (cond (A3 (a8 (gX c (b9 b) 0))) (vl (↑(L9 (v4B (gX c (b9 b) 0))):Int) λe=>cond (not (f6 (v4B (gX c (b9 b) 0)))) (f d) (cond (not a) (f d) (vl (A1 ((c.length:Int)-1)) λi=>cond (ltI b i) (f d) (vl (SH .u32 e (16:Int)) λj=>cond (F2 (d.length+2)) (g (d++[[(SV.int .u16 (Ll j))],[(SV.int .u16 (Ll e))]])) none)))) none)) none) none) none) (g d)
theorem VW(n last0 l1 n2 n3 l4):C9 1 ((Jx L).keep 6) (bd (Jx L) Q Y (cd [1,0,1,1,1,1,0,1,0,0] A40)) n ⟨gp [(1,pB last0),(4,.fl 0),(0,.s (.sl false false 1 l1)),(10,.s (.sl false false 1 l1)),(0,pI n2),(0,pI n3)] 42,[.arr true 24 1 l4],s⟩ k =
 Dc L n last0 l1 n2 n3 l4 (λa=>k .ret ⟨gp [(4,.fl 1),(0,pB false)] 57,[.arr true 24 1 a,.arr true 24 1 []],s⟩) (λa=>k (.exit 0) ⟨gp [(6,.fl 0)] 56,[.arr true 24 1 a],s⟩):=by
 induction n generalizing last0 l1 n2 n3 l4 with
 | zero=>rfl
 | succ n b=>rw[Dc];simp only[<-b];kernel_rfl
noncomputable def A53{R:Type}(L:Nat)(e:By)(a:Bool)(f:LL->Option R)(g:LL->Option R):Option R:=cond (e==[]) (f []) (cond (A3 e.length) (cond (1==1) (vl (D4 (pcs (b8 ([58]:List UInt8) 0 0) e)) λb=>Dc L L a b (b.length:Int) 0 [] (λd=>g d) (λc=>f c)) none) none)
theorem Bv7(d:Nat)(s0 last1):evC (Jx L) (d+1) Z Y 164 [pS s0,pB last1] [] s=A53 L s0 last1 (λb=>some (.tup [.fl 0,pB true],[.arr true 24 1 b],s)) (λb=>some (.tup [.fl 1,pB false],[.arr true 24 1 b,.arr true 24 1 []],s)):=by refine(evE (fn:=ad9) (by kernel_rfl)).trans ?_;generalize evC (Jx L) d=Q;unfold A53;exact(d8 (by kernel_rfl) (A0 rfl (A0 (A0 (A2 λa=>((VW L Q Y s (E3 0 (E2 (Jx L) Q Y (cd [1,0,1,1,1,1,1] A40) (F5 (Jx L) ad9))) L last1 a (a.length:Int) 0 []).trans (by kernel_rfl))) rfl) rfl)))
noncomputable abbrev Bt2:Code:=C8 ab5
noncomputable def Zp(L:Nat):Cfg:=B7 L [135] (A4 []) [(54,Ad4),(164,A17)] (A4 [(10,[2,0]),(9,[2,1]),(8,[2,1,5]),(7,[2,0]),(6,[2,1,3,1,45]),(5,[2,1,2,0,0,0,0,0]),(4,[2,1,2,0,0,0,0]),(3,[2,1,1,0,0,0]),(2,[2,1,0,0,0]),(1,[0,1,1]),(0,[0,1])]) [54] (A4 []) (some [2,0]) [] [] []
noncomputable def Ny{R:Type}(p o d:LL)(q:LL->LL->Option R):Option R:=cond (decide (d.length=8)) (cond (decide (8<=d.length)) (vl ((o9 0 d)++((o9 8 p)++(aa5 (0+(min p.length 8)) d))) λc=>vl (A1 ((8:Int)-(o.length:Int))) λb=>cond (decide (c.length=8)) (cond (I5 b (8:Int) 8) (cond (decide (((b9 b)+(8-(b9 b)))<=c.length)) (vl ((o9 (b9 b) c)++((o9 (8-(b9 b)) o)++(aa5 ((b9 b)+(min o.length (8-(b9 b)))) c))) λa=>cond ((decide (8=(a.length*1)))&&(okS ⟨true,true,[.int .u16,.int .u16,.int .u16,.int .u16,.int .u16,.int .u16,.int .u16,.int .u16]⟩ (c9 a) 0)) (vl (SV.gI (b8 (c9 a) 0 SV.nilp)) λf=>vl (SV.gI (b8 (c9 a) 1 SV.nilp)) λg=>vl (SV.gI (b8 (c9 a) 2 SV.nilp)) λh=>vl (SV.gI (b8 (c9 a) 3 SV.nilp)) λi=>vl (SV.gI (b8 (c9 a) 4 SV.nilp)) λj=>vl (SV.gI (b8 (c9 a) 5 SV.nilp)) λl=>vl (SV.gI (b8 (c9 a) 6 SV.nilp)) λm=>vl (SV.gI (b8 (c9 a) 7 SV.nilp)) λn=>cond (decide (8=(d.length*1))) (vl (R5 1 d.length [(SV.int .u16 f),(SV.int .u16 g),(SV.int .u16 h),(SV.int .u16 i),(SV.int .u16 j),(SV.int .u16 l),(SV.int .u16 m),(SV.int .u16 n)]) λe=>q e a) none) none) none) none) none) none) none
abbrev Aa3(b:Code):Prop:=∀(k:Out->St Z->Option R) x_z0 x1 y_z2 y3 b4 l5,A9 (Zp L) Q Y b ⟨gp [(2,.ptr 0 0 0),(1,.ptr 1 0 0),(3,.s (.sl x_z0 x_z0 1 x1)),(1,.s (.sl y_z2 y_z2 1 y3)),(45,pB b4)] 11,[.arr false 25 1 l5,.arr false 25 1 l5],s⟩ k=Ny x1 y3 l5 (λa c=>k .ret ⟨gp [(2,.ptr 0 0 0),(0,pB true)] 64,[.arr false 25 1 a,.arr false 25 1 c],s⟩)
theorem Bn7:Aa3 (R:=R) L Q Y s (cd [1,1,1,1,1,1,1] Bt2):=by intro k a e b f c d;unfold Ny;kernel_rfl
noncomputable def v6p{R:Type}(L:Nat)(h:By)(g:Int->Int->Int->Int->Int->Int->Int->Int->Bool->LL->LL->Option R):Option R:=cond (A3 h.length) (vl ((m7 h ([58,58]:List UInt8))).1 λj=>vl (((m7 h ([58,58]:List UInt8))).2).1 λe=>cond (A3 j.length) (vl (D6 (gvs j (not (((m7 h ([58,58]:List UInt8))).2).2))) λf=>cond (A3 e.length) (vl (A1 ((f.length:Int)+(↑(a8 (D6 (gvs e true))):Int))) λi=>cond (not (f6 (P0 j (not (((m7 h ([58,58]:List UInt8))).2).2)))) (g 0 0 0 0 0 0 0 0 false (d7 8 [(SV.int .u16 (0:Int))]) (d7 8 [(SV.int .u16 (0:Int))])) (cond (not (f6 (P0 e true))) (g 0 0 0 0 0 0 0 0 false (d7 8 [(SV.int .u16 (0:Int))]) (d7 8 [(SV.int .u16 (0:Int))])) (cond (not (((m7 h ([58,58]:List UInt8))).2).2) (cond (i !=8) (g 0 0 0 0 0 0 0 0 false (d7 8 [(SV.int .u16 (0:Int))]) (d7 8 [(SV.int .u16 (0:Int))])) (cond (((m7 h ([58,58]:List UInt8))).2).2 (cond (ltI 7 i) (g 0 0 0 0 0 0 0 0 false (d7 8 [(SV.int .u16 (0:Int))]) (d7 8 [(SV.int .u16 (0:Int))])) (Ny f (D6 (gvs e true)) (d7 8 [(SV.int .u16 (0:Int))]) (λa l=>cond ((decide (8=(a.length*1)))&&(okS ⟨true,true,[.int .u16,.int .u16,.int .u16,.int .u16,.int .u16,.int .u16,.int .u16,.int .u16]⟩ (c9 a) 0)) (g (SV.gI (b8 (c9 a) 0 SV.nilp)) (SV.gI (b8 (c9 a) 1 SV.nilp)) (SV.gI (b8 (c9 a) 2 SV.nilp)) (SV.gI (b8 (c9 a) 3 SV.nilp)) (SV.gI (b8 (c9 a) 4 SV.nilp)) (SV.gI (b8 (c9 a) 5 SV.nilp)) (SV.gI (b8 (c9 a) 6 SV.nilp)) (SV.gI (b8 (c9 a) 7 SV.nilp)) true a l) none))) (Ny f (D6 (gvs e true)) (d7 8 [(SV.int .u16 (0:Int))]) (λb m=>cond ((decide (8=(b.length*1)))&&(okS ⟨true,true,[.int .u16,.int .u16,.int .u16,.int .u16,.int .u16,.int .u16,.int .u16,.int .u16]⟩ (c9 b) 0)) (g (SV.gI (b8 (c9 b) 0 SV.nilp)) (SV.gI (b8 (c9 b) 1 SV.nilp)) (SV.gI (b8 (c9 b) 2 SV.nilp)) (SV.gI (b8 (c9 b) 3 SV.nilp)) (SV.gI (b8 (c9 b) 4 SV.nilp)) (SV.gI (b8 (c9 b) 5 SV.nilp)) (SV.gI (b8 (c9 b) 6 SV.nilp)) (SV.gI (b8 (c9 b) 7 SV.nilp)) true b m) none)))) (cond (((m7 h ([58,58]:List UInt8))).2).2 (cond (ltI 7 i) (g 0 0 0 0 0 0 0 0 false (d7 8 [(SV.int .u16 (0:Int))]) (d7 8 [(SV.int .u16 (0:Int))])) (Ny f (D6 (gvs e true)) (d7 8 [(SV.int .u16 (0:Int))]) (λc n=>cond ((decide (8=(c.length*1)))&&(okS ⟨true,true,[.int .u16,.int .u16,.int .u16,.int .u16,.int .u16,.int .u16,.int .u16,.int .u16]⟩ (c9 c) 0)) (g (SV.gI (b8 (c9 c) 0 SV.nilp)) (SV.gI (b8 (c9 c) 1 SV.nilp)) (SV.gI (b8 (c9 c) 2 SV.nilp)) (SV.gI (b8 (c9 c) 3 SV.nilp)) (SV.gI (b8 (c9 c) 4 SV.nilp)) (SV.gI (b8 (c9 c) 5 SV.nilp)) (SV.gI (b8 (c9 c) 6 SV.nilp)) (SV.gI (b8 (c9 c) 7 SV.nilp)) true c n) none))) (Ny f (D6 (gvs e true)) (d7 8 [(SV.int .u16 (0:Int))]) (λd o=>cond ((decide (8=(d.length*1)))&&(okS ⟨true,true,[.int .u16,.int .u16,.int .u16,.int .u16,.int .u16,.int .u16,.int .u16,.int .u16]⟩ (c9 d) 0)) (g (SV.gI (b8 (c9 d) 0 SV.nilp)) (SV.gI (b8 (c9 d) 1 SV.nilp)) (SV.gI (b8 (c9 d) 2 SV.nilp)) (SV.gI (b8 (c9 d) 3 SV.nilp)) (SV.gI (b8 (c9 d) 4 SV.nilp)) (SV.gI (b8 (c9 d) 5 SV.nilp)) (SV.gI (b8 (c9 d) 6 SV.nilp)) (SV.gI (b8 (c9 d) 7 SV.nilp)) true d o) none)))))) none) none) none
theorem Cy9(b:Code)(a:Aa3 (R:=PV × List Blk × Z) L Q Y s b)(f:By):A9 (Zp L) Q Y (cd [] (G2 [1,1,1,1,1,1,1] b Bt2)) ⟨[pS f]++tps 67,[],s⟩ (F5 (Zp L) ab5)=v6p L f (λj l m n o p q r r8 i l10=>some (.tup [.agg [p16 j,p16 l,p16 m,p16 n,p16 o,p16 p,p16 q,p16 r],pB r8],[.arr false 25 1 i,.arr false 25 1 l10],s)):=by unfold v6p;exact let h:=(F5 (Zp L) ab5);(d8 (by kernel_rfl) (A0 (A2 λe=>(A2 λc=>(A0 (A2 λd=>(A0 (A2 λg=>(A0 rfl (A0 rfl (A0 (A0 rfl (A0 (A0 rfl ((a h (f9 (gvs e (not (((m7 f ([58,58]:List UInt8))).2).2))) d (f9 (gvs c true)) (D6 (gvs c true)) (ltI 7 g) (d7 8 [(SV.int .u16 (0:Int))])).trans (by kernel_rfl))) ((a h (f9 (gvs e (not (((m7 f ([58,58]:List UInt8))).2).2))) d (f9 (gvs c true)) (D6 (gvs c true)) false (d7 8 [(SV.int .u16 (0:Int))])).trans (by kernel_rfl)))) (A0 (A0 rfl ((a h (f9 (gvs e (not (((m7 f ([58,58]:List UInt8))).2).2))) d (f9 (gvs c true)) (D6 (gvs c true)) (ltI 7 g) (d7 8 [(SV.int .u16 (0:Int))])).trans (by kernel_rfl))) ((a h (f9 (gvs e (not (((m7 f ([58,58]:List UInt8))).2).2))) d (f9 (gvs c true)) (D6 (gvs c true)) false (d7 8 [(SV.int .u16 (0:Int))])).trans (by kernel_rfl))))))) rfl)) rfl))) rfl))
theorem Cz0(d:Nat)(s0):evC (Zp L) (d+1) Z Y 135 [pS s0] [] s=v6p L s0 (λb c e f g h i j r8 a l10=>some (.tup [.agg [p16 b,p16 c,p16 e,p16 f,p16 g,p16 h,p16 i,p16 j],pB r8],[.arr false 25 1 a,.arr false 25 1 l10],s)):=
 (evE (fn:=ab5) (by kernel_rfl)).trans (d8 (by kernel_rfl) (Cy9 L (evC (Zp L) d) Y s (cd [1,1,1,1,1,1,1] Bt2) (Bn7 L (evC (Zp L) d) Y s) s0))
noncomputable abbrev Oi:Code:=C8 af4
noncomputable def W8(L:Nat):Cfg:=B7 L [95] (A4 [(6,[1,0,0,0,0,0,0,0]),(3,[1,0,0,0,0,2])]) [] (A4 [(11,[2,0]),(10,[1,2,0,2]),(9,[1,2,0,2]),(8,[1,2,0,0,0,0,18]),(7,[1,2,0,0,0,0]),(6,[1,2,0,0,0,0,13]),(5,[1,2,0,0,0,0]),(4,[1,2,0,0,1]),(3,[1,2,0,2,0]),(2,[1,2,0,2]),(1,[1,2,0]),(0,[1])]) [] (A4 [(0,[4,0]),(1,[1,2,0,2]),(2,[1,2,0,0,0,0]),(3,[1,2,0,0,0,0])]) (some [2,0]) [] [] []
noncomputable def Gr{R:Type}(L n:Nat)(b a c d:Int)(e:LL)(f:Int->Int->Int->Int->LL->Option R):Option R:=match n with|0=>none|n+1=>cond (ltI (A1 (c+d)) (8:Int)) (cond (inR (A1 (c+d)) 8) (cond (okE ⟨true,false,[.int .u16]⟩ e (b9 (A1 (c+d))) 0) (vl (gE e (b9 (A1 (c+d))) 0) λg=>cond (g==0) (Gr L n b a c (A1 (d+1)) e f) (f b a c d e)) none) none) (f b a c d e)
theorem Ab5(n b a c e d):C9 1 ((W8 L).keep 6) (bd (W8 L) Q Y (cd [1,1,0,1,0,0,1,1,0,0,1,1,0,0,0] Oi)) n ⟨gp [(1,.ptr 0 0 0),(2,pI b),(0,pI a),(0,pI c),(0,pI e),(0,pI c)] 24,[.arr false 25 1 d],s⟩ k =
 Gr L n b a c e d (λb a c e d=>k (.exit 2) ⟨gp [(1,.ptr 0 0 0),(2,pI b),(0,pI a),(0,pI c),(0,pI e),(0,pI c)] 24,[.arr false 25 1 d],s⟩):=by
 induction n generalizing b a c e d with
 | zero=>rfl
 | succ n f=>rw[Gr];simp only[<-f];kernel_rfl
noncomputable def Dl{R:Type}(L n:Nat)(e b j:Int)(i:LL)(h:Int->Int->LL->Option R):Option R:=match n with|0=>none|n+1=>cond (ltI j 8) (Gr L L e b j 0 i (λd a c g f=>cond (ltI a g) (Dl L n c g (A1 (c+1)) f h) (Dl L n d a (A1 (c+1)) f h))) (h e b i)
theorem Ab6(n b a n2 l3):C9 1 ((W8 L).keep 3) (bd (W8 L) Q Y (cd [1,1,0,1,0,0] Oi)) n ⟨gp [(1,.ptr 0 0 0),(2,pI b),(0,pI a),(2,pI n2)] 24,[.arr false 25 1 l3],s⟩ k =
 Dl L n b a n2 l3 (λb a i=>k (.exit 0) ⟨gp [(4,pI b),(0,pI a)] 27,[.arr false 25 1 i],s⟩):=by
 induction n generalizing b a n2 l3 with
 | zero=>rfl
 | succ n h=>rw[Dl];exact(d8 (by kernel_rfl) (A0 ((Ab5 L Q Y s (E3 2 (E2 (W8 L) Q Y (cd [1,1,0,1,0,0,1,1,0,0,1,1,1] Oi) (E3 1 (E2 (W8 L) Q Y (cd [1,1,0,1,0,0,1,1,1] Oi) (lpK 1 ((W8 L).keep 3) (bd (W8 L) Q Y (cd [1,1,0,1,0,0] Oi)) n k))))) L b a n2 0 l3).trans (congr rfl (fx5 λe c d g f=>(d8 (by kernel_rfl) (A0 (h d g (A1 (d+1)) f) (h e c (A1 (d+1)) f)))))) rfl))
noncomputable def Ba6{R:Type}(L:Nat)(d e f g h i j l:Int)(m:Int->Int->LL->Option R):Option R:=Dl L L 0 0 0 [[(SV.int .u16 d)],[(SV.int .u16 e)],[(SV.int .u16 f)],[(SV.int .u16 g)],[(SV.int .u16 h)],[(SV.int .u16 i)],[(SV.int .u16 j)],[(SV.int .u16 l)]] (λb a c=>m b a c)
theorem B99(d:Nat)(a0 a1 a2 a3 a4 a5 a6 a7):evC (W8 L) (d+1) Z Y 95 [.agg [p16 a0,p16 a1,p16 a2,p16 a3,p16 a4,p16 a5,p16 a6,p16 a7]] [] s=Ba6 L a0 a1 a2 a3 a4 a5 a6 a7 (λb c a=>some (.tup [pI b,pI c],[.arr false 25 1 a],s)):=by refine(evE (fn:=af4) (by kernel_rfl)).trans ?_;generalize evC (W8 L) d=Q;unfold Ba6;exact(d8 (by kernel_rfl) ((Ab6 L Q Y s (E3 0 (E2 (W8 L) Q Y (cd [1,1,1] Oi) (F5 (W8 L) af4))) L 0 0 0 [[(SV.int .u16 a0)],[(SV.int .u16 a1)],[(SV.int .u16 a2)],[(SV.int .u16 a3)],[(SV.int .u16 a4)],[(SV.int .u16 a5)],[(SV.int .u16 a6)],[(SV.int .u16 a7)]]).trans (by kernel_rfl)))
noncomputable abbrev Cs4:Code:=C8 af5
noncomputable def EU(L:Nat):Cfg:=B7 L [96] (A4 [(3,[2,0,2,0,0])]) [(128,Bp5),(111,OF)] (A4 [(7,[2]),(6,[3,2,0,0]),(5,[3,2,0,0]),(4,[3,1,0,0,0]),(3,[3,2,0,0,0]),(2,[3,2,0,0]),(1,[0,2]),(0,[0])]) [128,111] (A4 [(0,[3]),(1,[3,2,0,0])]) (some [2]) [] [] []
noncomputable def Sk{R:Type}(L n:Nat)(h g:Bool)(c:LL)(f b:Int)(d:LL)(e:LL->Option R):Option R:=match n with|0=>none|n+1=>cond (ltI b f) (cond (inR b c.length) (cond (okE ⟨true,false,[.int .u16]⟩ c (b9 b) 0) (vl (Cz3 (gE c (b9 b) 0)) λa=>cond (ltN a 65536) (cond ((16:Int)==16) (cond (F2 (d.length+1)) (Sk L n h g c f (A1 (b+1)) (d++[[(SV.str (Ba (b9 a)))]]) e) none) none) none) none) none) (e d)
theorem Bn6(n z0 t1 l2 n3 n4 l5):C9 1 ((EU L).keep 3) (bd (EU L) Q Y (cd [1,1,0,1,0,0] Cs4)) n ⟨gp [(3,.fl 0),(2,.s (.sl z0 t1 1 l2)),(0,pI n3),(0,pI n4)] 12,[.arr true 9 1 l5],s⟩ k =
 Sk L n z0 t1 l2 n3 n4 l5 (λb=>k (.exit 0) ⟨gp [(3,.fl 0)] 17,[.arr true 9 1 b],s⟩):=by
 induction n generalizing z0 t1 l2 n3 n4 l5 with
 | zero=>rfl
 | succ n a=>rw[Sk];simp only[<-a];kernel_rfl
noncomputable def v6j{R:Type}(L:Nat)(c b:Bool)(e:LL)(f:By->LL->Option R):Option R:=Sk L L c b e (e.length:Int) 0 [] (λa=>cond (o0 a isS) (cond (A3 (a8 (aa2 (j8 elS a) ([58]:List UInt8)))) (cond (A3 a.length) (vl (aa2 (j8 elS a) ([58]:List UInt8)) λd=>f d a) none) none) none)
theorem Cy7(d:Nat)(l_z0 l_t1 l2):evC (EU L) (d+1) Z Y 96 [.s (.sl l_z0 l_t1 1 l2)] [] s=v6j L l_z0 l_t1 l2 (λb a=>some (pS b,[.arr true 9 1 a],s)):=by refine(evE (fn:=af5) (by kernel_rfl)).trans ?_;generalize evC (EU L) d=Q;unfold v6j;exact(d8 (by kernel_rfl) ((Bn6 L Q Y s (E3 0 (E2 (EU L) Q Y (cd [1,1,1] Cs4) (F5 (EU L) af5))) L l_z0 l_t1 l2 (l2.length:Int) 0 []).trans (by kernel_rfl)))
noncomputable def Bt7(L:Nat):Cfg:=B7 L [68] (A4 []) [(95,A38),(96,Cr9)] (A4 [(4,[2]),(3,[2]),(2,[1,1,0,6]),(1,[1,1,0]),(0,[1])]) [95,96] (A4 []) (some [2]) [] [] []
noncomputable def v6f{R:Type}(L:Nat)(c d e f g h i j:Int)(p:By->LL->Option R):Option R:=cond (ok8 c d e f g h i j) (vl (↑((zGo (n8 c d e f g h i j) 0 0 0)).1:Int) λa=>vl (↑((zGo (n8 c d e f g h i j) 0 0 0)).2:Int) λb=>cond (ltI b 2) (cond (o0 [[(SV.int .u16 c)],[(SV.int .u16 d)],[(SV.int .u16 e)],[(SV.int .u16 f)],[(SV.int .u16 g)],[(SV.int .u16 h)],[(SV.int .u16 i)],[(SV.int .u16 j)]] Tx) (cond (m5 8 8) (vl (Dd (j8 elN [[(SV.int .u16 c)],[(SV.int .u16 d)],[(SV.int .u16 e)],[(SV.int .u16 f)],[(SV.int .u16 g)],[(SV.int .u16 h)],[(SV.int .u16 i)],[(SV.int .u16 j)]])) λo=>p o [[(SV.int .u16 c)],[(SV.int .u16 d)],[(SV.int .u16 e)],[(SV.int .u16 f)],[(SV.int .u16 g)],[(SV.int .u16 h)],[(SV.int .u16 i)],[(SV.int .u16 j)]]) none) none) (cond (I5 0 a 8) (cond (o0 (o9 ((b9 a)-0) [[(SV.int .u16 c)],[(SV.int .u16 d)],[(SV.int .u16 e)],[(SV.int .u16 f)],[(SV.int .u16 g)],[(SV.int .u16 h)],[(SV.int .u16 i)],[(SV.int .u16 j)]]) Tx) (cond (m5 (a8 (o9 ((b9 a)-0) [[(SV.int .u16 c)],[(SV.int .u16 d)],[(SV.int .u16 e)],[(SV.int .u16 f)],[(SV.int .u16 g)],[(SV.int .u16 h)],[(SV.int .u16 i)],[(SV.int .u16 j)]])) 8) (vl (Dd (j8 elN (o9 ((b9 a)-0) [[(SV.int .u16 c)],[(SV.int .u16 d)],[(SV.int .u16 e)],[(SV.int .u16 f)],[(SV.int .u16 g)],[(SV.int .u16 h)],[(SV.int .u16 i)],[(SV.int .u16 j)]]))) λl=>cond (K8 l.length 2) (vl (l++[58,58]) λm=>cond (I5 (A1 (a+b)) (8:Int) 8) (cond (o0 (o9 (8-(b9 (A1 (a+b)))) (aa5 (b9 (A1 (a+b))) [[(SV.int .u16 c)],[(SV.int .u16 d)],[(SV.int .u16 e)],[(SV.int .u16 f)],[(SV.int .u16 g)],[(SV.int .u16 h)],[(SV.int .u16 i)],[(SV.int .u16 j)]])) Tx) (cond (m5 (a8 (o9 (8-(b9 (A1 (a+b)))) (aa5 (b9 (A1 (a+b))) [[(SV.int .u16 c)],[(SV.int .u16 d)],[(SV.int .u16 e)],[(SV.int .u16 f)],[(SV.int .u16 g)],[(SV.int .u16 h)],[(SV.int .u16 i)],[(SV.int .u16 j)]]))) 8) (vl (Dd (j8 elN (o9 (8-(b9 (A1 (a+b)))) (aa5 (b9 (A1 (a+b))) [[(SV.int .u16 c)],[(SV.int .u16 d)],[(SV.int .u16 e)],[(SV.int .u16 f)],[(SV.int .u16 g)],[(SV.int .u16 h)],[(SV.int .u16 i)],[(SV.int .u16 j)]])))) λn=>cond (K8 m.length n.length) (p (m++n) [[(SV.int .u16 c)],[(SV.int .u16 d)],[(SV.int .u16 e)],[(SV.int .u16 f)],[(SV.int .u16 g)],[(SV.int .u16 h)],[(SV.int .u16 i)],[(SV.int .u16 j)]]) none) none) none) none) none) none) none) none)) none
theorem Cy5(d:Nat)(a0 a1 a2 a3 a4 a5 a6 a7):evC (Bt7 L) (d+1) Z Y 68 [.agg [p16 a0,p16 a1,p16 a2,p16 a3,p16 a4,p16 a5,p16 a6,p16 a7]] [] s=v6f L a0 a1 a2 a3 a4 a5 a6 a7 (λb a=>some (pS b,[.arr false 25 1 a],s)):=by refine(evE (fn:=Tryz.f68) (by kernel_rfl)).trans ?_;generalize evC (Bt7 L) d=Q;unfold v6f;kernel_rfl
noncomputable abbrev Br:Code:=C8 ab6
noncomputable def Y2(L:Nat):Cfg:=B7 L [146] (A4 [(5,[0,1,0,0,0])]) [] (A4 [(15,[2,0]),(6,[0,3,0]),(10,[0,3,0]),(12,[0,3,0]),(14,[0,3,0]),(8,[2,0]),(13,[0,3,0,0,44]),(11,[0,3,0,0,30]),(9,[0,3,0,0,17]),(7,[0,3,0,0]),(5,[0,3,0,12]),(4,[0,3,0]),(3,[0,3]),(2,[2,0]),(1,[0,13]),(0,[0])]) [] (A4 [(0,[4]),(1,[0,3,0]),(2,[0,3,0])]) (some [2,0]) [] [] []
noncomputable def Ut{R:Type}(j:By)(i f d:Int)(e:Bool)(g:By->Int->Int->Option R)(h:Unit->Option R):Option R:=cond e (vl (A1 (wu8 (d-65))) λa=>vl (A1 ((A1 (i*16))+a)) λb=>vl (A1 (b+10)) λc=>g j c f) (h ())
abbrev LK(b:Code):Prop:=∀(k:Out->St Z->Option R) d c a b3 b4,A9 (Y2 L) Q Y b ⟨gp [(0,pS d),(3,pI c),(0,pI a),(0,p8 b3),(44,pB b4)] 15,[],s⟩ k=Ut d c a b3 b4 (λd c a=>k .normal ⟨gp [(0,pS d),(3,pI c),(0,pI a)] 61,[],s⟩) (λ_=>k .ret ⟨gp [(2,p16 (0:Int)),(0,pB false)] 63,[],s⟩)
theorem Ar4:LK (R:=R) L Q Y s (cd [1,1,1,0,1,0,0,1,0,0,1,0,1,1,1,1,1] Br):=by intro k e d c a b;unfold Ut;kernel_rfl
noncomputable def Uu{R:Type}(o:By)(m f a:Int)(q:Bool)(g:By->Int->Int->Option R)(p:Unit->Option R):Option R:=cond q (vl (A1 (wu8 (a-97))) λh=>vl (A1 ((A1 (m*16))+h)) λi=>vl (A1 (i+10)) λj=>g o j f) (cond (not (ltI a 65)) (Ut o m f a (not (ltI 70 a)) (λn l b=>g n l b) (λ_=>p ())) (Ut o m f a false (λe d c=>g e d c) (λ_=>p ())))
abbrev Yt(b:Code):Prop:=∀(k:Out->St Z->Option R) d c a b3 b4,A9 (Y2 L) Q Y b ⟨gp [(0,pS d),(3,pI c),(0,pI a),(0,p8 b3),(30,pB b4)] 29,[],s⟩ k=Uu d c a b3 b4 (λd c a=>k .normal ⟨gp [(0,pS d),(3,pI c),(0,pI a)] 61,[],s⟩) (λ_=>k .ret ⟨gp [(2,p16 (0:Int)),(0,pB false)] 63,[],s⟩)
theorem Ar5(a:Code)(b:LK (R:=R) L Q Y s a):Yt (R:=R) L Q Y s (cd [1,1,1,0,1,0,0,1,0,0,1,0,1,1,1] (G2 [1,1,1,0,1,0,0,1,0,0,1,0,1,1,1,1,1] a Br)):=by intro k g f e c d;unfold Uu;simp only[<-b k];kernel_rfl
theorem Ar6:Yt (R:=R) L Q Y s (cd [1,1,1,0,1,0,0,1,0,0,1,0,1,1,1] Br):=by intro k e d c a b;exact d8 (by kernel_rfl) (Ar5 L Q Y s (cd [1,1,1,0,1,0,0,1,0,0,1,0,1,1,1,1,1] Br) (Ar4 L Q Y s) k e d c a b)
noncomputable def Uv{R:Type}(n:By)(m h a:Int)(p:Bool)(i:By->Int->Int->Option R)(o:Unit->Option R):Option R:=cond p (vl (A1 (wu8 (a-48))) λj=>vl (A1 ((A1 (m*16))+j)) λl=>i n l h) (cond (not (ltI a 97)) (Uu n m h a (not (ltI 102 a)) (λf d b=>i f d b) (λ_=>o ())) (Uu n m h a false (λg e c=>i g e c) (λ_=>o ())))
abbrev Pb(b:Code):Prop:=∀(k:Out->St Z->Option R) d c a b3 b4,A9 (Y2 L) Q Y b ⟨gp [(0,pS d),(3,pI c),(0,pI a),(0,p8 b3),(17,pB b4)] 42,[],s⟩ k=Uv d c a b3 b4 (λd c a=>k .normal ⟨gp [(0,pS d),(3,pI c),(0,pI a)] 61,[],s⟩) (λ_=>k .ret ⟨gp [(2,p16 (0:Int)),(0,pB false)] 63,[],s⟩)
theorem Ar7(a:Code)(b:Yt (R:=R) L Q Y s a):Pb (R:=R) L Q Y s (cd [1,1,1,0,1,0,0,1,0,0,1,0,1] (G2 [1,1,1,0,1,0,0,1,0,0,1,0,1,1,1] a Br)):=by intro k g f e c d;unfold Uv;simp only[<-b k];kernel_rfl
theorem Ar8:Pb (R:=R) L Q Y s (cd [1,1,1,0,1,0,0,1,0,0,1,0,1] Br):=by intro k e d c a b;exact d8 (by kernel_rfl) (Ar7 L Q Y s (cd [1,1,1,0,1,0,0,1,0,0,1,0,1,1,1] Br) (Ar6 L Q Y s) k e d c a b)
noncomputable def Eh{R:Type}(L n:Nat)(b:By)(o a:Int)(l:Unit->Option R)(m:Int->Option R):Option R:=match n with|0=>none|n+1=>cond (ltI a (b.length:Int)) (cond (inR a b.length) (cond (not (ltI (bAt b a) (48:Int))) (Uv b o a (bAt b a) (not (ltI 57 (bAt b a))) (λi e c=>vl (A1 (c+1)) λf=>Eh L n i e f l m) (λ_=>l ())) (Uv b o a (bAt b a) false (λj g d=>vl (A1 (d+1)) λh=>Eh L n j g h l m) (λ_=>l ()))) none) (m o)
theorem Ar9(a:Code)(b:Pb (R:=R) L Q Y s a)(n:Nat)(d:By)(i c:Int):C9 0 ((Y2 L).keep 5) (bd (Y2 L) Q Y (cd [1,1,1,0,1,0,0] (G2 [1,1,1,0,1,0,0,1,0,0,1,0,1] a Br))) n ⟨gp [(0,pS d),(3,pI i),(0,pI c)] 61,[],s⟩ k =
 Eh L n d i c (λ_=>k .ret ⟨gp [(2,p16 (0:Int)),(0,pB false)] 63,[],s⟩) (λn0=>k (.exit 0) ⟨gp [(4,pI n0)] 62,[],s⟩):=by
 induction n generalizing d i c with
 | zero=>rfl
 | succ n q=>rw[Eh];exact let m:=(E3 2 (E3 1 (E2 (Y2 L) Q Y (cd [1,1,1,0,1,0,0,1,1] Br) (lpK 0 ((Y2 L).keep 5) (bd (Y2 L) Q Y (cd [1,1,1,0,1,0,0] (G2 [1,1,1,0,1,0,0,1,0,0,1,0,1] a Br))) n k))));(d8 (by kernel_rfl) (A0 (A0 (A0 ((b m d i c (bAt d c) (not (ltI 57 (bAt d c)))).trans (congr (congr rfl (fx3 λj e o=>(d8 (by kernel_rfl) (A2 λf=>(q j e f))))) (by kernel_rfl))) ((b m d i c (bAt d c) false).trans (congr (congr rfl (fx3 λl g p=>(d8 (by kernel_rfl) (A2 λh=>(q l g h))))) (by kernel_rfl)))) rfl) rfl))
noncomputable def B07{R:Type}(L:Nat)(c:By)(b:Int->Bool->Option R):Option R:=cond (ltI (c.length:Int) (1:Int)) (b 0 false) (cond (ltI 4 (c.length:Int)) (b 0 false) (Eh L L c 0 0 (λ_=>b 0 false) (λa=>b (Ll a) true)))
theorem Cj6(a:Code)(b:Pb (R:=PV × List Blk × Z) L Q Y s a)(c:By):A9 (Y2 L) Q Y (cd [] (G2 [1,1,1,0,1,0,0,1,0,0,1,0,1] a Br)) ⟨[pS c]++tps 66,[],s⟩ (F5 (Y2 L) ab6)=B07 L c (λd e=>some (.tup [p16 d,pB e],[],s)):=by unfold B07;exact(d8 (by kernel_rfl) (A0 rfl (A0 rfl ((Ar9 L Q Y s (E3 0 (E2 (Y2 L) Q Y (cd [1,1,1,1] Br) (F5 (Y2 L) ab6))) a b L c 0 0).trans (by kernel_rfl)))))
theorem Cj7(d:Nat)(s0):evC (Y2 L) (d+1) Z Y 146 [pS s0] [] s=B07 L s0 (λa b=>some (.tup [p16 a,pB b],[],s)):=
 (evE (fn:=ab6) (by kernel_rfl)).trans (d8 (by kernel_rfl) (Cj6 L (evC (Y2 L) d) Y s (cd [1,1,1,0,1,0,0,1,0,0,1,0,1] Br) (Ar8 L (evC (Y2 L) d) Y s) s0))
noncomputable abbrev Dv:Code:=C8 ab2
noncomputable def Q5(L:Nat):Cfg:=B7 L [114] (A4 [(6,[1,2,0,0,0,0])]) [(88,Ml),(145,Br0),(146,Bq8)] (A4 [(15,[4,0]),(7,[1,4,0,0]),(14,[1,4,0,0]),(13,[4,0]),(12,[1,4,0,0,2,47]),(11,[1,4,0,0,2,0]),(10,[1,4,0,0]),(9,[1,4,0,0,0,31]),(8,[1,4,0,0,0,0]),(6,[1,4,0,0,11]),(5,[1,4,0,0]),(4,[1,4,0]),(3,[0,0,4]),(2,[4,0]),(1,[0,0,12]),(0,[0,0])]) [145,146] (A4 [(0,[6]),(1,[1,4,0,0])]) (some [4,0]) [] [] []
noncomputable def Jc{R:Type}(a:Bool)(g:LL)(f d:Int)(e:Bool)(c:LL)(h:Bool->LL->Int->LL->Option R)(i:Bool->LL->Int->Int->Bool->LL->Option R):Option R:=cond e (vl (SH .u32 d (16:Int)) λb=>cond (F2 (c.length+2)) (h a g f (c++[[(SV.int .u16 (Ll b))],[(SV.int .u16 (Ll d))]])) none) (i a g f d e c)
abbrev Rt(b:Code):Prop:=∀(k:Out->St Z->Option R) a d c g e f,A9 (Q5 L) Q Y b ⟨gp [(1,pB a),(4,.fl 0),(0,.s (.sl false false 1 d)),(0,pI c),(0,p32 g),(31,pB e)] 23,[.arr true 24 1 f],s⟩ k=Jc a d c g e f (λa d c h=>k (.exit 1) ⟨gp [(1,pB a),(4,.fl 0),(0,.s (.sl false false 1 d)),(0,pI c)] 56,[.arr true 24 1 h],s⟩) (λa d c g e f=>k .normal ⟨gp [(1,pB a),(4,.fl 0),(0,.s (.sl false false 1 d)),(0,pI c),(0,p32 g),(31,pB e)] 23,[.arr true 24 1 f],s⟩)
theorem XM:Rt (R:=R) L Q Y s (cd [1,1,1,1,0,1,0,0,1,0,0,0,1,1] Dv):=by intro k a e c f b d;unfold Jc;kernel_rfl
noncomputable def Jd{R:Type}(a:Bool)(c:LL)(b:Int)(e:LL)(f:LL->Option R)(g:Bool->LL->Int->LL->Option R):Option R:=cond (inR b c.length) (cond (okE Ps c (b9 b) 0) (cond (A3 (a8 (gX c (b9 b) 0))) (vl (↑(L9 (grp (gX c (b9 b) 0))):Int) λd=>cond (not (f6 (grp (gX c (b9 b) 0)))) (f e) (cond (F2 (e.length+1)) (g a c b (e++[[(SV.int .u16 d)]])) none)) none) none) none
abbrev Ru(b:Code):Prop:=∀(k:Out->St Z->Option R) a d c v3 b4 l5,A9 (Q5 L) Q Y b ⟨gp [(1,pB a),(4,.fl 0),(0,.s (.sl false false 1 d)),(0,pI c),(0,p32 v3),(31,pB b4)] 23,[.arr true 24 1 l5],s⟩ k=Jd a d c l5 (λe=>k .ret ⟨gp [(4,.fl 1),(0,pB false)] 59,[.arr true 24 1 e,.arr true 24 1 []],s⟩) (λa d c f=>k .normal ⟨gp [(1,pB a),(4,.fl 0),(0,.s (.sl false false 1 d)),(0,pI c)] 56,[.arr true 24 1 f],s⟩)
theorem XN:Ru (R:=R) L Q Y s (cd [1,1,1,1,0,1,0,0,1,0,0,1] Dv):=by intro k a e c f b d;unfold Jd;kernel_rfl
noncomputable def P6{R:Type}(L n:Nat)(a:Bool)(m:LL)(l:Int)(l3:LL)(o:LL->Option R)(p:LL->Option R):Option R:=match n with|0=>none|n+1=>cond (ltI l (m.length:Int)) (cond (inR l m.length) (cond (okE Ps m (b9 l) 0) (cond (A3 (a8 (gX m (b9 l) 0))) (vl (↑(L9 (v4B (gX m (b9 l) 0))):Int) λq=>cond (f6 (v4B (gX m (b9 l) 0))) (cond a (vl (A1 ((m.length:Int)-1)) λa9=>Jc a m l q (l==a9) l3 (λb X r B=>vl (A1 (r+1)) λP=>P6 L n b X P B o p) (λc a0 t b3 b0 C=>Jd c a0 t C (λD=>o D) (λd a1 u F=>vl (A1 (u+1)) λS=>P6 L n d a1 S F o p))) (Jc a m l q false l3 (λe a2 v G=>vl (A1 (v+1)) λT=>P6 L n e a2 T G o p) (λf a3 w b4 b1 H=>Jd f a3 w H (λI=>o I) (λg a4 x J=>vl (A1 (x+1)) λU=>P6 L n g a4 U J o p)))) (Jc a m l q false l3 (λh a5 y K=>vl (A1 (y+1)) λV=>P6 L n h a5 V K o p) (λi a6 z b5 b2 M=>Jd i a6 z M (λN=>o N) (λj a7 A O=>vl (A1 (A+1)) λW=>P6 L n j a7 W O o p)))) none) none) none) (p l3)
theorem XO(b:Code)(c:Rt (R:=R) L Q Y s b)(a:Code)(d:Ru (R:=R) L Q Y s a)(n:Nat)(e:Bool)(v:LL)(q:Int)(u:LL):C9 1 ((Q5 L).keep 6) (bd (Q5 L) Q Y (cd [1,1,1,1,0,1,0,0] (G2 [1,1,1,1,0,1,0,0,1,0,0,1] a (G2 [1,1,1,1,0,1,0,0,1,0,0,0,1,1] b Dv)))) n ⟨gp [(1,pB e),(4,.fl 0),(0,.s (.sl false false 1 v)),(0,pI q)] 56,[.arr true 24 1 u],s⟩ k =
 P6 L n e v q u (λl0=>k .ret ⟨gp [(4,.fl 1),(0,pB false)] 59,[.arr true 24 1 l0,.arr true 24 1 []],s⟩) (λl0=>k (.exit 0) ⟨gp [(6,.fl 0)] 58,[.arr true 24 1 l0],s⟩):=by
 induction n generalizing e v q u with
 | zero=>rfl
 | succ n t=>rw[P6];exact let K0:=(E3 1 (E2 (Q5 L) Q Y (cd [1,1,1,1,0,1,0,0,1,1] Dv) (lpK 1 ((Q5 L).keep 6) (bd (Q5 L) Q Y (cd [1,1,1,1,0,1,0,0] (G2 [1,1,1,1,0,1,0,0,1,0,0,1] a (G2 [1,1,1,1,0,1,0,0,1,0,0,0,1,1] b Dv)))) n k)));let K1:=(E2 (Q5 L) Q Y a K0);(d8 (by kernel_rfl) (A0 (A0 (A0 (A0 (A2 λr=>(A0 (A0 (A2 λb0=>((c K1 e v q r (q==b0) u).trans (congr (congr rfl (fx4 λf V b1 C=>(d8 (by kernel_rfl) (A2 λN=>(t f V N C))))) (fx6 λg W z a6 w D=>(d8 (by kernel_rfl) ((d K0 g W z a6 w D).trans (congr (congr rfl (by kernel_rfl)) (fx4 λh X b2 F=>(d8 (by kernel_rfl) (A2 λO=>(t h X O F))))))))))) ((c K1 e v q r false u).trans (congr (congr rfl (fx4 λi a0 b3 G=>(d8 (by kernel_rfl) (A2 λP=>(t i a0 P G))))) (fx6 λj a1 A a7 x H=>(d8 (by kernel_rfl) ((d K0 j a1 A a7 x H).trans (congr (congr rfl (by kernel_rfl)) (fx4 λl a2 b4 I=>(d8 (by kernel_rfl) (A2 λS=>(t l a2 S I))))))))))) ((c K1 e v q r false u).trans (congr (congr rfl (fx4 λm a3 b5 J=>(d8 (by kernel_rfl) (A2 λT=>(t m a3 T J))))) (fx6 λo a4 B a9 y K=>(d8 (by kernel_rfl) ((d K0 o a4 B a9 y K).trans (congr (congr rfl (by kernel_rfl)) (fx4 λp a5 b6 M=>(d8 (by kernel_rfl) (A2 λU=>(t p a5 U M)))))))))))) rfl) rfl) rfl) rfl))
noncomputable def XL{R:Type}(L:Nat)(e:By)(a:Bool)(f:LL->Option R)(g:LL->Option R):Option R:=cond (e==[]) (f []) (cond (A3 e.length) (vl (D4 (pcs (u8n (58:Int)) e)) λd=>P6 L L a d 0 [] (λb=>g b) (λc=>f c)) none)
theorem B08(a:Code)(c:Rt (R:=PV × List Blk × Z) L Q Y s a)(b:Code)(d:Ru (R:=PV × List Blk × Z) L Q Y s b)(h:By)(e:Bool):A9 (Q5 L) Q Y (cd [] (G2 [1,1,1,1,0,1,0,0,1,0,0,1] b (G2 [1,1,1,1,0,1,0,0,1,0,0,0,1,1] a Dv))) ⟨[pS h,pB e]++tps 63,[],s⟩ (F5 (Q5 L) ab2)=XL L h e (λg=>some (.tup [.fl 0,pB true],[.arr true 24 1 g],s)) (λg=>some (.tup [.fl 1,pB false],[.arr true 24 1 g,.arr true 24 1 []],s)):=by unfold XL;exact(d8 (by kernel_rfl) (A0 rfl (A0 (A2 λf=>((XO L Q Y s (E3 0 (E2 (Q5 L) Q Y (cd [1,1,1,1,1] Dv) (F5 (Q5 L) ab2))) a c b d L e f 0 []).trans (by kernel_rfl))) rfl)))
theorem B09(d:Nat)(s0 last1):evC (Q5 L) (d+1) Z Y 114 [pS s0,pB last1] [] s=XL L s0 last1 (λa=>some (.tup [.fl 0,pB true],[.arr true 24 1 a],s)) (λa=>some (.tup [.fl 1,pB false],[.arr true 24 1 a,.arr true 24 1 []],s)):=
 (evE (fn:=ab2) (by kernel_rfl)).trans (d8 (by kernel_rfl) (B08 L (evC (Q5 L) d) Y s (cd [1,1,1,1,0,1,0,0,1,0,0,0,1,1] Dv) (XM L (evC (Q5 L) d) Y s) (cd [1,1,1,1,0,1,0,0,1,0,0,1] Dv) (XN L (evC (Q5 L) d) Y s) s0 last1))
noncomputable abbrev JT:Code:=C8 ad5
noncomputable def Bv(L:Nat):Cfg:=B7 L [113] (A4 [(2,[0,1,0])]) [] (A4 [(6,[2]),(3,[0,2]),(5,[2]),(4,[0,2,17]),(2,[0,2,4]),(1,[0,2]),(0,[0])]) [] (A4 [(0,[]),(1,[0,2])]) (some [2]) [] [] []
noncomputable def T4{R:Type}(L n:Nat)(b:By)(a:Int)(c:Int->Option R)(d:Unit->Option R):Option R:=match n with|0=>none|n+1=>cond (ltI (A1 (a+1)) (b.length:Int)) (cond (inR a b.length) (cond ((bAt b a)==58) (cond (inR (A1 (a+1)) b.length) (vl (bAt b (A1 (a+1))) λe=>cond (e==58) (c a) (T4 L n b (A1 (a+1)) c d)) none) (T4 L n b (A1 (a+1)) c d)) none) (d ())
theorem IP(n s0 i1):C9 0 ((Bv L).keep 2) (bd (Bv L) Q Y (cd [1,0,1,0,0] JT)) n ⟨gp [(0,pS s0),(2,pI i1)] 19,[],s⟩ k =
 T4 L n s0 i1 (λn0=>k .ret ⟨gp [(2,pI n0)] 20,[],s⟩) (λ_=>k (.exit 0) ⟨gp [] 23,[],s⟩):=by
 induction n generalizing s0 i1 with
 | zero=>rfl
 | succ n a=>rw[T4];simp only[<-a];kernel_rfl
noncomputable def BY{R:Type}(L:Nat)(c:By)(b:Int->Option R):Option R:=T4 L L c 0 (λa=>b a) (λ_=>b (-1))
theorem Aq2(d:Nat)(s0):evC (Bv L) (d+1) Z Y 113 [pS s0] [] s=BY L s0 (λa=>some (pI a,[],s)):=by refine(evE (fn:=ad5) (by kernel_rfl)).trans ?_;generalize evC (Bv L) d=Q;unfold BY;exact(d8 (by kernel_rfl) ((IP L Q Y s (E3 0 (E2 (Bv L) Q Y (cd [1,1] JT) (F5 (Bv L) ad5))) L s0 0).trans (by kernel_rfl)))
noncomputable abbrev Qu:Code:=C8 ab0
noncomputable def Y3(L:Nat):Cfg:=B7 L [84] (A4 [(21,[2,0,0,6,2]),(17,[2,0,0,4,1,1]),(8,[2,0,0,1,1])]) [(113,JG),(114,A25)] (A4 [(24,[2,0]),(22,[2,1,6,2]),(23,[2,1,6,2]),(21,[2,1,6,2,73]),(20,[2,1,6,2]),(18,[2,1,4,1,1]),(19,[2,1,4,1,1]),(17,[2,1,4,1,1,62]),(16,[2,1,4,1,1]),(15,[2,0]),(14,[2,1,4,1,59]),(13,[2,1,4,0,0,0]),(12,[0,1,1,0,3,0]),(11,[2,0]),(9,[2,1,1,1]),(10,[2,1,1,1]),(8,[2,1,1,1,24]),(7,[2,1,1,1]),(6,[2,0]),(5,[2,1,1,23]),(4,[2,1,1,0]),(3,[0,1,1,0,12]),(2,[0,1,1,0]),(1,[0,1,1]),(0,[0,1])]) [113] (A4 [(4,[2,1]),(5,[2,1,6,2]),(2,[2,1,6]),(3,[2,1,4,1,1]),(0,[2,1]),(1,[2,1,1,1])]) (some [2,0]) [] [] []
noncomputable def Lb{R:Type}(L n:Nat)(b:Bool)(c:LL)(a:Int)(g d:LL)(f:LL->LL->Option R):Option R:=match n with|0=>none|n+1=>cond (ltI a 8) (cond (inR a c.length) (cond (okE ⟨true,false,[.int .u16]⟩ c (b9 a) 0) (cond (inR a 8) (cond (decide ((b9 a)<d.length)) (vl (t7 d (b9 a) (F3 (b8 d (b9 a) []) 0 [(SV.int .u16 (gE c (b9 a) 0))])) λe=>Lb L n b c (A1 (a+1)) g e f) none) none) none) none) (f g d)
theorem Ax0(n l_z0 a i2 l3 l4):C9 2 ((Y3 L).keep 8) (bd (Y3 L) Q Y (cd [1,1,1,0,1,0,1,1,0,1,0,0] Qu)) n ⟨gp [(2,.ptr 0 0 0),(1,.ptr 1 0 0),(1,.s (.sl l_z0 l_z0 1 a)),(1,pI i2)] 93,[.arr false 25 1 l3,.arr false 25 1 l4],s⟩ k =
 Lb L n l_z0 a i2 l3 l4 (λc a=>k (.exit 0) ⟨gp [(2,.ptr 0 0 0),(1,.ptr 1 0 0)] 97,[.arr false 25 1 c,.arr false 25 1 a],s⟩):=by
 induction n generalizing l_z0 a i2 l3 l4 with
 | zero=>rfl
 | succ n b=>rw[Lb];simp only[<-b];kernel_rfl
noncomputable def Lc{R:Type}(L n:Nat)(e:Bool)(d:LL)(b:Bool)(i:LL)(a:Int)(h f:LL)(g:Bool->LL->LL->LL->Option R):Option R:=match n with|0=>none|n+1=>cond (ltI a (d.length:Int)) (cond (inR a d.length) (cond (okE ⟨true,false,[.int .u16]⟩ d (b9 a) 0) (cond (inR a 8) (cond (decide ((b9 a)<f.length)) (vl (t7 f (b9 a) (F3 (b8 f (b9 a) []) 0 [(SV.int .u16 (gE d (b9 a) 0))])) λc=>Lc L n e d b i (A1 (a+1)) h c g) none) none) none) none) (g b i h f)
theorem Ax1(n l_z0 l1 r_z2 r3 i4 l5 l6):C9 2 ((Y3 L).keep 17) (bd (Y3 L) Q Y (cd [1,1,1,1,1,1,1,0,1,0,0] Qu)) n ⟨gp [(2,.ptr 0 0 0),(1,.ptr 1 0 0),(4,.s (.sl l_z0 l_z0 1 l1)),(1,.s (.sl r_z2 r_z2 1 r3)),(1,pI i4)] 88,[.arr false 25 1 l5,.arr false 25 1 l6],s⟩ k =
 Lc L n l_z0 l1 r_z2 r3 i4 l5 l6 (λa e c d=>k (.exit 2) ⟨gp [(2,.ptr 0 0 0),(1,.ptr 1 0 0),(6,.s (.sl a a 1 e))] 90,[.arr false 25 1 c,.arr false 25 1 d],s⟩):=by
 induction n generalizing l_z0 l1 r_z2 r3 i4 l5 l6 with
 | zero=>rfl
 | succ n b=>rw[Lc];simp only[<-b];kernel_rfl
noncomputable def Ld{R:Type}(L n:Nat)(e:Bool)(c:LL)(b:Int)(h f:LL)(g:LL->LL->Option R):Option R:=match n with|0=>none|n+1=>cond (ltI b (c.length:Int)) (vl (A1 ((8:Int)-(c.length:Int))) λa=>cond (inR b c.length) (cond (okE ⟨true,false,[.int .u16]⟩ c (b9 b) 0) (cond (inR (A1 (a+b)) 8) (cond (decide ((b9 (A1 (a+b)))<f.length)) (vl (t7 f (b9 (A1 (a+b))) (F3 (b8 f (b9 (A1 (a+b))) []) 0 [(SV.int .u16 (gE c (b9 b) 0))])) λd=>Ld L n e c (A1 (b+1)) h d g) none) none) none) none) (g h f)
theorem Ax2(n r_z0 r1 i2 l3 l4):C9 2 ((Y3 L).keep 21) (bd (Y3 L) Q Y (cd [1,1,1,1,1,1,1,1,0,1,0,0] Qu)) n ⟨gp [(2,.ptr 0 0 0),(1,.ptr 1 0 0),(6,.s (.sl r_z0 r_z0 1 r1)),(2,pI i2)] 87,[.arr false 25 1 l3,.arr false 25 1 l4],s⟩ k =
 Ld L n r_z0 r1 i2 l3 l4 (λb c=>k (.exit 4) ⟨gp [(2,.ptr 0 0 0),(1,.ptr 1 0 0)] 97,[.arr false 25 1 b,.arr false 25 1 c],s⟩):=by
 induction n generalizing r_z0 r1 i2 l3 l4 with
 | zero=>rfl
 | succ n a=>rw[Ld];simp only[<-a];kernel_rfl
noncomputable def B31{R:Type}(L:Nat)(e:By)(j:Int->Int->Int->Int->Int->Int->Int->Int->Bool->LL->LL->Option R):Option R:=cond (A3 e.length) (cond (ltI (FD e) (0:Int)) (cond (A3 e.length) (cond (not (f6 (P0 e true))) (j 0 0 0 0 0 0 0 0 false (d7 8 [(SV.int .u16 (0:Int))]) (d7 8 [(SV.int .u16 (0:Int))])) (cond ((↑(a8 (D6 (gvs e true))):Int)!=8) (j 0 0 0 0 0 0 0 0 false (d7 8 [(SV.int .u16 (0:Int))]) (d7 8 [(SV.int .u16 (0:Int))])) (Lb L L (f9 (gvs e true)) (D6 (gvs e true)) 0 (d7 8 [(SV.int .u16 (0:Int))]) (d7 8 [(SV.int .u16 (0:Int))]) (λn a=>cond ((decide (8=(a.length*1)))&&(okS ⟨true,true,[.int .u16,.int .u16,.int .u16,.int .u16,.int .u16,.int .u16,.int .u16,.int .u16]⟩ (c9 a) 0)) (vl (SV.gI (b8 (c9 a) 0 SV.nilp)) λo=>vl (SV.gI (b8 (c9 a) 1 SV.nilp)) λp=>vl (SV.gI (b8 (c9 a) 2 SV.nilp)) λq=>vl (SV.gI (b8 (c9 a) 3 SV.nilp)) λr=>vl (SV.gI (b8 (c9 a) 4 SV.nilp)) λt=>vl (SV.gI (b8 (c9 a) 5 SV.nilp)) λu=>vl (SV.gI (b8 (c9 a) 6 SV.nilp)) λv=>vl (SV.gI (b8 (c9 a) 7 SV.nilp)) λw=>cond (decide (8=(n.length*1))) (vl (R5 1 n.length [(SV.int .u16 o),(SV.int .u16 p),(SV.int .u16 q),(SV.int .u16 r),(SV.int .u16 t),(SV.int .u16 u),(SV.int .u16 v),(SV.int .u16 w)]) λb=>cond ((decide (8=(b.length*1)))&&(okS ⟨true,true,[.int .u16,.int .u16,.int .u16,.int .u16,.int .u16,.int .u16,.int .u16,.int .u16]⟩ (c9 b) 0)) (j (SV.gI (b8 (c9 b) 0 SV.nilp)) (SV.gI (b8 (c9 b) 1 SV.nilp)) (SV.gI (b8 (c9 b) 2 SV.nilp)) (SV.gI (b8 (c9 b) 3 SV.nilp)) (SV.gI (b8 (c9 b) 4 SV.nilp)) (SV.gI (b8 (c9 b) 5 SV.nilp)) (SV.gI (b8 (c9 b) 6 SV.nilp)) (SV.gI (b8 (c9 b) 7 SV.nilp)) true b a) none) none) none)))) none) (cond (I5 0 (FD e) e.length) (vl (cut e 0 (FD e)) λf=>cond (A3 f.length) (vl (A1 ((FD e)+2)) λG=>cond (I5 G (e.length:Int) e.length) (vl (cut e G (e.length:Int)) λg=>cond (A3 g.length) (cond (not (f6 (P0 f false))) (j 0 0 0 0 0 0 0 0 false (d7 8 [(SV.int .u16 (0:Int))]) (d7 8 [(SV.int .u16 (0:Int))])) (cond (not (f6 (P0 g true))) (j 0 0 0 0 0 0 0 0 false (d7 8 [(SV.int .u16 (0:Int))]) (d7 8 [(SV.int .u16 (0:Int))])) (vl (A1 ((↑(a8 (D6 (gvs f false))):Int)+(↑(a8 (D6 (gvs g true))):Int))) λI=>cond (ltI 7 I) (j 0 0 0 0 0 0 0 0 false (d7 8 [(SV.int .u16 (0:Int))]) (d7 8 [(SV.int .u16 (0:Int))])) (Lc L L (f9 (gvs f false)) (D6 (gvs f false)) (f9 (gvs g true)) (D6 (gvs g true)) 0 (d7 8 [(SV.int .u16 (0:Int))]) (d7 8 [(SV.int .u16 (0:Int))]) (λh H l m=>Ld L L h H 0 l m (λi c=>cond ((decide (8=(c.length*1)))&&(okS ⟨true,true,[.int .u16,.int .u16,.int .u16,.int .u16,.int .u16,.int .u16,.int .u16,.int .u16]⟩ (c9 c) 0)) (vl (SV.gI (b8 (c9 c) 0 SV.nilp)) λx=>vl (SV.gI (b8 (c9 c) 1 SV.nilp)) λy=>vl (SV.gI (b8 (c9 c) 2 SV.nilp)) λz=>vl (SV.gI (b8 (c9 c) 3 SV.nilp)) λA=>vl (SV.gI (b8 (c9 c) 4 SV.nilp)) λB=>vl (SV.gI (b8 (c9 c) 5 SV.nilp)) λC=>vl (SV.gI (b8 (c9 c) 6 SV.nilp)) λD=>vl (SV.gI (b8 (c9 c) 7 SV.nilp)) λF=>cond (decide (8=(i.length*1))) (vl (R5 1 i.length [(SV.int .u16 x),(SV.int .u16 y),(SV.int .u16 z),(SV.int .u16 A),(SV.int .u16 B),(SV.int .u16 C),(SV.int .u16 D),(SV.int .u16 F)]) λd=>cond ((decide (8=(d.length*1)))&&(okS ⟨true,true,[.int .u16,.int .u16,.int .u16,.int .u16,.int .u16,.int .u16,.int .u16,.int .u16]⟩ (c9 d) 0)) (j (SV.gI (b8 (c9 d) 0 SV.nilp)) (SV.gI (b8 (c9 d) 1 SV.nilp)) (SV.gI (b8 (c9 d) 2 SV.nilp)) (SV.gI (b8 (c9 d) 3 SV.nilp)) (SV.gI (b8 (c9 d) 4 SV.nilp)) (SV.gI (b8 (c9 d) 5 SV.nilp)) (SV.gI (b8 (c9 d) 6 SV.nilp)) (SV.gI (b8 (c9 d) 7 SV.nilp)) true d c) none) none) none)))))) none) none) none) none)) none
theorem Cl1(d:Nat)(s0):evC (Y3 L) (d+1) Z Y 84 [pS s0] [] s=B31 L s0 (λl m n o p q r t r8 h l10=>some (.tup [.agg [p16 l,p16 m,p16 n,p16 o,p16 p,p16 q,p16 r,p16 t],pB r8],[.arr false 25 1 h,.arr false 25 1 l10],s)):=by refine(evE (fn:=ab0) (by kernel_rfl)).trans ?_;generalize evC (Y3 L) d=Q;unfold B31;exact(d8 (by kernel_rfl) (A0 (A0 (A0 (A0 rfl (A0 rfl ((Ax0 L Q Y s (E3 0 (E2 (Y3 L) Q Y (cd [1,1,1,0,1,0,1,1,1] Qu) (E2 (Y3 L) Q Y (cd [1,1,1,1] Qu) (F5 (Y3 L) ab0)))) L (f9 (gvs s0 true)) (D6 (gvs s0 true)) 0 (d7 8 [(SV.int .u16 (0:Int))]) (d7 8 [(SV.int .u16 (0:Int))])).trans (by kernel_rfl)))) rfl) (A0 (A2 λf=>(A0 (A2 λi=>(A0 (A2 λg=>(A0 (A0 rfl (A0 rfl (A2 λj=>(A0 rfl ((Ax1 L Q Y s (E3 2 (E2 (Y3 L) Q Y (cd [1,1,1,1,1,1,1,1] Qu) (F5 (Y3 L) ab0))) L (f9 (gvs f false)) (D6 (gvs f false)) (f9 (gvs g true)) (D6 (gvs g true)) 0 (d7 8 [(SV.int .u16 (0:Int))]) (d7 8 [(SV.int .u16 (0:Int))])).trans (congr rfl (fx4 λa e b c=>(d8 (by kernel_rfl) ((Ax2 L Q Y s (E3 4 (E2 (Y3 L) Q Y (cd [1,1,1,1,1,1,1,1,1] Qu) (F5 (Y3 L) ab0))) L a e 0 b c).trans (by kernel_rfl)))))))))) rfl)) rfl)) rfl)) rfl)) rfl))
noncomputable def EM(L:Nat):Cfg:=B7 L [168] (A4 []) [] (A4 [(1,[2]),(0,[0])]) [] (A4 []) (some [2]) [] [] []
noncomputable def RL{R:Type}(L:Nat)(n0:Int)(a:Bool->Option R):Option R:=cond (not (ltI n0 0)) (cond (not (ltI 1114111 n0)) (cond (ltI n0 55296) (a true) (a (ltI 57343 n0))) (a false)) (a false)
theorem Bg9(d:Nat)(n0):evC (EM L) (d+1) Z Y 168 [pI n0] [] s=RL L n0 (λa=>some (pB a,[],s)):=by refine(evE (fn:=Tryz.f168) (by kernel_rfl)).trans ?_;generalize evC (EM L) d=Q;unfold RL;kernel_rfl
noncomputable abbrev Mq:Code:=C8 ab9
noncomputable def V5(L:Nat):Cfg:=B7 L [170] (A4 [(6,[0,5,0])]) [] (A4 [(9,[6]),(8,[0,6]),(7,[0,6]),(6,[0,6,11]),(5,[0,6]),(4,[0]),(2,[0,0]),(3,[0,0]),(1,[0,0,6]),(0,[0,0,0])]) [] (A4 [(0,[0,6]),(1,[0,6])]) (some [6]) [] [] []
noncomputable def Ex{R:Type}(L n:Nat)(a b:Int)(e:Int->Int->Option R):Option R:=match n with|0=>none|n+1=>cond (ltI 455 a) (vl (A1 (w8 a (35:Int))) λc=>vl (A1 (b+36)) λd=>Ex L n c d e) (e a b)
theorem RG(n a b):C9 0 ((V5 L).keep 6) (bd (V5 L) Q Y (cd [1,1,1,1,0,0,0] Mq)) n ⟨gp [(0,pI a),(6,pI b)] 23,[],s⟩ k =
 Ex L n a b (λa b=>k (.exit 0) ⟨gp [(0,pI a),(6,pI b)] 23,[],s⟩):=by
 induction n generalizing a b with
 | zero=>rfl
 | succ n c=>rw[Ex];simp only[<-c];kernel_rfl
noncomputable def Ew{R:Type}(L:Nat)(c b:Int)(i:Int->Option R):Option R:=cond (b !=0) (vl (A1 (w8 c b)) λh=>Ex L L (A1 (c+h)) 0 (λa e=>vl (A1 ((36:Int)*a)) λf=>vl (A1 (a+38)) λd=>cond (d !=0) (vl (A1 (w8 f d)) λg=>i (A1 (e+g))) none)) none
abbrev AE(b:Code):Prop:=∀(k:Out->St Z->Option R) delta0 count1,A9 (V5 L) Q Y b ⟨gp [(0,pI delta0),(0,pI count1)] 29,[],s⟩ k=Ew L delta0 count1 (λn0=>k .ret ⟨gp [(6,pI n0)] 24,[],s⟩)
theorem RF:AE (R:=R) L Q Y s (cd [1,1] Mq):=by intro k a b;unfold Ew;exact(d8 (by kernel_rfl) (A0 (A2 λc=>((RG L Q Y s (E3 0 (E2 (V5 L) Q Y (cd [1,1,1,1,1] Mq) k)) L (A1 (a+c)) 0).trans (by kernel_rfl))) rfl))
noncomputable def GQ{R:Type}(L:Nat)(b a:Int)(c:Bool)(h:Int->Option R):Option R:=cond c (vl (A1 (w8 b (700:Int))) λf=>Ew L f a (λd=>h d)) (vl (A1 (w8 b (2:Int))) λg=>Ew L g a (λe=>h e))
theorem Bf5(e:Code)(a:AE (R:=PV × List Blk × Z) L Q Y s e)(c b:Int)(d:Bool):A9 (V5 L) Q Y (cd [] (G2 [1,1] e Mq)) ⟨[pI c,pI b,pB d]++tps 28,[],s⟩ (F5 (V5 L) ab9)=GQ L c b d (λi=>some (pI i,[],s)):=by unfold GQ;exact let h:=(F5 (V5 L) ab9);(d8 (by kernel_rfl) (A0 (A2 λf=>((a h f b).trans (by kernel_rfl))) (A2 λg=>((a h g b).trans (by kernel_rfl)))))
theorem Bf6(d:Nat)(delta0 count1 first2):evC (V5 L) (d+1) Z Y 170 [pI delta0,pI count1,pB first2] [] s=GQ L delta0 count1 first2 (λa=>some (pI a,[],s)):=
 (evE (fn:=ab9) (by kernel_rfl)).trans (d8 (by kernel_rfl) (Bf5 L (evC (V5 L) d) Y s (cd [1,1] Mq) (RF L (evC (V5 L) d) Y s) delta0 count1 first2))
noncomputable def Ag2(L:Nat):Cfg:=B7 L [183] (A4 []) [] (A4 [(3,[2]),(2,[2]),(1,[0,3]),(0,[0])]) [] (A4 []) (some [2]) [] [] []
noncomputable def Ch5{R:Type}(L:Nat)(a:Int)(d:Int->Option R):Option R:=cond (ltI a 26) (vl (wu8 (A1 ((97:Int)+a))) λb=>d b) (vl (A1 ((A1 ((48:Int)+a))-26)) λc=>d (wu8 c))
theorem Ch6(d:Nat)(d0):evC (Ag2 L) (d+1) Z Y 183 [pI d0] [] s=Ch5 L d0 (λa=>some (p8 a,[],s)):=by refine(evE (fn:=Tryz.f183) (by kernel_rfl)).trans ?_;generalize evC (Ag2 L) d=Q;unfold Ch5;kernel_rfl
noncomputable abbrev Qs:Code:=C8 ac1
noncomputable def Hr(L:Nat):Cfg:=B7 L [189] (A4 []) [] (A4 [(7,[2]),(2,[2]),(4,[2]),(6,[2]),(5,[0,22]),(3,[0,12]),(1,[0,2]),(0,[0])]) [] (A4 [(0,[])]) (some [2]) [] [] []
noncomputable def Un{R:Type}(a:Int)(g:Bool)(e:Int->Option R)(f:Int->Bool->Option R):Option R:=cond g (vl (A1 (wu8 (a-65))) λb=>e b) (cond (not (ltI a 48)) (cond (not (ltI 57 a)) (vl (A1 (wu8 (a-48))) λc=>vl (A1 (c+26)) λd=>e d) (f a (not (ltI 57 a)))) (f a false))
abbrev LE(b:Code):Prop:=∀(k:Out->St Z->Option R) a c,A9 (Hr L) Q Y b ⟨gp [(0,p8 a),(12,pB c)] 20,[],s⟩ k=Un a c (λn0=>k .ret ⟨gp [(2,pI n0)] 31,[],s⟩) (λa c=>k .normal ⟨gp [(0,p8 a),(22,pB c)] 10,[],s⟩)
theorem Ap1:LE (R:=R) L Q Y s (cd [1,0,0,1,1,1] Qs):=by intro k a b;unfold Un;kernel_rfl
noncomputable def Uo{R:Type}(a:Int)(l:Bool)(f:Int->Option R)(j:Int->Bool->Option R):Option R:=cond l (vl (A1 (wu8 (a-97))) λg=>f g) (cond (not (ltI a 65)) (Un a (not (ltI 90 a)) (λh=>f h) (λb c=>j b c)) (Un a false (λi=>f i) (λd e=>j d e)))
abbrev Yq(b:Code):Prop:=∀(k:Out->St Z->Option R) a c,A9 (Hr L) Q Y b ⟨gp [(0,p8 a),(2,pB c)] 30,[],s⟩ k=Uo a c (λn0=>k .ret ⟨gp [(2,pI n0)] 31,[],s⟩) (λa c=>k .normal ⟨gp [(0,p8 a),(22,pB c)] 10,[],s⟩)
theorem Ap2(a:Code)(b:LE (R:=R) L Q Y s a):Yq (R:=R) L Q Y s (cd [1,0,0,1] (G2 [1,0,0,1,1,1] a Qs)):=by intro k c d;unfold Uo;simp only[<-b k];kernel_rfl
theorem Ap3:Yq (R:=R) L Q Y s (cd [1,0,0,1] Qs):=by intro k a b;exact d8 (by kernel_rfl) (Ap2 L Q Y s (cd [1,0,0,1,1,1] Qs) (Ap1 L Q Y s) k a b)
noncomputable def Bz8{R:Type}(L:Nat)(c:Int)(d:Int->Option R):Option R:=cond (not (ltI c 97)) (Uo c (not (ltI 122 c)) (λa=>d a) (λe f=>d (-1))) (Uo c false (λb=>d b) (λg h=>d (-1)))
theorem Ci6(b:Code)(a:Yq (R:=PV × List Blk × Z) L Q Y s b)(c:Int):A9 (Hr L) Q Y (cd [] (G2 [1,0,0,1] b Qs)) ⟨[p8 c]++tps 33,[],s⟩ (F5 (Hr L) ac1)=Bz8 L c (λe=>some (pI e,[],s)):=by unfold Bz8;exact let d:=(E3 0 (E2 (Hr L) Q Y (cd [1,1] Qs) (F5 (Hr L) ac1)));(d8 (by kernel_rfl) (A0 ((a d c (not (ltI 122 c))).trans (by kernel_rfl)) ((a d c false).trans (by kernel_rfl))))
theorem Ci7(d:Nat)(b0):evC (Hr L) (d+1) Z Y 189 [p8 b0] [] s=Bz8 L b0 (λa=>some (pI a,[],s)):=
 (evE (fn:=ac1) (by kernel_rfl)).trans (d8 (by kernel_rfl) (Ci6 L (evC (Hr L) d) Y s (cd [1,0,0,1] Qs) (Ap3 L (evC (Hr L) d) Y s) b0))
end
section
variable {Z R : Type} (L : Nat) (Q : F6) (Y : Yh Z) (s : Z) (k : Out -> St Z -> Option R)
noncomputable def Ag0(L:Nat):Cfg:=B7 L [79] (A4 []) [] (A4 [(1,[4]),(0,[0,0])]) [] (A4 []) (some [4]) [] [] []
noncomputable def Cg0{R:Type}(L:Nat)(c a:By)(d:Bool->Option R):Option R:=cond (not (ltI (c.length:Int) (a.length:Int))) (cond (I5 0 (a.length:Int) c.length) (vl (cut c 0 (a.length:Int)) λb=>d (b==a)) none) (d false)
theorem Cg1(d:Nat)(s0 prefix1):evC (Ag0 L) (d+1) Z Y 79 [pS s0,pS prefix1] [] s=Cg0 L s0 prefix1 (λa=>some (pB a,[],s)):=by refine(evE (fn:=Tryz.f79) (by kernel_rfl)).trans ?_;generalize evC (Ag0 L) d=Q;unfold Cg0;kernel_rfl
noncomputable def Af8(L:Nat):Cfg:=B7 L [59] (A4 []) [(79,NB)] (A4 [(1,[4]),(0,[0,0])]) [79] (A4 []) (some [4]) [] [] []
noncomputable def Rj{R:Type}(L:Nat)(b a:By)(c:Bool->Option R):Option R:=cond (A3 b.length) (c (j2 a b)) none
theorem Ce6(d:Nat)(s0 prefix1):evC (Af8 L) (d+1) Z Y 59 [pS s0,pS prefix1] [] s=Rj L s0 prefix1 (λa=>some (pB a,[],s)):=by refine(evE (fn:=Tryz.f59) (by kernel_rfl)).trans ?_;generalize evC (Af8 L) d=Q;unfold Rj;kernel_rfl
noncomputable def Ag1(L:Nat):Cfg:=B7 L [93] (A4 []) [] (A4 [(1,[4]),(0,[0,0])]) [] (A4 []) (some [4]) [] [] []
noncomputable def Cg2{R:Type}(L:Nat)(b a:By)(e:Bool->Option R):Option R:=cond (not (ltI (b.length:Int) (a.length:Int))) (vl (A1 ((b.length:Int)-(a.length:Int))) λc=>cond (I5 c (b.length:Int) b.length) (vl (cut b c (b.length:Int)) λd=>e (d==a)) none) (e false)
theorem Cg3(d:Nat)(s0 suffix1):evC (Ag1 L) (d+1) Z Y 93 [pS s0,pS suffix1] [] s=Cg2 L s0 suffix1 (λa=>some (pB a,[],s)):=by refine(evE (fn:=Tryz.f93) (by kernel_rfl)).trans ?_;generalize evC (Ag1 L) d=Q;unfold Cg2;kernel_rfl
noncomputable def PL(L:Nat):Cfg:=B7 L [137] (A4 []) [(93,Bq2)] (A4 [(3,[4]),(2,[4]),(1,[0,0,5]),(0,[0,0])]) [93] (A4 []) (some [4]) [] [] []
noncomputable def A66{R:Type}(L:Nat)(b a:By)(d:By->Option R):Option R:=cond (A3 b.length) (cond (ac5 a b) (vl (A1 ((b.length:Int)-(a.length:Int))) λc=>cond (I5 0 c b.length) (d (cut b 0 c)) none) (d b)) none
theorem Bx6(d:Nat)(s0 suffix1):evC (PL L) (d+1) Z Y 137 [pS s0,pS suffix1] [] s=A66 L s0 suffix1 (λa=>some (pS a,[],s)):=by refine(evE (fn:=Tryz.f137) (by kernel_rfl)).trans ?_;generalize evC (PL L) d=Q;unfold A66;kernel_rfl
noncomputable def PS(L:Nat):Cfg:=B7 L [107] (A4 []) [(137,A23)] (A4 [(1,[4]),(0,[0,0])]) [137] (A4 []) (some [4]) [] [] []
noncomputable def A91{R:Type}(L:Nat)(b a:By)(c:By->Option R):Option R:=cond (A3 b.length) (c (TA b a)) none
theorem B50(d:Nat)(s0 suffix1):evC (PS L) (d+1) Z Y 107 [pS s0,pS suffix1] [] s=A91 L s0 suffix1 (λa=>some (pS a,[],s)):=by refine(evE (fn:=Tryz.f107) (by kernel_rfl)).trans ?_;generalize evC (PS L) d=Q;unfold A91;kernel_rfl
noncomputable def PI(L:Nat):Cfg:=B7 L [74] (A4 []) [(79,NB)] (A4 [(3,[4,0]),(2,[4,0]),(1,[0,0,7]),(0,[0,0])]) [79] (A4 []) (some [4,0]) [] [] []
noncomputable def A61{R:Type}(L:Nat)(b a:By)(d:By->Bool->Option R):Option R:=cond (A3 b.length) (cond (not (j2 a b)) (d b false) (cond (I5 (a.length:Int) (b.length:Int) b.length) (vl (cut b (a.length:Int) (b.length:Int)) λc=>d c true) none)) none
theorem Bx1(d:Nat)(s0 prefix1):evC (PI L) (d+1) Z Y 74 [pS s0,pS prefix1] [] s=A61 L s0 prefix1 (λa b=>some (.tup [pS a,pB b],[],s)):=by refine(evE (fn:=Tryz.f74) (by kernel_rfl)).trans ?_;generalize evC (PI L) d=Q;unfold A61;kernel_rfl
noncomputable def Af4(L:Nat):Cfg:=B7 L [57] (A4 []) [(74,A20)] (A4 [(1,[4,0]),(0,[0,0])]) [74] (A4 []) (some [4,0]) [] [] []
noncomputable def Cb4{R:Type}(L:Nat)(b a:By)(c:By->Bool->Option R):Option R:=cond (A3 b.length) (c (Fl b a) (j2 a b)) none
theorem Cb5(d:Nat)(s0 prefix1):evC (Af4 L) (d+1) Z Y 57 [pS s0,pS prefix1] [] s=Cb4 L s0 prefix1 (λa b=>some (.tup [pS a,pB b],[],s)):=by refine(evE (fn:=Tryz.f57) (by kernel_rfl)).trans ?_;generalize evC (Af4 L) d=Q;unfold Cb4;kernel_rfl
noncomputable abbrev UI:Code:=C8 ad7
noncomputable def Cx(L:Nat):Cfg:=B7 L [138] (A4 [(11,[0,0,0,0,4,0,0])]) [(165,Ik),(166,Ad3),(154,DT)] (A4 [(18,[8]),(17,[9,0]),(16,[0,0,0,0,5,0]),(15,[0,0,0,0,5,0]),(14,[0,0,0,0,5,0,0]),(13,[0,0,0,0,5,0,0,29]),(12,[0,0,0,0,5,0,0]),(11,[0,0,0,0,5,0,25]),(10,[0,0,0,0,5,0]),(9,[0,0,0,0,5]),(8,[0,0,0,0,5]),(7,[0,0,0,0]),(6,[0,0,0,0]),(5,[0,0,0,0,16]),(4,[8]),(3,[0,0,0,0,11]),(2,[8]),(1,[0,0,0,0,9]),(0,[0,0,0,0])]) [166,154] (A4 [(0,[0,8,0]),(1,[0,0,0,0,5,0])]) (some [8]) [] [] []
noncomputable def Ak{R:Type}(L n:Nat)(c b:By)(a l d:Int)(g:LL)(j:By->Int->LL->Option R):Option R:=match n with|0=>none|n+1=>cond (ltI d l) (cond (A3 c.length) (cond (ltI (o8 c b) (0:Int)) (j c d g) (vl (A1 ((o8 c b)+a)) λe=>cond (I5 0 e c.length) (cond (inR d g.length) (cond (decide ((b9 d)<g.length)) (vl (t7 g (b9 d) (F3 (b8 g (b9 d) []) 0 [(SV.str (cut c 0 e))])) λh=>vl (A1 ((o8 c b)+(b.length:Int))) λf=>cond (I5 f (c.length:Int) c.length) (vl (cut c f (c.length:Int)) λi=>Ak L n i b a l (A1 (d+1)) h j) none) none) none) none)) none) (j c d g)
theorem Tq(n a sep1 sepSave2 n3 i4 l5):C9 1 ((Cx L).keep 11) (bd (Cx L) Q Y (cd [1,1,1,1,1,1,1,1,0,0,0] UI)) n ⟨gp [(0,pS a),(0,pS sep1),(0,pI sepSave2),(0,pI n3),(5,.fl 0),(0,pI i4)] 55,[.arr false 9 1 l5],s⟩ k =
 Ak L n a sep1 sepSave2 n3 i4 l5 (λa b d=>k (.exit 0) ⟨gp [(0,pS a),(8,.fl 0),(0,pI b)] 55,[.arr false 9 1 d],s⟩):=by
 induction n generalizing a sep1 sepSave2 n3 i4 l5 with
 | zero=>rfl
 | succ n c=>rw[Ak];simp only[<-c];kernel_rfl
noncomputable def FQ{R:Type}(L:Nat)(t d:By)(a u:Int)(w:Unit->Option R)(v:Nat->LL->Option R):Option R:=cond (u==0) (w ()) (cond (d==[]) none (cond (ltI u 0) (cond (d.length==1) (vl (↑(List.count (b8 d 0 0) t):Int) λn=>vl (A1 ((t.length:Int)+1)) λo=>vl (if (o<(A1 (n+1))) then o else (A1 (n+1))) λg=>cond (((decide ((0:Int)<=g))&&(decide (g<=g)))&&(F2 (b9 g))) (Ak L L t d a (A1 (g-1)) 0 (d7 (b9 g) [(SV.str ([]:List UInt8))]) (λq b e=>cond (inR b e.length) (cond (decide ((b9 b)<e.length)) (vl (t7 e (b9 b) (F3 (b8 e (b9 b) []) 0 [(SV.str q)])) λi=>vl (A1 (b+1)) λl=>cond (I5 0 l i.length) (v ((b9 l)-0) i) none) none) none)) none) none) (vl (A1 ((t.length:Int)+1)) λp=>vl (if (p<u) then p else u) λh=>cond (((decide ((0:Int)<=h))&&(decide (h<=h)))&&(F2 (b9 h))) (Ak L L t d a (A1 (h-1)) 0 (d7 (b9 h) [(SV.str ([]:List UInt8))]) (λr c f=>cond (inR c f.length) (cond (decide ((b9 c)<f.length)) (vl (t7 f (b9 c) (F3 (b8 f (b9 c) []) 0 [(SV.str r)])) λj=>vl (A1 (c+1)) λm=>cond (I5 0 m j.length) (v ((b9 m)-0) j) none) none) none)) none)))
theorem KL(d:Nat)(s0 sep1 sepSave2 n3):evC (Cx L) (d+1) Z Y 138 [pS s0,pS sep1,pI sepSave2,pI n3] [] s=FQ L s0 sep1 sepSave2 n3 (λ_=>some (.fl 0,[.arr true 9 1 []],s)) (λc f=>some (.vw 0 0 c,[.arr false 9 1 f],s)):=by refine(evE (fn:=ad7) (by kernel_rfl)).trans ?_;generalize evC (Cx L) d=Q;unfold FQ;exact let e:=(E3 0 (E2 (Cx L) Q Y (cd [1,1,1,1,1,1,1,1,1] UI) (F5 (Cx L) ad7)));(d8 (by kernel_rfl) (A0 rfl (A0 rfl (A0 (A0 (A2 λg=>(A2 λh=>(A2 λa=>(A0 ((Tq L Q Y s e L s0 sep1 sepSave2 (A1 (a-1)) 0 (d7 (b9 a) [(SV.str ([]:List UInt8))])).trans (by kernel_rfl)) rfl)))) rfl) (A2 λi=>(A2 λb=>(A0 ((Tq L Q Y s e L s0 sep1 sepSave2 (A1 (b-1)) 0 (d7 (b9 b) [(SV.str ([]:List UInt8))])).trans (by kernel_rfl)) rfl)))))))
noncomputable def EQ(L:Nat):Cfg:=B7 L [109] (A4 []) [(138,TV)] (A4 [(1,[4]),(0,[0,0])]) [] (A4 []) (some [4]) [] [] []
noncomputable def SU{R:Type}(L:Nat)(c a:By)(d:LL->Option R):Option R:=cond (A3 c.length) (cond (a.length==1) (cond ((0:Int)==0) (cond (((-1):Int)==((-1):Int)) (vl (D4 (pcs (b8 a 0 0) c)) λb=>d b) none) none) none) none
theorem Bl5(d:Nat)(s0 sep1):evC (EQ L) (d+1) Z Y 109 [pS s0,pS sep1] [] s=SU L s0 sep1 (λa=>some (.s (.sl false false 1 a),[],s)):=by refine(evE (fn:=Tryz.f109) (by kernel_rfl)).trans ?_;generalize evC (EQ L) d=Q;unfold SU;kernel_rfl
noncomputable abbrev Bs4:Code:=C8 af0
noncomputable def Qy(L:Nat):Cfg:=B7 L [56] (A4 [(3,[0,1,0,6,0])]) [] (A4 [(10,[2]),(9,[0,2,6,0]),(8,[0,2,6,0]),(7,[0,2,1,4,0]),(6,[0,2,1,4,0,10]),(5,[0,2,1,4,0]),(4,[0,2,0,5,0]),(3,[0,2,6,0,0]),(2,[0,2,6,0]),(1,[0,2]),(0,[0])]) [] (A4 [(0,[3]),(1,[0,2,6,0])]) (some [2]) [] [] []
noncomputable def Ea{R:Type}(L n:Nat)(b:By)(e a:Int)(c:LL)(d:LL->Option R):Option R:=match n with|0=>none|n+1=>cond (ltI a e) (cond (inR a b.length) (cond (not (ltI (bAt b a) (65:Int))) (cond (not (ltI 90 (bAt b a))) (vl (wu8 ((bAt b a)+32)) λf=>cond (F2 (c.length+1)) (Ea L n b e (A1 (a+1)) (c++[[(SV.int .u8 f)]]) d) none) (cond (F2 (c.length+1)) (Ea L n b e (A1 (a+1)) (c++[[(SV.int .u8 (bAt b a))]]) d) none)) (cond (F2 (c.length+1)) (Ea L n b e (A1 (a+1)) (c++[[(SV.int .u8 (bAt b a))]]) d) none)) none) (d c)
theorem Al5(n s0 n1 n2 l3):C9 1 ((Qy L).keep 3) (bd (Qy L) Q Y (cd [1,1,0,1,0,0] Bs4)) n ⟨gp [(0,pS s0),(2,.fl 0),(6,pI n1),(0,pI n2)] 20,[.arr false 5 1 l3],s⟩ k =
 Ea L n s0 n1 n2 l3 (λb=>k (.exit 0) ⟨gp [(3,.fl 0)] 28,[.arr false 5 1 b],s⟩):=by
 induction n generalizing s0 n1 n2 l3 with
 | zero=>rfl
 | succ n a=>rw[Ea];simp only[<-a];kernel_rfl
noncomputable def Cf8{R:Type}(L:Nat)(b:By)(c:By->LL->Option R):Option R:=cond ((decide ((0:Int)<=(b.length:Int)))&&(F2 (b9 (b.length:Int)))) (Ea L L b (b.length:Int) 0 [] (λa=>cond (o0 a Mb) (c (j8 Kd a) a) none)) none
theorem Cf9(d:Nat)(s0):evC (Qy L) (d+1) Z Y 56 [pS s0] [] s=Cf8 L s0 (λb a=>some (pS b,[.arr false 5 1 a],s)):=by refine(evE (fn:=af0) (by kernel_rfl)).trans ?_;generalize evC (Qy L) d=Q;unfold Cf8;exact(d8 (by kernel_rfl) (A0 ((Al5 L Q Y s (E3 0 (E2 (Qy L) Q Y (cd [1,1,1] Bs4) (F5 (Qy L) af0))) L s0 (s0.length:Int) 0 []).trans (by kernel_rfl)) rfl))
noncomputable def Af6(L:Nat):Cfg:=B7 L [122] (A4 []) [(59,CO)] (A4 [(1,[2]),(0,[0])]) [59] (A4 []) (some [2]) [] [] []
noncomputable def Ce1{R:Type}(L:Nat)(a:By)(b:Bool->Option R):Option R:=cond (A3 a.length) (cond (j2 ([48,120]:List UInt8) a) (b true) (cond (A3 a.length) (b (j2 ([48,88]:List UInt8) a)) none)) none
theorem Ce2(d:Nat)(s0):evC (Af6 L) (d+1) Z Y 122 [pS s0] [] s=Ce1 L s0 (λa=>some (pB a,[],s)):=by refine(evE (fn:=Tryz.f122) (by kernel_rfl)).trans ?_;generalize evC (Af6 L) d=Q;unfold Ce1;kernel_rfl
noncomputable abbrev Dn:Code:=C8 ab4
noncomputable def U6(L:Nat):Cfg:=B7 L [124] (A4 [(3,[0,0,2,0,0,4,0])]) [] (A4 [(18,[4,0]),(17,[0,0,4,4,0]),(16,[0,0,4,4,0]),(15,[4,0]),(14,[0,0,4,1,2,0,39]),(9,[0,0,4,1,2,0]),(11,[0,0,4,1,2,0]),(13,[0,0,4,1,2,0]),(7,[4,0]),(12,[0,0,4,2,1,0,26]),(10,[0,0,4,2,1,0,15]),(8,[0,0,4,2,1,0,5]),(6,[0,0,4,2,1,0]),(5,[0,0,4,0,3,0]),(4,[0,0,4,0,3,0]),(3,[0,0,4,4,0,0]),(2,[0,0,4,4,0]),(1,[0,0,4]),(0,[0,0])]) [] (A4 [(0,[6]),(1,[0,0,4,4,0]),(2,[0,0,4,1,2,0])]) (some [4,0]) [] [] []
noncomputable def Ta{R:Type}(m:By)(a i b j l:Int)(n:Bool)(g:By->Int->Int->Int->Int->Int->Option R)(h:Unit->Option R):Option R:=cond n (vl (A1 (wu8 (b-97))) λc=>vl (A1 (c+10)) λd=>g m a i d j l) (cond (not (ltI b 65)) (cond (not (ltI 70 b)) (vl (A1 (wu8 (b-65))) λe=>vl (A1 (e+10)) λf=>g m a i f j l) (h ())) (h ()))
abbrev KF(b:Code):Prop:=∀(k:Out->St Z->Option R) f a c b3 d e b6,A9 (U6 L) Q Y b ⟨gp [(0,pS f),(0,pI a),(4,pI c),(2,p8 b3),(1,pI d),(0,pI e),(15,pB b6)] 32,[],s⟩ k=Ta f a c b3 d e b6 (λf a c g d e=>k .normal ⟨gp [(0,pS f),(0,pI a),(4,pI c),(1,pI g),(2,pI d),(0,pI e)] 48,[],s⟩) (λ_=>k .ret ⟨gp [(4,pI (0:Int)),(0,pB false)] 55,[],s⟩)
theorem Ah6:KF (R:=R) L Q Y s (cd [1,1,0,1,0,0,1,1,0,0,1,1,0,1,0,1,1,1] Dn):=by intro k g a d b e f c;unfold Ta;kernel_rfl
noncomputable def Tb{R:Type}(v:By)(a q d r t:Int)(x:Bool)(m:By->Int->Int->Int->Int->Int->Option R)(w:Unit->Option R):Option R:=cond x (vl (A1 (wu8 (d-48))) λn=>m v a q n r t) (cond (not (ltI d 97)) (Ta v a q d r t (not (ltI 102 d)) (λu c o l p f=>m u c o l p f) (λ_=>w ())) (Ta v a q d r t false (λj b g e h i=>m j b g e h i) (λ_=>w ())))
abbrev On(b:Code):Prop:=∀(k:Out->St Z->Option R) f a c b3 d e b6,A9 (U6 L) Q Y b ⟨gp [(0,pS f),(0,pI a),(4,pI c),(2,p8 b3),(1,pI d),(0,pI e),(5,pB b6)] 42,[],s⟩ k=Tb f a c b3 d e b6 (λf a c g d e=>k .normal ⟨gp [(0,pS f),(0,pI a),(4,pI c),(1,pI g),(2,pI d),(0,pI e)] 48,[],s⟩) (λ_=>k .ret ⟨gp [(4,pI (0:Int)),(0,pB false)] 55,[],s⟩)
theorem Ah7(a:Code)(b:KF (R:=R) L Q Y s a):On (R:=R) L Q Y s (cd [1,1,0,1,0,0,1,1,0,0,1,1,0,1,0,1] (G2 [1,1,0,1,0,0,1,1,0,0,1,1,0,1,0,1,1,1] a Dn)):=by intro k i c f d g h e;unfold Tb;simp only[<-b k];kernel_rfl
theorem Ah8:On (R:=R) L Q Y s (cd [1,1,0,1,0,0,1,1,0,0,1,1,0,1,0,1] Dn):=by intro k g a d b e f c;exact d8 (by kernel_rfl) (Ah7 L Q Y s (cd [1,1,0,1,0,0,1,1,0,0,1,1,0,1,0,1,1,1] Dn) (Ah6 L Q Y s) k g a d b e f c)
noncomputable def Tc{R:Type}(j:By)(a g d h i:Int)(e:Unit->Option R)(f:By->Int->Int->Int->Int->Option R):Option R:=cond (not (ltI d a)) (e ()) (vl (A1 ((A1 (g*a))+d)) λb=>vl (if ((1099511627776:Int)<b) then (1099511627776:Int) else b) λc=>f j a c h i)
abbrev Xr(b:Code):Prop:=∀(k:Out->St Z->Option R) e a c d3 d n5,A9 (U6 L) Q Y b ⟨gp [(0,pS e),(0,pI a),(4,pI c),(1,pI d3),(2,pI d),(0,pI n5)] 48,[],s⟩ k=Tc e a c d3 d n5 (λ_=>k .ret ⟨gp [(4,pI (0:Int)),(0,pB false)] 55,[],s⟩) (λe a c f d=>k .normal ⟨gp [(0,pS e),(0,pI a),(4,pI c),(4,pI f),(0,pI d)] 48,[],s⟩)
theorem Ah9:Xr (R:=R) L Q Y s (cd [1,1,0,1,0,0,1,1,0,0,1,1,1] Dn):=by intro k f a c b d e;unfold Tc;kernel_rfl
noncomputable def Gw{R:Type}(L n:Nat)(g:By)(e H I f:Int)(h:Unit->Option R)(G:Int->Option R):Option R:=match n with|0=>none|n+1=>cond (ltI f I) (cond (inR f g.length) (cond (not (ltI (bAt g f) (48:Int))) (Tb g e H (bAt g f) I f (not (ltI 57 (bAt g f))) (λB a l i m o=>Tc B a l i m o (λ_=>h ()) (λC b p q r=>vl (A1 (r+1)) λt=>Gw L n C b p q t h G)) (λ_=>h ())) (Tb g e H (bAt g f) I f false (λD c u j v w=>Tc D c u j v w (λ_=>h ()) (λF d x y z=>vl (A1 (z+1)) λA=>Gw L n F d x y A h G)) (λ_=>h ()))) none) (G H)
theorem Ai0(b:Code)(d:On (R:=R) L Q Y s b)(a:Code)(e:Xr (R:=R) L Q Y s a)(n:Nat)(l:By)(c C D j:Int):C9 0 ((U6 L).keep 3) (bd (U6 L) Q Y (cd [1,1,0,1,0,0] (G2 [1,1,0,1,0,0,1,1,0,0,1,1,1] a (G2 [1,1,0,1,0,0,1,1,0,0,1,1,0,1,0,1] b Dn)))) n ⟨gp [(0,pS l),(0,pI c),(4,pI C),(4,pI D),(0,pI j)] 48,[],s⟩ k =
 Gw L n l c C D j (λ_=>k .ret ⟨gp [(4,pI (0:Int)),(0,pB false)] 55,[],s⟩) (λn0=>k (.exit 0) ⟨gp [(6,pI n0)] 54,[],s⟩):=by
 induction n generalizing l c C D j with
 | zero=>rfl
 | succ n M=>rw[Gw];exact let J:=(E3 1 (E2 (U6 L) Q Y (cd [1,1,0,1,0,0,1,1,1] Dn) (lpK 0 ((U6 L).keep 3) (bd (U6 L) Q Y (cd [1,1,0,1,0,0] (G2 [1,1,0,1,0,0,1,1,0,0,1,1,1] a (G2 [1,1,0,1,0,0,1,1,0,0,1,1,0,1,0,1] b Dn)))) n k)));let K:=(E3 2 (E2 (U6 L) Q Y a J));(d8 (by kernel_rfl) (A0 (A0 (A0 ((d K l c C (bAt l j) D j (not (ltI 57 (bAt l j)))).trans (congr (congr rfl (fx6 λF f p m q r=>(d8 (by kernel_rfl) ((e J F f p m q r).trans (congr (congr rfl (by kernel_rfl)) (fx5 λG g t u N=>(d8 (by kernel_rfl) (A2 λv=>(M G g t u v))))))))) (by kernel_rfl))) ((d K l c C (bAt l j) D j false).trans (congr (congr rfl (fx6 λH h w o x y=>(d8 (by kernel_rfl) ((e J H h w o x y).trans (congr (congr rfl (by kernel_rfl)) (fx5 λI i z A O=>(d8 (by kernel_rfl) (A2 λB=>(M I i z A B))))))))) (by kernel_rfl)))) rfl) rfl))
noncomputable def Bu4{R:Type}(L:Nat)(d:By)(a:Int)(c:Int->Bool->Option R):Option R:=Gw L L d a 0 (d.length:Int) 0 (λ_=>c 0 false) (λb=>c b true)
theorem Cc2(a:Code)(d:On (R:=PV × List Blk × Z) L Q Y s a)(b:Code)(e:Xr (R:=PV × List Blk × Z) L Q Y s b)(f:By)(c:Int):A9 (U6 L) Q Y (cd [] (G2 [1,1,0,1,0,0,1,1,0,0,1,1,1] b (G2 [1,1,0,1,0,0,1,1,0,0,1,1,0,1,0,1] a Dn))) ⟨[pS f,pI c]++tps 59,[],s⟩ (F5 (U6 L) ab4)=Bu4 L f c (λg h=>some (.tup [pI g,pB h],[],s)):=by unfold Bu4;exact(d8 (by kernel_rfl) ((Ai0 L Q Y s (E3 0 (E2 (U6 L) Q Y (cd [1,1,1] Dn) (F5 (U6 L) ab4))) a d b e L f c 0 (f.length:Int) 0).trans (by kernel_rfl)))
theorem Cc3(d:Nat)(s0 base1):evC (U6 L) (d+1) Z Y 124 [pS s0,pI base1] [] s=Bu4 L s0 base1 (λa b=>some (.tup [pI a,pB b],[],s)):=
 (evE (fn:=ab4) (by kernel_rfl)).trans (d8 (by kernel_rfl) (Cc2 L (evC (U6 L) d) Y s (cd [1,1,0,1,0,0,1,1,0,0,1,1,0,1,0,1] Dn) (Ah8 L (evC (U6 L) d) Y s) (cd [1,1,0,1,0,0,1,1,0,0,1,1,1] Dn) (Ah9 L (evC (U6 L) d) Y s) s0 base1))
noncomputable def Bt6(L:Nat):Cfg:=B7 L [123] (A4 []) [(122,Ac0),(124,MJ)] (A4 [(7,[2,0]),(2,[2,0]),(4,[2,0]),(6,[2,0]),(5,[0,14]),(3,[0,6]),(1,[0,3]),(0,[0])]) [122,124] (A4 [(0,[0])]) (some [2,0]) [] [] []
noncomputable def num{R:Type}(L:Nat)(a:By)(d:Int->Bool->Option R):Option R:=cond (a==[]) (d 0 false) (cond (A3 a.length) (cond (Bb a) (cond (I5 2 (a.length:Int) a.length) (vl (cut a 2 (a.length:Int)) λb=>cond (A3 b.length) (cond (ltN 16 17) (vl (↑(L9 (E5 16 0 b)):Int) λe=>d e (f6 (E5 16 0 b))) none) none) none) (cond (ltI 1 (a.length:Int)) (cond (inR 0 a.length) (cond ((bAt a (0:Int))==48) (cond (I5 1 (a.length:Int) a.length) (vl (cut a 1 (a.length:Int)) λc=>cond (A3 c.length) (cond (ltN 8 17) (vl (↑(L9 (E5 8 0 c)):Int) λf=>d f (f6 (E5 8 0 c))) none) none) none) (cond (A3 a.length) (cond (ltN 10 17) (vl (↑(L9 (E5 10 0 a)):Int) λg=>d g (f6 (E5 10 0 a))) none) none)) none) (cond (A3 a.length) (cond (ltN 10 17) (vl (↑(L9 (E5 10 0 a)):Int) λh=>d h (f6 (E5 10 0 a))) none) none))) none)
theorem Cw3(d:Nat)(s0):evC (Bt6 L) (d+1) Z Y 123 [pS s0] [] s=num L s0 (λa b=>some (.tup [pI a,pB b],[],s)):=by refine(evE (fn:=Tryz.f123) (by kernel_rfl)).trans ?_;generalize evC (Bt6 L) d=Q;unfold num;kernel_rfl
noncomputable def PM(L:Nat):Cfg:=B7 L [121] (A4 []) [(109,Sq)] (A4 [(5,[2]),(4,[3]),(3,[3,0,13]),(2,[3,0]),(1,[3]),(0,[0])]) [] (A4 []) (some [2]) [] [] []
noncomputable def parts{R:Type}(L:Nat)(e:By)(c:LL->Option R):Option R:=cond (A3 e.length) (cond (1==1) (vl (D4 (pcs (b8 ([46]:List UInt8) 0 0) e)) λa=>vl (A1 ((a.length:Int)-1)) λb=>cond (ltI 0 b) (cond (inR b a.length) (cond (okE Ps a (b9 b) 0) (vl (gX a (b9 b) 0) λd=>cond (d==[]) (cond (I5 0 b a.length) (c (cut a 0 b)) none) (c a)) none) none) (c a)) none) none
theorem Bz2(d:Nat)(s0):evC (PM L) (d+1) Z Y 121 [pS s0] [] s=parts L s0 (λa=>some (.s (.sl false false 1 a),[],s)):=by refine(evE (fn:=Tryz.f121) (by kernel_rfl)).trans ?_;generalize evC (PM L) d=Q;unfold parts;kernel_rfl
noncomputable def Xk(L:Nat):Cfg:=B7 L [90] (A4 []) [(121,NI),(122,Ac0),(123,Bq3),(124,MJ)] (A4 [(7,[2]),(6,[4,3]),(5,[2]),(4,[6]),(3,[4,13]),(2,[4]),(1,[3]),(0,[0])]) [122,123,124] (A4 []) (some [2]) [] [] []
noncomputable def BS{R:Type}(L:Nat)(c:By)(d:Bool->Option R):Option R:=cond (A3 c.length) (vl (A1 ((↑(a8 (D4 (C6 c))):Int)-1)) λb=>cond (inR b (a8 (D4 (C6 c)))) (cond (okE Ps (D4 (C6 c)) (b9 b) 0) (vl (gX (D4 (C6 c)) (b9 b) 0) λa=>cond (A3 a.length) (cond (Bb a) (cond (A3 a.length) (vl (↑(L9 (Z4 a)):Int) λe=>d (f6 (Z4 a))) none) (cond (A3 a.length) (cond (ltN 10 17) (vl (↑(L9 (E5 10 0 a)):Int) λf=>cond (f6 (E5 10 0 a)) (d (not (a==[]))) (d false)) none) none)) none) none) none) none
theorem An0(d:Nat)(s0):evC (Xk L) (d+1) Z Y 90 [pS s0] [] s=BS L s0 (λa=>some (pB a,[],s)):=by refine(evE (fn:=Tryz.f90) (by kernel_rfl)).trans ?_;generalize evC (Xk L) d=Q;unfold BS;kernel_rfl
noncomputable abbrev Bs6:Code:=C8 ad4
noncomputable def Ra(L:Nat):Cfg:=B7 L [108] (A4 [(6,[2,0,0,0,10,0,0])]) [(121,NI),(123,Bq3)] (A4 [(20,[2,0]),(19,[4,0,10,0,0]),(18,[4,0,10,0,0]),(17,[2,0]),(16,[4,0,2,1,5,0,0,29]),(15,[4,0,2,1,5,0,0]),(14,[4,0,10,0,0]),(13,[2,0]),(12,[4,0,2,7,0,0,17]),(11,[4,0,2,7,0,0,15]),(10,[2,0]),(9,[4,0,0,1,7,0,0,10]),(8,[4,0,0,1,0,6,0,0]),(7,[4,0,0,0,8,0,0]),(6,[4,0,10,0,0,0]),(5,[4,0,10,0,0]),(4,[4,0]),(3,[2,0]),(2,[4,10]),(1,[4]),(0,[0])]) [123] (A4 [(0,[5]),(1,[4,0,10,0,0])]) (some [2,0]) [] [] []
noncomputable def Hg{R:Type}(L n:Nat)(a:LL)(v1 l d:Int)(e:Unit->Option R)(h:Int->Option R):Option R:=match n with|0=>none|n+1=>cond (ltI d l) (cond (inR d a.length) (cond (okE Ps a (b9 d) 0) (cond (A3 (a8 (gX a (b9 d) 0))) (vl (↑(L9 (Z4 (gX a (b9 d) 0))):Int) λb=>cond (not (f6 (Z4 (gX a (b9 d) 0)))) (e ()) (vl (A1 ((a.length:Int)-1)) λi=>cond (ltI d i) (cond (ltI 255 b) (e ()) (vl (bOr .i64 (Pq .i64 v1 (8:Int)) b) λj=>Hg L n a j l (A1 (d+1)) e h)) (vl (A1 ((5:Int)-(a.length:Int))) λc=>cond (decide ((0:Int)<=(A1 ((8:Int)*c)))) (vl (Pq .i64 (1:Int) (A1 ((8:Int)*c))) λf=>cond (not (ltI b f)) (e ()) (cond (decide ((0:Int)<=(A1 ((8:Int)*c)))) (vl (Pq .i64 v1 (A1 ((8:Int)*c))) λg=>Hg L n a (bOr .i64 g b) l (A1 (d+1)) e h) none)) none))) none) none) none) (h v1)
theorem Ao9(n l0 v1 n2 n3):C9 0 ((Ra L).keep 6) (bd (Ra L) Q Y (cd [1,0,1,1,1,1,0,1,0,0] Bs6)) n ⟨gp [(4,.s (.sl false false 1 l0)),(0,pI v1),(10,.s (.sl false false 1 l0)),(0,pI n2),(0,pI n3)] 38,[],s⟩ k =
 Hg L n l0 v1 n2 n3 (λ_=>k .ret ⟨gp [(2,p32 (0:Int)),(0,pB false)] 53,[],s⟩) (λv0=>k (.exit 0) ⟨gp [(5,pI v0)] 51,[],s⟩):=by
 induction n generalizing l0 v1 n2 n3 with
 | zero=>rfl
 | succ n a=>rw[Hg];simp only[<-a];kernel_rfl
noncomputable def Ci0{R:Type}(L:Nat)(b:By)(c:Int->Bool->Option R):Option R:=cond (A3 b.length) (cond (ltI 4 (↑(a8 (D4 (C6 b))):Int)) (c 0 false) (Hg L L (D4 (C6 b)) 0 (↑(a8 (D4 (C6 b))):Int) 0 (λ_=>c 0 false) (λa=>c (Zj a) true))) none
theorem Ci1(d:Nat)(s0):evC (Ra L) (d+1) Z Y 108 [pS s0] [] s=Ci0 L s0 (λa b=>some (.tup [p32 a,pB b],[],s)):=by refine(evE (fn:=ad4) (by kernel_rfl)).trans ?_;generalize evC (Ra L) d=Q;unfold Ci0;exact(d8 (by kernel_rfl) (A0 (A0 rfl ((Ao9 L Q Y s (E3 0 (E2 (Ra L) Q Y (cd [1,0,1,1,1,1,1] Bs6) (F5 (Ra L) ad4))) L (D4 (C6 s0)) 0 (↑(a8 (D4 (C6 s0))):Int) 0).trans (by kernel_rfl))) rfl))
noncomputable abbrev Cs3:Code:=C8 ae1
noncomputable def ET(L:Nat):Cfg:=B7 L [180] (A4 [(6,[2,0,1,9,0,0])]) [(109,Sq),(124,MJ),(51,Ac2)] (A4 [(13,[2,0]),(12,[5,9,0,0]),(11,[5,9,0,0]),(10,[2,0]),(9,[5,2,6,0,0,19]),(8,[5,1,0,0,5,0,0]),(7,[5,1,7,0,0]),(6,[5,9,0,0,0]),(5,[5,9,0,0]),(4,[4,0]),(3,[2,0]),(2,[4,9]),(1,[4]),(0,[0])]) [124,51] (A4 [(0,[5]),(1,[5,9,0,0])]) (some [2,0]) [] [] []
noncomputable def Sj{R:Type}(L n:Nat)(v0:Int)(c:LL)(h b:Int)(d:Unit->Option R)(g:Int->Option R):Option R:=match n with|0=>none|n+1=>cond (ltI b h) (cond (inR b c.length) (cond (okE Ps c (b9 b) 0) (cond (A3 (a8 (gX c (b9 b) 0))) (cond (ltN 10 17) (vl (↑(L9 (E5 10 0 (gX c (b9 b) 0))):Int) λa=>cond (not (f6 (E5 10 0 (gX c (b9 b) 0)))) (d ()) (cond (ltI 255 a) (d ()) (cond (ltN a 4294967296) (vl (f8 (b9 a)) λf=>cond (not (f==(gX c (b9 b) 0))) (d ()) (vl (bOr .u32 (Pq .u32 v0 (8:Int)) (Zj a)) λe=>Sj L n e c h (A1 (b+1)) d g)) none))) none) none) none) none) (g v0)
theorem Bn5(n v0 l1 n2 n3):C9 0 ((ET L).keep 6) (bd (ET L) Q Y (cd [1,1,1,1,0,1,0,0] Cs3)) n ⟨gp [(5,p32 v0),(9,.s (.sl false false 1 l1)),(0,pI n2),(0,pI n3)] 27,[],s⟩ k =
 Sj L n v0 l1 n2 n3 (λ_=>k .ret ⟨gp [(2,p32 (0:Int)),(0,pB false)] 41,[],s⟩) (λv0=>k (.exit 0) ⟨gp [(5,p32 v0)] 39,[],s⟩):=by
 induction n generalizing v0 l1 n2 n3 with
 | zero=>rfl
 | succ n a=>rw[Sj];simp only[<-a];kernel_rfl
noncomputable def v4p{R:Type}(L:Nat)(d:By)(b:Int->Bool->Option R):Option R:=cond (A3 d.length) (cond (1==1) (vl (D4 (pcs (b8 ([46]:List UInt8) 0 0) d)) λa=>cond ((a.length:Int)!=4) (b 0 false) (Sj L L 0 a (a.length:Int) 0 (λ_=>b 0 false) (λc=>b c true))) none) none
theorem Cy3(d:Nat)(s0):evC (ET L) (d+1) Z Y 180 [pS s0] [] s=v4p L s0 (λb c=>some (.tup [p32 b,pB c],[],s)):=by refine(evE (fn:=ae1) (by kernel_rfl)).trans ?_;generalize evC (ET L) d=Q;unfold v4p;exact(d8 (by kernel_rfl) (A0 (A0 (A2 λa=>(A0 rfl ((Bn5 L Q Y s (E3 0 (E2 (ET L) Q Y (cd [1,1,1,1,1] Cs3) (F5 (ET L) ae1))) L 0 a (a.length:Int) 0).trans (by kernel_rfl)))) rfl) rfl))
noncomputable abbrev Cs2:Code:=C8 af1
noncomputable def ES(L:Nat):Cfg:=B7 L [67] (A4 [(3,[0,1,0,0])]) [(51,Ac2)] (A4 [(6,[2]),(4,[0,2,0]),(5,[0,2,0]),(3,[0,2,0,1]),(2,[0,2,0]),(1,[0,2]),(0,[0])]) [51] (A4 [(0,[3]),(1,[0,2,0])]) (some [2]) [] [] []
noncomputable def Gq{R:Type}(L n:Nat)(v0:Int)(a:By)(e:Int)(f:By->Option R):Option R:=match n with|0=>none|n+1=>cond (not (ltI e 0)) (cond (decide ((0:Int)<=e)) (vl (Ae7 .u32 (SH .u32 v0 e) (255:Int)) λb=>cond (ltN (A1 b) 4294967296) (vl (f8 (b9 (A1 b))) λc=>cond (K8 c.length 1) (vl (c++[46]) λd=>cond (K8 a.length d.length) (Gq L n v0 (a++d) (A1 (e-8)) f) none) none) none) none) (f a)
theorem Bn4(n v0 out1 i2):C9 0 ((ES L).keep 3) (bd (ES L) Q Y (cd [1,1,0,1,0,0] Cs2)) n ⟨gp [(0,p32 v0),(2,pS out1),(0,pI i2)] 18,[],s⟩ k =
 Gq L n v0 out1 i2 (λa=>k (.exit 0) ⟨gp [(3,pS a)] 19,[],s⟩):=by
 induction n generalizing v0 out1 i2 with
 | zero=>rfl
 | succ n b=>rw[Gq];simp only[<-b];kernel_rfl
noncomputable def v4f{R:Type}(L:Nat)(v0:Int)(d:By->Option R):Option R:=Gq L L v0 ([]:List UInt8) 24 (λa=>vl (A1 ((a.length:Int)-1)) λb=>cond (I5 0 b a.length) (vl (cut a 0 b) λc=>d c) none)
theorem Cy2(d:Nat)(v0):evC (ES L) (d+1) Z Y 67 [p32 v0] [] s=v4f L v0 (λa=>some (pS a,[],s)):=by refine(evE (fn:=af1) (by kernel_rfl)).trans ?_;generalize evC (ES L) d=Q;unfold v4f;exact(d8 (by kernel_rfl) ((Bn4 L Q Y s (E3 0 (E2 (ES L) Q Y (cd [1,1,1] Cs2) (F5 (ES L) af1))) L v0 ([]:List UInt8) 24).trans (by kernel_rfl)))
noncomputable abbrev JS:Code:=C8 ad6
noncomputable def Bu(L:Nat):Cfg:=B7 L [117] (A4 [(2,[0,1,0])]) [] (A4 [(6,[2]),(3,[0,2]),(5,[2]),(4,[0,2,15]),(2,[0,2,3]),(1,[0,2]),(0,[0])]) [] (A4 [(0,[0]),(1,[0,2])]) (some [2]) [] [] []
noncomputable def Ae{R:Type}(L n:Nat)(a:By)(b:Int)(c:Unit->Option R)(d:By->Option R):Option R:=match n with|0=>none|n+1=>cond (ltI b (a.length:Int)) (cond (inR b a.length) (cond (ltI (bAt a b) (48:Int)) (c ()) (cond (inR b a.length) (cond (ltI 57 (bAt a b)) (c ()) (Ae L n a (A1 (b+1)) c d)) none)) none) (d a)
theorem IO(n a i1):C9 0 ((Bu L).keep 2) (bd (Bu L) Q Y (cd [1,0,1,0,0] JS)) n ⟨gp [(0,pS a),(2,pI i1)] 18,[],s⟩ k =
 Ae L n a i1 (λ_=>k .ret ⟨gp [(2,pB false)] 19,[],s⟩) (λa=>k (.exit 0) ⟨gp [(0,pS a)] 21,[],s⟩):=by
 induction n generalizing a i1 with
 | zero=>rfl
 | succ n b=>rw[Ae];simp only[<-b];kernel_rfl
noncomputable def BX{R:Type}(L:Nat)(c:By)(b:Bool->Option R):Option R:=Ae L L c 0 (λ_=>b false) (λa=>b (not (a==[])))
theorem Aq1(d:Nat)(s0):evC (Bu L) (d+1) Z Y 117 [pS s0] [] s=BX L s0 (λa=>some (pB a,[],s)):=by refine(evE (fn:=ad6) (by kernel_rfl)).trans ?_;generalize evC (Bu L) d=Q;unfold BX;exact(d8 (by kernel_rfl) ((IO L Q Y s (E3 0 (E2 (Bu L) Q Y (cd [1,1] JS) (F5 (Bu L) ad6))) L s0 0).trans (by kernel_rfl)))
noncomputable abbrev Bs8:Code:=C8 ae9
noncomputable def Rc(L:Nat):Cfg:=B7 L [17] (A4 [(3,[0,1,0,0])]) [] (A4 [(9,[2]),(4,[0,2,0]),(8,[0,2,0]),(7,[0,2,0,0]),(6,[0,2,0,0,14]),(5,[0,2,0,0]),(3,[0,2,0,4]),(2,[0,2,0]),(1,[0,2]),(0,[0])]) [] (A4 [(0,[3]),(1,[0,2,0])]) (some [2]) [] [] []
noncomputable def Ei{R:Type}(L n:Nat)(b:By)(a:Int)(c:LL)(d:LL->Option R):Option R:=match n with|0=>none|n+1=>cond (ltI a (b.length:Int)) (cond (inR a b.length) (cond (not (ltI (bAt b a) (65:Int))) (cond (not (ltI 90 (bAt b a))) (vl (wu8 ((bAt b a)+32)) λe=>cond (F2 (c.length+1)) (Ei L n b (A1 (a+1)) (c++[[(SV.int .u8 e)]]) d) none) (cond (F2 (c.length+1)) (Ei L n b (A1 (a+1)) (c++[[(SV.int .u8 (bAt b a))]]) d) none)) (cond (F2 (c.length+1)) (Ei L n b (A1 (a+1)) (c++[[(SV.int .u8 (bAt b a))]]) d) none)) none) (d c)
theorem As7(n s0 i1 l2):C9 1 ((Rc L).keep 3) (bd (Rc L) Q Y (cd [1,1,0,1,0,0] Bs8)) n ⟨gp [(0,pS s0),(2,.fl 0),(0,pI i1)] 24,[.arr true 5 1 l2],s⟩ k =
 Ei L n s0 i1 l2 (λb=>k (.exit 0) ⟨gp [(3,.fl 0)] 25,[.arr true 5 1 b],s⟩):=by
 induction n generalizing s0 i1 l2 with
 | zero=>rfl
 | succ n a=>rw[Ei];simp only[<-a];kernel_rfl
noncomputable def Cj8{R:Type}(L:Nat)(c:By)(b:By->LL->Option R):Option R:=Ei L L c 0 [] (λa=>cond (o0 a Mb) (b (j8 Kd a) a) none)
theorem Cj9(d:Nat)(s0):evC (Rc L) (d+1) Z Y 17 [pS s0] [] s=Cj8 L s0 (λb a=>some (pS b,[.arr true 5 1 a],s)):=by refine(evE (fn:=ae9) (by kernel_rfl)).trans ?_;generalize evC (Rc L) d=Q;unfold Cj8;exact(d8 (by kernel_rfl) ((As7 L Q Y s (E3 0 (E2 (Rc L) Q Y (cd [1,1,1] Bs8) (F5 (Rc L) ae9))) L s0 0 []).trans (by kernel_rfl)))
noncomputable abbrev UL:Code:=C8 af3
noncomputable def Ff(L:Nat):Cfg:=B7 L [88] (A4 [(4,[0,0,2,0,0,0])]) [] (A4 [(9,[4]),(5,[0,0,3,0,0]),(8,[0,0,3,0,0]),(7,[0,0,3,1]),(6,[0,0,3,0,0,16]),(4,[0,0,3,0,0,3]),(3,[0,0,3,0,0]),(2,[0,0,3,0]),(1,[0,0,3]),(0,[0,0])]) [] (A4 [(0,[5]),(1,[0,0,3,0,0])]) (some [4]) [] [] []
noncomputable def U2{R:Type}(L n:Nat)(c:By)(d a b:Int)(e:LL)(f:LL->Option R):Option R:=match n with|0=>none|n+1=>cond (not (ltI (c.length:Int) b)) (cond (b==(c.length:Int)) (cond (I5 a b c.length) (cond (F2 (e.length+1)) (U2 L n c d (A1 (b+1)) (A1 (b+1)) (e++[[(SV.str (cut c a b))]]) f) none) none) (cond (inR b c.length) (cond ((bAt c b)==d) (cond (I5 a b c.length) (cond (F2 (e.length+1)) (U2 L n c d (A1 (b+1)) (A1 (b+1)) (e++[[(SV.str (cut c a b))]]) f) none) none) (U2 L n c d a (A1 (b+1)) e f)) none)) (f e)
theorem RZ(n s0 at1 from2 i3 l4):C9 1 ((Ff L).keep 4) (bd (Ff L) Q Y (cd [1,1,1,0,1,0,0] UL)) n ⟨gp [(0,pS s0),(0,p8 at1),(3,.fl 0),(0,pI from2),(0,pI i3)] 27,[.arr true 9 1 l4],s⟩ k =
 U2 L n s0 at1 from2 i3 l4 (λb=>k (.exit 0) ⟨gp [(5,.fl 0)] 29,[.arr true 9 1 b],s⟩):=by
 induction n generalizing s0 at1 from2 i3 l4 with
 | zero=>rfl
 | succ n a=>rw[U2];simp only[<-a];kernel_rfl
noncomputable def HG{R:Type}(L:Nat)(d:By)(a:Int)(c:LL->Option R):Option R:=U2 L L d a 0 0 [] (λb=>c b)
theorem Bj8(d:Nat)(s0 at1):evC (Ff L) (d+1) Z Y 88 [pS s0,p8 at1] [] s=HG L s0 at1 (λa=>some (.fl 0,[.arr true 9 1 a],s)):=by refine(evE (fn:=af3) (by kernel_rfl)).trans ?_;generalize evC (Ff L) d=Q;unfold HG;exact(d8 (by kernel_rfl) ((RZ L Q Y s (E3 0 (E2 (Ff L) Q Y (cd [1,1,1,1] UL) (F5 (Ff L) af3))) L s0 at1 0 0 []).trans (by kernel_rfl)))
noncomputable def Xj(L:Nat):Cfg:=B7 L [53] (A4 []) [(53,(Jr L))] (A4 [(3,[2]),(2,[2]),(1,[0,3]),(0,[0])]) [53] (A4 []) (some [2]) [] [] []
noncomputable def BN{R:Type}(L:Nat)(n0:Int)(g:By->Option R):Option R:=cond (ltI n0 10) (vl (wu8 (A1 ((48:Int)+n0))) λa=>cond (o0 [[(SV.int .u8 a)]] Mb) (vl (j8 Kd [[(SV.int .u8 a)]]) λf=>g f) none) (vl (A1 (w8 n0 (10:Int))) λb=>cond (ltN b L) (vl (f8 (b9 b)) λd=>vl (A1 ((48:Int)+(ae7 n0 (10:Int)))) λc=>cond (o0 [[(SV.int .u8 (wu8 c))]] Mb) (vl (j8 Kd [[(SV.int .u8 (wu8 c))]]) λe=>cond (K8 d.length e.length) (g (d++e)) none) none) none)
theorem Ai9(d:Nat)(n0):evC (Xj L) (d+1) Z Y 53 [pI n0] [] s=BN L n0 (λa=>some (pS a,[],s)):=by refine(evE (fn:=Tryz.f53) (by kernel_rfl)).trans ?_;generalize evC (Xj L) d=Q;unfold BN;kernel_rfl
noncomputable abbrev Qt:Code:=C8 ab7
noncomputable def Hs(L:Nat):Cfg:=B7 L [147] (A4 []) [] (A4 [(7,[2]),(2,[2]),(4,[2]),(6,[2]),(5,[0,23]),(3,[0,12]),(1,[0,2]),(0,[0])]) [] (A4 [(0,[])]) (some [2]) [] [] []
noncomputable def Uq{R:Type}(a:Int)(h:Bool)(f:Int->Option R)(g:Int->Bool->Option R):Option R:=cond h (vl (A1 (wu8 (a-97))) λb=>vl (A1 (b+10)) λc=>f c) (cond (not (ltI a 65)) (cond (not (ltI 70 a)) (vl (A1 (wu8 (a-65))) λd=>vl (A1 (d+10)) λe=>f e) (g a (not (ltI 70 a)))) (g a false))
abbrev LG(b:Code):Prop:=∀(k:Out->St Z->Option R) a c,A9 (Hs L) Q Y b ⟨gp [(0,p8 a),(12,pB c)] 21,[],s⟩ k=Uq a c (λn0=>k .ret ⟨gp [(2,pI n0)] 32,[],s⟩) (λa c=>k .normal ⟨gp [(0,p8 a),(23,pB c)] 10,[],s⟩)
theorem Ap8:LG (R:=R) L Q Y s (cd [1,0,0,1,1,1] Qt):=by intro k a b;unfold Uq;kernel_rfl
noncomputable def Ur{R:Type}(b:Int)(l:Bool)(f:Int->Option R)(j:Int->Bool->Option R):Option R:=cond l (vl (A1 (wu8 (b-48))) λg=>f g) (cond (not (ltI b 97)) (Uq b (not (ltI 102 b)) (λh=>f h) (λc d=>j c d)) (Uq b false (λi=>f i) (λe a=>j e a)))
abbrev Yr(b:Code):Prop:=∀(k:Out->St Z->Option R) a c,A9 (Hs L) Q Y b ⟨gp [(0,p8 a),(2,pB c)] 31,[],s⟩ k=Ur a c (λn0=>k .ret ⟨gp [(2,pI n0)] 32,[],s⟩) (λa c=>k .normal ⟨gp [(0,p8 a),(23,pB c)] 10,[],s⟩)
theorem Ap9(a:Code)(b:LG (R:=R) L Q Y s a):Yr (R:=R) L Q Y s (cd [1,0,0,1] (G2 [1,0,0,1,1,1] a Qt)):=by intro k c d;unfold Ur;simp only[<-b k];kernel_rfl
theorem Aq0:Yr (R:=R) L Q Y s (cd [1,0,0,1] Qt):=by intro k a b;exact d8 (by kernel_rfl) (Ap9 L Q Y s (cd [1,0,0,1,1,1] Qt) (Ap8 L Q Y s) k a b)
noncomputable def B01{R:Type}(L:Nat)(c:Int)(d:Int->Option R):Option R:=cond (not (ltI c 48)) (Ur c (not (ltI 57 c)) (λa=>d a) (λe f=>d 99)) (Ur c false (λb=>d b) (λg h=>d 99))
theorem Cj0(b:Code)(a:Yr (R:=PV × List Blk × Z) L Q Y s b)(c:Int):A9 (Hs L) Q Y (cd [] (G2 [1,0,0,1] b Qt)) ⟨[p8 c]++tps 34,[],s⟩ (F5 (Hs L) ab7)=B01 L c (λe=>some (pI e,[],s)):=by unfold B01;exact let d:=(E3 0 (E2 (Hs L) Q Y (cd [1,1] Qt) (F5 (Hs L) ab7)));(d8 (by kernel_rfl) (A0 ((a d c (not (ltI 57 c))).trans (by kernel_rfl)) ((a d c false).trans (by kernel_rfl))))
theorem Cj1(d:Nat)(b0):evC (Hs L) (d+1) Z Y 147 [p8 b0] [] s=B01 L b0 (λa=>some (pI a,[],s)):=
 (evE (fn:=ab7) (by kernel_rfl)).trans (d8 (by kernel_rfl) (Cj0 L (evC (Hs L) d) Y s (cd [1,0,0,1] Qt) (Aq0 L (evC (Hs L) d) Y s) b0))
noncomputable abbrev Bt:Code:=C8 ab3
noncomputable def O2(L:Nat):Cfg:=B7 L [118] (A4 [(10,[0,1,0,0,0,0])]) [(147,Bq7)] (A4 [(16,[2,0]),(11,[0,3,0,0]),(15,[0,3,0,0]),(14,[2,0]),(13,[0,3,0,0,0,44]),(12,[0,3,0,0,0]),(10,[0,3,0,0,36]),(9,[0,3,0,0]),(8,[0,3,0]),(5,[0,3]),(7,[0,3]),(6,[0,3,32]),(4,[0,3,22]),(3,[0,3]),(2,[2,0]),(1,[0,8]),(0,[0])]) [147] (A4 [(0,[5]),(1,[0,3,0,0])]) (some [2,0]) [] [] []
noncomputable def CB{R:Type}(a:By)(c:By->Option R):Option R:=cond (I5 2 (a.length:Int) a.length) (vl (cut a 2 (a.length:Int)) λb=>c b) none
abbrev LM(b:Code):Prop:=∀(k:Out->St Z->Option R) a,A9 (O2 L) Q Y b ⟨gp [(0,pS a),(3,pI (10:Int)),(22,pB true)] 32,[],s⟩ k=CB a (λa=>k .normal ⟨gp [(0,pS a),(3,pI (16:Int))] 55,[],s⟩)
theorem At0:LM (R:=R) L Q Y s (cd [1,1,1,0,1] Bt):=by intro k a;unfold CB;kernel_rfl
noncomputable def Hi{R:Type}(L n:Nat)(d:By)(h a:Int)(f:Unit->Option R)(g:Int->Option R):Option R:=match n with|0=>none|n+1=>cond (ltI a (d.length:Int)) (cond (inR a d.length) (cond (inR (bAt d a) 256) (vl (↑(dig (u8n (bAt d a))):Int) λb=>cond (not (ltI b 16)) (f ()) (vl (A1 ((A1 (h*16))+b)) λc=>vl (if ((1099511627776:Int)<c) then (1099511627776:Int) else c) λe=>Hi L n d e (A1 (a+1)) f g)) none) none) (g h)
theorem At5(n s0 n1 i2):C9 0 ((O2 L).keep 10) (bd (O2 L) Q Y (cd [1,1,1,1,1,0,1,0,0] Bt)) n ⟨gp [(0,pS s0),(3,pI (16:Int)),(0,pI n1),(0,pI i2)] 53,[],s⟩ k =
 Hi L n s0 n1 i2 (λ_=>k .ret ⟨gp [(2,pI (0:Int)),(0,pB false)] 56,[],s⟩) (λn0=>k (.exit 0) ⟨gp [(5,pI n0)] 54,[],s⟩):=by
 induction n generalizing s0 n1 i2 with
 | zero=>rfl
 | succ n a=>rw[Hi];simp only[<-a];kernel_rfl
noncomputable def CC{R:Type}(L:Nat)(c:By)(b:Int->Bool->Option R):Option R:=Hi L L c 0 0 (λ_=>b 0 false) (λa=>b a true)
abbrev LN(b:Code):Prop:=∀(k:Out->St Z->Option R) s0,A9 (O2 L) Q Y b ⟨gp [(0,pS s0),(3,pI (16:Int))] 55,[],s⟩ k=CC L s0 (λn0 a=>k .ret ⟨gp [(2,pI n0),(0,pB a)] 56,[],s⟩)
theorem At1:LN (R:=R) L Q Y s (cd [1,1,1,1] Bt):=by intro k a;unfold CC;exact(d8 (by kernel_rfl) ((At5 L Q Y s (E3 0 (E2 (O2 L) Q Y (cd [1,1,1,1,1,1] Bt) k)) L a 0 0).trans (by kernel_rfl)))
noncomputable def Pc{R:Type}(a:By)(f:Bool)(d:By->Int->Option R)(e:By->Bool->Option R):Option R:=cond f (cond (I5 2 (a.length:Int) a.length) (vl (cut a 2 (a.length:Int)) λc=>d c 16) none) (cond (not (ltI (a.length:Int) (2:Int))) (cond (inR 0 a.length) (cond ((bAt a (0:Int))==48) (cond (I5 1 (a.length:Int) a.length) (vl (cut a 1 (a.length:Int)) λb=>d b 8) none) (e a ((bAt a (0:Int))==48))) none) (e a false))
abbrev LP(b:Code):Prop:=∀(k:Out->St Z->Option R) c d,A9 (O2 L) Q Y b ⟨gp [(0,pS c),(3,pI (10:Int)),(22,pB d)] 32,[],s⟩ k=Pc c d (λc a=>k .normal ⟨gp [(0,pS c),(3,pI a)] 55,[],s⟩) (λc d=>k .normal ⟨gp [(0,pS c),(3,pI (10:Int)),(32,pB d)] 22,[],s⟩)
theorem At2:LP (R:=R) L Q Y s (cd [1,1,1,0,1] Bt):=by intro k b a;unfold Pc;kernel_rfl
noncomputable def Ej{R:Type}(L n:Nat)(f:By)(a i d:Int)(g:Unit->Option R)(h:Int->Option R):Option R:=match n with|0=>none|n+1=>cond (ltI d (f.length:Int)) (cond (inR d f.length) (cond (inR (bAt f d) 256) (vl (↑(dig (u8n (bAt f d))):Int) λb=>cond (not (ltI b a)) (g ()) (vl (A1 ((A1 (i*a))+b)) λc=>vl (if ((1099511627776:Int)<c) then (1099511627776:Int) else c) λe=>Ej L n f a e (A1 (d+1)) g h)) none) none) (h i)
theorem HF(n s0 base1 n2 i3):C9 0 ((O2 L).keep 10) (bd (O2 L) Q Y (cd [1,1,1,1,1,0,1,0,0] Bt)) n ⟨gp [(0,pS s0),(3,pI base1),(0,pI n2),(0,pI i3)] 53,[],s⟩ k =
 Ej L n s0 base1 n2 i3 (λ_=>k .ret ⟨gp [(2,pI (0:Int)),(0,pB false)] 56,[],s⟩) (λn0=>k (.exit 0) ⟨gp [(5,pI n0)] 54,[],s⟩):=by
 induction n generalizing s0 base1 n2 i3 with
 | zero=>rfl
 | succ n a=>rw[Ej];simp only[<-a];kernel_rfl
noncomputable def Pd{R:Type}(L:Nat)(d:By)(a:Int)(c:Int->Bool->Option R):Option R:=Ej L L d a 0 0 (λ_=>c 0 false) (λb=>c b true)
abbrev LQ(b:Code):Prop:=∀(k:Out->St Z->Option R) s0 base1,A9 (O2 L) Q Y b ⟨gp [(0,pS s0),(3,pI base1)] 55,[],s⟩ k=Pd L s0 base1 (λn0 a=>k .ret ⟨gp [(2,pI n0),(0,pB a)] 56,[],s⟩)
theorem At3:LQ (R:=R) L Q Y s (cd [1,1,1,1] Bt):=by intro k b a;unfold Pd;exact(d8 (by kernel_rfl) ((HF L Q Y s (E3 0 (E2 (O2 L) Q Y (cd [1,1,1,1,1,1] Bt) k)) L b a 0 0).trans (by kernel_rfl)))
noncomputable def Pe{R:Type}(L:Nat)(c:By)(b:Int->Bool->Option R):Option R:=Ej L L c 10 0 0 (λ_=>b 0 false) (λa=>b a true)
abbrev LS(b:Code):Prop:=∀(k:Out->St Z->Option R) s0 a,A9 (O2 L) Q Y b ⟨gp [(0,pS s0),(3,pI (10:Int)),(32,pB a)] 22,[],s⟩ k=Pe L s0 (λn0 a=>k .ret ⟨gp [(2,pI n0),(0,pB a)] 56,[],s⟩)
theorem At4:LS (R:=R) L Q Y s (cd [1,1,1,1] Bt):=by intro k a b;unfold Pe;exact(d8 (by kernel_rfl) ((HF L Q Y s (E3 0 (E2 (O2 L) Q Y (cd [1,1,1,1,1,1] Bt) k)) L a 10 0 0).trans (by kernel_rfl)))
noncomputable def B15{R:Type}(L:Nat)(a:By)(e:Int->Bool->Option R):Option R:=cond (a==[]) (e 0 false) (cond (not (ltI (a.length:Int) (2:Int))) (cond (inR 0 a.length) (cond ((bAt a (0:Int))==48) (cond (inR 1 a.length) (cond ((bAt a (1:Int))==120) (CB a (λB=>CC L B (λA z=>e A z))) (cond (inR 1 a.length) (Pc a ((bAt a (1:Int))==88) (λt b=>Pd L t b (λm f=>e m f)) (λu C=>Pe L u (λn g=>e n g))) none)) none) (Pc a false (λv c=>Pd L v c (λo h=>e o h)) (λw D=>Pe L w (λp i=>e p i)))) none) (Pc a false (λx d=>Pd L x d (λq j=>e q j)) (λy F=>Pe L y (λr l=>e r l))))
theorem Ck0(e:Code)(f:LM (R:=PV × List Blk × Z) L Q Y s e)(a:LP (R:=PV × List Blk × Z) L Q Y s e)(d:Code)(g:LN (R:=PV × List Blk × Z) L Q Y s d)(b:LQ (R:=PV × List Blk × Z) L Q Y s d)(c:LS (R:=PV × List Blk × Z) L Q Y s d)(m:By):A9 (O2 L) Q Y (cd [] (G2 [1,1,1,1] d (G2 [1,1,1,0,1] e Bt))) ⟨[pS m]++tps 59,[],s⟩ (F5 (O2 L) ab3)=B15 L m (λz A=>some (.tup [pI z,pB A],[],s)):=by unfold B15;exact let l:=(F5 (O2 L) ab3);let x:=(E2 (O2 L) Q Y d l);(d8 (by kernel_rfl) (A0 rfl (A0 (A0 (A0 (A0 (A0 ((f x m).trans (congr rfl (fx1 λy=>(d8 (by kernel_rfl) ((g l y).trans (by kernel_rfl)))))) (A0 ((a x m ((bAt m (1:Int))==88)).trans (congr (congr rfl (fx2 λq h=>(d8 (by kernel_rfl) ((b l q h).trans (by kernel_rfl))))) (fx2 λr n=>(d8 (by kernel_rfl) ((c l r n).trans (by kernel_rfl)))))) rfl)) rfl) ((a x m false).trans (congr (congr rfl (fx2 λt i=>(d8 (by kernel_rfl) ((b l t i).trans (by kernel_rfl))))) (fx2 λu o=>(d8 (by kernel_rfl) ((c l u o).trans (by kernel_rfl))))))) rfl) ((a x m false).trans (congr (congr rfl (fx2 λv j=>(d8 (by kernel_rfl) ((b l v j).trans (by kernel_rfl))))) (fx2 λw p=>(d8 (by kernel_rfl) ((c l w p).trans (by kernel_rfl)))))))))
theorem Ck1(d:Nat)(s0):evC (O2 L) (d+1) Z Y 118 [pS s0] [] s=B15 L s0 (λa b=>some (.tup [pI a,pB b],[],s)):=
 (evE (fn:=ab3) (by kernel_rfl)).trans (d8 (by kernel_rfl) (Ck0 L (evC (O2 L) d) Y s (cd [1,1,1,0,1] Bt) (At0 L (evC (O2 L) d) Y s) (At2 L (evC (O2 L) d) Y s) (cd [1,1,1,1] Bt) (At1 L (evC (O2 L) d) Y s) (At3 L (evC (O2 L) d) Y s) (At4 L (evC (O2 L) d) Y s) s0))
noncomputable def EN(L:Nat):Cfg:=B7 L [116] (A4 []) [(88,Ml)] (A4 [(4,[2]),(3,[3]),(2,[3,13]),(1,[3]),(0,[0])]) [] (A4 []) (some [2]) [] [] []
noncomputable def RX{R:Type}(L:Nat)(f:By)(d:LL->Option R):Option R:=cond (A3 f.length) (vl (D4 (pcs (u8n (46:Int)) f)) λa=>cond (ltI 1 (a.length:Int)) (vl (A1 ((a.length:Int)-1)) λb=>cond (inR b a.length) (cond (okE Ps a (b9 b) 0) (vl (gX a (b9 b) 0) λe=>cond (e==[]) (vl (A1 ((a.length:Int)-1)) λc=>cond (I5 0 c a.length) (d (cut a 0 c)) none) (d a)) none) none) (d a)) none
theorem Bj2(d:Nat)(s0):evC (EN L) (d+1) Z Y 116 [pS s0] [] s=RX L s0 (λa=>some (.s (.sl false false 1 a),[],s)):=by refine(evE (fn:=Tryz.f116) (by kernel_rfl)).trans ?_;generalize evC (EN L) d=Q;unfold RX;kernel_rfl
noncomputable def Rd(L:Nat):Cfg:=B7 L [86] (A4 []) [(116,DK),(117,JF),(118,Ad1)] (A4 [(6,[2]),(5,[4,1]),(4,[2]),(3,[4,11]),(2,[4]),(1,[3]),(0,[0])]) [117,118] (A4 []) (some [2]) [] [] []
noncomputable def Vb{R:Type}(L:Nat)(d:By)(c:Bool->Option R):Option R:=cond (A3 d.length) (vl (A1 ((↑(a8 (D4 (C6 d))):Int)-1)) λb=>cond (inR b (a8 (D4 (C6 d)))) (cond (okE Ps (D4 (C6 d)) (b9 b) 0) (vl (gX (D4 (C6 d)) (b9 b) 0) λa=>cond (A3 a.length) (cond ((not (f9 a))&&(f6 (E5 10 0 a))) (c true) (cond (A3 a.length) (vl (↑(L9 (Z4 a)):Int) λe=>cond (f6 (Z4 a)) (cond (not (ltI (a.length:Int) (2:Int))) (cond (inR 1 a.length) (cond ((bAt a (1:Int))==120) (c true) (cond (inR 1 a.length) (c ((bAt a (1:Int))==88)) none)) none) (c false)) (c false)) none)) none) none) none) none
theorem XT(d:Nat)(s0):evC (Rd L) (d+1) Z Y 86 [pS s0] [] s=Vb L s0 (λa=>some (pB a,[],s)):=by refine(evE (fn:=Tryz.f86) (by kernel_rfl)).trans ?_;generalize evC (Rd L) d=Q;unfold Vb;kernel_rfl
noncomputable abbrev A44:Code:=C8 af2
noncomputable def Kb(L:Nat):Cfg:=B7 L [87] (A4 [(6,[2,0,0,0,0])]) [(116,DK),(118,Ad1)] (A4 [(18,[2,0]),(7,[4,0,0]),(17,[4,0,0]),(16,[2,0]),(15,[4,0,0,0,38]),(14,[4,0,0]),(13,[2,0]),(12,[4,0,0,0,33]),(11,[4,0,0,0,26]),(10,[2,0]),(9,[4,0,0,0,21]),(8,[4,0,0,0,0]),(6,[4,0,0,10]),(5,[4,0,0]),(4,[4,0]),(3,[2,0]),(2,[4,8]),(1,[4]),(0,[0])]) [118] (A4 [(0,[5]),(1,[4,0,0])]) (some [2,0]) [] [] []
noncomputable def Dg{R:Type}(L n:Nat)(b:LL)(v1 a:Int)(e:Unit->Option R)(h:Int->Option R):Option R:=match n with|0=>none|n+1=>cond (ltI a (b.length:Int)) (cond (inR a b.length) (cond (okE Ps b (b9 a) 0) (cond (A3 (a8 (gX b (b9 a) 0))) (vl (↑(L9 (Z4 (gX b (b9 a) 0))):Int) λc=>cond (not (f6 (Z4 (gX b (b9 a) 0)))) (e ()) (vl (A1 ((b.length:Int)-1)) λi=>cond (a==i) (vl (A1 ((5:Int)-(b.length:Int))) λg=>cond (decide ((0:Int)<=(A1 ((8:Int)*g)))) (vl (Pq .i64 (1:Int) (A1 ((8:Int)*g))) λj=>cond (not (ltI c j)) (e ()) (Dg L n b (A1 (v1+c)) (A1 (a+1)) e h)) none) (cond (ltI 255 c) (e ()) (vl (A1 ((24:Int)-(A1 ((8:Int)*a)))) λd=>cond (decide ((0:Int)<=d)) (vl (A1 (v1+(Pq .i64 c d))) λf=>Dg L n b f (A1 (a+1)) e h) none)))) none) none) none) (h v1)
theorem YA(n p0 v1 i2):C9 0 ((Kb L).keep 6) (bd (Kb L) Q Y (cd [1,1,1,1,0,1,0,0] A44)) n ⟨gp [(4,.s (.sl false false 1 p0)),(0,pI v1),(0,pI i2)] 49,[],s⟩ k =
 Dg L n p0 v1 i2 (λ_=>k .ret ⟨gp [(2,p32 (0:Int)),(0,pB false)] 52,[],s⟩) (λv0=>k (.exit 0) ⟨gp [(5,pI v0)] 50,[],s⟩):=by
 induction n generalizing p0 v1 i2 with
 | zero=>rfl
 | succ n a=>rw[Dg];simp only[<-a];kernel_rfl
noncomputable def A84{R:Type}(L:Nat)(c:By)(b:Int->Bool->Option R):Option R:=cond (A3 c.length) (cond (ltI 4 (↑(a8 (D4 (C6 c))):Int)) (b 0 false) (Dg L L (D4 (C6 c)) 0 0 (λ_=>b 0 false) (λa=>b (Zj a) true))) none
theorem B19(d:Nat)(s0):evC (Kb L) (d+1) Z Y 87 [pS s0] [] s=A84 L s0 (λa b=>some (.tup [p32 a,pB b],[],s)):=by refine(evE (fn:=af2) (by kernel_rfl)).trans ?_;generalize evC (Kb L) d=Q;unfold A84;exact(d8 (by kernel_rfl) (A0 (A0 rfl ((YA L Q Y s (E3 0 (E2 (Kb L) Q Y (cd [1,1,1,1,1] A44) (F5 (Kb L) af2))) L (D4 (C6 s0)) 0 0).trans (by kernel_rfl))) rfl))
noncomputable abbrev Bs7:Code:=C8 ae0
noncomputable def Rb(L:Nat):Cfg:=B7 L [173] (A4 [(2,[0,1,0,0])]) [(53,JE)] (A4 [(6,[2,0]),(3,[0,3]),(5,[2,0]),(4,[0,3,7]),(2,[0,3,1]),(1,[0,3]),(0,[0])]) [53] (A4 [(0,[]),(1,[0,3])]) (some [2,0]) [] [] []
noncomputable def Ks{R:Type}(L n:Nat)(e:By)(a:Int)(c:Int->Option R)(d:Unit->Option R):Option R:=match n with|0=>none|n+1=>cond (ltI a 256) (cond (ltN a 4294967296) (vl (f8 (b9 a)) λb=>cond (b==e) (c a) (Ks L n e (A1 (a+1)) c d)) none) (d ())
theorem Ap6(n s0 n1):C9 0 ((Rb L).keep 2) (bd (Rb L) Q Y (cd [1,0,1,0,0] Bs7)) n ⟨gp [(0,pS s0),(3,pI n1)] 9,[],s⟩ k =
 Ks L n s0 n1 (λn0=>k .ret ⟨gp [(2,pI n0),(0,pB true)] 10,[],s⟩) (λ_=>k (.exit 0) ⟨gp [] 14,[],s⟩):=by
 induction n generalizing s0 n1 with
 | zero=>rfl
 | succ n a=>rw[Ks];simp only[<-a];kernel_rfl
noncomputable def Ci8{R:Type}(L:Nat)(c:By)(b:Int->Bool->Option R):Option R:=Ks L L c 0 (λa=>b a true) (λ_=>b 0 false)
theorem Ci9(d:Nat)(s0):evC (Rb L) (d+1) Z Y 173 [pS s0] [] s=Ci8 L s0 (λa b=>some (.tup [pI a,pB b],[],s)):=by refine(evE (fn:=ae0) (by kernel_rfl)).trans ?_;generalize evC (Rb L) d=Q;unfold Ci8;exact(d8 (by kernel_rfl) ((Ap6 L Q Y s (E3 0 (E2 (Rb L) Q Y (cd [1,1] Bs7) (F5 (Rb L) ae0))) L s0 0).trans (by kernel_rfl)))
noncomputable abbrev Bs9:Code:=C8 ad8
noncomputable def Re(L:Nat):Cfg:=B7 L [145] (A4 [(6,[2,0,0,0,0])]) [(88,Ml),(173,Bq6)] (A4 [(12,[2,0]),(7,[4,0,0]),(11,[4,0,0]),(10,[2,0]),(9,[4,0,0,0,19]),(8,[4,0,0,0,0]),(6,[4,0,0,8]),(5,[4,0,0]),(4,[4,0]),(3,[2,0]),(2,[4,8]),(1,[4]),(0,[0])]) [173] (A4 [(0,[5]),(1,[4,0,0])]) (some [2,0]) [] [] []
noncomputable def La{R:Type}(L n:Nat)(b:LL)(v1 a:Int)(f:Unit->Option R)(g:Int->Option R):Option R:=match n with|0=>none|n+1=>cond (ltI a 4) (cond (inR a b.length) (cond (okE Ps b (b9 a) 0) (cond (A3 (a8 (gX b (b9 a) 0))) (vl (↑(L9 (oct (gX b (b9 a) 0))):Int) λc=>cond (not (f6 (oct (gX b (b9 a) 0)))) (f ()) (vl (Zj (v1*256)) λd=>vl (Zj (d+(Zj c))) λe=>La L n b e (A1 (a+1)) f g)) none) none) none) (g v1)
theorem Aw9(n p0 v1 i2):C9 0 ((Re L).keep 6) (bd (Re L) Q Y (cd [1,1,1,1,0,1,0,0] Bs9)) n ⟨gp [(4,.s (.sl false false 1 p0)),(0,p32 v1),(0,pI i2)] 27,[],s⟩ k =
 La L n p0 v1 i2 (λ_=>k .ret ⟨gp [(2,p32 (0:Int)),(0,pB false)] 30,[],s⟩) (λv0=>k (.exit 0) ⟨gp [(5,p32 v0)] 28,[],s⟩):=by
 induction n generalizing p0 v1 i2 with
 | zero=>rfl
 | succ n a=>rw[La];simp only[<-a];kernel_rfl
noncomputable def Ck9{R:Type}(L:Nat)(d:By)(b:Int->Bool->Option R):Option R:=cond (A3 d.length) (vl (D4 (pcs (u8n (46:Int)) d)) λa=>cond ((a.length:Int)!=4) (b 0 false) (La L L a 0 0 (λ_=>b 0 false) (λc=>b c true))) none
theorem Cl0(d:Nat)(s0):evC (Re L) (d+1) Z Y 145 [pS s0] [] s=Ck9 L s0 (λb c=>some (.tup [p32 b,pB c],[],s)):=by refine(evE (fn:=ad8) (by kernel_rfl)).trans ?_;generalize evC (Re L) d=Q;unfold Ck9;exact(d8 (by kernel_rfl) (A0 (A2 λa=>(A0 rfl ((Aw9 L Q Y s (E3 0 (E2 (Re L) Q Y (cd [1,1,1,1,1] Bs9) (F5 (Re L) ad8))) L a 0 0).trans (by kernel_rfl)))) rfl))
noncomputable def Xo(L:Nat):Cfg:=B7 L [109] (A4 []) [(138,Wi)] (A4 [(1,[4]),(0,[0,0])]) [] (A4 []) (some [4]) [] [] []
noncomputable def CE{R:Type}(L:Nat)(c a:By)(d:Nat->LL->Option R):Option R:=cond (A3 c.length) (cond (a.length==1) (cond ((0:Int)==0) (cond (((-1):Int)==((-1):Int)) (vl (D4 (pcs (b8 a 0 0) c)) λb=>d (a8 (pcs (b8 a 0 0) c)) b) none) none) none) none
theorem Ay4(d:Nat)(s0 sep1):evC (Xo L) (d+1) Z Y 109 [pS s0,pS sep1] [] s=CE L s0 sep1 (λa b=>some (.vw 0 0 a,[.arr false 9 1 b],s)):=by refine(evE (fn:=Tryz.f109) (by kernel_rfl)).trans ?_;generalize evC (Xo L) d=Q;unfold CE;kernel_rfl
end
end
section
open Go
attribute [simp] B4 E1 C4 TM A98 A97 TN Y6 L5 E9
attribute [simp] vl
@[simp] theorem D9{n:Nat}(h:n<=1000000000):A3 n=true:=LY.2 h
@[simp] theorem Uc{v:Int}{n:Nat}(h:0<=v)(a:v<n):ltN v n=true:=E6.2 ⟨h,a⟩
theorem N6{n:Nat}(h:n<=1000000000:=by omega):A3 n=true:=D9 h
theorem M8{v:Int}{n:Nat}(h:0<=v:=by omega)(g:v<n:=by omega):ltN v n=true:=Uc h g
@[simp] theorem N3{m n:Nat}(h:m+n<4611686018427387904):K8 m n=true:=by simp[K8,h]
abbrev rv(v:PV)(H:List Blk):Option (PV × List Blk × Unit):=some (v,H,())
theorem L6{n:Nat}(h:A3 n=true):n<=1000000000:=LY.1 h
theorem D1(s:By)(i:Nat)(h:i<s.length):s.drop i=s.getD i 0::s.drop (i+1):=by rw[g7,j7 h,j5,List.getElem_cons_drop]
theorem MC(s:By)(i:Nat)(h:i<s.length):s.take (i+1)=s.take i++[s.getD i 0]:=by rw[List.take_add_one,g7,j7 h];rfl
theorem GH(s:By)(i:Nat)(h:i<s.length):(B5 (s.take (i+1))).map D7=(B5 (s.take i)).map D7++[D7 (Bd (s.getD i 0))]:=by unfold B5;rw[MC s i h,ac7,ac7];rfl
theorem T1(b:UInt8):(b.toNat<65/\Bd b=b)\/(90<b.toNat/\Bd b=b)\/(65<=b.toNat/\b.toNat<=90/\((Bd b).toNat=b.toNat+32)):=by
 unfold Bd;by_cases a:b.toNat<65
 ·refine .inl ⟨a,if_neg ?_⟩;intro h;have:=s8.1 h.1;simp at this;omega
 ·by_cases c:90<b.toNat
  ·refine .inr (.inl ⟨c,if_neg ?_⟩);intro h;have:=s8.1 h.2;simp at this;omega
  ·refine .inr (.inr ⟨by omega,by omega,?_⟩);rw[if_pos (by constructor<;>(rw[s8];simp;omega)),UInt8.toNat_add];simp;omega
@[simp] theorem D0(s:By)(i:Nat):bAt s (i:Int)=((s.getD i 0).toNat:Int):=by simp[bAt]
@[simp] theorem Z0(s:By):bAt s 0=((s.getD 0 0).toNat:Int):=by simp[bAt]
@[simp] theorem A39(s:By):bAt s 1=((s.getD 1 0).toNat:Int):=by simp[bAt]
theorem Gv{c:Type}(s:List c)(a b:Nat):cut s (a:Int) (b:Int)=(s.take b).drop a:=by simp[cut]
@[simp] theorem P8{b:Type}(s:List b)(a:Int):cut s a (s.length:Int)=s.drop a.toNat:=by simp[cut]
@[simp] theorem J5{a:Type}(s:List a)(b:Int):cut s 0 b=s.take b.toNat:=by simp[cut]
@[simp] theorem G1(l:List By):(D4 l).length=l.length:=by simp[D4]
@[simp] theorem X1(l:List By)(i:Nat):gX (D4 l) i 0=l.getD i []:=by
 unfold gX gC D4;by_cases h:i<l.length
 ·simp[g7,j7 h,SV.gS]
 ·simp[g7,z7 (show l.length<=i by omega),SV.gS]
@[simp] theorem R8{l:List By}{i:Nat}(h:i<l.length):okE Ps (D4 l) i 0=true:=by unfold okE D4;simp[g7,j7 h,h,Ps,okS,SV.has]
theorem Vu(a b:List By):D4 (a++b)=D4 a++D4 b:=by simp[D4]
theorem Ho(b:UInt8):u8n (b.toNat:Int)=b:=by simp[u8n]
theorem TD(b:UInt8):inR (b.toNat:Int) 256=true:=by have:=b.toNat_lt;exact E4
theorem Ct2{a b:UInt8}:((a.toNat:Int)==(b.toNat:Int))=(a==b):=by
 rw[y7];simp only[beq_iff_eq];constructor
 ·intro h;exact UInt8.toNat_inj.1 (by omega)
 ·intro h;rw[h]
theorem P7(a:UInt8)(n:Nat)(h:n<256):((a.toNat:Int)==(n:Int))=(a==g9 n):=by rw[<-Ct2];simp[j4 h]
theorem Dq(p s:By):p.isPrefixOf s=(decide (p.length<=s.length)&&(s.take p.length==p)):=by
 rw[y7];simp only[o7,m9,decide_eq_true_eq,beq_iff_eq];constructor
 ·intro h;exact⟨h.length_le,(y4.1 h).symm⟩
 ·rintro⟨_,h⟩;exact y4.2 h.symm
theorem Lu(p s:By):p.isSuffixOf s=(decide (p.length<=s.length)&&(s.drop (s.length-p.length)==p)):=by
 rw[y7];simp only[List.isSuffixOf_iff_suffix,m9,decide_eq_true_eq,beq_iff_eq];constructor
 ·intro h;exact⟨h.length_le,(y5.1 h).symm⟩
 ·rintro⟨_,h⟩;exact y5.2 h.symm
theorem Bx(b:UInt8):(48<=b.toNat/\b.toNat<=57/\dig b=b.toNat-48)\/(97<=b.toNat/\b.toNat<=102/\dig b=b.toNat-87)\/(65<=b.toNat/\b.toNat<=70/\dig b=b.toNat-55)\/(¬(48<=b.toNat/\b.toNat<=57)/\¬(97<=b.toNat/\b.toNat<=102)/\¬(65<=b.toNat/\b.toNat<=70)/\dig b=99):=by
 unfold dig;split
 ·rename_i h;exact .inl ⟨h.1,h.2,rfl⟩
 ·split
  ·rename_i h;exact .inr (.inl ⟨h.1,h.2,rfl⟩)
  ·split
   ·rename_i h;exact .inr (.inr (.inl ⟨h.1,h.2,rfl⟩))
   ·exact .inr (.inr (.inr ⟨by assumption,by assumption,by assumption,rfl⟩))
theorem B33(m:Nat):(if (1099511627776:Int)<(m:Int) then (1099511627776:Int) else (m:Int))=((min m Bm:Nat):Int):=by unfold Bm;split<;>omega
theorem FE{base:Nat}:∀{s:By} {n v:Nat},n<=Bm->E5 base n s=some v->v<=Bm
 | [],n,v,h,e=>by simp only[E5,g8] at e;omega
 | b::r,n,v,h,e=>by
  simp only[E5] at e;split at e
  ·exact FE (by omega) e
  ·cases e
theorem A71{s:By}{v:Nat}(h:Z4 s=some v):v<=Bm:=by
 unfold Z4 at h
 repeat' split at h
 all_goals first|(cases h;done)|exact FE (by unfold Bm;omega) h
theorem KD(base:Nat):∀(x y:By) (n:Nat),E5 base n (x++y)=(E5 base n x).bind λm=>E5 base m y
 | [],y,n=>rfl
 | b::r,y,n=>by
  simp only[x7,E5];split
  ·exact KD base r y _
  ·rfl
theorem Hv(u:Nat)(h:¬u<10):f8 u=f8 (u / 10)++[g9 (48+u % 10)]:=by rw[f8,dif_neg h]
theorem Cs6(d:Nat)(h:d<10):dig (g9 (48+d))=d:=by
 unfold dig;have:(g9 (48+d)).toNat=48+d:=by simp;omega
 rw[this,R7];omega
theorem Bb5:∀u:Nat,u<=Bm->E5 10 0 (f8 u)=some u:=by
 intro u
 induction u using Nat.strongRecOn with
 | _ u a=>
  intro b;by_cases h:u<10
  ·rw[x3 h];simp only[E5,Cs6 u h];rw[if_pos h];unfold Bm;simp;omega
  ·rw[Hv u h,KD,a (u / 10) (by omega) (by omega)];simp only[Option.bind_some,E5,Cs6 (u % 10) (by omega)];rw[R7];unfold Bm at *;simp;omega
theorem Ir:∀(k u:Nat),0<k->u<10 ^ k->(f8 u).length<=k
 | 0,u,h,_=>by omega
 | k+1,u,_,h=>by
  by_cases b:u<10
  ·rw[x3 b];simp
  ·rw[Hv u b,p6,o6];have a:0<k:=by
    rcases Nat.eq_zero_or_pos k with rfl|a
    ·rw[ae5,Nat.pow_one] at h;omega
    ·exact a
   have:=Ir k (u / 10) a (by rw[m6] at h;omega);omega
theorem I3(u:Nat)(h:u<4294967296):(f8 u).length<=10:=Ir 10 u (by omega) (by omega)
theorem Ui{s:By}{n:Nat}:oct s=some n↔n<256/\f8 n=s:=by
 unfold oct;constructor
 ·intro h;split at h
  ·rename_i m c;split at h
   ·rename_i a;cases h;exact⟨by omega,a.2⟩
   ·cases h
  ·cases h
 ·rintro⟨b,rfl⟩;rw[Bb5 n (by unfold Bm;omega)];exact if_pos ⟨by omega,rfl⟩
theorem Cs1(a b:Nat)(c:a<9223372036854775808)(d:b<9223372036854775808):bOr .i64 (a:Int) (b:Int)=((a ||| b:Nat):Int):=by
 unfold bOr;rw[show j9 .i64=64 from rfl,Cu3 64 a b (by omega) (by omega)];have:a ||| b<2 ^ 63:=x5 (by omega) (by omega)
 exact A7
theorem C32(a b:Nat)(c:a<4294967296)(d:b<4294967296):bOr .u32 (a:Int) (b:Int)=((a ||| b:Nat):Int):=by
 unfold bOr;rw[show j9 .u32=32 from rfl,Cu3 32 a b (by omega) (by omega)];have:a ||| b<2 ^ 32:=x5 (by omega) (by omega)
 exact Lm
theorem Ct9(a b:Nat)(c:a<4294967296)(d:b<4294967296):Ae7 .u32 (a:Int) (b:Int)=((a &&& b:Nat):Int):=by unfold Ae7;rw[show j9 .u32=32 from rfl,Cs5 32 a b (by omega) (by omega)];have:a &&& b<2 ^ 32:=Nat.and_lt_two_pow _ (by omega);exact Lm
theorem Ct8(x:Nat):x &&& 255=x % 256:=Nat.and_two_pow_sub_one_eq_mod x 8
theorem ZJ(a m:Nat)(h:a*2 ^ m<9223372036854775808)(b:m<=64):Pq .i64 (a:Int) (m:Int)=((a*2 ^ m:Nat):Int):=by
 unfold Pq;rw[f7,show j9 .i64=64 from rfl,v8 b];have:(a:Int)*2 ^ m=((a*2 ^ m:Nat):Int):=by simp
 rw[this];exact A7
theorem C49(a m:Nat)(h:a*2 ^ m<4294967296)(b:m<=32):Pq .u32 (a:Int) (m:Int)=((a*2 ^ m:Nat):Int):=by
 unfold Pq;rw[f7,show j9 .u32=32 from rfl,v8 b];have:(a:Int)*2 ^ m=((a*2 ^ m:Nat):Int):=by simp
 rw[this];exact Lm
theorem BU(v n m:Nat)(h:n<2 ^ m):v*2 ^ m ||| n=v*2 ^ m+n:=by rw[Nat.or_comm,Cw5 n v m h,ae2]
theorem Nm{c:UInt8}{s:By}(h:c∉s):pcs c s=[s]:=by unfold pcs;rw[Vr c s [] h];rfl
theorem RH{c:UInt8}{p r:By}(h:c∉p):pcs c (p++c::r)=p::pcs c r:=by unfold pcs;rw[AV c p [] r h];rfl
theorem Hd(c:UInt8)(s:By):(pcs c s).length=s.count c+1:=Hm c s []
theorem An6(c:UInt8)(s:By):pcs c s≠[]:=Ay0 c s []
theorem Cs{c:UInt8}{s x:By}(h:x∈pcs c s):c∉x/\x.length<=s.length:=by have:=Ns c s [] (by simp) x h;simpa using this
theorem Fk(c:UInt8)(s:By):s.count c<=s.length:=List.count_le_length
theorem S7(c:UInt8):∀s:By,c∉s\/∃p r,s=p++c::r/\c∉p
 | []=>.inl (by simp)
 | b::s=>by
  by_cases h:b=c
  ·subst h;exact .inr ⟨[],s,rfl,by simp⟩
  ·rcases S7 c s with a|⟨p,r,rfl,d⟩
   ·exact .inl (by simp[a,Ne.symm h])
   ·exact .inr ⟨b::p,r,rfl,by simp[d,Ne.symm h]⟩
theorem Rk{c:UInt8}{s:By}(h:c∉s):o8 s [c]=-1:=by
 rcases ac9 s [c] with a|⟨i,a,e,b,f⟩
 ·exact a.1
 ·exfalso;simp only[ab1,o7] at b;obtain⟨t,d⟩:=b;have:c∈s.drop i:=by rw[<-d];simp
  exact h (aa3 this)
theorem Yf{c:UInt8}{p r:By}(h:c∉p):o8 (p++c::r) [c]=(p.length:Int):=by
 rcases ac9 (p++c::r) [c] with d|⟨i,d,m,f,g⟩
 ·exfalso;have:=d.2 p.length (by simp);simp[ab1] at this
 ·rw[d];have n:¬p.length<i:=by
   intro a;have:=g p.length a;simp[ab1] at this
  have k:¬i<p.length:=by
   intro a;simp only[ab1,o7] at f;obtain⟨t,b⟩:=f;have j:(p++c::r).drop i=p.drop i++c::r:=by rw[s9 (by omega)]
   rw[j] at b;cases e:p.drop i with
   | nil=>have:=List.length_drop (i:=i) (l:=p);rw[e] at this;simp at this;omega
   | cons x y=>
    rw[e] at b;simp at b;have:x∈p:=aa3 (i:=i) (by rw[e];simp);rw[<-b.1] at this;exact h this
  omega
theorem Bg1(s:By):C6 s≠[]:=by
 unfold C6;split
 ·rename_i h;intro e;have:=congrArg a8 e;simp at this;omega
 ·exact An6 _ _
theorem Kp{s x:By}(h:x∈C6 s):x.length<=s.length:=by
 unfold C6 at h;split at h
 ·exact(Cs ((List.dropLast_sublist _).subset h)).2
 ·exact(Cs h).2
theorem Ad(s:By):1<=(C6 s).length/\(C6 s).length<=s.length+1:=by
 have a:=p4.2 (Bg1 s);have b:=Hd 46 s;have c:=Fk 46 s;refine⟨a,?_⟩;unfold C6;split
 ·rw[List.length_dropLast];omega
 ·omega
theorem Yk(s:By):(C6 s).getD ((C6 s).length-1) []=Ix s:=by unfold Ix;rw[List.getLastD_eq_getLast?,List.getLast?_eq_getElem?,g7]
theorem KV(s:By):Ix s∈C6 s:=by have h:=(Ad s).1;rw[<-Yk,g7,j7 (by omega)];exact x8 _
theorem Hw{base:Nat}:∀{s:By} {n i:Nat},i<s.length->base<=dig (s.getD i 0)->E5 base n s=none
 | [],n,i,h,_=>by simp at h
 | b::r,n,0,h,a=>by
  simp only[k9] at a;simp only[E5];rw[F8]
 | b::r,n,i+1,h,a=>by
  simp only[aa6] at a;simp only[E5];split
  ·exact Hw (i:=i) (by simpa using h) a
  ·rfl
theorem Yg(s:By):Bb s=true↔s.getD 0 0=48/\(s.getD 1 0=120\/s.getD 1 0=88):=by simp[Bb]
theorem Ov{s:By}(h:Bb s=true):2<=s.length:=by
 rw[Yg] at h
 match s with
 | []=>simp at h
 | [a]=>simp at h
 | a::b::r=>simp
theorem By6(l:By):(if Bb l then (E5 16 0 (l.drop 2)).isSome else !l.isEmpty&&(E5 10 0 l).isSome) =
  (if (!l.isEmpty&&(E5 10 0 l).isSome)=true then true else (if (Z4 l).isSome=true then decide (2<=l.length)&&(l.getD 1 0==120||l.getD 1 0==88) else false)):=by
 by_cases b:Bb l=true
 ·have g:=Ov b;have j:=(Yg l).1 b;have f:E5 10 0 l=none:=Hw (i:=1) (by omega) (by rcases j.2 with h|h<;>rw[h]<;>decide);have d:Z4 l=E5 16 0 (l.drop 2):=by
   unfold Z4;rw[if_neg (by intro e;rw[e] at g;simp at g),if_pos b]
  rw[if_pos b,f,d];have c:(l.getD 1 0==120||l.getD 1 0==88)=true:=by simpa using j.2
  rw[c];simp[g]
 ·rw[if_neg b];cases n:(!l.isEmpty&&(E5 10 0 l).isSome) with
  | true=>rfl
  | false=>
   rw[if_neg (by simp)];cases d:Z4 l with
   | none=>rfl
   | some v=>
    rw[show(some v).isSome=true from rfl,if_pos rfl]
    symm
    rw[Bool.and_eq_false_iff];by_cases c:2<=l.length
    ·right
     apply Classical.byContradiction;intro a;have a:l.getD 1 0=120\/l.getD 1 0=88:=by
      cases k:(l.getD 1 0==120||l.getD 1 0==88) with
      | false=>exact absurd k a
      | true=>simpa using k
     have m:¬l.getD 0 0=48:=λh=>b ((Yg l).2 ⟨h,a⟩)
     have f:E5 10 0 l=none:=Hw (i:=1) (by omega) (by rcases a with h|h<;>rw[h]<;>decide);unfold Z4 at d;rw[if_neg (by intro e;rw[e] at c;simp at c),if_neg b,if_neg (by intro h;exact m h.2),f] at d;cases d
    ·left;simpa using c
end
section
open Go Go.Proofs
theorem Be9{R:Type}{a:Bool->Option R}(s p:By)(b:A3 s.length=true):Cg0 LF s p a=a (p.isPrefixOf s):=by
 have:=L6 b;unfold Cg0;rw[Dq];by_cases h:p.length<=s.length
 ·simp_all
 ·simp (disch:=omega) [h]
theorem Bd2{R:Type}{a:Bool->Option R}(s p:By)(b:A3 s.length=true):Rj LF s p a=a (p.isPrefixOf s):=by unfold Rj;rw[b];rfl
theorem Bf0{R:Type}{a:Bool->Option R}(s p:By)(b:A3 s.length=true):Cg2 LF s p a=a (p.isSuffixOf s):=by
 have:=L6 b;unfold Cg2;rw[Lu];by_cases h:p.length<=s.length
 ·have e:((s.length:Int)-(p.length:Int)).toNat=s.length-p.length:=by omega
  simp (disch:=omega) [h,e]
 ·simp (disch:=omega) [h]
theorem Am2{R:Type}{b:By->Option R}(s p:By)(a:A3 s.length=true):A66 LF s p b=b (TA s p):=by
 have:=L6 a;unfold A66 TA;rw[a];cases h:p.isSuffixOf s with
 | false=>simp
 | true=>
  have:p.length<=s.length:=by rw[Lu] at h;simp at h;exact h.1
  have e:((s.length:Int)-(p.length:Int)).toNat=s.length-p.length:=by omega
  simp (disch:=omega) [e]
theorem Ay7{R:Type}{a:By->Option R}(s p:By)(b:A3 s.length=true):A91 LF s p a=a (TA s p):=by unfold A91;rw[b];rfl
theorem Al1{R:Type}{b:By->Bool->Option R}(s p:By)(a:A3 s.length=true):A61 LF s p b=b (Fl s p) (p.isPrefixOf s):=by
 have:=L6 a;unfold A61 Fl;rw[a];cases h:p.isPrefixOf s with
 | false=>simp
 | true=>
  have:p.length<=s.length:=by rw[Dq] at h;simp at h;exact h.1
  simp_all
theorem Bb2{R:Type}{a:By->Bool->Option R}(s p:By)(b:A3 s.length=true):Cb4 LF s p a=a (Fl s p) (p.isPrefixOf s):=by unfold Cb4;rw[b];rfl
theorem ZT{R:Type}{a:LL->Option R}(s p:By)(b:A3 s.length=true)(c:(p.length==1)=true):SU LF s p a=a (D4 (pcs (p.getD 0 0) s)):=by unfold SU;rw[b,c];rfl
theorem Be6{R:Type}{k0:LL->Option R}(s:By)(o:s.length<=1000000000):∀(r i n:Nat),i+r=s.length->r<n->Ea LF n s (s.length:Int) (i:Int) ((B5 (s.take i)).map D7) k0=k0 ((B5 s).map D7):=by
 intro r
 induction r with
 | zero=>
  intro i n g j;obtain⟨n,rfl⟩:∃m,n=m+1:=⟨n-1,by omega⟩
  rw[Ea];rw[A6,s7 (by omega)];rfl
 | succ r a=>
  intro i n g j;obtain⟨n,rfl⟩:∃m,n=m+1:=⟨n-1,by omega⟩
  rw[Ea];have h:(B5 (s.take i)).length=i:=by simp[B5];omega
  have a:=a (i+1) n (by omega) (by omega);rw[GH s i (by omega)] at a;rw[D0];have l:=(s.getD i 0).toNat_lt;generalize s.getD i 0=b at *;have c:((i:Int)+1)=((i+1:Nat):Int):=by omega
  simp (disch:=omega) only[B4,L5,cond_true,vl,v7,h,E9,C4];rw[c];rcases T1 b with⟨d,e⟩|⟨d,e⟩|⟨d,k,e⟩
  ·simp (disch:=omega) only[B4,f0,cond_false];rw[e] at a;exact a
  ·simp (disch:=omega) only[E1,B4,f0,d9,cond_false,cond_true];rw[e] at a;exact a
  ·have f:wu8 ((b.toNat:Int)+32)=((Bd b).toNat:Int):=by
    rw[L0];omega
   simp (disch:=omega) only[E1,d9,cond_true,f];exact a
theorem Be7{R:Type}{k0:By->LL->Option R}(s:By)(b:A3 s.length=true):Cf8 LF s k0=k0 (B5 s) ((B5 s).map D7):=by have c:=L6 b;have:=C1;unfold Cf8;simp (disch:=omega) only[f7,E9,ad2];rw[show(decide ((0:Int)<=(s.length:Int)))=true by simp];have:=Be6 (k0:=λa=>cond (o0 a Mb) (k0 (j8 Kd a) a) none) s c s.length 0 LF (by omega) (by omega);simp only[List.take_zero,B5,List.map_nil] at this;rw[cond_true];refine d8 this ?_;rw[show(j8 Bd s).map D7=(B5 s).map D7 from rfl,V4,V9];rfl
theorem Bi7{R:Type}{k0:LL->Option R}(s:By)(o:s.length<=1000000000):∀(r i n:Nat),i+r=s.length->r<n->Ei LF n s (i:Int) ((B5 (s.take i)).map D7) k0=k0 ((B5 s).map D7):=by
 intro r
 induction r with
 | zero=>
  intro i n g j;obtain⟨n,rfl⟩:∃m,n=m+1:=⟨n-1,by omega⟩
  rw[Ei];rw[A6,s7 (by omega)];rfl
 | succ r a=>
  intro i n g j;obtain⟨n,rfl⟩:∃m,n=m+1:=⟨n-1,by omega⟩
  rw[Ei];have h:(B5 (s.take i)).length=i:=by simp[B5];omega
  have a:=a (i+1) n (by omega) (by omega);rw[GH s i (by omega)] at a;rw[D0];have l:=(s.getD i 0).toNat_lt;generalize s.getD i 0=b at *;have c:((i:Int)+1)=((i+1:Nat):Int):=by omega
  simp (disch:=omega) only[B4,L5,cond_true,vl,v7,h,E9,C4];rw[c];rcases T1 b with⟨d,e⟩|⟨d,e⟩|⟨d,k,e⟩
  ·simp (disch:=omega) only[B4,f0,cond_false];rw[e] at a;exact a
  ·simp (disch:=omega) only[E1,B4,f0,d9,cond_false,cond_true];rw[e] at a;exact a
  ·have f:wu8 ((b.toNat:Int)+32)=((Bd b).toNat:Int):=by
    rw[L0];omega
   simp (disch:=omega) only[E1,d9,cond_true,f];exact a
theorem Bi8{R:Type}{k0:By->LL->Option R}(s:By)(b:A3 s.length=true):Cj8 LF s k0=k0 (B5 s) ((B5 s).map D7):=by have c:=L6 b;have:=C1;unfold Cj8;have:=Bi7 (k0:=λa=>cond (o0 a Mb) (k0 (j8 Kd a) a) none) s c s.length 0 LF (by omega) (by omega);refine d8 this ?_;rw[V4,V9];rfl
theorem Bc9{R:Type}{c:Bool->Option R}(s:By)(d:A3 s.length=true):Ce1 LF s c=c (Bb s):=by
 unfold Ce1;have key:Bb s=(([48,120]:By).isPrefixOf s||([48,88]:By).isPrefixOf s):=by
  match s with
  | []=>rfl
  | [a]=>simp[Bb,j2]
  | a::b::r=>
   simp only[Bb,j2,k9,aa6,ad2];rw[ae6 (a:=(48:UInt8)),ae6 (a:=(120:UInt8)),ae6 (a:=(88:UInt8))];cases (a==48)<;>simp
 grind
theorem Bb6{R:Type}{k0:Unit->Option R}{k1:Int->Option R}(s:By)(C:s.length<=1000000000)(base:Nat)(B:base<=16):∀(r i a n:Nat),i+r=s.length->r<n->a<=Bm->
  Gw LF n s (base:Int) (a:Int) (s.length:Int) (i:Int) k0 k1=match E5 base a (s.drop i) with|some v=>k1 (v:Int)|none=>k0 ():=by
 intro r
 induction r with
 | zero=>
  intro i a n u w q;obtain⟨n,rfl⟩:∃m,n=m+1:=⟨n-1,by omega⟩
  rw[Gw];rw[A6,g6 (by omega)];rfl
 | succ r l=>
  intro i a n u w q;obtain⟨n,rfl⟩:∃m,n=m+1:=⟨n-1,by omega⟩
  rw[Gw,D1 s i (by omega)];rw[D0];have t:=(s.getD i 0).toNat_lt;generalize s.getD i 0=b at *;have k:((i:Int)+1)=((i+1:Nat):Int):=by omega
  have o:Bm=1099511627776:=rfl;have step:∀d:Nat,d<base->(a*base+d<100000000000000/\A1 (A1 ((a:Int)*(base:Int))+(d:Int))=((a*base+d:Nat):Int)):=by
   intro d c;have h:a*base<=1099511627776*16:=ad0 (by omega) (by omega);refine⟨by omega,?_⟩;have p:A1 ((a*base:Nat):Int)=((a*base:Nat):Int):=A7;rw[<-ac3,p,A7];rfl
  simp (disch:=omega) only[B4,L5,cond_true,vl,C4,Tc,Tb,Ta];rw[k];simp only[E5];rcases Bx b with⟨h,j,e⟩|⟨h,j,e⟩|⟨h,j,e⟩|⟨h,j,A,e⟩
  ·have f:wu8 ((b.toNat:Int)-48)=((dig b:Nat):Int):=by rw[L0];omega
   simp (disch:=omega) only[B4,E1,f0,d9,cond_false,cond_true,f,C4];by_cases c:dig b<base
   ·rw[if_pos c,A8,(step _ c).2,B33];exact l (i+1) _ n (by omega) (by omega) (by omega)
   ·rw[if_neg c,A6];rfl
  ·have f:wu8 ((b.toNat:Int)-97)+10=((dig b:Nat):Int):=by rw[L0];omega
   have g:wu8 ((b.toNat:Int)-97)=((b.toNat:Int)-97):=L0;rw[g] at f;simp (disch:=omega) only[B4,E1,f0,d9,cond_false,cond_true,g,C4,f];by_cases c:dig b<base
   ·rw[if_pos c,A8,(step _ c).2,B33];exact l (i+1) _ n (by omega) (by omega) (by omega)
   ·rw[if_neg c,A6];rfl
  ·have f:wu8 ((b.toNat:Int)-65)+10=((dig b:Nat):Int):=by rw[L0];omega
   have g:wu8 ((b.toNat:Int)-65)=((b.toNat:Int)-65):=L0;rw[g] at f;simp (disch:=omega) only[B4,E1,f0,d9,cond_false,cond_true,g,C4,f];by_cases c:dig b<base
   ·rw[if_pos c,A8,(step _ c).2,B33];exact l (i+1) _ n (by omega) (by omega) (by omega)
   ·rw[if_neg c,A6];rfl
  ·rw[if_neg (show ¬dig b<base by omega)];by_cases x:b.toNat<48
   ·simp (disch:=omega) only[B4,E1,f0,d9,cond_false,cond_true]
   ·by_cases y:b.toNat<65
    ·simp (disch:=omega) only[B4,E1,f0,d9,cond_false,cond_true]
    ·by_cases z:b.toNat<97
     ·simp (disch:=omega) only[B4,E1,f0,d9,cond_false,cond_true]
     ·simp (disch:=omega) only[B4,E1,f0,d9,cond_false,cond_true]
theorem Bb7{R:Type}{k0:Int->Bool->Option R}(s:By)(base:Int)(c:A3 s.length=true)(d:ltN base 17=true):Bu4 LF s base k0=k0 (L9 (E5 base.toNat 0 s):Int) (E5 base.toNat 0 s).isSome:=by have f:=L6 c;have:=C1;obtain⟨a,e⟩:=E6.1 d;obtain⟨b,rfl⟩:=j1 a;unfold Bu4;have:=Bb6 (k0:=λ_=>k0 0 false) (k1:=λn=>k0 n true) s f b (by omega) s.length 0 0 LF (by omega) (by omega) (by unfold Bm;omega);refine d8 this ?_;rw[j6,f7];cases E5 b 0 s<;>rfl
theorem By5{R:Type}{f:Int->Bool->Option R}(s:By)(d:A3 s.length=true):num LF s f=f (L9 (Z4 s):Int) (Z4 s).isSome:=by
 have k:=L6 d;unfold num Z4;rw[d];by_cases a:s=[]
 ·subst a;rfl
 have c:(s==([]:By))=false:=by simpa using a
 have j:0<s.length:=p4.2 a;rw[if_neg a,c];simp only[cond_true,cond_false,vl];cases h:Bb s with
 | true=>
  have:=Ov h;simp (disch:=first|omega|(simp;omega)) only[cond_true,if_true,Y6,P8,D9,Uc];rfl
 | false=>
  simp only[cond_false,p5,if_false];have i:(E5 10 0 s)=E5 10 0 s:=rfl;by_cases g:1<s.length
  ·simp (disch:=omega) only[B4,L5,cond_true,Z0,g,true_and];have e:=P7 (s.getD 0 0) 48 (by omega);rw[show((48:Nat):Int)=48 from rfl] at e;rw[e];by_cases b:s.getD 0 0=48
   ·rw[if_pos b,b,show((48:UInt8)==g9 48)=true from rfl];simp (disch:=first|omega|(simp;omega)) only[Y6,P8,D9,Uc,cond_true];rfl
   ·rw[if_neg b,show(s.getD 0 0==g9 48)=false from beq_eq_false_iff_ne.2 b];rfl
  ·rw[A6,F8];rfl
theorem RA{R:Type}{b:Bool->Option R}(s:By)(a:A3 s.length=true):BS LF s b=b (F4 s):=by
 have i:=L6 a;have h:=Ad s;have g:=Kp (KV s);have d:=Yk s;have c:((C6 s).length:Int)-1=(((C6 s).length-1:Nat):Int):=by omega
 unfold BS F4;rw[a];simp (disch:=omega) only[cond_true,vl,G1,c,C4,L5,f7,R8,X1,d,D9];cases f:Bb (Ix s) with
 | true=>
  have:=Ov f;have e:Z4 (Ix s)=E5 16 0 ((Ix s).drop 2):=by
   unfold Z4;grind
  simp[e]
 | false=>
  simp only[cond_false,p5,if_false];cases E5 10 0 (Ix s) with
  | none=>simp
  | some v=>cases Ix s<;>rfl
theorem IX{R:Type}{c:Bool->Option R}(s:By)(a:A3 s.length=true):Vb LF s c=c (F4 s):=by
 have j:=L6 a;have i:=Ad s;have h:=Kp (KV s);have e:=Yk s;have d:((C6 s).length:Int)-1=(((C6 s).length-1:Nat):Int):=by omega
 unfold Vb F4;rw[a,By6];simp (disch:=omega) only[cond_true,vl,G1,d,C4,L5,f7,R8,X1,e,D9];generalize Ix s=l at *;cases (!l.isEmpty&&(E5 10 0 l).isSome) with
 | true=>rfl
 | false=>
  simp only[cond_false,p5,if_false];cases Z4 l with
  | none=>rfl
  | some v=>
   simp only[i6,cond_true,if_true,A39];by_cases b:2<=l.length
   ·simp (disch:=omega) only[E1,L5,d9,cond_true,b,decide_true,Bool.true_and];have f:=P7 (l.getD 1 0) 120 (by omega);have g:=P7 (l.getD 1 0) 88 (by omega);grind
   ·rw[A8];simp[b]
theorem QE{R:Type}{e:By->Option R}(b:Nat)(j:b<=9223372036854775808)(n:Int)(f:ltN n (b+1)=true):BN b n e=e (f8 n.toNat):=by
 obtain⟨a,g⟩:=E6.1 f;obtain⟨m,rfl⟩:=j1 a;have key:∀d:Nat,d<10->wu8 (A1 (48+(d:Int)))=((48+d:Nat):Int):=by
  intro d i;rw[A7,L0];rfl
 have c:∀d:Nat,d<10->[[SV.int .u8 ((48+d:Nat):Int)]]=[g9 (48+d)].map D7:=by
  intro d i;rw[B54 (by omega)];rfl
 unfold BN;rw[f7];by_cases h:m<10
 ·rw[A8,key m h,x3 h];simp only[cond_true,vl];rw[c m h,V4,V9];rfl
 ·have l:=Ir 19 (m / 10) (by omega) (by omega);rw[A6,show(10:Int)=((10:Nat):Int) from rfl,L7,Gn];simp (disch:=omega) only[cond_false,vl,C4,cond_true,f7];rw[M8];simp only[cond_true];have k:=key (m % 10) (by omega);rw[A7] at k;rw[k,c (m % 10) (by omega),V4,V9,N3 (by simp;omega),Hv m h];rfl
theorem Bh6{R:Type}{f:Int->Option R}{c:Unit->Option R}(s:By):∀(r m n:Nat),m+r=256->r<n->Ks LF n s (m:Int) f c=match oct s with|some v=>(if m<=v then f (v:Int) else c ())|none=>c ():=by
 intro r
 induction r with
 | zero=>
  intro m n g i;obtain⟨n,rfl⟩:∃m,n=m+1:=⟨n-1,by omega⟩
  rw[Ks];rw[A6];cases h:oct s with
  | none=>rfl
  | some v=>have:=(Ui.1 h).1;simp only[cond_false];rw[F8]
 | succ r j=>
  intro m n g i;obtain⟨n,rfl⟩:∃m,n=m+1:=⟨n-1,by omega⟩
  rw[Ks];have b:((m:Int)+1)=((m+1:Nat):Int):=by omega
  simp (disch:=omega) only[B4,Uc,cond_true,vl,C4,f7];by_cases a:f8 m=s
  ·rw[show(f8 m==s)=true by simpa using a,Ui.2 ⟨by omega,a⟩];simp
  ·rw[show(f8 m==s)=false by simpa using a,cond_false,b,j (m+1) n (by omega) (by omega)];cases h:oct s with
   | none=>rfl
   | some v=>
    have:=(Ui.1 h).2;have:v≠m:=by intro e;subst e;exact a this
    simp only[];by_cases d:m<=v
    ·rw[if_pos d,R7]
    ·rw[if_neg d,F8]
theorem Bh7{R:Type}{a:Int->Bool->Option R}(s:By)(b:A3 s.length=true):Ci8 LF s a=a (L9 (oct s):Int) (oct s).isSome:=by have:=C1;unfold Ci8;refine d8 (Bh6 s 256 0 LF (by omega) (by omega)) ?_;cases oct s<;>rfl
theorem C33(s:By)(a b:Nat)(h:a<=b)(c:b<s.length):cut s (a:Int) ((b+1:Nat):Int)=cut s (a:Int) (b:Int)++[s.getD b 0]:=by rw[Gv,Gv,MC s b c,s9 (by rw[List.length_take];omega)]
theorem Bu2(s:By)(a:Nat):cut s (a:Int) (a:Int)=[]:=by rw[Gv];grind
theorem YD{R:Type}{k0:LL->Option R}(s:By)(p:s.length<=1000000000)(c:UInt8):∀(r i a n:Nat) (l:List By),i+r=s.length->r+1<n->a<=i->l.length<=i->
  U2 LF n s (c.toNat:Int) (a:Int) (i:Int) (D4 l) k0=k0 (D4 (l++O8 c (cut s (a:Int) (i:Int)) (s.drop i))):=by
 intro r
 induction r with
 | zero=>
  intro i a n l j o f k;obtain⟨n,rfl⟩:∃m,n=m+1:=⟨n-1,by omega⟩
  obtain⟨n,rfl⟩:∃m,n=m+1:=⟨n-1,by omega⟩
  have b:i=s.length:=by omega
  subst b;rw[U2];simp (disch:=omega) only[E1,d9,cond_true,beq_self_eq_true,Y6,G1,E9,C4];rw[U2];rw[A8,List.drop_length];simp only[f0,cond_false,O8,Vu];rfl
 | succ r g=>
  intro i a n l j o f k;obtain⟨n,rfl⟩:∃m,n=m+1:=⟨n-1,by omega⟩
  rw[U2];have d:((i:Int)+1)=((i+1:Nat):Int):=by omega
  have e:((i:Int)==(s.length:Int))=false:=by rw[beq_eq_false_iff_ne];omega
  simp (disch:=omega) only[E1,d9,cond_true,cond_false,e,L5,D0,Ct2,Y6,G1,E9,C4];rw[d,D1 s i (by omega)];simp only[O8];by_cases h:s.getD i 0=c
  ·rw[show(s.getD i 0==c)=true by simpa using h,if_pos h,cond_true];have:=g (i+1) (i+1) n (l++[cut s (a:Int) (i:Int)]) (by omega) (by omega) (by omega) (by simp<;>omega);rw[Vu] at this;refine d8 this ?_;rw[Bu2];simp
  ·rw[show(s.getD i 0==c)=false from beq_eq_false_iff_ne.2 h,if_neg h,cond_false];rw[g (i+1) a n l (by omega) (by omega) (by omega) (by omega),C33 s a i f (by omega)]
theorem Aw0{R:Type}{k0:LL->Option R}(s:By)(c:Int)(a:A3 s.length=true)(d:inR c 256=true):HG LF s c k0=k0 (D4 (pcs (u8n c) s)):=by
 have f:=L6 a;have:=C1;simp only[inR,m9,decide_eq_true_eq] at d;have e:c=((u8n c).toNat:Int):=by
  unfold u8n;simp;omega
 unfold HG;generalize u8n c=b at *;subst e;have:=YD (k0:=k0) s f b s.length 0 0 LF [] (by omega) (by omega) (by omega) (by simp);refine d8 this ?_;rw[Bu2];rfl
theorem ZV(c:UInt8)(s:By):(D4 (pcs c s)).isEmpty=false:=by
 cases h:pcs c s with
 | nil=>exact absurd h (An6 c s)
 | cons a r=>rfl
theorem YE(s:By)(c:Int)(a:A3 s.length=true)(b:inR c 256=true):∃r H,HG LF s c (λl=>rv (.fl 0) [.arr true 9 1 l])=rv r H/\r.stab [1] H = .s (.sl false false 1 (D4 (pcs (u8n c) s))):=by refine⟨_,_,Aw0 s c a b,?_⟩;simp[PV.stab,Pm,PV.snap,ZV]
theorem B34(d:List By)(x:By)(m:Nat):t7 (D4 (d++d7 (m+1) [])) d.length (F3 (b8 (D4 (d++d7 (m+1) [])) d.length []) 0 [SV.str x])=D4 ((d++[x])++d7 m []):=by
 have a:b8 (D4 (d++d7 (m+1) [])) d.length []=[SV.str []]:=by
  unfold D4;grind
 rw[a];simp only[F3,List.set_cons_zero,Vu];rw[show d.length=(D4 d).length by simp,List.set_append_right _ _ (by omega),Nat.sub_self,List.replicate_succ];simp[D4]
theorem VX{R:Type}{k0:By->Int->LL->Option R}(c:UInt8):∀(m n:Nat) (s:By) (d:List By),s.length<=1000000000->m=s.count c->d.length+m<=1000000000->m<n->
  ∃(f:List By) (e:By),pcs c s=f++[e]/\e.length<=s.length/\Ak LF n s [c] 0 ((d.length+m:Nat):Int) (d.length:Int) (D4 (d++d7 (m+1) [])) k0=k0 e ((d.length+m:Nat):Int) (D4 ((d++f)++[[]])):=by
 intro m
 induction m with
 | zero=>
  intro n s d k b x y;obtain⟨n,rfl⟩:∃m,n=m+1:=⟨n-1,by omega⟩
  have a:c∉s:=w9.1 b.symm;refine⟨[],s,Nm a,t8 _,?_⟩;rw[Ak];rw[A6];simp
 | succ m z=>
  intro n s d k b x y;obtain⟨n,rfl⟩:∃m,n=m+1:=⟨n-1,by omega⟩
  rcases S7 c s with a|⟨p,r,rfl,a⟩
  ·rw[w9.2 a] at b;omega
  ·have i:m=r.count c:=by
    rw[List.count_append,ac4,w9.2 a] at b;simp at b;omega
   simp only[p6,x9] at k;obtain⟨f,e,w,B,j⟩:=z n r (d++[p]) (by omega) i (by simp<;>omega) (by omega);refine⟨p::f,e,by rw[RH a,w];rfl,by simp<;>omega,?_⟩;rw[Ak];have l:((p.length:Int)+1)=((p.length+1:Nat):Int):=by omega
   have o:(d.length:Int)+1=((d.length+1:Nat):Int):=by omega
   have q:((p.length+1:Nat):Int).toNat=p.length+1:=by omega
   have A:(((p++c::r).length:Nat):Int)=((p.length+(r.length+1):Nat):Int):=by simp
   have t:(p++c::r).take p.length=p:=List.take_left' rfl;have u:(p++c::r).drop (p.length+1)=r:=by
    rw[show p++c::r=(p++[c])++r by simp,List.drop_left' (by simp)]
   rw[Yf a];have v:(D4 (d++d7 (m+1+1) [])).length=d.length+(m+2):=by simp<;>omega
   simp (disch:=first|omega|(simp;omega)) only[B4,E1,D9,cond_true,cond_false,vl,Int.add_zero,C4,Y6,L5,v,f7,o6,P8,J5,t,B34];rw[decide_eq_true (show d.length<d.length+(m+2) by omega),cond_true,show((1:Nat):Int)=1 from rfl,l];simp (disch:=first|omega|(simp;omega)) only[C4,Y6,cond_true,P8,q,u,o];have g:((((d++[p]).length+m:Nat):Int))=((d.length+(m+1):Nat):Int):=by simp<;>omega
   have h:(((d++[p]).length:Nat):Int)=((d.length+1:Nat):Int):=by simp
   rw[g,h] at j;rw[j];simp
theorem FR{R:Type}{k0:Unit->Option R}{g:Nat->LL->Option R}(s p:By)(v n:Int)(w:A3 s.length=true)(x:(p.length==1)=true)(y:(v==0)=true)(z:(n==(-1))=true) :
  FQ LF s p v n k0 g=g (pcs (p.getD 0 0) s).length (D4 (pcs (p.getD 0 0) s)):=by
 have C:=L6 w;have:=C1;obtain⟨c,rfl⟩:∃c,p=[c]:=by
  match p,x with
  | [c],_=>exact⟨c,rfl⟩
 have:v=0:=by simpa using y
 subst this;have:n=-1:=by simpa using z
 subst this;have G:=Fk c s;have B:=Hd c s;obtain⟨d,D,u,F,h⟩:=VX (R:=R) (k0:=λf a b=>cond (inR a (a8 b))
     (cond (decide ((b9 a)<(a8 b)))
      (vl (A1 (a+(1))) λe=>
      cond (I5 (0) e (a8 (t7 b (b9 a) (F3 (b8 b (b9 a) []) 0 [(SV.str f)]))))
       (g ((b9 e)-0) (t7 b (b9 a) (F3 (b8 b (b9 a) []) 0 [(SV.str f)])))
       (none))
      (none))
     (none)) c (s.count c) LF s [] C rfl (by simp<;>omega) (by omega)
 unfold FQ;have i:A1 ((s.count c:Int)+1)=((s.count c+1:Nat):Int):=A7;have j:A1 ((s.length:Int)+1)=((s.length+1:Nat):Int):=A7;have k:(if ((s.length+1:Nat):Int)<((s.count c+1:Nat):Int) then ((s.length+1:Nat):Int) else ((s.count c+1:Nat):Int))=((s.count c+1:Nat):Int):=F8;have l:((s.count c+1:Nat):Int)-1=(s.count c:Int):=by omega
 have m:(d7 (s.count c+1) [SV.str ([]:By)])=D4 ([]++d7 (s.count c+1) []):=by simp[D4]
 simp only[k9,vl,o6,i,j,k,f7,m];rw[show((-1:Int)==0)=false from rfl,show([c]==([]:By))=false from rfl,show ltI (-1) 0=true from rfl,decide_eq_true (show(0:Int)<=((s.count c+1:Nat):Int) by omega),decide_eq_true (show((s.count c+1:Nat):Int)<=((s.count c+1:Nat):Int) by omega),E9 (by omega),l,A7];simp only[cond_true,cond_false,beq_self_eq_true,Bool.and_self];simp only[ac6,ae5] at h;refine d8 h ?_;have o:(D4 ((([]:List By)++d)++[[]]))=D4 (d++d7 (0+1) []):=by simp
 have A:d.length=s.count c:=by grind
 have q:=B34 d D 0;rw[<-A,o];have t:(D4 (d++d7 (0+1) ([]:By))).length=d.length+1:=by simp
 have r:A1 ((d.length:Int)+1)=((d.length+1:Nat):Int):=A7;simp only[f7,q,t,vl,r];rw[E4,decide_eq_true (show d.length<d.length+1 by omega),Y6 (by omega) (by omega) (by simp),u];simp
theorem VY(s p:By)(v n:Int)(a:A3 s.length=true)(b:(p.length==1)=true)(c:(v==0)=true)(d:(n==(-1))=true) :
  ∃r H,FQ LF s p v n (λ_=>rv (.fl 0) [.arr true 9 1 []]) (λi l=>rv (.vw 0 0 i) [.arr false 9 1 l])=rv r H/\r.stab [1] H = .s (.sl false false 1 (D4 (pcs (p.getD 0 0) s))):=by
 refine⟨_,_,FR s p v n a b c d,?_⟩;simp[PV.stab,Pm,PV.snap,s7]
theorem SW{R:Type}{a:Nat->LL->Option R}(s p:By)(b:A3 s.length=true)(c:(p.length==1)=true):CE LF s p a=a (pcs (p.getD 0 0) s).length (D4 (pcs (p.getD 0 0) s)):=by unfold CE;rw[b,c];rfl
theorem LC{l:List By}{i:Nat}(h:i<l.length):l.getD i []∈l:=by grind
theorem An5{R:Type}{d:LL->Option R}(s:By)(b:A3 s.length=true):parts LF s d=d (D4 (C6 s)):=by
 have j:=L6 b;have g:=Hd 46 s;have i:=Fk 46 s;unfold parts;rw[b];have e:A1 (((pcs 46 s).length:Int)-1)=(((pcs 46 s).length-1:Nat):Int):=by rw[A7];omega
 simp only[cond_true,vl,k9,show((1:Nat)==1)=true from rfl,G1,e,f7];by_cases c:1<(pcs 46 s).length
 ·rw[A8,E4,R8 (by omega),X1];have f:(pcs 46 s).getD ((pcs 46 s).length-1) []=(pcs 46 s).getLastD []:=by grind
  rw[f];by_cases a:(pcs 46 s).getLastD []=[]
  ·rw[a,show(([]:By)==[])=true from rfl,H9];have:C6 s=(pcs 46 s).dropLast:=by unfold C6;rw[if_pos ⟨c,a⟩]
   rw[this,y9,J5,f7];simp[D4]
  ·rw[show((pcs 46 s).getLastD []==[])=false from beq_eq_false_iff_ne.2 a];have:C6 s=pcs 46 s:=by unfold C6;rw[if_neg (λh=>a h.2)]
   grind
 ·rw[A6];have:C6 s=pcs 46 s:=by unfold C6;rw[if_neg (λh=>c h.1)]
  grind
theorem XU{R:Type}{d:LL->Option R}(s:By)(b:A3 s.length=true):RX LF s d=d (D4 (C6 s)):=by
 have j:=L6 b;have g:=Hd 46 s;have i:=Fk 46 s;unfold RX;rw[b];have e:A1 (((pcs 46 s).length:Int)-1)=(((pcs 46 s).length-1:Nat):Int):=by rw[A7];omega
 simp only[cond_true,vl,show u8n 46=46 from rfl,G1,e,f7];by_cases c:1<(pcs 46 s).length
 ·rw[A8,E4,R8 (by omega),X1];have f:(pcs 46 s).getD ((pcs 46 s).length-1) []=(pcs 46 s).getLastD []:=by grind
  rw[f];by_cases a:(pcs 46 s).getLastD []=[]
  ·rw[a,show(([]:By)==[])=true from rfl,H9];have:C6 s=(pcs 46 s).dropLast:=by unfold C6;rw[if_pos ⟨c,a⟩]
   rw[this,y9,J5,f7];simp[D4]
  ·rw[show((pcs 46 s).getLastD []==[])=false from beq_eq_false_iff_ne.2 a];have:C6 s=pcs 46 s:=by unfold C6;rw[if_neg (λh=>a h.2)]
   grind
 ·rw[A6];have:C6 s=pcs 46 s:=by unfold C6;rw[if_neg (λh=>c h.1)]
  grind
theorem Ib(l:List By)(i:Nat)(h:i<l.length):l.drop i=l.getD i []::l.drop (i+1):=by simp_all
theorem Bg6{R:Type}{g:Unit->Option R}{j:Int->Option R}(l:List By)(B:1<=l.length)(L:l.length<=4)(A:∀x∈l,x.length<=1000000000):∀(r i v n:Nat),i+r=l.length->0<r->r<n->v<256 ^ i->
  Hg LF n (D4 l) (v:Int) (l.length:Int) (i:Int) g j=match Um (8*(5-l.length)) v (l.drop i) with|some w=>j (w:Int)|none=>g ():=by
 intro r
 induction r with
 | zero=>intro i v n _ h;omega
 | succ r J=>
  intro i v n K _ M H;obtain⟨n,rfl⟩:∃m,n=m+1:=⟨n-1,by omega⟩
  rw[Hg,Ib l i (by omega)];have N:=A _ (LC (show i<l.length by omega));have f:Bm=1099511627776:=rfl;have C:256 ^ i<=16777216:=by
   have:i=0\/i=1\/i=2\/i=3:=by omega
   rcases this with rfl|rfl|rfl|rfl<;>decide
  simp (disch:=omega) only[B4,G1,L5,cond_true,f7,R8,X1,D9,vl];simp only[Um];have c:((i:Int)+1)=((i+1:Nat):Int):=by omega
  cases D:Z4 (l.getD i []) with
  | none=>rfl
  | some q=>
   have F:=A71 D;have p:A1 ((l.length:Int)-1)=((l.length-1:Nat):Int):=by rw[A7];omega
   simp only[i6,f0,cond_false,L9,j5,p];by_cases G:r=0
   ·subst G;have t:l.drop (i+1)=[]:=g6 (by omega);have o:A1 (8*A1 (5-(l.length:Int)))=((8*(5-l.length):Nat):Int):=by
     rw[C4 (n:=5-(l.length:Int)) (by omega) (by omega),A7];omega
    have b:2 ^ (8*(5-l.length))*256 ^ i=4294967296:=by
     have:l.length=1\/l.length=2\/l.length=3\/l.length=4:=by omega
     grind
    have u:1*2 ^ (8*(5-l.length))<=4294967296:=by
     rw[<-b,aa4];exact y6 _ (ac2 (by omega))
    rw[t,A6,o,decide_eq_true (show(0:Int)<=((8*(5-l.length):Nat):Int) by omega)];simp only[cond_false,cond_true];have k:=ZJ 1 (8*(5-l.length)) (by omega) (by omega);have I:v*2 ^ (8*(5-l.length))<4294967296:=by
     rw[<-b,ae4];exact Nat.mul_lt_mul_of_pos_left H (ac2 (by omega))
    have e:=ZJ v (8*(5-l.length)) (by omega) (by omega);rw[show((1:Nat):Int)=1 from rfl] at k;rw[k,e,aa4];by_cases a:q<2 ^ (8*(5-l.length))
    ·rw[A8,if_pos a,Cs1 _ _ (by omega) (by omega),BU v q _ a];simp only[f0,cond_false];obtain⟨n,rfl⟩:∃m,n=m+1:=⟨n-1,by omega⟩
     rw[Hg];rw[c,A7,A6];rfl
    ·rw[A6,if_neg a];rfl
   ·obtain⟨y,z,d⟩:∃y z,l.drop (i+1)=y::z:=⟨_,_,Ib l (i+1) (by omega)⟩
    rw[d,A8];simp only[cond_true];by_cases a:q<=255
    ·have e:=ZJ v 8 (by omega) (by omega);rw[show((8:Nat):Int)=8 from rfl] at e;rw[A6,if_pos a,e,Cs1 _ _ (by omega) (by omega),BU v q 8 (by omega),c,A7];rw[<-d];exact J (i+1) _ n (by omega) (by omega) (by omega) (by rw[m6];omega)
    ·rw[A8,if_neg a];rfl
theorem A75(free m:Nat):∀(l:List By) (v w:Nat),v<256 ^ m->Um free v l=some w->w<256 ^ (m+(l.length-1))*2 ^ free
 | [],v,w,b,h=>by cases h
 | p::r,v,w,b,h=>by
  simp only[Um] at h;cases a:Z4 p with
  | none=>simp[a] at h
  | some q=>
   simp only[a] at h;cases r with
   | nil=>
    simp only at h;split at h
    ·rename_i c;cases h;simp only[x9,ac6,Nat.add_sub_cancel,Nat.add_zero];have:(v+1)*2 ^ free<=256 ^ m*2 ^ free:=Nat.mul_le_mul_right _ b;grind
    grind
   | cons y z=>
    simp only at h;split at h
    ·rename_i c;have:=A75 free (m+1) (y::z) (v*256+q) w (by rw[m6];omega) h;grind
    grind
theorem Bz5{s:By}{w:Nat}(h:pnB s=some w):w<4294967296:=by
 unfold pnB at h;split at h
 ·cases h
 ·rename_i a;have b:=Ad s;have:=A75 _ 0 (C6 s) 0 w (by decide) h;have e:(C6 s).length=1\/(C6 s).length=2\/(C6 s).length=3\/(C6 s).length=4:=by omega
  grind
theorem Bg7{R:Type}{b:Int->Bool->Option R}(s:By)(a:A3 s.length=true):Ci0 LF s b=b (L9 (pnB s):Int) (pnB s).isSome:=by
 have f:=L6 a;have:=C1;have c:=Ad s;unfold Ci0;rw[a,G1];by_cases h:4<(C6 s).length
 ·rw[A8];unfold pnB;rw[if_pos h];rfl
 ·rw[A6];simp only[cond_true,cond_false];refine d8 (Bg6 (C6 s) c.1 (by omega) (λx g=>w6 (Kp g) f) (C6 s).length 0 0 LF (by omega) (by omega) (by omega) (by decide)) ?_;have e:pnB s=Um (8*(5-(C6 s).length)) 0 (C6 s):=by unfold pnB;rw[if_neg h]
  rw[j6,<-e];cases d:pnB s with
  | none=>rfl
  | some w=>
   have:=Bz5 d;simp only[L9,j5,i6];rw[Lm]
theorem Au5{R:Type}{k0:Unit->Option R}{k1:Int->Option R}(l:List By)(F:1<=l.length)(L:l.length<=4)(D:∀x∈l,x.length<=1000000000):∀(r i v n:Nat),i+r=l.length->0<r->r<n->v<256 ^ i->
  Dg LF n (D4 l) ((v*2 ^ (32-8*i):Nat):Int) (i:Int) k0 k1=match Um (8*(5-l.length)) v (l.drop i) with|some w=>k1 (w:Int)|none=>k0 ():=by
 intro r
 induction r with
 | zero=>intro i v n _ h;omega
 | succ r J=>
  intro i v n K _ M N;obtain⟨n,rfl⟩:∃m,n=m+1:=⟨n-1,by omega⟩
  rw[Dg,Ib l i (by omega)];have O:=D _ (LC (show i<l.length by omega));have k:Bm=1099511627776:=rfl;have a:v*2 ^ (32-8*i)<4294967296:=by
   have:i=0\/i=1\/i=2\/i=3:=by omega
   rcases this with rfl|rfl|rfl|rfl
   all_goals omega
  simp (disch:=omega) only[B4,G1,L5,cond_true,f7,R8,X1,D9,vl];simp only[Um];have c:((i:Int)+1)=((i+1:Nat):Int):=by omega
  cases G:Z4 (l.getD i []) with
  | none=>rfl
  | some q=>
   have H:=A71 G;have A:A1 ((l.length:Int)-1)=((l.length-1:Nat):Int):=by rw[A7];omega
   simp only[i6,f0,cond_false,L9,j5,A];by_cases I:r=0
   ·subst I;have B:l.drop (i+1)=[]:=g6 (by omega);have u:A1 (8*A1 (5-(l.length:Int)))=((8*(5-l.length):Nat):Int):=by
     rw[C4 (n:=5-(l.length:Int)) (by omega) (by omega),A7];omega
    have f:2 ^ (8*(5-l.length))*256 ^ i=4294967296:=by
     have:l.length=1\/l.length=2\/l.length=3\/l.length=4:=by omega
     grind
    have C:1*2 ^ (8*(5-l.length))<=4294967296:=by
     rw[<-f,aa4];exact y6 _ (ac2 (by omega))
    have e:((i:Int)==((l.length-1:Nat):Int))=true:=by rw[beq_iff_eq];omega
    rw[B,e,u,decide_eq_true (show(0:Int)<=((8*(5-l.length):Nat):Int) by omega)];simp only[cond_true];have o:=ZJ 1 (8*(5-l.length)) (by omega) (by omega);rw[show((1:Nat):Int)=1 from rfl] at o;rw[o,aa4];by_cases b:q<2 ^ (8*(5-l.length))
    ·rw[A8,if_pos b];simp only[f0,cond_false];obtain⟨n,rfl⟩:∃m,n=m+1:=⟨n-1,by omega⟩
     rw[Dg];rw[c,C4 (n:=((i+1:Nat):Int)) (by omega) (by omega),G1,A6];have:32-8*i=8*(5-l.length):=by omega
     rw[this] at a ⊢;rw[cond_false,A7];rfl
    ·rw[A6,if_neg b];rfl
   ·obtain⟨y,z,d⟩:∃y z,l.drop (i+1)=y::z:=⟨_,_,Ib l (i+1) (by omega)⟩
    have e:((i:Int)==((l.length-1:Nat):Int))=false:=by rw[beq_eq_false_iff_ne];omega
    rw[d,e];simp only[cond_false];by_cases b:q<=255
    ·have j:A1 (24-A1 (8*(i:Int)))=((24-8*i:Nat):Int):=by
      rw[C4 (n:=8*(i:Int)) (by omega) (by omega),A7];omega
     have g:q*2 ^ (24-8*i)<4294967296:=by
      have:i=0\/i=1\/i=2:=by omega
      clear a;rcases this with rfl|rfl|rfl
      ·show q*16777216<_;omega
      ·show q*65536<_;omega
      ·show q*256<_;omega
     have p:=ZJ q (24-8*i) (by omega) (by omega);rw[A6,if_pos b,j,decide_eq_true (show(0:Int)<=((24-8*i:Nat):Int) by omega),p,c,C4 (n:=((i+1:Nat):Int)) (by omega) (by omega)];have t:A1 (((v*2 ^ (32-8*i):Nat):Int)+((q*2 ^ (24-8*i):Nat):Int))=(((v*256+q)*2 ^ (32-8*(i+1)):Nat):Int):=by
      rw[A7];have:i=0\/i=1\/i=2:=by omega
      clear a g p j;rcases this with rfl|rfl|rfl
      ·show((v*4294967296:Nat):Int)+((q*16777216:Nat):Int)=(((v*256+q)*16777216:Nat):Int);omega
      ·show((v*16777216:Nat):Int)+((q*65536:Nat):Int)=(((v*256+q)*65536:Nat):Int);omega
      ·show((v*65536:Nat):Int)+((q*256:Nat):Int)=(((v*256+q)*256:Nat):Int);omega
     rw[t,<-d];exact J (i+1) _ n (by omega) (by omega) (by omega) (by rw[m6];omega)
    ·rw[A8,if_neg b];rfl
theorem Au6{R:Type}{k0:Int->Bool->Option R}(s:By)(a:A3 s.length=true):A84 LF s k0=k0 (L9 (pnB s):Int) (pnB s).isSome:=by
 have f:=L6 a;have:=C1;have c:=Ad s;unfold A84;rw[a,G1];by_cases h:4<(C6 s).length
 ·rw[A8];unfold pnB;rw[if_pos h];rfl
 ·rw[A6];simp only[cond_true,cond_false];have b:=Au5 (k0:=λ_=>k0 0 false) (k1:=λv=>k0 (Zj v) true) (C6 s) c.1 (by omega) (λx g=>w6 (Kp g) f) (C6 s).length 0 0 LF (by omega) (by omega) (by omega) (by decide);rw[Nat.zero_mul] at b;refine d8 b ?_;have e:pnB s=Um (8*(5-(C6 s).length)) 0 (C6 s):=by unfold pnB;rw[if_neg h]
  rw[j6,<-e];cases d:pnB s with
  | none=>rfl
  | some w=>
   have:=Bz5 d;simp only[L9,j5,i6];rw[Lm]
theorem A72:∀(l:List By) (v w m:Nat),v<256 ^ m->GN v l=some w->w<256 ^ (m+l.length)
 | [],v,w,m,b,h=>by simp only[GN,g8] at h;subst h;simpa using b
 | p::r,v,w,m,b,h=>by
  simp only[GN] at h;cases a:oct p with
  | none=>simp[a] at h
  | some q=>
   simp only[a] at h;have c:=(Ui.1 a).1;have:=A72 r (v*256+q) w (m+1) (by rw[m6];omega) h;grind
theorem Ch0(s:By):oct s=match E5 10 0 s with|some n=>(if n<=255 then (if f8 n=s then some n else none) else none)|none=>none:=by unfold oct;grind
theorem B63{R:Type}{e:Unit->Option R}{f:Int->Option R}(l:List By)(z:l.length=4)(j:∀x∈l,x.length<=1000000000):∀(r i v n:Nat),i+r=4->r<n->v<256 ^ i->
  Sj LF n (v:Int) (D4 l) 4 (i:Int) e f=match GN v (l.drop i) with|some w=>f (w:Int)|none=>e ():=by
 intro r
 induction r with
 | zero=>
  intro i v n h k u;obtain⟨n,rfl⟩:∃m,n=m+1:=⟨n-1,by omega⟩
  rw[Sj];rw[A6,g6 (by omega)];rfl
 | succ r y=>
  intro i v n h k u;obtain⟨n,rfl⟩:∃m,n=m+1:=⟨n-1,by omega⟩
  rw[Sj,Ib l i (by omega)];have A:=j _ (LC (show i<l.length by omega));have o:256 ^ i<=16777216:=by
   have:i=0\/i=1\/i=2\/i=3:=by omega
   grind
  simp (disch:=omega) only[B4,G1,L5,cond_true,f7,R8,X1,D9,Uc,vl];simp only[GN];have b:((i:Int)+1)=((i+1:Nat):Int):=by omega
  rw[Ch0];cases p:E5 10 0 (l.getD i []) with
  | none=>rfl
  | some q=>
   have t:=FE (by unfold Bm;omega) p;have d:Bm=1099511627776:=rfl;simp only[i6,f0,cond_false,L9,j5,f7];by_cases c:q<=255
   ·rw[A6,if_pos c,M8];simp only[cond_false,cond_true];by_cases a:f8 q=l.getD i []
    ·have g:=C49 v 8 (by omega) (by omega);rw[show((8:Nat):Int)=8 from rfl] at g;rw[show(f8 q==l.getD i [])=true by simpa using a,if_pos a,g,Lm,C32 _ _ (by omega) (by omega),BU v q 8 (by omega),b,A7];exact y (i+1) _ n (by omega) (by omega) (by rw[m6];omega)
    ·rw[show(f8 q==l.getD i [])=false from beq_eq_false_iff_ne.2 a,if_neg a];rfl
   ·rw[A8,if_neg c];rfl
theorem B64{R:Type}{b:Int->Bool->Option R}(s:By)(a:A3 s.length=true):v4p LF s b=b (L9 (v4B s):Int) (v4B s).isSome:=by
 have c:=L6 a;have:=C1;unfold v4p v4B;rw[a];simp only[cond_true,vl,k9,G1,show((1:Nat)==1)=true from rfl];by_cases h:(pcs 46 s).length=4
 ·rw[if_pos h,h,show(((4:Nat):Int)!=4)=false from rfl,cond_false];refine d8 (B63 (pcs 46 s) h (λx d=>w6 (Cs d).2 c) 4 0 0 LF (by omega) (by omega) (by decide)) ?_;rw[j6];cases GN 0 (pcs 46 s)<;>rfl
 ·rw[if_neg h,show(((pcs 46 s).length:Int)!=4)=true by simp<;>omega];rfl
theorem Bk3{R:Type}{b:Unit->Option R}{c:Int->Option R}(l:List By)(y:l.length=4)(h:∀x∈l,x.length<=1000000000):∀(r i v n:Nat),i+r=4->r<n->v<256 ^ i->
  La LF n (D4 l) (v:Int) (i:Int) b c=match GN v (l.drop i) with|some w=>c (w:Int)|none=>b ():=by
 intro r
 induction r with
 | zero=>
  intro i v n g j t;obtain⟨n,rfl⟩:∃m,n=m+1:=⟨n-1,by omega⟩
  rw[La];rw[A6,g6 (by omega)];rfl
 | succ r u=>
  intro i v n g j t;obtain⟨n,rfl⟩:∃m,n=m+1:=⟨n-1,by omega⟩
  rw[La,Ib l i (by omega)];have z:=h _ (LC (show i<l.length by omega));have k:256 ^ i<=16777216:=by
   have:i=0\/i=1\/i=2\/i=3:=by omega
   grind
  simp (disch:=omega) only[B4,G1,L5,cond_true,f7,R8,X1,D9,Uc,vl];simp only[GN];have a:((i:Int)+1)=((i+1:Nat):Int):=by omega
  cases o:oct (l.getD i []) with
  | none=>rfl
  | some q=>
   have p:=(Ui.1 o).1;simp only[i6,f0,cond_false,L9,j5];have d:Zj ((v:Int)*256)=((v*256:Nat):Int):=by rw[Lm];simp
   have e:Zj (q:Int)=(q:Int):=Lm;have f:Zj (((v*256:Nat):Int)+(q:Int))=((v*256+q:Nat):Int):=by rw[Lm];simp
   rw[d,e,f,a,A7];exact u (i+1) _ n (by omega) (by omega) (by rw[m6];omega)
theorem Bk4{R:Type}{b:Int->Bool->Option R}(s:By)(a:A3 s.length=true):Ck9 LF s b=b (L9 (v4B s):Int) (v4B s).isSome:=by
 have c:=L6 a;have:=C1;unfold Ck9 v4B;rw[a];simp only[cond_true,vl,show u8n 46=46 from rfl,G1];by_cases h:(pcs 46 s).length=4
 ·rw[if_pos h,h,show(((4:Nat):Int)!=4)=false from rfl,cond_false];refine d8 (Bk3 (pcs 46 s) h (λx d=>w6 (Cs d).2 c) 4 0 0 LF (by omega) (by omega) (by decide)) ?_;rw[j6];cases GN 0 (pcs 46 s)<;>rfl
 ·rw[if_neg h,show(((pcs 46 s).length:Int)!=4)=true by simp<;>omega];rfl
theorem B62{R:Type}{j:By->Option R}(v:Int)(o:ltN v 4294967296=true):v4f LF v j=j (Nx v.toNat):=by
 obtain⟨c,p⟩:=E6.1 o;obtain⟨m,rfl⟩:=j1 c;have:=C1;obtain⟨f,q⟩:∃f,LF=f+1+1+1+1+1:=⟨LF-5,by omega⟩
 have step:∀(n:Nat) (i:Nat) (out:By) (K:By->Option R),i<=24->out.length<=1000->Gq LF (n+1) (m:Int) out (i:Int) K=Gq LF n (m:Int) (out++(f8 (m / 2 ^ i % 256)++[46])) ((i:Int)-8) K:=by
  intro n i out K y A;rw[Gq];have g:m / 2 ^ i<4294967296:=aa7 (ac8 _ _) (by omega);have k:Ae7 .u32 (SH .u32 (m:Int) (i:Int)) 255=((m / 2 ^ i % 256:Nat):Int):=by
   rw[SJ .u32 m i (by show i<=32;omega),show(255:Int)=((255:Nat):Int) from rfl,Ct9 _ _ g (by omega),Ct8]
  have z:=I3 (m / 2 ^ i % 256) (by omega);have l:A1 ((m / 2 ^ i % 256:Nat):Int)=((m / 2 ^ i % 256:Nat):Int):=A7;rw[A6,decide_eq_true (show(0:Int)<=(i:Int) by omega),k];simp only[vl,l,f7,d9,cond_true];rw[M8,N3 (by omega),N3 (by simp<;>omega),A7];rfl
 have b:∀(n:Nat) (out:By) (K:By->Option R),Gq LF (n+1) (m:Int) out (-8) K=K out:=by
  intro n out K;rw[Gq];simp_all
 have x:=I3 (m / 2 ^ 24 % 256) (by omega);have w:=I3 (m / 2 ^ 16 % 256) (by omega);have D:=I3 (m / 2 ^ 8 % 256) (by omega);have C:=I3 (m / 2 ^ 0 % 256) (by omega);have u:=I3 (m / 16777216 % 256) (by omega);have t:=I3 (m / 65536 % 256) (by omega);have B:=I3 (m / 256 % 256) (by omega);have r:=I3 (m % 256) (by omega);unfold v4f;rw[show Gq LF LF=Gq LF (f+1+1+1+1+1) by rw[<-q]];rw[show(24:Int)=((24:Nat):Int) from rfl,step _ 24 _ _ (by omega) (by simp)];rw[show((24:Nat):Int)-8=((16:Nat):Int) from rfl,step _ 16 _ _ (by omega) (by simp<;>omega)];rw[show((16:Nat):Int)-8=((8:Nat):Int) from rfl,step _ 8 _ _ (by omega) (by simp<;>omega)];rw[show((8:Nat):Int)-8=((0:Nat):Int) from rfl,step _ 0 _ _ (by omega) (by simp<;>omega)];rw[show((0:Nat):Int)-8=-8 from rfl,b];have h:m / 2 ^ 24 % 256=m / 16777216:=by omega
 have e:(([]:By)++(f8 (m / 2 ^ 24 % 256)++[46])++(f8 (m / 2 ^ 16 % 256)++[46])++(f8 (m / 2 ^ 8 % 256)++[46])++(f8 (m / 2 ^ 0 % 256)++[46]))=Nx m++[46]:=by
  unfold Nx;grind
 have a:(Nx m++[46]).length<=1000:=by rw[<-e];simp;omega
 rw[e];have d:((Nx m++[46]).length:Int)-1=((Nx m).length:Int):=by simp<;>omega
 simp only[vl,d];simp only[p6,o6] at a;rw[A7,Y6 (by omega) (by omega) (by simp<;>omega),J5,f7,f7];grind
theorem RO{R:Type}{g:Unit->Option R}{h:By->Option R}(s:By)(q:s.length<=1000000000):∀(r i n v:Nat),i+r=s.length->r<n->Ae LF n s (i:Int) g h=if (E5 10 v (s.drop i)).isSome then h s else g ():=by
 intro r
 induction r with
 | zero=>
  intro i n v k l;obtain⟨n,rfl⟩:∃m,n=m+1:=⟨n-1,by omega⟩
  rw[Ae];rw[A6,g6 (by omega)];rfl
 | succ r o=>
  intro i n v k l;obtain⟨n,rfl⟩:∃m,n=m+1:=⟨n-1,by omega⟩
  rw[Ae,D1 s i (by omega)];rw[D0];have j:=(s.getD i 0).toNat_lt;generalize s.getD i 0=b at *;have f:((i:Int)+1)=((i+1:Nat):Int):=by omega
  simp (disch:=omega) only[B4,L5,cond_true,C4];simp only[E5];rw[f,o (i+1) n (min (v*10+dig b) Bm) (by omega) (by omega)];rcases Bx b with⟨a,d,e⟩|⟨a,d,e⟩|⟨a,d,e⟩|⟨a,d,p,e⟩
  ·simp only[if_pos (show dig b<10 by omega)];rw[A6,A6];rfl
  ·simp only[if_neg (show ¬dig b<10 by omega)];rw[A6,A8];rfl
  ·simp only[if_neg (show ¬dig b<10 by omega)];rw[A6,A8];rfl
  ·simp only[if_neg (show ¬dig b<10 by omega)];by_cases c:b.toNat<48
   ·rw[A8];rfl
   ·rw[A6,A8];rfl
theorem RP{R:Type}{a:Bool->Option R}(s:By)(b:A3 s.length=true):BX LF s a=a (!s.isEmpty&&(E5 10 0 s).isSome):=by
 have c:=L6 b;have:=C1;unfold BX;refine d8 (RO s c s.length 0 LF 0 (by omega) (by omega)) ?_;rw[j6];cases d:E5 10 0 s with
 | none=>simp
 | some v=>cases s<;>rfl
theorem Bh8{R:Type}{g:Int->Option R}(b:Int)(h:inR b 256=true):B01 LF b g=g (dig (u8n b):Int):=by
 simp only[inR,m9,decide_eq_true_eq] at h;have j:b=((u8n b).toNat:Int):=by
  unfold u8n;simp;omega
 generalize u8n b=c at *;subst j;have i:=c.toNat_lt;unfold B01;simp only[Ur,Uq,vl];rcases Bx c with⟨d,f,e⟩|⟨d,f,e⟩|⟨d,f,e⟩|⟨d,f,o,e⟩
 ·have a:A1 (wu8 ((c.toNat:Int)-48))=((dig c:Nat):Int):=by
   rw[L0,A7];omega
  simp (disch:=omega) only[B4,E1,f0,d9,cond_false,cond_true,a]
 ·have a:A1 (A1 (wu8 ((c.toNat:Int)-97))+10)=((dig c:Nat):Int):=by
   rw[L0,C4 (n:=(c.toNat:Int)-97) (by omega) (by omega),A7];omega
  simp (disch:=omega) only[B4,E1,f0,d9,cond_false,cond_true,a]
 ·have a:A1 (A1 (wu8 ((c.toNat:Int)-65))+10)=((dig c:Nat):Int):=by
   rw[L0,C4 (n:=(c.toNat:Int)-65) (by omega) (by omega),A7];omega
  simp (disch:=omega) only[B4,E1,f0,d9,cond_false,cond_true,a]
 ·rw[e];by_cases k:c.toNat<48
  ·simp (disch:=omega) only[B4,E1,f0,d9,cond_false,cond_true];rfl
  ·by_cases l:c.toNat<65
   ·simp (disch:=omega) only[B4,E1,f0,d9,cond_false,cond_true];rfl
   ·by_cases m:c.toNat<97
    ·simp (disch:=omega) only[B4,E1,f0,d9,cond_false,cond_true];rfl
    ·simp (disch:=omega) only[B4,E1,f0,d9,cond_false,cond_true];rfl
theorem XS{R:Type}{g:Unit->Option R}{h:Int->Option R}(s:By)(p:s.length<=1000000000):∀(r i a n:Nat),i+r=s.length->r<n->a<=Bm->
  Hi LF n s (a:Int) (i:Int) g h=match E5 16 a (s.drop i) with|some v=>h (v:Int)|none=>g ():=by
 intro r
 induction r with
 | zero=>
  intro i a n k l j;obtain⟨n,rfl⟩:∃m,n=m+1:=⟨n-1,by omega⟩
  rw[Hi];rw[A6,g6 (by omega)];rfl
 | succ r o=>
  intro i a n k l j;obtain⟨n,rfl⟩:∃m,n=m+1:=⟨n-1,by omega⟩
  rw[Hi,D1 s i (by omega)];rw[D0,Ho,TD];generalize s.getD i 0=b at *;have c:((i:Int)+1)=((i+1:Nat):Int):=by omega
  have f:Bm=1099511627776:=rfl;simp (disch:=omega) only[B4,L5,cond_true,vl,C4];simp only[E5];rw[c];by_cases e:dig b<16
  ·have d:A1 (A1 ((a:Int)*16)+(dig b:Int))=((a*16+dig b:Nat):Int):=by
    rw[C4 (n:=(a:Int)*16) (by omega) (by omega),A7];simp
   rw[if_pos e,A8];simp (disch:=omega) only[C4,f0,cond_false] at d ⊢;rw[d,B33];exact o (i+1) _ n (by omega) (by omega) (by omega)
  ·rw[if_neg e,A6];rfl
theorem At6{R:Type}{f:Unit->Option R}{g:Int->Option R}(s:By)(t:s.length<=1000000000)(base:Nat)(q:base<=16):∀(r i a n:Nat),i+r=s.length->r<n->a<=Bm->
  Ej LF n s (base:Int) (a:Int) (i:Int) f g=match E5 base a (s.drop i) with|some v=>g (v:Int)|none=>f ():=by
 intro r
 induction r with
 | zero=>
  intro i a n k l j;obtain⟨n,rfl⟩:∃m,n=m+1:=⟨n-1,by omega⟩
  rw[Ej];rw[A6,g6 (by omega)];rfl
 | succ r o=>
  intro i a n k l j;obtain⟨n,rfl⟩:∃m,n=m+1:=⟨n-1,by omega⟩
  rw[Ej,D1 s i (by omega)];rw[D0,Ho,TD];generalize s.getD i 0=b at *;have c:((i:Int)+1)=((i+1:Nat):Int):=by omega
  have e:Bm=1099511627776:=rfl;simp only[E5,vl];rw[A8,E4,c,C4 (n:=((i+1:Nat):Int)) (by omega) (by omega)];simp only[cond_true];by_cases d:dig b<base
  ·have p:a*base<=1099511627776*16:=ad0 (by omega) (by omega);have e0:A1 ((a:Int)*(base:Int))=((a*base:Nat):Int):=by
    rw[<-ac3];exact A7
   have h:A1 (((a*base:Nat):Int)+(dig b:Int))=((a*base+dig b:Nat):Int):=by
    rw[A7];rfl
   rw[if_pos d,A8,e0,h,B33];exact o (i+1) _ n (by omega) (by omega) (by omega)
  ·rw[if_neg d,A6];rfl
theorem Bi9{R:Type}{a:Int->Bool->Option R}(s:By)(p:A3 s.length=true):B15 LF s a=a (L9 (Z4 s):Int) (Z4 s).isSome:=by
 have u:=L6 p;have:=C1;have o:∀x:By,x.length<=1000000000->Hi LF LF x 0 0 (λ_=>a 0 false) (λn=>a n true)=a (L9 (E5 16 0 x):Int) (E5 16 0 x).isSome:=by
  intro x f;refine d8 (XS x f x.length 0 0 LF (by omega) (by omega) (by unfold Bm;omega)) ?_;rw[j6];cases E5 16 0 x<;>rfl
 have c:∀(x:By) (b:Nat),b<=16->x.length<=1000000000->Ej LF LF x (b:Int) 0 0 (λ_=>a 0 false) (λn=>a n true)=a (L9 (E5 b 0 x):Int) (E5 b 0 x).isSome:=by
  intro x b q f;refine d8 (At6 x f b q x.length 0 0 LF (by omega) (by omega) (by unfold Bm;omega)) ?_;rw[j6];cases E5 b 0 x<;>rfl
 have d:=λx=>c x 10 (by omega)
 have g:=λx=>c x 8 (by omega)
 have i:=λx=>c x 16 (by omega)
 rw[show((10:Nat):Int)=10 from rfl] at d;rw[show((8:Nat):Int)=8 from rfl] at g;rw[show((16:Nat):Int)=16 from rfl] at i;unfold B15 Z4;by_cases e:s=[]
 ·subst e;rfl
 have j:(s==([]:By))=false:=by simpa using e
 have t:0<s.length:=p4.2 e;rw[if_neg e,j];simp only[cond_false,CB,CC,Pc,Pd,Pe,vl];have k:=P7 (s.getD 0 0) 48 (by omega);have l:=P7 (s.getD 1 0) 120 (by omega);have m:=P7 (s.getD 1 0) 88 (by omega);rw[show((48:Nat):Int)=48 from rfl] at k;rw[show((120:Nat):Int)=120 from rfl] at l;rw[show((88:Nat):Int)=88 from rfl] at m;simp only[Z0,A39,k,l,m,show g9 48=(48:UInt8) from rfl,show g9 120=(120:UInt8) from rfl,show g9 88=(88:UInt8) from rfl];by_cases r:2<=s.length
 ·simp (disch:=omega) only[E1,L5,Y6,d9,cond_true,P8,show 1<s.length by omega,true_and];unfold Bb;grind
 ·rw[A8];have f:Bb s=false:=by
   cases h:Bb s with
   | false=>rfl
   | true=>have:=Ov h;omega
  grind
theorem C31(a b:Nat)(c:a<65536)(d:b<65536):bOr .u16 (a:Int) (b:Int)=((a ||| b:Nat):Int):=by
 unfold bOr;rw[show j9 .u16=16 from rfl,Cu3 16 a b (by omega) (by omega)];have:a ||| b<2 ^ 16:=x5 (by omega) (by omega)
 exact Oa
theorem C48(a m:Nat)(h:a*2 ^ m<65536)(b:m<=16):Pq .u16 (a:Int) (m:Int)=((a*2 ^ m:Nat):Int):=by
 unfold Pq;rw[f7,show j9 .u16=16 from rfl,v8 b];have:(a:Int)*2 ^ m=((a*2 ^ m:Nat):Int):=by simp
 rw[this];exact Oa
theorem Ay5(v d:Nat)(b:v<4096)(a:d<16):bOr .u16 (Pq .u16 (v:Int) 4) (d:Int)=((v*16+d:Nat):Int):=by have:=C48 v 4 (by omega) (by omega);rw[show((4:Nat):Int)=4 from rfl] at this;rw[this,C31 _ _ (by omega) (by omega),BU v d 4 (by omega)]
theorem Bv4{R:Type}{c:Unit->Option R}{f:Int->Option R}(s:By)(B:s.length<=4):∀(r i v n:Nat),i+r=s.length->r<n->v<16 ^ i->
  Dy LF n s (v:Int) (s.length:Int) (i:Int) c f=match Fr v (s.drop i) with|some w=>f (w:Int)|none=>c ():=by
 intro r
 induction r with
 | zero=>
  intro i v n l o p;obtain⟨n,rfl⟩:∃m,n=m+1:=⟨n-1,by omega⟩
  rw[Dy];rw[A6,g6 (by omega)];rfl
 | succ r q=>
  intro i v n l o p;obtain⟨n,rfl⟩:∃m,n=m+1:=⟨n-1,by omega⟩
  rw[Dy,D1 s i (by omega)];rw[D0];have k:=(s.getD i 0).toNat_lt;generalize s.getD i 0=b at *;have j:((i:Int)+1)=((i+1:Nat):Int):=by omega
  have A:16 ^ i<=4096:=by
   have:i=0\/i=1\/i=2\/i=3:=by omega
   rcases this with rfl|rfl|rfl|rfl<;>decide
  simp (disch:=omega) only[B4,L5,cond_true,vl,C4,Tp,To,Tn];rw[j];simp only[Fr];have go:∀d:Nat,d<16->Dy LF n s ((v*16+d:Nat):Int) (s.length:Int) ((i+1:Nat):Int) c f=match Fr (v*16+d) (s.drop (i+1)) with|some w=>f (w:Int)|none=>c ():=
   λd z=>q (i+1) _ n (by omega) (by omega) (by rw[m6];omega)
  rcases Bx b with⟨g,h,e⟩|⟨g,h,e⟩|⟨g,h,e⟩|⟨g,h,y,e⟩
  ·have a:Ll (wu8 ((b.toNat:Int)-48))=((dig b:Nat):Int):=by rw[L0,Oa];omega
   simp (disch:=omega) only[B4,E1,f0,d9,cond_false,cond_true,a,Ay5,if_pos (show dig b<16 by omega)];exact go _ (by omega)
  ·have a:Ll (wu8 (wu8 ((b.toNat:Int)-97)+10))=((dig b:Nat):Int):=by rw[TN (n:=(b.toNat:Int)-97) (by omega) (by omega),L0,Oa];omega
   simp (disch:=omega) only[B4,E1,f0,d9,cond_false,cond_true,a,Ay5,if_pos (show dig b<16 by omega)];exact go _ (by omega)
  ·have a:Ll (wu8 (wu8 ((b.toNat:Int)-65)+10))=((dig b:Nat):Int):=by rw[TN (n:=(b.toNat:Int)-65) (by omega) (by omega),L0,Oa];omega
   simp (disch:=omega) only[B4,E1,f0,d9,cond_false,cond_true,a,Ay5,if_pos (show dig b<16 by omega)];exact go _ (by omega)
  ·rw[if_neg (show ¬dig b<16 by omega)];by_cases t:b.toNat<48
   ·simp (disch:=omega) only[B4,E1,f0,d9,cond_false,cond_true]
   ·by_cases u:b.toNat<65
    ·simp (disch:=omega) only[B4,E1,f0,d9,cond_false,cond_true]
    ·by_cases x:b.toNat<97
     ·simp (disch:=omega) only[B4,E1,f0,d9,cond_false,cond_true]
     ·simp (disch:=omega) only[B4,E1,f0,d9,cond_false,cond_true]
theorem Bc6{R:Type}{c:Int->Bool->Option R}(s:By)(d:A3 s.length=true):Bv6 LF s c=c (L9 (grp s):Int) (grp s).isSome:=by
 have:=C1;unfold Bv6 grp;by_cases a:s=[]
 ·subst a;rfl
 ·rw[show(s==([]:By))=false from beq_eq_false_iff_ne.2 a];by_cases b:4<s.length
  ·rw[A8,if_pos (.inr b)];rfl
  ·rw[A6,if_neg (by intro h;rcases h with h|h;exact a h;exact b h)];refine d8 (Bv4 s (by omega) s.length 0 0 LF (by omega) (by omega) (by decide)) ?_;rw[j6];cases Fr 0 s<;>rfl
theorem VU:∀(s:By) (v w m:Nat),v<16 ^ m->Fr v s=some w->w<16 ^ (m+s.length)
 | [],v,w,m,a,h=>by simp only[Fr,g8] at h;subst h;simpa using a
 | b::r,v,w,m,a,h=>by
  simp only[Fr] at h;split at h
  ·have:=VU r (v*16+dig b) w (m+1) (by rw[m6];omega) h;grind
  ·cases h
theorem Bv5{s:By}{v:Nat}(h:grp s=some v):v<65536:=by
 unfold grp at h;split at h
 ·cases h
 ·rename_i a;have:=VU s 0 v 0 (by decide) h;have b:s.length<=4:=by omega
  have:16 ^ (0+s.length)<=16 ^ 4:=Nat.pow_le_pow_right (by omega) (by omega);omega
theorem Bi1{R:Type}{c:Unit->Option R}{f:Int->Option R}(s:By)(B:s.length<=4):∀(r i v n:Nat),i+r=s.length->r<n->v<16 ^ i->
  Eh LF n s (v:Int) (i:Int) c f=match Fr v (s.drop i) with|some w=>f (w:Int)|none=>c ():=by
 intro r
 induction r with
 | zero=>
  intro i v n l o p;obtain⟨n,rfl⟩:∃m,n=m+1:=⟨n-1,by omega⟩
  rw[Eh];rw[A6,g6 (by omega)];rfl
 | succ r q=>
  intro i v n l o p;obtain⟨n,rfl⟩:∃m,n=m+1:=⟨n-1,by omega⟩
  rw[Eh,D1 s i (by omega)];rw[D0];have k:=(s.getD i 0).toNat_lt;generalize s.getD i 0=b at *;have j:((i:Int)+1)=((i+1:Nat):Int):=by omega
  have A:16 ^ i<=4096:=by
   have:i=0\/i=1\/i=2\/i=3:=by omega
   rcases this with rfl|rfl|rfl|rfl<;>decide
  simp (disch:=omega) only[B4,L5,cond_true,vl,C4,Uv,Uu,Ut];rw[j];simp only[Fr];have go:∀d:Nat,d<16->Eh LF n s ((v*16+d:Nat):Int) ((i+1:Nat):Int) c f=match Fr (v*16+d) (s.drop (i+1)) with|some w=>f (w:Int)|none=>c ():=
   λd z=>q (i+1) _ n (by omega) (by omega) (by rw[m6];omega)
  rcases Bx b with⟨g,h,e⟩|⟨g,h,e⟩|⟨g,h,e⟩|⟨g,h,y,e⟩
  ·have a:wu8 ((b.toNat:Int)-48)=(b.toNat:Int)-48:=L0;simp (disch:=omega) only[B4,E1,f0,d9,cond_false,cond_true,a,C4,if_pos (show dig b<16 by omega)];rw[show(v:Int)*16+((b.toNat:Int)-48)=((v*16+dig b:Nat):Int) by omega];exact go _ (by omega)
  ·have a:wu8 ((b.toNat:Int)-97)=(b.toNat:Int)-97:=L0;simp (disch:=omega) only[B4,E1,f0,d9,cond_false,cond_true,a,C4,if_pos (show dig b<16 by omega)];rw[show(v:Int)*16+((b.toNat:Int)-97)+10=((v*16+dig b:Nat):Int) by omega];exact go _ (by omega)
  ·have a:wu8 ((b.toNat:Int)-65)=(b.toNat:Int)-65:=L0;simp (disch:=omega) only[B4,E1,f0,d9,cond_false,cond_true,a,C4,if_pos (show dig b<16 by omega)];rw[show(v:Int)*16+((b.toNat:Int)-65)+10=((v*16+dig b:Nat):Int) by omega];exact go _ (by omega)
  ·rw[if_neg (show ¬dig b<16 by omega)];by_cases t:b.toNat<48
   ·simp (disch:=omega) only[B4,E1,f0,d9,cond_false,cond_true]
   ·by_cases u:b.toNat<65
    ·simp (disch:=omega) only[B4,E1,f0,d9,cond_false,cond_true]
    ·by_cases x:b.toNat<97
     ·simp (disch:=omega) only[B4,E1,f0,d9,cond_false,cond_true]
     ·simp (disch:=omega) only[B4,E1,f0,d9,cond_false,cond_true]
theorem Bi2{R:Type}{b:Int->Bool->Option R}(s:By)(f:A3 s.length=true):B07 LF s b=b (L9 (grp s):Int) (grp s).isSome:=by
 have:=C1;unfold B07;by_cases a:s=[]
 ·subst a;rfl
 ·have g:0<s.length:=p4.2 a;rw[A6];by_cases c:4<s.length
  ·rw[A8];unfold grp;rw[if_pos (.inr c)];rfl
  ·rw[A6];refine d8 (Bi1 s (by omega) s.length 0 0 LF (by omega) (by omega) (by decide)) ?_;have e:grp s=Fr 0 s:=by
    unfold grp;grind
   rw[j6,<-e];cases d:grp s with
   | none=>rfl
   | some w=>
    have:=Bv5 d;simp only[L9,j5,i6];rw[Oa]
theorem G9(l:List Nat):(D6 l).length=l.length:=by simp[D6]
theorem Jo(a b:List Nat):D6 (a++b)=D6 a++D6 b:=by simp[D6]
theorem Vx(l:List Nat):(D6 l).isEmpty=l.isEmpty:=by cases l<;>rfl
theorem Uk{l:List Nat}{i:Nat}(h:i<l.length):okE ⟨true,false,[.int .u16]⟩ (D6 l) i 0=true:=by unfold okE D6;simp[g7,h,okS,SV.has]
theorem FO(l:List Nat)(i:Nat):gE (D6 l) i 0=(l.getD i 0:Int):=by
 unfold gE gC D6;by_cases h:i<l.length
 ·simp[g7,j7 h,SV.gI]
 ·simp[g7,z7 (show l.length<=i by omega),SV.gI]
theorem Iw:∀(last:Bool) (l:List By) (r:List Nat),Db last l=some r->r.length<=2*l.length
 | last,[],r,h=>by simp only[Db,g8] at h;subst h;simp
 | last,x::l,r,h=>by
  simp only[Db] at h;split at h
  ·cases a:Db last l with
   | none=>simp[a] at h
   | some q=>
    simp only[a,y8,g8] at h;subst h;have:=Iw last l q a;grind
  grind
theorem A02{s:By}{v:Nat}(h:v4B s=some v):v<4294967296:=by
 unfold v4B at h;split at h
 ·rename_i a;have:=A72 (pcs 46 s) 0 v 0 (by decide) h;grind
 ·cases h
theorem A52:∀(last:Bool) (l:List By) (r:List Nat),Db last l=some r->∀x∈r,x<65536
 | last,[],r,h,x,a=>by simp only[Db,g8] at h;subst h;simp at a
 | last,y::l,r,h,x,a=>by
  simp only[Db] at h;split at h
  ·rename_i v c;cases b:Db last l with
   | none=>simp[b] at h
   | some q=>
    simp only[b,y8,g8] at h;subst h;rcases x6.1 a with rfl|a
    ·exact Bv5 c
    ·exact A52 last l q b x a
  ·split at h
   ·rename_i v c;split at h
    ·simp only[g8] at h;subst h;have:=A02 c;grind
    grind
   ·cases h
theorem Aj7{R:Type}{k0:LL->Option R}{k1:LL->Option R}(last:Bool)(l:List By)(C:l.length<=1000000001)(w:∀x∈l,x.length<=1000000000):∀(r i n:Nat) (d:List Nat),i+r=l.length->r<n->d.length<=2*i->
  (∀q,Db last (l.drop i)=some q->Dc LF n last (D4 l) (l.length:Int) (i:Int) (D6 d) k0 k1=k1 (D6 (d++q)))/\
  (Db last (l.drop i)=none->∃k,Dc LF n last (D4 l) (l.length:Int) (i:Int) (D6 d) k0 k1=k0 k):=by
 intro r
 induction r with
 | zero=>
  intro i n d u y t;obtain⟨n,rfl⟩:∃m,n=m+1:=⟨n-1,by omega⟩
  rw[Dc,g6 (by omega)];rw[A6];refine⟨λq a=>?_,λh=>(by cases h)⟩;simp only[Db,g8] at a;subst a;simp
 | succ r B=>
  intro i n d u y t;obtain⟨n,rfl⟩:∃m,n=m+1:=⟨n-1,by omega⟩
  rw[Dc,Ib l i (by omega)];have G:=w _ (LC (show i<l.length by omega));have f:((i:Int)+1)=((i+1:Nat):Int):=by omega
  simp (disch:=omega) only[B4,G1,L5,cond_true,f7,R8,X1,D9,vl,G9,E9,C4];rw[f];simp only[Db];cases D:grp (l.getD i []) with
  | some v=>
   simp only[i6,cond_true,L9,j5];have c:D6 d++[[SV.int .u16 (v:Int)]]=D6 (d++[v]):=by rw[Jo];rfl
   rw[c];have:=B (i+1) n (d++[v]) (by omega) (by omega) (by simp<;>omega);refine⟨λq a=>?_,λh=>?_⟩
   ·cases b:Db last (l.drop (i+1)) with
    | none=>simp[b] at a
    | some j=>
     simp only[b,y8,g8] at a;subst a;rw[this.1 j b];simp
   ·cases b:Db last (l.drop (i+1)) with
    | none=>exact this.2 b
    | some j=>simp[b] at h
  | none=>
   simp only[aa9,cond_false];cases z:v4B (l.getD i []) with
   | none=>
    simp only[aa9,d9,cond_true];exact⟨λq a=>(by cases a),λ_=>⟨_,rfl⟩⟩
   | some v=>
    have A:=A02 z;simp only[i6,f0,cond_false,L9,j5];cases last with
    | false=>
     simp only[d9,cond_true,p5,false_and,if_false];exact⟨λq a=>(by cases a),λ_=>⟨_,rfl⟩⟩
    | true=>
     simp only[f0,cond_false,true_and];by_cases F:r=0
     ·have e:l.drop (i+1)=[]:=g6 (by omega);rw[A6,e,if_pos rfl,show(16:Int)=((16:Nat):Int) from rfl,SJ .u32 v 16 (by decide)];refine⟨λq a=>?_,λh=>(by cases h)⟩;simp only[g8] at a;subst a;have o:Ll ((v / 2 ^ 16:Nat):Int)=((v / 65536:Nat):Int):=Oa;have p:Ll (v:Int)=((v % 65536:Nat):Int):=Aa9 v;rw[o,p,Jo];rfl
     ·have g:l.drop (i+1)≠[]:=by
       rw[Ib l (i+1) (by omega)];simp
      rw[A8,if_neg g];exact⟨λq a=>(by cases a),λ_=>⟨_,rfl⟩⟩
theorem X3(c:UInt8){s:By}(a:s.length<=1000000000):(pcs c s).length<=1000000001:=by have:=Hd c s;grind
theorem Aj8(s:By)(last:Bool)(f:A3 s.length=true):∃r H,A53 LF s last (λl=>rv (.tup [.fl 0,.s (.bool true)]) [.arr true 24 1 l]) (λl=>rv (.tup [.fl 1,.s (.bool false)]) [.arr true 24 1 l,.arr true 24 1 []])=rv r H/\
  r.stab [1,0] H = .tup [.s (.sl (gvs s last).isEmpty (gvs s last).isEmpty 1 (D6 (gvs s last))),.s (.bool (P0 s last).isSome)]:=by
 have d:=L6 f;have:=C1;unfold A53 gvs P0;by_cases c:s=[]
 ·subst c;exact⟨_,_,rfl,rfl⟩
 ·rw[show(s==([]:By))=false from beq_eq_false_iff_ne.2 c,f,if_neg c];simp only[cond_false,cond_true,vl,k9,G1,show((1:Nat)==1)=true from rfl];obtain⟨a,b⟩:=Aj7 (k0:=λl=>rv (.tup [.fl 1,.s (.bool false)]) [.arr true 24 1 l,.arr true 24 1 []]) (k1:=λl=>rv (.tup [.fl 0,.s (.bool true)]) [.arr true 24 1 l]) last (pcs 58 s) (X3 58 d) (λx h=>w6 (Cs h).2 d) (pcs 58 s).length 0 LF [] (by omega) (by have:=X3 58 d;omega) (by simp);rw[j6] at a b;cases g:Db last (pcs 58 s) with
  | some q=>
   refine⟨_,_,a q g,?_⟩;simp[PV.stab,Mz,Pm,PV.snap,K9,Vx]
  | none=>
   obtain⟨i,e⟩:=b g;refine⟨_,_,e,?_⟩;simp[PV.stab,Mz,Pm,PV.snap,K9,D6]
end
end Go.Proofs.YtcfingekgbbclaaGreatDoor.E
