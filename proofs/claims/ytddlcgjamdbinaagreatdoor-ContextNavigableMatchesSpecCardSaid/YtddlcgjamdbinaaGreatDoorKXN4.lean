/-
  Parts of the proof, merged by a program of the prover's own; no condition.
-/
import Derived.Test.YtddlcgjamdbinaaGreatDoorKXN3
import Derived.Lib.IndexAny
import Derived.Lib.JoinLaws
import Derived.Lib.LastIndexLaws
import Derived.Lib.MapLaws
import Derived.Lib.TrimAscii
import Derived.Shelf.LaysM
import Derived.Shelf.Slices.CompactS
import Derived.Shelf.Slices.In.SortNone
import Derived.Shelf.Small.Strs
import Derived.Shelf.Sort.Plain
import Derived.Shelf.Spec.SlicesInsert
import Derived.Shelf.Spec.SlicesInsertGrow
import Derived.Shelf.Spec.TrailingZeros
import Derived.Shelf.Strconv.Itoa3
import Derived.Shelf.Strings.Count
import Derived.Shelf.Strings.Cut
import Derived.Shelf.Strings.IndexAnyAll
import Derived.Shelf.Strings.OnBuilder
import Derived.Shelf.Strings.Search3
import Derived.Shelf.Unicode.ValidAny
import Derived.Shelf.Utf8.RuneCount
import Derived.Test.YtddlcgjamdbinaaGreatDoorProg
open Int renaming toNat_natCast->c9,eq_ofNat_of_zero_le->k9,toNat->x5,tdiv->af6,tmod->ak0,natCast_mul->am5
open List renaming getD->j0,length->j4,getD_eq_getElem?_getD->j5,replicate->j6,drop_of_length_le->j7,getElem?_eq_getElem->j9,length_cons->o8,drop_zero->v7,mem_of_mem_drop->v8,take_of_length_le->w9,mem_of_mem_take->y7,length_take->aa1,isPrefixOf->aa6,nil_append->aa7,getD_cons_zero->aa8,getElem_cons_drop->aa9,length_drop->ab3,length_singleton->ab4,flatten->ab5,mem_cons->ac0,all_eq_true->ac3,drop_append_of_le_length->ac5,length_append->ac9,toArray->ad0,append_nil->ad2,length_nil->ad3,map_congr_left->ad5,length_map->ae8,length_pos_iff->af2,count_eq_zero->af7,isPrefixOf_iff_prefix->af8,take_zero->af9,cons_append->ah1,take->ah2,map_map->ah5,drop_left'->ai1,dropLast_eq_take->ai3,set_append_right->ai4,set->ai5,getD_cons_succ->ai9,takeWhile_cons->aj0,map_drop->aj1,append_assoc->ak3,getElem?_map->ak4,drop->al6,getElem_mem->al7,all_cons->an7,map_take->an8,map_nil->ao9,mem_map->ap0,map->aq4,map_id->aq5
open Bool renaming not_false->j1,not_true->j2,false_eq_true->o5,and_eq_true->aa0,and_true->ag8,eq_iff_iff->ah9,or_eq_true->ai0,eq_false_iff->aj8,not_eq_true'->aj9,true_and->an5
open Eq renaming trans->j8
open Go.Lib renaming decDigits->o0,cut->w8,indexByte->aa3,indexAny->ad9,decDigits_one->ag3,decodeL->ag4,join->ah0,index->ai8,deBruijn64tab->ak1,firstTab->ak2,occAt->al5,index_spec->am8,join_cons->an6,join_one->ao7,pow10Tab->ao8
open Go.Proofs.Tryz renaming prog->o6,underlying3->o9,zeroValue3->p4,underlying4->p6,zeroValue4->p7,underlying9->p9,zeroValue9->w6,underlying0->x3,underlying5->x4,sizeOf3->x7,zeroValue0->x8,zeroValue5->x9,sizeOf4->y8,underlying79->y9,isAgg3->z7,zeroValue79->aa2,sizeOf9->aa4,isAgg4->aa5,sizeOf0->ab0,sizeOf5->ab1,isAgg9->ab2,isAgg0->ab7,isAgg5->ab8,underlying25->ab9,sizeOf79->ac1,zeroValue25->ac4,isAgg79->ad1,sizeOf25->ad6,underlying115->ad8,isAgg25->ae1,zeroValue115->ae2,func137->af4,func165->af5,sizeOf115->ag0,underlying185->ag1,underlying22->ag6,zeroValue185->ag7,isAgg115->ag9,zeroValue22->ah4,func139->ah7,func140->ah8,sizeOf185->ai7,isAgg185->aj2,sizeOf22->aj3,underlying190->aj6,underlying191->aj7,func136->ak8,func164->ak9,func183->al0,isAgg22->al1,underlying20->al2,underlying83->al3,zeroValue190->al4,f106->al9,f126->am0,f138->am1,zeroValue20->am2,zeroValue83->am3,f34->an0,f65->an1,f70->an2,sizeOf190->an3,sizeOf191->an4,isAgg190->ao1,isAgg191->ao2,sizeOf20->ao3,sizeOf83->ao4,f113->ao5,f161->ao6,func104->ap3,func128->ap4,func170->ap5,func180->ap6,func191->ap7,func192->ap8,isAgg20->ap9,isAgg83->aq0,f39->aq6,f68->aq7,func85->aq8
open Option.some renaming injEq->o7,inj->af1
open Option renaming getD_some->p5,isSome_some->y5,map_some->ad7,isSome_none->aj5,bind_some->al8,isSome->ao0
open Go.Shelf renaming Ren->x6
open Nat renaming pow_succ->ab6,ble->ac2,zero_le->ac6,ble_eq_true_of_le->ae3,le_of_ble_eq_true->ae4,and_two_pow_sub_one_eq_mod->ae5,le_refl->ae6,mul_le_mul_right->ae7,min_eq_left->ae9,strongRecOn->af0,zero_add->af3,or_lt_two_pow->ag5,le_mul_of_pos_right->ah3,ble_eq->ah6,div_le_self->ai2,one_mul->ai6,add_sub_cancel->aj4,add_zero->ak5,le_trans->ak6,sub_self->ak7,pow_pos->am4,mul_le_mul->am9,add_assoc->an9,mul_comm->ap1
open UInt8 renaming ofNat->ac7,toNat_inj->am6
open Go.IntKind renaming bits->ac8,u16->aq3
open Go.Utf8 renaming decode->ad4
open Go.RowKit.Below renaming refl->ae0
open Go.Fn renaming func->ag2
open Ne renaming symm->am7
open Go.RowKit renaming Below->ap2
open BEq renaming comm->aq1
open Go.Proofs.LaysM renaming n171->aq2
open Go.Proofs.Lays renaming n137->aq9,n138->ar0,n143->ar1,n145->ar2,n153->ar3,n156->ar4,n190->ar5,n194->ar6,n195->ar7,n196->ar8
open Go.Proofs.Lays2 renaming n21->ar9
open Go.Proofs.Lays7 renaming n27->as0
namespace Go.Proofs.YtddlcgjamdbinaaGreatDoor.E
set_option linter.all false
section
open Go
theorem Kj(b:UInt8):(48<=b.toNat/\b.toNat<=57/\dig b=b.toNat-48)\/(97<=b.toNat/\b.toNat<=102/\dig b=b.toNat-87)\/(65<=b.toNat/\b.toNat<=70/\dig b=b.toNat-55)\/(¬(48<=b.toNat/\b.toNat<=57)/\¬(97<=b.toNat/\b.toNat<=102)/\¬(65<=b.toNat/\b.toNat<=70)/\dig b=99):=by
 unfold dig;split
 ·rename_i h;exact .inl ⟨h.1,h.2,rfl⟩
 ·split
  ·rename_i h;exact .inr (.inl ⟨h.1,h.2,rfl⟩)
  ·split
   ·rename_i h;exact .inr (.inr (.inl ⟨h.1,h.2,rfl⟩))
   ·exact .inr (.inr (.inr ⟨by assumption,by assumption,by assumption,rfl⟩))
theorem Cd1(m:Nat):(if (1099511627776:Int)<(m:Int) then (1099511627776:Int) else (m:Int))=((min m Co:Nat):Int):=by unfold Co;split<;>omega
theorem GV{base:Nat}:∀{s:By} {n v:Nat},n<=Co->E9 base n s=some v->v<=Co
 | [],n,v,h,e=>by simp only[E9,o7] at e;omega
 | b::r,n,v,h,e=>by
  simp only[E9] at e;split at e
  ·exact GV (by omega) e
  ·cases e
theorem Bf1{s:By}{v:Nat}(h:Ak s=some v):v<=Co:=by
 unfold Ak at h
 repeat' split at h
 all_goals first|(cases h;done)|exact GV (by unfold Co;omega) h
theorem LZ(base:Nat):∀(x y:By) (n:Nat),E9 base n (x++y)=(E9 base n x).bind λm=>E9 base m y
 | [],y,n=>rfl
 | b::r,y,n=>by
  simp only[ah1,E9];split
  ·exact LZ base r y _
  ·rfl
theorem Jr(u:Nat)(h:¬u<10):o0 u=o0 (u / 10)++[ac7 (48+u % 10)]:=by rw[o0,dif_neg h]
theorem C35(d:Nat)(h:d<10):dig (ac7 (48+d))=d:=by
 unfold dig;have:(ac7 (48+d)).toNat=48+d:=by simp;omega
 rw[this,Aj];omega
theorem Bk7:∀u:Nat,u<=Co->E9 10 0 (o0 u)=some u:=by
 intro u
 induction u using af0 with
 | _ u a=>
  intro b;by_cases h:u<10
  ·rw[ag3 h];simp only[E9,C35 u h];rw[if_pos h];unfold Co;simp;omega
  ·rw[Jr u h,LZ,a (u / 10) (by omega) (by omega)];simp only[al8,E9,C35 (u % 10) (by omega)];rw[Aj];unfold Co at *;simp;omega
theorem Ki:∀(k u:Nat),0<k->u<10 ^ k->(o0 u).length<=k
 | 0,u,h,_=>by omega
 | k+1,u,_,h=>by
  by_cases b:u<10
  ·rw[ag3 b];simp
  ·rw[Jr u b,ac9,ab4];have a:0<k:=by
    rcases Nat.eq_zero_or_pos k with rfl|a
    ·rw[af3,Nat.pow_one] at h;omega
    ·exact a
   have:=Ki k (u / 10) a (by rw[ab6] at h;omega);omega
theorem F7(u:Nat)(h:u<4294967296):(o0 u).length<=10:=Ki 10 u (by omega) (by omega)
theorem Ct0{s:By}{n:Nat}:oct s=some n↔n<256/\o0 n=s:=by
 unfold oct;constructor
 ·intro h;split at h
  ·rename_i m c;split at h
   ·rename_i a;cases h;exact⟨by omega,a.2⟩
   ·cases h
  ·cases h
 ·rintro⟨b,rfl⟩;rw[Bk7 n (by unfold Co;omega)];exact if_pos ⟨by omega,rfl⟩
theorem C28(a b:Nat)(c:a<9223372036854775808)(d:b<9223372036854775808):bOr .i64 (a:Int) (b:Int)=((a ||| b:Nat):Int):=by
 unfold bOr;rw[show ac8 .i64=64 from rfl,C57 64 a b (by omega) (by omega)];have:a ||| b<2 ^ 63:=ag5 (by omega) (by omega)
 exact A5
theorem De0(a b:Nat)(c:a<4294967296)(d:b<4294967296):bOr .u32 (a:Int) (b:Int)=((a ||| b:Nat):Int):=by
 unfold bOr;rw[show ac8 .u32=32 from rfl,C57 32 a b (by omega) (by omega)];have:a ||| b<2 ^ 32:=ag5 (by omega) (by omega)
 exact JW
theorem C51(a b:Nat)(c:a<4294967296)(d:b<4294967296):An6 .u32 (a:Int) (b:Int)=((a &&& b:Nat):Int):=by unfold An6;rw[show ac8 .u32=32 from rfl,C32 32 a b (by omega) (by omega)];have:a &&& b<2 ^ 32:=Nat.and_lt_two_pow _ (by omega);exact JW
theorem C48(x:Nat):x &&& 255=x % 256:=ae5 x 8
theorem Ah1(a m:Nat)(h:a*2 ^ m<9223372036854775808)(b:m<=64):Rk .i64 (a:Int) (m:Int)=((a*2 ^ m:Nat):Int):=by
 unfold Rk;rw[c9,show ac8 .i64=64 from rfl,ae9 b];have:(a:Int)*2 ^ m=((a*2 ^ m:Nat):Int):=by simp
 rw[this];exact A5
theorem Df8(a m:Nat)(h:a*2 ^ m<4294967296)(b:m<=32):Rk .u32 (a:Int) (m:Int)=((a*2 ^ m:Nat):Int):=by
 unfold Rk;rw[c9,show ac8 .u32=32 from rfl,ae9 b];have:(a:Int)*2 ^ m=((a*2 ^ m:Nat):Int):=by simp
 rw[this];exact JW
theorem DD(v n m:Nat)(h:n<2 ^ m):v*2 ^ m ||| n=v*2 ^ m+n:=by rw[Nat.or_comm,C78 n v m h,Nat.add_comm]
theorem Wd{c:UInt8}{s:By}(h:c∉s):pcs c s=[s]:=by unfold pcs;rw[Wz c s [] h];rfl
theorem VI{c:UInt8}{p r:By}(h:c∉p):pcs c (p++c::r)=p::pcs c r:=by unfold pcs;rw[BX c p [] r h];rfl
theorem Iu(c:UInt8)(s:By):(pcs c s).length=s.count c+1:=Jd c s []
theorem Ax7(c:UInt8)(s:By):pcs c s≠[]:=A51 c s []
theorem Fj{c:UInt8}{s x:By}(h:x∈pcs c s):c∉x/\x.length<=s.length:=by have:=Pl c s [] (by simp) x h;simpa using this
theorem Gz(c:UInt8)(s:By):s.count c<=s.length:=List.count_le_length
theorem Bo(c:UInt8):∀s:By,c∉s\/∃p r,s=p++c::r/\c∉p
 | []=>.inl (by simp)
 | b::s=>by
  by_cases h:b=c
  ·subst h;exact .inr ⟨[],s,rfl,by simp⟩
  ·rcases Bo c s with a|⟨p,r,rfl,d⟩
   ·exact .inl (by simp[a,am7 h])
   ·exact .inr ⟨b::p,r,rfl,by simp[d,am7 h]⟩
theorem Tc{c:UInt8}{s:By}(h:c∉s):ai8 s [c]=-1:=by
 rcases am8 s [c] with a|⟨i,a,e,b,f⟩
 ·exact a.1
 ·exfalso;simp only[al5,af8] at b;obtain⟨t,d⟩:=b;have:c∈s.drop i:=by rw[<-d];simp
  exact h (v8 this)
theorem Zl{c:UInt8}{p r:By}(h:c∉p):ai8 (p++c::r) [c]=(p.length:Int):=by
 rcases am8 (p++c::r) [c] with d|⟨i,d,m,f,g⟩
 ·exfalso;have:=d.2 p.length (by simp);simp[al5] at this
 ·rw[d];have n:¬p.length<i:=by
   intro a;have:=g p.length a;simp[al5] at this
  have k:¬i<p.length:=by
   intro a;simp only[al5,af8] at f;obtain⟨t,b⟩:=f;have j:(p++c::r).drop i=p.drop i++c::r:=by rw[ac5 (by omega)]
   rw[j] at b;cases e:p.drop i with
   | nil=>have:=ab3 (i:=i) (l:=p);rw[e] at this;simp at this;omega
   | cons x y=>
    rw[e] at b;simp at b;have:x∈p:=v8 (i:=i) (by rw[e];simp);rw[<-b.1] at this;exact h this
  omega
theorem Bq6(s:By):E4 s≠[]:=by
 unfold E4;split
 ·rename_i h;intro e;have:=congrArg j4 e;simp at this;omega
 ·exact Ax7 _ _
theorem Ti{s x:By}(h:x∈E4 s):x.length<=s.length:=by
 unfold E4 at h;split at h
 ·exact(Fj ((List.dropLast_sublist _).subset h)).2
 ·exact(Fj h).2
theorem Dh(s:By):1<=(E4 s).length/\(E4 s).length<=s.length+1:=by
 have a:=af2.2 (Bq6 s);have b:=Iu 46 s;have c:=Gz 46 s;refine⟨a,?_⟩;unfold E4;split
 ·rw[List.length_dropLast];omega
 ·omega
theorem Zq(s:By):(E4 s).getD ((E4 s).length-1) []=Kp s:=by unfold Kp;rw[List.getLastD_eq_getLast?,List.getLast?_eq_getElem?,j5]
theorem MQ(s:By):Kp s∈E4 s:=by have h:=(Dh s).1;rw[<-Zq,j5,j9 (by omega)];exact al7 _
theorem Js{base:Nat}:∀{s:By} {n i:Nat},i<s.length->base<=dig (s.getD i 0)->E9 base n s=none
 | [],n,i,h,_=>by simp at h
 | b::r,n,0,h,a=>by
  simp only[aa8] at a;simp only[E9];rw[J4]
 | b::r,n,i+1,h,a=>by
  simp only[ai9] at a;simp only[E9];split
  ·exact Js (i:=i) (by simpa using h) a
  ·rfl
theorem Zm(s:By):Bx s=true↔s.getD 0 0=48/\(s.getD 1 0=120\/s.getD 1 0=88):=by simp[Bx]
theorem Qj{s:By}(h:Bx s=true):2<=s.length:=by
 rw[Zm] at h
 match s with
 | []=>simp at h
 | [a]=>simp at h
 | a::b::r=>simp
theorem B92(l:By):(if Bx l then (E9 16 0 (l.drop 2)).isSome else !l.isEmpty&&(E9 10 0 l).isSome) =
  (if (!l.isEmpty&&(E9 10 0 l).isSome)=true then true else (if (Ak l).isSome=true then decide (2<=l.length)&&(l.getD 1 0==120||l.getD 1 0==88) else false)):=by
 by_cases b:Bx l=true
 ·have g:=Qj b;have j:=(Zm l).1 b;have f:E9 10 0 l=none:=Js (i:=1) (by omega) (by rcases j.2 with h|h<;>rw[h]<;>decide);have d:Ak l=E9 16 0 (l.drop 2):=by
   unfold Ak;rw[if_neg (by intro e;rw[e] at g;simp at g),if_pos b]
  rw[if_pos b,f,d];have c:(l.getD 1 0==120||l.getD 1 0==88)=true:=by simpa using j.2
  rw[c];simp[g]
 ·rw[if_neg b];cases n:(!l.isEmpty&&(E9 10 0 l).isSome) with
  | true=>rfl
  | false=>
   rw[if_neg (by simp)];cases d:Ak l with
   | none=>rfl
   | some v=>
    rw[show(some v).isSome=true from rfl,if_pos rfl]
    symm
    rw[Bool.and_eq_false_iff];by_cases c:2<=l.length
    ·right
     apply Classical.byContradiction;intro a;have a:l.getD 1 0=120\/l.getD 1 0=88:=by
      cases k:(l.getD 1 0==120||l.getD 1 0==88) with
      | false=>exact absurd k a
      | true=>simpa using k
     have m:¬l.getD 0 0=48:=λh=>b ((Zm l).2 ⟨h,a⟩)
     have f:E9 10 0 l=none:=Js (i:=1) (by omega) (by rcases a with h|h<;>rw[h]<;>decide);unfold Ak at d;rw[if_neg (by intro e;rw[e] at c;simp at c),if_neg b,if_neg (by intro h;exact m h.2),f] at d;cases d
    ·left;simpa using c
end
section
open Go Go.Proofs
theorem Bo9{R:Type}{a:Bool->Option R}(s p:By)(b:A3 s.length=true):Cs0 LF s p a=a (p.isPrefixOf s):=by
 have:=N5 b;unfold Cs0;rw[Eo];by_cases h:p.length<=s.length
 ·simp_all
 ·simp (disch:=omega) [h]
theorem Bm7{R:Type}{a:Bool->Option R}(s p:By)(b:A3 s.length=true):CI LF s p a=a (p.isPrefixOf s):=by unfold CI;rw[b];rfl
theorem Bp0{R:Type}{a:Bool->Option R}(s p:By)(b:A3 s.length=true):Cs2 LF s p a=a (p.isSuffixOf s):=by
 have:=N5 b;unfold Cs2;rw[Nf];by_cases h:p.length<=s.length
 ·have e:((s.length:Int)-(p.length:Int)).toNat=s.length-p.length:=by omega
  simp (disch:=omega) [h,e]
 ·simp (disch:=omega) [h]
theorem Bm8{R:Type}{a:Bool->Option R}(s p:By)(b:A3 s.length=true):Cq3 LF s p a=a (p.isSuffixOf s):=by unfold Cq3;rw[b];rfl
theorem Aw2{R:Type}{b:By->Option R}(s p:By)(a:A3 s.length=true):Be7 LF s p b=b (WX s p):=by
 have:=N5 a;unfold Be7 WX;rw[a];cases h:p.isSuffixOf s with
 | false=>simp
 | true=>
  have:p.length<=s.length:=by rw[Nf] at h;simp at h;exact h.1
  have e:((s.length:Int)-(p.length:Int)).toNat=s.length-p.length:=by omega
  simp (disch:=omega) [e]
theorem A61{R:Type}{a:By->Option R}(s p:By)(b:A3 s.length=true):Bh2 LF s p a=a (WX s p):=by unfold Bh2;rw[b];rfl
theorem Au9{R:Type}{b:By->Bool->Option R}(s p:By)(a:A3 s.length=true):Be3 LF s p b=b (Hb s p) (p.isPrefixOf s):=by
 have:=N5 a;unfold Be3 Hb;rw[a];cases h:p.isPrefixOf s with
 | false=>simp
 | true=>
  have:p.length<=s.length:=by rw[Eo] at h;simp at h;exact h.1
  simp_all
theorem Bk4{R:Type}{a:By->Bool->Option R}(s p:By)(b:A3 s.length=true):Cm8 LF s p a=a (Hb s p) (p.isPrefixOf s):=by unfold Cm8;rw[b];rfl
theorem Ai6{R:Type}{a:LL->Option R}(s p:By)(b:A3 s.length=true)(c:(p.length==1)=true):WO LF s p a=a (C1 (pcs (p.getD 0 0) s)):=by unfold WO;rw[b,c];rfl
theorem Bo6{R:Type}{k0:LL->Option R}(s:By)(o:s.length<=1000000000):∀(r i n:Nat),i+r=s.length->r<n->Ff LF n s (s.length:Int) (i:Int) ((D3 (s.take i)).map F0) k0=k0 ((D3 s).map F0):=by
 intro r
 induction r with
 | zero=>
  intro i n g j;obtain⟨n,rfl⟩:∃m,n=m+1:=⟨n-1,by omega⟩
  rw[Ff];rw[A6,w9 (by omega)];rfl
 | succ r a=>
  intro i n g j;obtain⟨n,rfl⟩:∃m,n=m+1:=⟨n-1,by omega⟩
  rw[Ff];have h:(D3 (s.take i)).length=i:=by simp[D3];omega
  have a:=a (i+1) n (by omega) (by omega);rw[Av7 s i (by omega)] at a;rw[G8];have l:=(s.getD i 0).toNat_lt;generalize s.getD i 0=b at *;have c:((i:Int)+1)=((i+1:Nat):Int):=by omega
  simp (disch:=omega) only[D1,L1,cond_true,vl,ae8,h,F3,F5];rw[c];rcases X9 b with⟨d,e⟩|⟨d,e⟩|⟨d,k,e⟩
  ·simp (disch:=omega) only[D1,j2,cond_false];rw[e] at a;exact a
  ·simp (disch:=omega) only[F1,D1,j2,j1,cond_false,cond_true];rw[e] at a;exact a
  ·have f:wu8 ((b.toNat:Int)+32)=((Cn b).toNat:Int):=by
    rw[R2];omega
   simp (disch:=omega) only[F1,j1,cond_true,f];exact a
theorem Bo7{R:Type}{k0:By->LL->Option R}(s:By)(b:A3 s.length=true):Cr8 LF s k0=k0 (D3 s) ((D3 s).map F0):=by have c:=N5 b;have:=E2;unfold Cr8;simp (disch:=omega) only[c9,F3,ag8];rw[show(decide ((0:Int)<=(s.length:Int)))=true by simp];have:=Bo6 (k0:=λa=>cond (List.all a Td) (k0 (aq4 Rf a) a) none) s c s.length 0 LF (by omega) (by omega);simp only[af9,D3,ao9] at this;rw[cond_true];refine j8 this ?_;rw[show(aq4 Cn s).map F0=(D3 s).map F0 from rfl,Br,Ca];rfl
theorem Bm4{R:Type}{c:Bool->Option R}(s:By)(d:A3 s.length=true):Cp8 LF s c=c (Bx s):=by
 unfold Cp8;have key:Bx s=(([48,120]:By).isPrefixOf s||([48,88]:By).isPrefixOf s):=by
  match s with
  | []=>rfl
  | [a]=>simp[Bx,aa6]
  | a::b::r=>
   simp only[Bx,aa6,aa8,ai9,ag8];rw[aq1 (a:=(48:UInt8)),aq1 (a:=(120:UInt8)),aq1 (a:=(88:UInt8))];cases (a==48)<;>simp
 grind
theorem Bk8{R:Type}{k0:Unit->Option R}{k1:Int->Option R}(s:By)(C:s.length<=1000000000)(base:Nat)(B:base<=16):∀(r i a n:Nat),i+r=s.length->r<n->a<=Co->
  Ip LF n s (base:Int) (a:Int) (s.length:Int) (i:Int) k0 k1=match E9 base a (s.drop i) with|some v=>k1 (v:Int)|none=>k0 ():=by
 intro r
 induction r with
 | zero=>
  intro i a n u w q;obtain⟨n,rfl⟩:∃m,n=m+1:=⟨n-1,by omega⟩
  rw[Ip];rw[A6,j7 (by omega)];rfl
 | succ r l=>
  intro i a n u w q;obtain⟨n,rfl⟩:∃m,n=m+1:=⟨n-1,by omega⟩
  rw[Ip,I8 s i (by omega)];rw[G8];have t:=(s.getD i 0).toNat_lt;generalize s.getD i 0=b at *;have k:((i:Int)+1)=((i+1:Nat):Int):=by omega
  have o:Co=1099511627776:=rfl;have step:∀d:Nat,d<base->(a*base+d<100000000000000/\A1 (A1 ((a:Int)*(base:Int))+(d:Int))=((a*base+d:Nat):Int)):=by
   intro d c;have h:a*base<=1099511627776*16:=am9 (by omega) (by omega);refine⟨by omega,?_⟩;have p:A1 ((a*base:Nat):Int)=((a*base:Nat):Int):=A5;rw[<-am5,p,A5];rfl
  simp (disch:=omega) only[D1,L1,cond_true,vl,F5,Uv,Uu,Ut];rw[k];simp only[E9];rcases Kj b with⟨h,j,e⟩|⟨h,j,e⟩|⟨h,j,e⟩|⟨h,j,A,e⟩
  ·have f:wu8 ((b.toNat:Int)-48)=((dig b:Nat):Int):=by rw[R2];omega
   simp (disch:=omega) only[D1,F1,j2,j1,cond_false,cond_true,f,F5];by_cases c:dig b<base
   ·rw[if_pos c,A8,(step _ c).2,Cd1];exact l (i+1) _ n (by omega) (by omega) (by omega)
   ·rw[if_neg c,A6];rfl
  ·have f:wu8 ((b.toNat:Int)-97)+10=((dig b:Nat):Int):=by rw[R2];omega
   have g:wu8 ((b.toNat:Int)-97)=((b.toNat:Int)-97):=R2;rw[g] at f;simp (disch:=omega) only[D1,F1,j2,j1,cond_false,cond_true,g,F5,f];by_cases c:dig b<base
   ·rw[if_pos c,A8,(step _ c).2,Cd1];exact l (i+1) _ n (by omega) (by omega) (by omega)
   ·rw[if_neg c,A6];rfl
  ·have f:wu8 ((b.toNat:Int)-65)+10=((dig b:Nat):Int):=by rw[R2];omega
   have g:wu8 ((b.toNat:Int)-65)=((b.toNat:Int)-65):=R2;rw[g] at f;simp (disch:=omega) only[D1,F1,j2,j1,cond_false,cond_true,g,F5,f];by_cases c:dig b<base
   ·rw[if_pos c,A8,(step _ c).2,Cd1];exact l (i+1) _ n (by omega) (by omega) (by omega)
   ·rw[if_neg c,A6];rfl
  ·rw[if_neg (show ¬dig b<base by omega)];by_cases x:b.toNat<48
   ·simp (disch:=omega) only[D1,F1,j2,j1,cond_false,cond_true]
   ·by_cases y:b.toNat<65
    ·simp (disch:=omega) only[D1,F1,j2,j1,cond_false,cond_true]
    ·by_cases z:b.toNat<97
     ·simp (disch:=omega) only[D1,F1,j2,j1,cond_false,cond_true]
     ·simp (disch:=omega) only[D1,F1,j2,j1,cond_false,cond_true]
theorem Bk9{R:Type}{k0:Int->Bool->Option R}(s:By)(base:Int)(c:A3 s.length=true)(d:ltN base 17=true):B42 LF s base k0=k0 (Ad (E9 base.toNat 0 s):Int) (E9 base.toNat 0 s).isSome:=by have f:=N5 c;have:=E2;obtain⟨a,e⟩:=D9.1 d;obtain⟨b,rfl⟩:=k9 a;unfold B42;have:=Bk8 (k0:=λ_=>k0 0 false) (k1:=λn=>k0 n true) s f b (by omega) s.length 0 0 LF (by omega) (by omega) (by unfold Co;omega);refine j8 this ?_;rw[v7,c9];cases E9 b 0 s<;>rfl
theorem B91{R:Type}{f:Int->Bool->Option R}(s:By)(d:A3 s.length=true):num LF s f=f (Ad (Ak s):Int) (Ak s).isSome:=by
 have k:=N5 d;unfold num Ak;rw[d];by_cases a:s=[]
 ·subst a;rfl
 have c:(s==([]:By))=false:=by simpa using a
 have j:0<s.length:=af2.2 a;rw[if_neg a,c];simp only[cond_true,cond_false,vl];cases h:Bx s with
 | true=>
  have:=Qj h;simp (disch:=first|omega|(simp;omega)) only[cond_true,if_true,W0,Z2,E5,BG];rfl
 | false=>
  simp only[cond_false,o5,if_false];have i:(E9 10 0 s)=E9 10 0 s:=rfl;by_cases g:1<s.length
  ·simp (disch:=omega) only[D1,L1,cond_true,Kb,g,true_and];have e:=Y6 (s.getD 0 0) 48 (by omega);rw[show((48:Nat):Int)=48 from rfl] at e;rw[e];by_cases b:s.getD 0 0=48
   ·rw[if_pos b,b,show((48:UInt8)==ac7 48)=true from rfl];simp (disch:=first|omega|(simp;omega)) only[W0,Z2,E5,BG,cond_true];rfl
   ·rw[if_neg b,show(s.getD 0 0==ac7 48)=false from beq_eq_false_iff_ne.2 b];rfl
  ·rw[A6,J4];rfl
theorem UX{R:Type}{b:Bool->Option R}(s:By)(a:A3 s.length=true):CZ LF s b=b (L2 s):=by
 have i:=N5 a;have h:=Dh s;have g:=Ti (MQ s);have d:=Zq s;have c:((E4 s).length:Int)-1=(((E4 s).length-1:Nat):Int):=by omega
 unfold CZ L2;rw[a];simp (disch:=omega) only[cond_true,vl,C4,c,F5,L1,c9,R1,W4,d,E5];cases f:Bx (Kp s) with
 | true=>
  have:=Qj f;have e:Ak (Kp s)=E9 16 0 ((Kp s).drop 2):=by
   unfold Ak;grind
  simp[e]
 | false=>
  simp only[cond_false,o5,if_false];cases E9 10 0 (Kp s) with
  | none=>simp
  | some v=>cases Kp s<;>rfl
theorem KN{R:Type}{c:Bool->Option R}(s:By)(a:A3 s.length=true):Wm LF s c=c (L2 s):=by
 have j:=N5 a;have i:=Dh s;have h:=Ti (MQ s);have e:=Zq s;have d:((E4 s).length:Int)-1=(((E4 s).length-1:Nat):Int):=by omega
 unfold Wm L2;rw[a,B92];simp (disch:=omega) only[cond_true,vl,C4,d,F5,L1,c9,R1,W4,e,E5];generalize Kp s=l at *;cases (!l.isEmpty&&(E9 10 0 l).isSome) with
 | true=>rfl
 | false=>
  simp only[cond_false,o5,if_false];cases Ak l with
  | none=>rfl
  | some v=>
   simp only[y5,cond_true,if_true,Bb5];by_cases b:2<=l.length
   ·simp (disch:=omega) only[F1,L1,j1,cond_true,b,decide_true,an5];have f:=Y6 (l.getD 1 0) 120 (by omega);have g:=Y6 (l.getD 1 0) 88 (by omega);grind
   ·rw[A8];simp[b]
theorem TT{R:Type}{e:By->Option R}(b:Nat)(j:b<=9223372036854775808)(n:Int)(f:ltN n (b+1)=true):CV b n e=e (o0 n.toNat):=by
 obtain⟨a,g⟩:=D9.1 f;obtain⟨m,rfl⟩:=k9 a;have key:∀d:Nat,d<10->wu8 (A1 (48+(d:Int)))=((48+d:Nat):Int):=by
  intro d i;rw[A5,R2];rfl
 have c:∀d:Nat,d<10->[[SV.int .u8 ((48+d:Nat):Int)]]=[ac7 (48+d)].map F0:=by
  intro d i;rw[Cf2 (by omega)];rfl
 unfold CV;rw[c9];by_cases h:m<10
 ·rw[A8,key m h,ag3 h];simp only[cond_true,vl];rw[c m h,Br,Ca];rfl
 ·have l:=Ki 19 (m / 10) (by omega) (by omega);rw[A6,show(10:Int)=((10:Nat):Int) from rfl,M3,Cl];simp (disch:=omega) only[cond_false,vl,F5,cond_true,c9];rw[M0];simp only[cond_true];have k:=key (m % 10) (by omega);rw[A5] at k;rw[k,c (m % 10) (by omega),Br,Ca,J8 (by simp;omega),Jr m h];rfl
theorem C33(s:By)(a b:Nat)(h:a<=b)(c:b<s.length):cut s (a:Int) ((b+1:Nat):Int)=cut s (a:Int) (b:Int)++[s.getD b 0]:=by rw[Fa,Fa,OE s b c,ac5 (by rw[aa1];omega)]
theorem Sy(s:By)(a:Nat):cut s (a:Int) (a:Int)=[]:=by rw[Fa];grind
theorem Ag3{R:Type}{k0:LL->Option R}(s:By)(p:s.length<=1000000000)(c:UInt8):∀(r i a n:Nat) (l:List By),i+r=s.length->r+1<n->a<=i->l.length<=i->
  V3 LF n s (c.toNat:Int) (a:Int) (i:Int) (C1 l) k0=k0 (C1 (l++M6 c (cut s (a:Int) (i:Int)) (s.drop i))):=by
 intro r
 induction r with
 | zero=>
  intro i a n l j o f k;obtain⟨n,rfl⟩:∃m,n=m+1:=⟨n-1,by omega⟩
  obtain⟨n,rfl⟩:∃m,n=m+1:=⟨n-1,by omega⟩
  have b:i=s.length:=by omega
  subst b;rw[V3];simp (disch:=omega) only[F1,j1,cond_true,beq_self_eq_true,W0,C4,F3,F5];rw[V3];rw[A8,List.drop_length];simp only[j2,cond_false,M6,Eh];rfl
 | succ r g=>
  intro i a n l j o f k;obtain⟨n,rfl⟩:∃m,n=m+1:=⟨n-1,by omega⟩
  rw[V3];have d:((i:Int)+1)=((i+1:Nat):Int):=by omega
  have e:((i:Int)==(s.length:Int))=false:=by rw[beq_eq_false_iff_ne];omega
  simp (disch:=omega) only[F1,j1,cond_true,cond_false,e,L1,G8,C40,W0,C4,F3,F5];rw[d,I8 s i (by omega)];simp only[M6];by_cases h:s.getD i 0=c
  ·rw[show(s.getD i 0==c)=true by simpa using h,if_pos h,cond_true];have:=g (i+1) (i+1) n (l++[cut s (a:Int) (i:Int)]) (by omega) (by omega) (by omega) (by simp<;>omega);rw[Eh] at this;refine j8 this ?_;rw[Sy];simp
  ·rw[show(s.getD i 0==c)=false from beq_eq_false_iff_ne.2 h,if_neg h,cond_false];rw[g (i+1) a n l (by omega) (by omega) (by omega) (by omega),C33 s a i f (by omega)]
theorem A39{R:Type}{k0:LL->Option R}(s:By)(c:Int)(a:A3 s.length=true)(d:inR c 256=true):JD LF s c k0=k0 (C1 (pcs (u8n c) s)):=by
 have f:=N5 a;have:=E2;simp only[inR,aa0,decide_eq_true_eq] at d;have e:c=((u8n c).toNat:Int):=by
  unfold u8n;simp;omega
 unfold JD;generalize u8n c=b at *;subst e;have:=Ag3 (k0:=k0) s f b s.length 0 0 LF [] (by omega) (by omega) (by omega) (by simp);refine j8 this ?_;rw[Sy];rfl
theorem Ai8(c:UInt8)(s:By):(C1 (pcs c s)).isEmpty=false:=by
 cases h:pcs c s with
 | nil=>exact absurd h (Ax7 c s)
 | cons a r=>rfl
theorem Ag4(s:By)(c:Int)(a:A3 s.length=true)(b:inR c 256=true):∃r H,JD LF s c (λl=>rv (.fl 0) [.arr true 9 1 l])=rv r H/\r.stab [1] H = .s (.sl false false 1 (C1 (pcs (u8n c) s))):=by refine⟨_,_,A39 s c a b,?_⟩;simp[PV.stab,Rh,PV.snap,Ai8]
theorem Cd2(d:List By)(x:By)(m:Nat):ai5 (C1 (d++j6 (m+1) [])) d.length (H8 (j0 (C1 (d++j6 (m+1) [])) d.length []) 0 [SV.str x])=C1 ((d++[x])++j6 m []):=by
 have a:j0 (C1 (d++j6 (m+1) [])) d.length []=[SV.str []]:=by
  unfold C1;grind
 rw[a];simp only[H8,List.set_cons_zero,Eh];rw[show d.length=(C1 d).length by simp,ai4 _ _ (by omega),ak7,List.replicate_succ];simp[C1]
theorem Aa6{R:Type}{k0:By->Int->LL->Option R}(c:UInt8):∀(m n:Nat) (s:By) (d:List By),s.length<=1000000000->m=s.count c->d.length+m<=1000000000->m<n->
  ∃(f:List By) (e:By),pcs c s=f++[e]/\e.length<=s.length/\Bh LF n s [c] 0 ((d.length+m:Nat):Int) (d.length:Int) (C1 (d++j6 (m+1) [])) k0=k0 e ((d.length+m:Nat):Int) (C1 ((d++f)++[[]])):=by
 intro m
 induction m with
 | zero=>
  intro n s d k b x y;obtain⟨n,rfl⟩:∃m,n=m+1:=⟨n-1,by omega⟩
  have a:c∉s:=af7.1 b.symm;refine⟨[],s,Wd a,ae6 _,?_⟩;rw[Bh];rw[A6];simp
 | succ m z=>
  intro n s d k b x y;obtain⟨n,rfl⟩:∃m,n=m+1:=⟨n-1,by omega⟩
  rcases Bo c s with a|⟨p,r,rfl,a⟩
  ·rw[af7.2 a] at b;omega
  ·have i:m=r.count c:=by
    rw[List.count_append,List.count_cons,af7.2 a] at b;simp at b;omega
   simp only[ac9,o8] at k;obtain⟨f,e,w,B,j⟩:=z n r (d++[p]) (by omega) i (by simp<;>omega) (by omega);refine⟨p::f,e,by rw[VI a,w];rfl,by simp<;>omega,?_⟩;rw[Bh];have l:((p.length:Int)+1)=((p.length+1:Nat):Int):=by omega
   have o:(d.length:Int)+1=((d.length+1:Nat):Int):=by omega
   have q:((p.length+1:Nat):Int).toNat=p.length+1:=by omega
   have A:(((p++c::r).length:Nat):Int)=((p.length+(r.length+1):Nat):Int):=by simp
   have t:(p++c::r).take p.length=p:=List.take_left' rfl;have u:(p++c::r).drop (p.length+1)=r:=by
    rw[show p++c::r=(p++[c])++r by simp,ai1 (by simp)]
   rw[Zl a];have v:(C1 (d++j6 (m+1+1) [])).length=d.length+(m+2):=by simp<;>omega
   simp (disch:=first|omega|(simp;omega)) only[D1,F1,E5,cond_true,cond_false,vl,Int.add_zero,F5,W0,L1,v,c9,ab4,Z2,X6,t,Cd2];rw[decide_eq_true (show d.length<d.length+(m+2) by omega),cond_true,show((1:Nat):Int)=1 from rfl,l];simp (disch:=first|omega|(simp;omega)) only[F5,W0,cond_true,Z2,q,u,o];have g:((((d++[p]).length+m:Nat):Int))=((d.length+(m+1):Nat):Int):=by simp<;>omega
   have h:(((d++[p]).length:Nat):Int)=((d.length+1:Nat):Int):=by simp
   rw[g,h] at j;rw[j];simp
theorem HN{R:Type}{k0:Unit->Option R}{g:Nat->LL->Option R}(s p:By)(v n:Int)(w:A3 s.length=true)(x:(p.length==1)=true)(y:(v==0)=true)(z:(n==(-1))=true) :
  HM LF s p v n k0 g=g (pcs (p.getD 0 0) s).length (C1 (pcs (p.getD 0 0) s)):=by
 have C:=N5 w;have:=E2;obtain⟨c,rfl⟩:∃c,p=[c]:=by
  match p,x with
  | [c],_=>exact⟨c,rfl⟩
 have:v=0:=by simpa using y
 subst this;have:n=-1:=by simpa using z
 subst this;have G:=Gz c s;have B:=Iu c s;obtain⟨d,D,u,F,h⟩:=Aa6 (R:=R) (k0:=λf a b=>cond (inR a (j4 b))
     (cond (decide ((x5 a)<(j4 b)))
      (vl (A1 (a+(1))) λe=>
      cond (K5 (0) e (j4 (ai5 b (x5 a) (H8 (j0 b (x5 a) []) 0 [(SV.str f)]))))
       (g ((x5 e)-0) (ai5 b (x5 a) (H8 (j0 b (x5 a) []) 0 [(SV.str f)])))
       (none))
      (none))
     (none)) c (s.count c) LF s [] C rfl (by simp<;>omega) (by omega)
 unfold HM;have i:A1 ((s.count c:Int)+1)=((s.count c+1:Nat):Int):=A5;have j:A1 ((s.length:Int)+1)=((s.length+1:Nat):Int):=A5;have k:(if ((s.length+1:Nat):Int)<((s.count c+1:Nat):Int) then ((s.length+1:Nat):Int) else ((s.count c+1:Nat):Int))=((s.count c+1:Nat):Int):=J4;have l:((s.count c+1:Nat):Int)-1=(s.count c:Int):=by omega
 have m:(j6 (s.count c+1) [SV.str ([]:By)])=C1 ([]++j6 (s.count c+1) []):=by simp[C1]
 simp only[aa8,vl,ab4,i,j,k,c9,m];rw[show((-1:Int)==0)=false from rfl,show([c]==([]:By))=false from rfl,show ltI (-1) 0=true from rfl,decide_eq_true (show(0:Int)<=((s.count c+1:Nat):Int) by omega),decide_eq_true (show((s.count c+1:Nat):Int)<=((s.count c+1:Nat):Int) by omega),F3 (by omega),l,A5];simp only[cond_true,cond_false,beq_self_eq_true,Bool.and_self];simp only[ad3,af3] at h;refine j8 h ?_;have o:(C1 ((([]:List By)++d)++[[]]))=C1 (d++j6 (0+1) []):=by simp
 have A:d.length=s.count c:=by grind
 have q:=Cd2 d D 0;rw[<-A,o];have t:(C1 (d++j6 (0+1) ([]:By))).length=d.length+1:=by simp
 have r:A1 ((d.length:Int)+1)=((d.length+1:Nat):Int):=A5;simp only[c9,q,t,vl,r];rw[J1,decide_eq_true (show d.length<d.length+1 by omega),W0 (by omega) (by omega) (by simp),u];simp
theorem Aa7(s p:By)(v n:Int)(a:A3 s.length=true)(b:(p.length==1)=true)(c:(v==0)=true)(d:(n==(-1))=true) :
  ∃r H,HM LF s p v n (λ_=>rv (.fl 0) [.arr true 9 1 []]) (λi l=>rv (.vw 0 0 i) [.arr false 9 1 l])=rv r H/\r.stab [1] H = .s (.sl false false 1 (C1 (pcs (p.getD 0 0) s))):=by
 refine⟨_,_,HN s p v n a b c d,?_⟩;simp[PV.stab,Rh,PV.snap,w9]
theorem WQ{R:Type}{a:Nat->LL->Option R}(s p:By)(b:A3 s.length=true)(c:(p.length==1)=true):DJ LF s p a=a (pcs (p.getD 0 0) s).length (C1 (pcs (p.getD 0 0) s)):=by unfold DJ;rw[b,c];rfl
theorem Bf3{l:List By}{i:Nat}(h:i<l.length):l.getD i []∈l:=by grind
theorem Ax6{R:Type}{d:LL->Option R}(s:By)(b:A3 s.length=true):parts LF s d=d (C1 (E4 s)):=by
 have j:=N5 b;have g:=Iu 46 s;have i:=Gz 46 s;unfold parts;rw[b];have e:A1 (((pcs 46 s).length:Int)-1)=(((pcs 46 s).length-1:Nat):Int):=by rw[A5];omega
 simp only[cond_true,vl,aa8,show((1:Nat)==1)=true from rfl,C4,e,c9];by_cases c:1<(pcs 46 s).length
 ·rw[A8,J1,R1 (by omega),W4];have f:(pcs 46 s).getD ((pcs 46 s).length-1) []=(pcs 46 s).getLastD []:=by grind
  rw[f];by_cases a:(pcs 46 s).getLastD []=[]
  ·rw[a,show(([]:By)==[])=true from rfl,Q3];have:E4 s=(pcs 46 s).dropLast:=by unfold E4;rw[if_pos ⟨c,a⟩]
   rw[this,ai3,X6,c9];simp[C1]
  ·rw[show((pcs 46 s).getLastD []==[])=false from beq_eq_false_iff_ne.2 a];have:E4 s=pcs 46 s:=by unfold E4;rw[if_neg (λh=>a h.2)]
   grind
 ·rw[A6];have:E4 s=pcs 46 s:=by unfold E4;rw[if_neg (λh=>c h.1)]
  grind
theorem Af5{R:Type}{d:LL->Option R}(s:By)(b:A3 s.length=true):VY LF s d=d (C1 (E4 s)):=by
 have j:=N5 b;have g:=Iu 46 s;have i:=Gz 46 s;unfold VY;rw[b];have e:A1 (((pcs 46 s).length:Int)-1)=(((pcs 46 s).length-1:Nat):Int):=by rw[A5];omega
 simp only[cond_true,vl,show u8n 46=46 from rfl,C4,e,c9];by_cases c:1<(pcs 46 s).length
 ·rw[A8,J1,R1 (by omega),W4];have f:(pcs 46 s).getD ((pcs 46 s).length-1) []=(pcs 46 s).getLastD []:=by grind
  rw[f];by_cases a:(pcs 46 s).getLastD []=[]
  ·rw[a,show(([]:By)==[])=true from rfl,Q3];have:E4 s=(pcs 46 s).dropLast:=by unfold E4;rw[if_pos ⟨c,a⟩]
   rw[this,ai3,X6,c9];simp[C1]
  ·rw[show((pcs 46 s).getLastD []==[])=false from beq_eq_false_iff_ne.2 a];have:E4 s=pcs 46 s:=by unfold E4;rw[if_neg (λh=>a h.2)]
   grind
 ·rw[A6];have:E4 s=pcs 46 s:=by unfold E4;rw[if_neg (λh=>c h.1)]
  grind
theorem Tj(l:List By)(i:Nat)(h:i<l.length):l.drop i=l.getD i []::l.drop (i+1):=by simp_all
theorem Br1{R:Type}{g:Unit->Option R}{j:Int->Option R}(l:List By)(B:1<=l.length)(L:l.length<=4)(A:∀x∈l,x.length<=1000000000):∀(r i v n:Nat),i+r=l.length->0<r->r<n->v<256 ^ i->
  Ix LF n (C1 l) (v:Int) (l.length:Int) (i:Int) g j=match Zv (8*(5-l.length)) v (l.drop i) with|some w=>j (w:Int)|none=>g ():=by
 intro r
 induction r with
 | zero=>intro i v n _ h;omega
 | succ r J=>
  intro i v n K _ M H;obtain⟨n,rfl⟩:∃m,n=m+1:=⟨n-1,by omega⟩
  rw[Ix,Tj l i (by omega)];have N:=A _ (Bf3 (show i<l.length by omega));have f:Co=1099511627776:=rfl;have C:256 ^ i<=16777216:=by
   have:i=0\/i=1\/i=2\/i=3:=by omega
   rcases this with rfl|rfl|rfl|rfl<;>decide
  simp (disch:=omega) only[D1,C4,L1,cond_true,c9,R1,W4,E5,vl];simp only[Zv];have c:((i:Int)+1)=((i+1:Nat):Int):=by omega
  cases D:Ak (l.getD i []) with
  | none=>rfl
  | some q=>
   have F:=Bf1 D;have p:A1 ((l.length:Int)-1)=((l.length-1:Nat):Int):=by rw[A5];omega
   simp only[y5,j2,cond_false,Ad,p5,p];by_cases G:r=0
   ·subst G;have t:l.drop (i+1)=[]:=j7 (by omega);have o:A1 (8*A1 (5-(l.length:Int)))=((8*(5-l.length):Nat):Int):=by
     rw[F5 (n:=5-(l.length:Int)) (by omega) (by omega),A5];omega
    have b:2 ^ (8*(5-l.length))*256 ^ i=4294967296:=by
     have:l.length=1\/l.length=2\/l.length=3\/l.length=4:=by omega
     grind
    have u:1*2 ^ (8*(5-l.length))<=4294967296:=by
     rw[<-b,ai6];exact ah3 _ (am4 (by omega))
    rw[t,A6,o,decide_eq_true (show(0:Int)<=((8*(5-l.length):Nat):Int) by omega)];simp only[cond_false,cond_true];have k:=Ah1 1 (8*(5-l.length)) (by omega) (by omega);have I:v*2 ^ (8*(5-l.length))<4294967296:=by
     rw[<-b,ap1];exact Nat.mul_lt_mul_of_pos_left H (am4 (by omega))
    have e:=Ah1 v (8*(5-l.length)) (by omega) (by omega);rw[show((1:Nat):Int)=1 from rfl] at k;rw[k,e,ai6];by_cases a:q<2 ^ (8*(5-l.length))
    ·rw[A8,if_pos a,C28 _ _ (by omega) (by omega),DD v q _ a];simp only[j2,cond_false];obtain⟨n,rfl⟩:∃m,n=m+1:=⟨n-1,by omega⟩
     rw[Ix];rw[c,A5,A6];rfl
    ·rw[A6,if_neg a];rfl
   ·obtain⟨y,z,d⟩:∃y z,l.drop (i+1)=y::z:=⟨_,_,Tj l (i+1) (by omega)⟩
    rw[d,A8];simp only[cond_true];by_cases a:q<=255
    ·have e:=Ah1 v 8 (by omega) (by omega);rw[show((8:Nat):Int)=8 from rfl] at e;rw[A6,if_pos a,e,C28 _ _ (by omega) (by omega),DD v q 8 (by omega),c,A5];rw[<-d];exact J (i+1) _ n (by omega) (by omega) (by omega) (by rw[ab6];omega)
    ·rw[A8,if_neg a];rfl
theorem Bf7(free m:Nat):∀(l:List By) (v w:Nat),v<256 ^ m->Zv free v l=some w->w<256 ^ (m+(l.length-1))*2 ^ free
 | [],v,w,b,h=>by cases h
 | p::r,v,w,b,h=>by
  simp only[Zv] at h;cases a:Ak p with
  | none=>simp[a] at h
  | some q=>
   simp only[a] at h;cases r with
   | nil=>
    simp only at h;split at h
    ·rename_i c;cases h;simp only[o8,ad3,aj4,ak5];have:(v+1)*2 ^ free<=256 ^ m*2 ^ free:=ae7 _ b;grind
    grind
   | cons y z=>
    simp only at h;split at h
    ·rename_i c;have:=Bf7 free (m+1) (y::z) (v*256+q) w (by rw[ab6];omega) h;grind
    grind
theorem C80{s:By}{w:Nat}(h:pnB s=some w):w<4294967296:=by
 unfold pnB at h;split at h
 ·cases h
 ·rename_i a;have b:=Dh s;have:=Bf7 _ 0 (E4 s) 0 w (by decide) h;have e:(E4 s).length=1\/(E4 s).length=2\/(E4 s).length=3\/(E4 s).length=4:=by omega
  grind
theorem Br2{R:Type}{b:Int->Bool->Option R}(s:By)(a:A3 s.length=true):Cu3 LF s b=b (Ad (pnB s):Int) (pnB s).isSome:=by
 have f:=N5 a;have:=E2;have c:=Dh s;unfold Cu3;rw[a,C4];by_cases h:4<(E4 s).length
 ·rw[A8];unfold pnB;rw[if_pos h];rfl
 ·rw[A6];simp only[cond_true,cond_false];refine j8 (Br1 (E4 s) c.1 (by omega) (λx g=>ak6 (Ti g) f) (E4 s).length 0 0 LF (by omega) (by omega) (by omega) (by decide)) ?_;have e:pnB s=Zv (8*(5-(E4 s).length)) 0 (E4 s):=by unfold pnB;rw[if_neg h]
  rw[v7,<-e];cases d:pnB s with
  | none=>rfl
  | some w=>
   have:=C80 d;simp only[Ad,p5,y5];rw[JW]
theorem C84{R:Type}{o:Unit->Option R}{p:Int->Option R}(l:List By)(H:1<=l.length)(N:l.length<=4)(G:∀x∈l,x.length<=1000000000):∀(r i v n:Nat),i+r=l.length->0<r->r<n->v<256 ^ i->
  Ph LF n (C1 l) ((v*2 ^ (32-8*i):Nat):Int) (i:Int) o p=match Zv (8*(5-l.length)) v (l.drop i) with|some w=>p (w:Int)|none=>o ():=by
 intro r
 induction r with
 | zero=>intro i v n _ h;omega
 | succ r L=>
  intro i v n M _ O P;obtain⟨n,rfl⟩:∃m,n=m+1:=⟨n-1,by omega⟩
  rw[Ph,Tj l i (by omega)];have Q:=G _ (Bf3 (show i<l.length by omega));have k:Co=1099511627776:=rfl;have a:v*2 ^ (32-8*i)<4294967296:=by
   have:i=0\/i=1\/i=2\/i=3:=by omega
   rcases this with rfl|rfl|rfl|rfl
   all_goals omega
  simp (disch:=omega) only[D1,C4,L1,cond_true,c9,R1,W4,E5,vl];simp only[Zv];have c:((i:Int)+1)=((i+1:Nat):Int):=by omega
  cases I:Ak (l.getD i []) with
  | none=>rfl
  | some q=>
   have J:=Bf1 I;have C:A1 ((l.length:Int)-1)=((l.length-1:Nat):Int):=by rw[A5];omega
   simp only[y5,j2,cond_false,Ad,p5,C];by_cases K:r=0
   ·subst K;have D:l.drop (i+1)=[]:=j7 (by omega);have B:A1 (8*A1 (5-(l.length:Int)))=((8*(5-l.length):Nat):Int):=by
     rw[F5 (n:=5-(l.length:Int)) (by omega) (by omega),A5];omega
    have f:2 ^ (8*(5-l.length))*256 ^ i=4294967296:=by
     have:l.length=1\/l.length=2\/l.length=3\/l.length=4:=by omega
     grind
    have F:1*2 ^ (8*(5-l.length))<=4294967296:=by
     rw[<-f,ai6];exact ah3 _ (am4 (by omega))
    have e:((i:Int)==((l.length-1:Nat):Int))=true:=by rw[beq_iff_eq];omega
    rw[D,e,B,decide_eq_true (show(0:Int)<=((8*(5-l.length):Nat):Int) by omega)];simp only[cond_true];have t:=Ah1 1 (8*(5-l.length)) (by omega) (by omega);rw[show((1:Nat):Int)=1 from rfl] at t;rw[t,ai6];by_cases b:q<2 ^ (8*(5-l.length))
    ·rw[A8,if_pos b];simp only[j2,cond_false];obtain⟨n,rfl⟩:∃m,n=m+1:=⟨n-1,by omega⟩
     rw[Ph];rw[c,F5 (n:=((i+1:Nat):Int)) (by omega) (by omega),C4,A6];have:32-8*i=8*(5-l.length):=by omega
     rw[this] at a ⊢;rw[cond_false,A5];rfl
    ·rw[A6,if_neg b];rfl
   ·obtain⟨y,z,d⟩:∃y z,l.drop (i+1)=y::z:=⟨_,_,Tj l (i+1) (by omega)⟩
    have e:((i:Int)==((l.length-1:Nat):Int))=false:=by rw[beq_eq_false_iff_ne];omega
    rw[d,e];simp only[cond_false];by_cases b:q<=255
    ·have j:A1 (24-A1 (8*(i:Int)))=((24-8*i:Nat):Int):=by
      rw[F5 (n:=8*(i:Int)) (by omega) (by omega),A5];omega
     have g:q*2 ^ (24-8*i)<4294967296:=by
      have:i=0\/i=1\/i=2:=by omega
      clear a;rcases this with rfl|rfl|rfl
      ·show q*16777216<_;omega
      ·show q*65536<_;omega
      ·show q*256<_;omega
     have u:=Ah1 q (24-8*i) (by omega) (by omega);rw[A6,if_pos b,j,decide_eq_true (show(0:Int)<=((24-8*i:Nat):Int) by omega),u,c,F5 (n:=((i+1:Nat):Int)) (by omega) (by omega)];have A:A1 (((v*2 ^ (32-8*i):Nat):Int)+((q*2 ^ (24-8*i):Nat):Int))=(((v*256+q)*2 ^ (32-8*(i+1)):Nat):Int):=by
      rw[A5];have:i=0\/i=1\/i=2:=by omega
      clear a g u j;rcases this with rfl|rfl|rfl
      ·show((v*4294967296:Nat):Int)+((q*16777216:Nat):Int)=(((v*256+q)*16777216:Nat):Int);omega
      ·show((v*16777216:Nat):Int)+((q*65536:Nat):Int)=(((v*256+q)*65536:Nat):Int);omega
      ·show((v*65536:Nat):Int)+((q*256:Nat):Int)=(((v*256+q)*256:Nat):Int);omega
     rw[A,<-d];exact L (i+1) _ n (by omega) (by omega) (by omega) (by rw[ab6];omega)
    ·rw[A8,if_neg b];rfl
theorem Bf2:∀(l:List By) (v w m:Nat),v<256 ^ m->Ac8 v l=some w->w<256 ^ (m+l.length)
 | [],v,w,m,b,h=>by simp only[Ac8,o7] at h;subst h;simpa using b
 | p::r,v,w,m,b,h=>by
  simp only[Ac8] at h;cases a:oct p with
  | none=>simp[a] at h
  | some q=>
   simp only[a] at h;have c:=(Ct0.1 a).1;have:=Bf2 r (v*256+q) w (m+1) (by rw[ab6];omega) h;grind
theorem Ct1(s:By):oct s=match E9 10 0 s with|some n=>(if n<=255 then (if o0 n=s then some n else none) else none)|none=>none:=by unfold oct;grind
theorem Cg2{R:Type}{e:Unit->Option R}{f:Int->Option R}(l:List By)(z:l.length=4)(j:∀x∈l,x.length<=1000000000):∀(r i v n:Nat),i+r=4->r<n->v<256 ^ i->
  Ts LF n (v:Int) (C1 l) 4 (i:Int) e f=match Ac8 v (l.drop i) with|some w=>f (w:Int)|none=>e ():=by
 intro r
 induction r with
 | zero=>
  intro i v n h k u;obtain⟨n,rfl⟩:∃m,n=m+1:=⟨n-1,by omega⟩
  rw[Ts];rw[A6,j7 (by omega)];rfl
 | succ r y=>
  intro i v n h k u;obtain⟨n,rfl⟩:∃m,n=m+1:=⟨n-1,by omega⟩
  rw[Ts,Tj l i (by omega)];have A:=j _ (Bf3 (show i<l.length by omega));have o:256 ^ i<=16777216:=by
   have:i=0\/i=1\/i=2\/i=3:=by omega
   grind
  simp (disch:=omega) only[D1,C4,L1,cond_true,c9,R1,W4,E5,BG,vl];simp only[Ac8];have b:((i:Int)+1)=((i+1:Nat):Int):=by omega
  rw[Ct1];cases p:E9 10 0 (l.getD i []) with
  | none=>rfl
  | some q=>
   have t:=GV (by unfold Co;omega) p;have d:Co=1099511627776:=rfl;simp only[y5,j2,cond_false,Ad,p5,c9];by_cases c:q<=255
   ·rw[A6,if_pos c,M0];simp only[cond_false,cond_true];by_cases a:o0 q=l.getD i []
    ·have g:=Df8 v 8 (by omega) (by omega);rw[show((8:Nat):Int)=8 from rfl] at g;rw[show(o0 q==l.getD i [])=true by simpa using a,if_pos a,g,JW,De0 _ _ (by omega) (by omega),DD v q 8 (by omega),b,A5];exact y (i+1) _ n (by omega) (by omega) (by rw[ab6];omega)
    ·rw[show(o0 q==l.getD i [])=false from beq_eq_false_iff_ne.2 a,if_neg a];rfl
   ·rw[A8,if_neg c];rfl
theorem Cg3{R:Type}{b:Int->Bool->Option R}(s:By)(a:A3 s.length=true):v4p LF s b=b (Ad (v4B s):Int) (v4B s).isSome:=by
 have c:=N5 a;have:=E2;unfold v4p v4B;rw[a];simp only[cond_true,vl,aa8,C4,show((1:Nat)==1)=true from rfl];by_cases h:(pcs 46 s).length=4
 ·rw[if_pos h,h,show(((4:Nat):Int)!=4)=false from rfl,cond_false];refine j8 (Cg2 (pcs 46 s) h (λx d=>ak6 (Fj d).2 c) 4 0 0 LF (by omega) (by omega) (by decide)) ?_;rw[v7];cases Ac8 0 (pcs 46 s)<;>rfl
 ·rw[if_neg h,show(((pcs 46 s).length:Int)!=4)=true by simp<;>omega];rfl
theorem Cg1{R:Type}{j:By->Option R}(v:Int)(o:ltN v 4294967296=true):v4f LF v j=j (Hx v.toNat):=by
 obtain⟨c,p⟩:=D9.1 o;obtain⟨m,rfl⟩:=k9 c;have:=E2;obtain⟨f,q⟩:∃f,LF=f+1+1+1+1+1:=⟨LF-5,by omega⟩
 have step:∀(n:Nat) (i:Nat) (out:By) (K:By->Option R),i<=24->out.length<=1000->Hy LF (n+1) (m:Int) out (i:Int) K=Hy LF n (m:Int) (out++(o0 (m / 2 ^ i % 256)++[46])) ((i:Int)-8) K:=by
  intro n i out K y A;rw[Hy];have g:m / 2 ^ i<4294967296:=Nat.lt_of_le_of_lt (ai2 _ _) (by omega);have k:An6 .u32 (Rl .u32 (m:Int) (i:Int)) 255=((m / 2 ^ i % 256:Nat):Int):=by
   rw[Wv .u32 m i (by show i<=32;omega),show(255:Int)=((255:Nat):Int) from rfl,C51 _ _ g (by omega),C48]
  have z:=F7 (m / 2 ^ i % 256) (by omega);have l:A1 ((m / 2 ^ i % 256:Nat):Int)=((m / 2 ^ i % 256:Nat):Int):=A5;rw[A6,decide_eq_true (show(0:Int)<=(i:Int) by omega),k];simp only[vl,l,c9,j1,cond_true];rw[M0,J8 (by omega),J8 (by simp<;>omega),A5];rfl
 have b:∀(n:Nat) (out:By) (K:By->Option R),Hy LF (n+1) (m:Int) out (-8) K=K out:=by
  intro n out K;rw[Hy];simp_all
 have x:=F7 (m / 2 ^ 24 % 256) (by omega);have w:=F7 (m / 2 ^ 16 % 256) (by omega);have D:=F7 (m / 2 ^ 8 % 256) (by omega);have C:=F7 (m / 2 ^ 0 % 256) (by omega);have u:=F7 (m / 16777216 % 256) (by omega);have t:=F7 (m / 65536 % 256) (by omega);have B:=F7 (m / 256 % 256) (by omega);have r:=F7 (m % 256) (by omega);unfold v4f;rw[show Hy LF LF=Hy LF (f+1+1+1+1+1) by rw[<-q]];rw[show(24:Int)=((24:Nat):Int) from rfl,step _ 24 _ _ (by omega) (by simp)];rw[show((24:Nat):Int)-8=((16:Nat):Int) from rfl,step _ 16 _ _ (by omega) (by simp<;>omega)];rw[show((16:Nat):Int)-8=((8:Nat):Int) from rfl,step _ 8 _ _ (by omega) (by simp<;>omega)];rw[show((8:Nat):Int)-8=((0:Nat):Int) from rfl,step _ 0 _ _ (by omega) (by simp<;>omega)];rw[show((0:Nat):Int)-8=-8 from rfl,b];have h:m / 2 ^ 24 % 256=m / 16777216:=by omega
 have e:(([]:By)++(o0 (m / 2 ^ 24 % 256)++[46])++(o0 (m / 2 ^ 16 % 256)++[46])++(o0 (m / 2 ^ 8 % 256)++[46])++(o0 (m / 2 ^ 0 % 256)++[46]))=Hx m++[46]:=by
  unfold Hx;grind
 have a:(Hx m++[46]).length<=1000:=by rw[<-e];simp;omega
 rw[e];have d:((Hx m++[46]).length:Int)-1=((Hx m).length:Int):=by simp<;>omega
 simp only[vl,d];simp only[ac9,ab4] at a;rw[A5,W0 (by omega) (by omega) (by simp<;>omega),X6,c9,c9];grind
theorem Bt6{R:Type}{b:By->Option R}(v:Int)(f:ltN v 4294967296=true):Cw4 LF v b=b (Hx v.toNat):=by
 obtain⟨a,g⟩:=D9.1 f;obtain⟨m,rfl⟩:=k9 a;have i:=F7 (m / 16777216) (by omega);have h:=F7 (m / 65536 % 256) (by omega);have l:=F7 (m / 256 % 256) (by omega);have k:=F7 (m % 256) (by omega);have c:Rl .u32 (m:Int) 24=((m / 16777216:Nat):Int):=Wv .u32 m 24 (by decide);have d:Rl .u32 (m:Int) 16=((m / 65536:Nat):Int):=Wv .u32 m 16 (by decide);have e:Rl .u32 (m:Int) 8=((m / 256:Nat):Int):=Wv .u32 m 8 (by decide);have t:∀x:Nat,ak0 (x:Int) 256=((x % 256:Nat):Int):=λx=>Cl x 256
 have w:∀x:Nat,x<4294967296->A1 (x:Int)=(x:Int):=λx j=>A5
 unfold Cw4;simp only[vl,c,d,e,t];rw[w _ (by omega),w _ (by omega),w _ (by omega),w _ (by omega)];simp only[c9];rw[M0,M0,M0,M0];simp only[cond_true];rw[J8 (by omega),J8 (by simp<;>omega),J8 (by simp<;>omega),J8 (by simp<;>omega),J8 (by simp<;>omega),J8 (by simp<;>omega)];simp only[cond_true,Hx,c9];grind
theorem VT{R:Type}{g:Unit->Option R}{h:By->Option R}(s:By)(q:s.length<=1000000000):∀(r i n v:Nat),i+r=s.length->r<n->Ba LF n s (i:Int) g h=if (E9 10 v (s.drop i)).isSome then h s else g ():=by
 intro r
 induction r with
 | zero=>
  intro i n v k l;obtain⟨n,rfl⟩:∃m,n=m+1:=⟨n-1,by omega⟩
  rw[Ba];rw[A6,j7 (by omega)];rfl
 | succ r o=>
  intro i n v k l;obtain⟨n,rfl⟩:∃m,n=m+1:=⟨n-1,by omega⟩
  rw[Ba,I8 s i (by omega)];rw[G8];have j:=(s.getD i 0).toNat_lt;generalize s.getD i 0=b at *;have f:((i:Int)+1)=((i+1:Nat):Int):=by omega
  simp (disch:=omega) only[D1,L1,cond_true,F5];simp only[E9];rw[f,o (i+1) n (min (v*10+dig b) Co) (by omega) (by omega)];rcases Kj b with⟨a,d,e⟩|⟨a,d,e⟩|⟨a,d,e⟩|⟨a,d,p,e⟩
  ·simp only[if_pos (show dig b<10 by omega)];rw[A6,A6];rfl
  ·simp only[if_neg (show ¬dig b<10 by omega)];rw[A6,A8];rfl
  ·simp only[if_neg (show ¬dig b<10 by omega)];rw[A6,A8];rfl
  ·simp only[if_neg (show ¬dig b<10 by omega)];by_cases c:b.toNat<48
   ·rw[A8];rfl
   ·rw[A6,A8];rfl
theorem VU{R:Type}{a:Bool->Option R}(s:By)(b:A3 s.length=true):DE LF s a=a (!s.isEmpty&&(E9 10 0 s).isSome):=by
 have c:=N5 b;have:=E2;unfold DE;refine j8 (VT s c s.length 0 LF 0 (by omega) (by omega)) ?_;rw[v7];cases d:E9 10 0 s with
 | none=>simp
 | some v=>cases s<;>rfl
theorem Bs0{R:Type}{g:Int->Option R}(b:Int)(h:inR b 256=true):Ca8 LF b g=g (dig (u8n b):Int):=by
 simp only[inR,aa0,decide_eq_true_eq] at h;have j:b=((u8n b).toNat:Int):=by
  unfold u8n;simp;omega
 generalize u8n b=c at *;subst j;have i:=c.toNat_lt;unfold Ca8;simp only[Wk,Wj,vl];rcases Kj c with⟨d,f,e⟩|⟨d,f,e⟩|⟨d,f,e⟩|⟨d,f,o,e⟩
 ·have a:A1 (wu8 ((c.toNat:Int)-48))=((dig c:Nat):Int):=by
   rw[R2,A5];omega
  simp (disch:=omega) only[D1,F1,j2,j1,cond_false,cond_true,a]
 ·have a:A1 (A1 (wu8 ((c.toNat:Int)-97))+10)=((dig c:Nat):Int):=by
   rw[R2,F5 (n:=(c.toNat:Int)-97) (by omega) (by omega),A5];omega
  simp (disch:=omega) only[D1,F1,j2,j1,cond_false,cond_true,a]
 ·have a:A1 (A1 (wu8 ((c.toNat:Int)-65))+10)=((dig c:Nat):Int):=by
   rw[R2,F5 (n:=(c.toNat:Int)-65) (by omega) (by omega),A5];omega
  simp (disch:=omega) only[D1,F1,j2,j1,cond_false,cond_true,a]
 ·rw[e];by_cases k:c.toNat<48
  ·simp (disch:=omega) only[D1,F1,j2,j1,cond_false,cond_true];rfl
  ·by_cases l:c.toNat<65
   ·simp (disch:=omega) only[D1,F1,j2,j1,cond_false,cond_true];rfl
   ·by_cases m:c.toNat<97
    ·simp (disch:=omega) only[D1,F1,j2,j1,cond_false,cond_true];rfl
    ·simp (disch:=omega) only[D1,F1,j2,j1,cond_false,cond_true];rfl
theorem Af3{R:Type}{g:Unit->Option R}{h:Int->Option R}(s:By)(p:s.length<=1000000000):∀(r i a n:Nat),i+r=s.length->r<n->a<=Co->
  Iz LF n s (a:Int) (i:Int) g h=match E9 16 a (s.drop i) with|some v=>h (v:Int)|none=>g ():=by
 intro r
 induction r with
 | zero=>
  intro i a n k l j;obtain⟨n,rfl⟩:∃m,n=m+1:=⟨n-1,by omega⟩
  rw[Iz];rw[A6,j7 (by omega)];rfl
 | succ r o=>
  intro i a n k l j;obtain⟨n,rfl⟩:∃m,n=m+1:=⟨n-1,by omega⟩
  rw[Iz,I8 s i (by omega)];rw[G8,Mw,A64];generalize s.getD i 0=b at *;have c:((i:Int)+1)=((i+1:Nat):Int):=by omega
  have f:Co=1099511627776:=rfl;simp (disch:=omega) only[D1,L1,cond_true,vl,F5];simp only[E9];rw[c];by_cases e:dig b<16
  ·have d:A1 (A1 ((a:Int)*16)+(dig b:Int))=((a*16+dig b:Nat):Int):=by
    rw[F5 (n:=(a:Int)*16) (by omega) (by omega),A5];simp
   rw[if_pos e,A8];simp (disch:=omega) only[F5,j2,cond_false] at d ⊢;rw[d,Cd1];exact o (i+1) _ n (by omega) (by omega) (by omega)
  ·rw[if_neg e,A6];rfl
theorem A25{R:Type}{f:Unit->Option R}{g:Int->Option R}(s:By)(t:s.length<=1000000000)(base:Nat)(q:base<=16):∀(r i a n:Nat),i+r=s.length->r<n->a<=Co->
  Fo LF n s (base:Int) (a:Int) (i:Int) f g=match E9 base a (s.drop i) with|some v=>g (v:Int)|none=>f ():=by
 intro r
 induction r with
 | zero=>
  intro i a n k l j;obtain⟨n,rfl⟩:∃m,n=m+1:=⟨n-1,by omega⟩
  rw[Fo];rw[A6,j7 (by omega)];rfl
 | succ r o=>
  intro i a n k l j;obtain⟨n,rfl⟩:∃m,n=m+1:=⟨n-1,by omega⟩
  rw[Fo,I8 s i (by omega)];rw[G8,Mw,A64];generalize s.getD i 0=b at *;have c:((i:Int)+1)=((i+1:Nat):Int):=by omega
  have e:Co=1099511627776:=rfl;simp only[E9,vl];rw[A8,J1,c,F5 (n:=((i+1:Nat):Int)) (by omega) (by omega)];simp only[cond_true];by_cases d:dig b<base
  ·have p:a*base<=1099511627776*16:=am9 (by omega) (by omega);have e0:A1 ((a:Int)*(base:Int))=((a*base:Nat):Int):=by
    rw[<-am5];exact A5
   have h:A1 (((a*base:Nat):Int)+(dig b:Int))=((a*base+dig b:Nat):Int):=by
    rw[A5];rfl
   rw[if_pos d,A8,e0,h,Cd1];exact o (i+1) _ n (by omega) (by omega) (by omega)
  ·rw[if_neg d,A6];rfl
theorem Bs5{R:Type}{a:Int->Bool->Option R}(s:By)(p:A3 s.length=true):Cc3 LF s a=a (Ad (Ak s):Int) (Ak s).isSome:=by
 have u:=N5 p;have:=E2;have o:∀x:By,x.length<=1000000000->Iz LF LF x 0 0 (λ_=>a 0 false) (λn=>a n true)=a (Ad (E9 16 0 x):Int) (E9 16 0 x).isSome:=by
  intro x f;refine j8 (Af3 x f x.length 0 0 LF (by omega) (by omega) (by unfold Co;omega)) ?_;rw[v7];cases E9 16 0 x<;>rfl
 have c:∀(x:By) (b:Nat),b<=16->x.length<=1000000000->Fo LF LF x (b:Int) 0 0 (λ_=>a 0 false) (λn=>a n true)=a (Ad (E9 b 0 x):Int) (E9 b 0 x).isSome:=by
  intro x b q f;refine j8 (A25 x f b q x.length 0 0 LF (by omega) (by omega) (by unfold Co;omega)) ?_;rw[v7];cases E9 b 0 x<;>rfl
 have d:=λx=>c x 10 (by omega)
 have g:=λx=>c x 8 (by omega)
 have i:=λx=>c x 16 (by omega)
 rw[show((10:Nat):Int)=10 from rfl] at d;rw[show((8:Nat):Int)=8 from rfl] at g;rw[show((16:Nat):Int)=16 from rfl] at i;unfold Cc3 Ak;by_cases e:s=[]
 ·subst e;rfl
 have j:(s==([]:By))=false:=by simpa using e
 have t:0<s.length:=af2.2 e;rw[if_neg e,j];simp only[cond_false,DG,DH,Qz,Ra,Rb,vl];have k:=Y6 (s.getD 0 0) 48 (by omega);have l:=Y6 (s.getD 1 0) 120 (by omega);have m:=Y6 (s.getD 1 0) 88 (by omega);rw[show((48:Nat):Int)=48 from rfl] at k;rw[show((120:Nat):Int)=120 from rfl] at l;rw[show((88:Nat):Int)=88 from rfl] at m;simp only[Kb,Bb5,k,l,m,show ac7 48=(48:UInt8) from rfl,show ac7 120=(120:UInt8) from rfl,show ac7 88=(88:UInt8) from rfl];by_cases r:2<=s.length
 ·simp (disch:=omega) only[F1,L1,W0,j1,cond_true,Z2,show 1<s.length by omega,true_and];unfold Bx;grind
 ·rw[A8];have f:Bx s=false:=by
   cases h:Bx s with
   | false=>rfl
   | true=>have:=Qj h;omega
  grind
theorem Dd9(a b:Nat)(c:a<65536)(d:b<65536):bOr .u16 (a:Int) (b:Int)=((a ||| b:Nat):Int):=by
 unfold bOr;rw[show ac8 .u16=16 from rfl,C57 16 a b (by omega) (by omega)];have:a ||| b<2 ^ 16:=ag5 (by omega) (by omega)
 exact Pr
theorem Df7(a m:Nat)(h:a*2 ^ m<65536)(b:m<=16):Rk .u16 (a:Int) (m:Int)=((a*2 ^ m:Nat):Int):=by
 unfold Rk;rw[c9,show ac8 .u16=16 from rfl,ae9 b];have:(a:Int)*2 ^ m=((a*2 ^ m:Nat):Int):=by simp
 rw[this];exact Pr
theorem A59(v d:Nat)(b:v<4096)(a:d<16):bOr .u16 (Rk .u16 (v:Int) 4) (d:Int)=((v*16+d:Nat):Int):=by have:=Df7 v 4 (by omega) (by omega);rw[show((4:Nat):Int)=4 from rfl] at this;rw[this,Dd9 _ _ (by omega) (by omega),DD v d 4 (by omega)]
theorem B56{R:Type}{c:Unit->Option R}{f:Int->Option R}(s:By)(B:s.length<=4):∀(r i v n:Nat),i+r=s.length->r<n->v<16 ^ i->
  Fd LF n s (v:Int) (s.length:Int) (i:Int) c f=match Vf v (s.drop i) with|some w=>f (w:Int)|none=>c ():=by
 intro r
 induction r with
 | zero=>
  intro i v n l o p;obtain⟨n,rfl⟩:∃m,n=m+1:=⟨n-1,by omega⟩
  rw[Fd];rw[A6,j7 (by omega)];rfl
 | succ r q=>
  intro i v n l o p;obtain⟨n,rfl⟩:∃m,n=m+1:=⟨n-1,by omega⟩
  rw[Fd,I8 s i (by omega)];rw[G8];have k:=(s.getD i 0).toNat_lt;generalize s.getD i 0=b at *;have j:((i:Int)+1)=((i+1:Nat):Int):=by omega
  have A:16 ^ i<=4096:=by
   have:i=0\/i=1\/i=2\/i=3:=by omega
   rcases this with rfl|rfl|rfl|rfl<;>decide
  simp (disch:=omega) only[D1,L1,cond_true,vl,F5,Vi,Vh,Vg];rw[j];simp only[Vf];have go:∀d:Nat,d<16->Fd LF n s ((v*16+d:Nat):Int) (s.length:Int) ((i+1:Nat):Int) c f=match Vf (v*16+d) (s.drop (i+1)) with|some w=>f (w:Int)|none=>c ():=
   λd z=>q (i+1) _ n (by omega) (by omega) (by rw[ab6];omega)
  rcases Kj b with⟨g,h,e⟩|⟨g,h,e⟩|⟨g,h,e⟩|⟨g,h,y,e⟩
  ·have a:Ib (wu8 ((b.toNat:Int)-48))=((dig b:Nat):Int):=by rw[R2,Pr];omega
   simp (disch:=omega) only[D1,F1,j2,j1,cond_false,cond_true,a,A59,if_pos (show dig b<16 by omega)];exact go _ (by omega)
  ·have a:Ib (wu8 (wu8 ((b.toNat:Int)-97)+10))=((dig b:Nat):Int):=by rw[XI (n:=(b.toNat:Int)-97) (by omega) (by omega),R2,Pr];omega
   simp (disch:=omega) only[D1,F1,j2,j1,cond_false,cond_true,a,A59,if_pos (show dig b<16 by omega)];exact go _ (by omega)
  ·have a:Ib (wu8 (wu8 ((b.toNat:Int)-65)+10))=((dig b:Nat):Int):=by rw[XI (n:=(b.toNat:Int)-65) (by omega) (by omega),R2,Pr];omega
   simp (disch:=omega) only[D1,F1,j2,j1,cond_false,cond_true,a,A59,if_pos (show dig b<16 by omega)];exact go _ (by omega)
  ·rw[if_neg (show ¬dig b<16 by omega)];by_cases t:b.toNat<48
   ·simp (disch:=omega) only[D1,F1,j2,j1,cond_false,cond_true]
   ·by_cases u:b.toNat<65
    ·simp (disch:=omega) only[D1,F1,j2,j1,cond_false,cond_true]
    ·by_cases x:b.toNat<97
     ·simp (disch:=omega) only[D1,F1,j2,j1,cond_false,cond_true]
     ·simp (disch:=omega) only[D1,F1,j2,j1,cond_false,cond_true]
theorem Bl9{R:Type}{c:Int->Bool->Option R}(s:By)(d:A3 s.length=true):B57 LF s c=c (Ad (grp s):Int) (grp s).isSome:=by
 have:=E2;unfold B57 grp;by_cases a:s=[]
 ·subst a;rfl
 ·rw[show(s==([]:By))=false from beq_eq_false_iff_ne.2 a];by_cases b:4<s.length
  ·rw[A8,if_pos (.inr b)];rfl
  ·rw[A6,if_neg (by intro h;rcases h with h|h;exact a h;exact b h)];refine j8 (B56 s (by omega) s.length 0 0 LF (by omega) (by omega) (by decide)) ?_;rw[v7];cases Vf 0 s<;>rfl
theorem Aa3:∀(s:By) (v w m:Nat),v<16 ^ m->Vf v s=some w->w<16 ^ (m+s.length)
 | [],v,w,m,a,h=>by simp only[Vf,o7] at h;subst h;simpa using a
 | b::r,v,w,m,a,h=>by
  simp only[Vf] at h;split at h
  ·have:=Aa3 r (v*16+dig b) w (m+1) (by rw[ab6];omega) h;grind
  ·cases h
theorem C67{s:By}{v:Nat}(h:grp s=some v):v<65536:=by
 unfold grp at h;split at h
 ·cases h
 ·rename_i a;have:=Aa3 s 0 v 0 (by decide) h;have b:s.length<=4:=by omega
  have:16 ^ (0+s.length)<=16 ^ 4:=Nat.pow_le_pow_right (by omega) (by omega);omega
theorem O8(l:List Nat):(G2 l).length=l.length:=by simp[G2]
theorem Xe(a b:List Nat):G2 (a++b)=G2 a++G2 b:=by simp[G2]
theorem WY(l:List Nat):(G2 l).isEmpty=l.isEmpty:=by cases l<;>rfl
theorem DB{l:List Nat}{i:Nat}(h:i<l.length):okE ⟨true,false,[.int .u16]⟩ (G2 l) i 0=true:=by unfold okE G2;simp[j5,h,okS,SV.has]
theorem TU(l:List Nat)(i:Nat):gE (G2 l) i 0=(l.getD i 0:Int):=by
 unfold gE gC G2;by_cases h:i<l.length
 ·simp[j5,j9 h,SV.gI]
 ·simp[j5,List.getElem?_eq_none (show l.length<=i by omega),SV.gI]
theorem HL:∀(last:Bool) (l:List By) (r:List Nat),Oq last l=some r->r.length<=2*l.length
 | last,[],r,h=>by simp only[Oq,o7] at h;subst h;simp
 | last,x::l,r,h=>by
  simp only[Oq] at h;split at h
  ·cases a:Oq last l with
   | none=>simp[a] at h
   | some q=>
    simp only[a,ad7,o7] at h;subst h;have:=HL last l q a;grind
  grind
theorem Cg0{s:By}{v:Nat}(h:v4B s=some v):v<4294967296:=by
 unfold v4B at h;split at h
 ·rename_i a;have:=Bf2 (pcs 46 s) 0 v 0 (by decide) h;grind
 ·cases h
theorem Bc9:∀(last:Bool) (l:List By) (r:List Nat),Oq last l=some r->∀x∈r,x<65536
 | last,[],r,h,x,a=>by simp only[Oq,o7] at h;subst h;simp at a
 | last,y::l,r,h,x,a=>by
  simp only[Oq] at h;split at h
  ·rename_i v c;cases b:Oq last l with
   | none=>simp[b] at h
   | some q=>
    simp only[b,ad7,o7] at h;subst h;rcases ac0.1 a with rfl|a
    ·exact C67 c
    ·exact Bc9 last l q b x a
  ·split at h
   ·rename_i v c;split at h
    ·simp only[o7] at h;subst h;have:=Cg0 c;grind
    grind
   ·cases h
theorem At2{R:Type}{k0:LL->Option R}{k1:LL->Option R}(last:Bool)(l:List By)(C:l.length<=1000000001)(w:∀x∈l,x.length<=1000000000):∀(r i n:Nat) (d:List Nat),i+r=l.length->r<n->d.length<=2*i->
  (∀q,Oq last (l.drop i)=some q->Ed LF n last (C1 l) (l.length:Int) (i:Int) (G2 d) k0 k1=k1 (G2 (d++q)))/\
  (Oq last (l.drop i)=none->∃k,Ed LF n last (C1 l) (l.length:Int) (i:Int) (G2 d) k0 k1=k0 k):=by
 intro r
 induction r with
 | zero=>
  intro i n d u y t;obtain⟨n,rfl⟩:∃m,n=m+1:=⟨n-1,by omega⟩
  rw[Ed,j7 (by omega)];rw[A6];refine⟨λq a=>?_,λh=>(by cases h)⟩;simp only[Oq,o7] at a;subst a;simp
 | succ r B=>
  intro i n d u y t;obtain⟨n,rfl⟩:∃m,n=m+1:=⟨n-1,by omega⟩
  rw[Ed,Tj l i (by omega)];have G:=w _ (Bf3 (show i<l.length by omega));have f:((i:Int)+1)=((i+1:Nat):Int):=by omega
  simp (disch:=omega) only[D1,C4,L1,cond_true,c9,R1,W4,E5,vl,O8,F3,F5];rw[f];simp only[Oq];cases D:grp (l.getD i []) with
  | some v=>
   simp only[y5,cond_true,Ad,p5];have c:G2 d++[[SV.int .u16 (v:Int)]]=G2 (d++[v]):=by rw[Xe];rfl
   rw[c];have:=B (i+1) n (d++[v]) (by omega) (by omega) (by simp<;>omega);refine⟨λq a=>?_,λh=>?_⟩
   ·cases b:Oq last (l.drop (i+1)) with
    | none=>simp[b] at a
    | some j=>
     simp only[b,ad7,o7] at a;subst a;rw[this.1 j b];simp
   ·cases b:Oq last (l.drop (i+1)) with
    | none=>exact this.2 b
    | some j=>simp[b] at h
  | none=>
   simp only[aj5,cond_false];cases z:v4B (l.getD i []) with
   | none=>
    simp only[aj5,j1,cond_true];exact⟨λq a=>(by cases a),λ_=>⟨_,rfl⟩⟩
   | some v=>
    have A:=Cg0 z;simp only[y5,j2,cond_false,Ad,p5];cases last with
    | false=>
     simp only[j1,cond_true,o5,false_and,if_false];exact⟨λq a=>(by cases a),λ_=>⟨_,rfl⟩⟩
    | true=>
     simp only[j2,cond_false,true_and];by_cases F:r=0
     ·have e:l.drop (i+1)=[]:=j7 (by omega);rw[A6,e,if_pos rfl,show(16:Int)=((16:Nat):Int) from rfl,Wv .u32 v 16 (by decide)];refine⟨λq a=>?_,λh=>(by cases h)⟩;simp only[o7] at a;subst a;have o:Ib ((v / 2 ^ 16:Nat):Int)=((v / 65536:Nat):Int):=Pr;have p:Ib (v:Int)=((v % 65536:Nat):Int):=Ch4 v;rw[o,p,Xe];rfl
     ·have g:l.drop (i+1)≠[]:=by
       rw[Tj l (i+1) (by omega)];simp
      rw[A8,if_neg g];exact⟨λq a=>(by cases a),λ_=>⟨_,rfl⟩⟩
theorem Qw(c:UInt8){s:By}(a:s.length<=1000000000):(pcs c s).length<=1000000001:=by have:=Iu c s;grind
theorem At3(s:By)(last:Bool)(f:A3 s.length=true):∃r H,Bd0 LF s last (λl=>rv (.tup [.fl 0,.s (.bool true)]) [.arr true 26 1 l]) (λl=>rv (.tup [.fl 1,.s (.bool false)]) [.arr true 26 1 l,.arr true 26 1 []])=rv r H/\
  r.stab [1,0] H = .tup [.s (.sl (gvs s last).isEmpty (gvs s last).isEmpty 1 (G2 (gvs s last))),.s (.bool (Ec s last).isSome)]:=by
 have d:=N5 f;have:=E2;unfold Bd0 gvs Ec;by_cases c:s=[]
 ·subst c;exact⟨_,_,rfl,rfl⟩
 ·rw[show(s==([]:By))=false from beq_eq_false_iff_ne.2 c,f,if_neg c];simp only[cond_false,cond_true,vl,aa8,C4,show((1:Nat)==1)=true from rfl];obtain⟨a,b⟩:=At2 (k0:=λl=>rv (.tup [.fl 1,.s (.bool false)]) [.arr true 26 1 l,.arr true 26 1 []]) (k1:=λl=>rv (.tup [.fl 0,.s (.bool true)]) [.arr true 26 1 l]) last (pcs 58 s) (Qw 58 d) (λx h=>ak6 (Fj h).2 d) (pcs 58 s).length 0 LF [] (by omega) (by have:=Qw 58 d;omega) (by simp);rw[v7] at a b;cases g:Oq last (pcs 58 s) with
  | some q=>
   refine⟨_,_,a q g,?_⟩;simp[PV.stab,Ri,Rh,PV.snap,M8,WY]
  | none=>
   obtain⟨i,e⟩:=b g;refine⟨_,_,e,?_⟩;simp[PV.stab,Ri,Rh,PV.snap,M8,G2]
theorem Df1{j:Type}{W:List j}(h:W.length=8):∃a b c d e f g i,W=[a,b,c,d,e,f,g,i]:=by
 match W,h with
 | [a,b,c,d,e,f,g,i],_=>exact⟨a,b,c,d,e,f,g,i,rfl⟩
def r8(n:Nat):LL:=j6 n [SV.int .u16 0]
theorem C83(n:Nat):r8 n=G2 (j6 n 0):=by simp[r8,G2]
theorem B59{s:By}{last:Bool}{q:List Nat}(h:Ec s last=some q):gvs s last=q:=by unfold gvs;rw[h];rfl
theorem Cn2(s:By):(w8 s [58,58]).1.length<=s.length/\(w8 s [58,58]).2.1.length<=s.length:=by unfold w8;grind
theorem Bh5{R:Type}{K:LL->LL->Option R}(X Y:List Nat)(h:X.length+Y.length<=8) :
  Pq (G2 X) (G2 Y) (r8 8) K=K (G2 (X++j6 (8-X.length-Y.length) 0++Y)) (G2 (X++j6 (8-X.length-Y.length) 0++Y)):=by
 unfold Pq;have n:(ah2 0 (r8 8)++(ah2 8 (G2 X)++al6 (0+min (G2 X).length 8) (r8 8)))=G2 (X++j6 (8-X.length) 0):=by
  rw[O8,ae9 (show X.length<=8 by omega),w9 (l:=G2 X) (i:=8) (by rw[O8];omega),Xe,af3,C83,af9,aa7];unfold G2;rw[<-aj1,List.drop_replicate]
 have m:A1 (8-(Y.length:Int))=((8-Y.length:Nat):Int):=by rw[A5];omega
 have o:(G2 (X++j6 (8-X.length) 0)).length=8:=by simp[O8]<;>omega
 have j:(ah2 (8-Y.length) (G2 (X++j6 (8-X.length) 0))++(ah2 (8-(8-Y.length)) (G2 Y)++al6 (8-Y.length+min Y.length (8-(8-Y.length))) (G2 (X++j6 (8-X.length) 0))))=G2 (X++j6 (8-X.length-Y.length) 0++Y):=by
  rw[j7 (by rw[o];omega),w9 (l:=G2 Y) (by rw[O8];omega),Xe (X++_) Y,ad2]
  congr 1
  unfold G2;rw[<-an8,List.take_append,w9 (by omega),List.take_replicate];grind
 have k:(X++j6 (8-X.length-Y.length) 0++Y).length=8:=by simp<;>omega
 simp only[vl];rw[n];simp only[O8,m,c9];rw[j];simp only[O8];rw[show(r8 8).length=8 from rfl,show j4 (X++j6 (8-X.length) (0:Nat))=8 by simp<;>omega,Q3,decide_eq_true (show 8-Y.length+(8-(8-Y.length))<=8 by omega)];simp only[decide_true,cond_true,ae6,k];generalize (X++j6 (8-X.length-Y.length) 0++Y)=W at *;obtain⟨a,b,c,d,e,f,g,i,rfl⟩:=Df1 k;rfl
theorem Cg8{R:Type}{k0:Int->Int->Int->Int->Int->Int->Int->Int->Bool->LL->LL->Option R}(s:By)(r:A3 s.length=true) :
  ∃l q,v6p LF s k0=k0 (v6c 0 s) (v6c 1 s) (v6c 2 s) (v6c 3 s) (v6c 4 s) (v6c 5 s) (v6c 6 s) (v6c 7 s) (v6B s).isSome l q:=by
 have C:=N5 r;have w:=Cn2 s;unfold v6p v6c;rw[r];have bad:∀(h:v6B s=none),k0 0 0 0 0 0 0 0 0 false (r8 8) (r8 8)=k0 ((((v6B s).getD z8).getD 0 0:Nat):Int) ((((v6B s).getD z8).getD 1 0:Nat):Int) ((((v6B s).getD z8).getD 2 0:Nat):Int) ((((v6B s).getD z8).getD 3 0:Nat):Int) ((((v6B s).getD z8).getD 4 0:Nat):Int) ((((v6B s).getD z8).getD 5 0:Nat):Int) ((((v6B s).getD z8).getD 6 0:Nat):Int) ((((v6B s).getD z8).getD 7 0:Nat):Int) (v6B s).isSome (r8 8) (r8 8):=by
  intro h;rw[h];rfl
 simp (disch:=omega) only[cond_true,vl,E5];have j:v6B s=match Ec (w8 s [58,58]).1 (!(w8 s [58,58]).2.2),Ec (w8 s [58,58]).2.1 true with
  | some x,some y=>if (w8 s [58,58]).2.2 then (if x.length+y.length<=7 then some (x++j6 (8-x.length-y.length) 0++y) else none)
   else if x.length+y.length=8 then some (x++y) else none
  | _,_=>none:=rfl
 generalize (w8 s [58,58]).1=A at *;generalize (w8 s [58,58]).2.1=B at *;generalize (w8 s [58,58]).2.2=o at *;cases k:Ec A (!o) with
 | none=>exact⟨_,_,bad (by rw[j,k])⟩
 | some X=>
  cases m:Ec B true with
  | none=>exact⟨_,_,bad (by rw[j,k,m])⟩
  | some Y=>
   have u:X.length<=2000000002:=by
    unfold Ec at k;split at k
    ·grind
    ·have:=HL _ _ _ k;have:=Qw 58 (s:=A) (by omega);omega
   have v:Y.length<=2000000002:=by
    unfold Ec at m;split at m
    ·grind
    ·have:=HL _ _ _ m;have:=Qw 58 (s:=B) (by omega);omega
   rw[k,m] at j;simp only[B59 k,B59 m,O8,y5,j2,cond_false];rw[A5];have n:∀(W:List Nat),W.length=8->v6B s=some W->∃l q,(cond ((decide (8=(G2 W).length*1))&&(okS ⟨true,true,[.int .u16,.int .u16,.int .u16,.int .u16,.int .u16,.int .u16,.int .u16,.int .u16]⟩ (ab5 (G2 W)) 0))
     (k0 (SV.gI (j0 (ab5 (G2 W)) 0 SV.nilp)) (SV.gI (j0 (ab5 (G2 W)) 1 SV.nilp)) (SV.gI (j0 (ab5 (G2 W)) 2 SV.nilp)) (SV.gI (j0 (ab5 (G2 W)) 3 SV.nilp)) (SV.gI (j0 (ab5 (G2 W)) 4 SV.nilp)) (SV.gI (j0 (ab5 (G2 W)) 5 SV.nilp)) (SV.gI (j0 (ab5 (G2 W)) 6 SV.nilp)) (SV.gI (j0 (ab5 (G2 W)) 7 SV.nilp)) true (G2 W) (G2 W)) none) =
     k0 ((((v6B s).getD z8).getD 0 0:Nat):Int) ((((v6B s).getD z8).getD 1 0:Nat):Int) ((((v6B s).getD z8).getD 2 0:Nat):Int) ((((v6B s).getD z8).getD 3 0:Nat):Int) ((((v6B s).getD z8).getD 4 0:Nat):Int) ((((v6B s).getD z8).getD 5 0:Nat):Int) ((((v6B s).getD z8).getD 6 0:Nat):Int) ((((v6B s).getD z8).getD 7 0:Nat):Int) (v6B s).isSome l q:=by
    intro W t h;rw[h];obtain⟨a,b,c,d,e,f,g,i,rfl⟩:=Df1 t;exact⟨_,_,rfl⟩
   cases o with
   | false=>
    simp only[j1,cond_true,o5,if_false] at j ⊢;by_cases p:X.length+Y.length=8
    ·rw[if_pos p] at j;rw[show((X.length:Int)+(Y.length:Int)!=8)=false by simp;omega];simp only[cond_false];rw[show(j6 8 [SV.int aq3 0])=r8 8 from rfl,Bh5 X Y (by omega)];have z:8-X.length-Y.length=0:=by omega
     rw[z];simp only[List.replicate_zero,ad2];exact n (X++Y) (by simp<;>omega) j
    ·rw[if_neg p] at j;rw[show((X.length:Int)+(Y.length:Int)!=8)=true by simp;omega];exact⟨_,_,bad j⟩
   | true=>
    simp only[j2,cond_false,cond_true,if_true] at j ⊢;by_cases p:X.length+Y.length<=7
    ·rw[if_pos p] at j;rw[A6];simp only[cond_false];rw[show(j6 8 [SV.int aq3 0])=r8 8 from rfl,Bh5 X Y (by omega)];exact n _ (by simp<;>omega) j
    ·rw[if_neg p] at j;rw[A8];exact⟨_,_,bad j⟩
theorem Ag5{x:Nat}{r:List Nat}:Pj (x::r)=if x=0 then Pj r+1 else 0:=by unfold Pj;by_cases h:x=0<;>simp[h]
theorem WD(l:List Nat):Pj l<=l.length:=by unfold Pj;exact(List.takeWhile_sublist _).length_le
theorem Cl2{R:Type}{k0:Int->Int->Int->Int->LL->Option R}(W:List Nat)(l:W.length=8)(b a:Int)(i:Nat):∀(r j n:Nat),i+j+r=8->r<n->
  Hz LF n b a (i:Int) (j:Int) (G2 W) k0=k0 b a (i:Int) ((j+Pj (W.drop (i+j)):Nat):Int) (G2 W):=by
 intro r
 induction r with
 | zero=>
  intro j n f g;obtain⟨n,rfl⟩:∃m,n=m+1:=⟨n-1,by omega⟩
  rw[Hz];rw[A5,A6,j7 (by omega)];rfl
 | succ r k=>
  intro j n f g;obtain⟨n,rfl⟩:∃m,n=m+1:=⟨n-1,by omega⟩
  rw[Hz];have c:A1 ((i:Int)+(j:Int))=((i+j:Nat):Int):=by rw[A5];rfl
  have d:A1 ((j:Int)+1)=((j+1:Nat):Int):=by rw[A5];rfl
  have e:W.drop (i+j)=W.getD (i+j) 0::W.drop (i+(j+1)):=by
   rw[j5,j9 (by omega),p5,<-an9,aa9]
  simp (disch:=first|omega|(simp[O8];omega)) only[c,d,D1,L1,cond_true,c9,DB,TU,vl];rw[e,Ag5];by_cases h:W.getD (i+j) 0=0
  ·rw[h,if_pos rfl,show(((0:Nat):Int)==0)=true from rfl,cond_true,k (j+1) n (by omega) (by omega)]
   congr 2
   omega
  ·rw[if_neg h,show(((W.getD (i+j) 0:Nat):Int)==0)=false by rw[beq_eq_false_iff_ne];omega];rfl
theorem By4{R:Type}{k0:Int->Int->LL->Option R}(W:List Nat)(f:W.length=8):∀(r i n z m:Nat),i+r=8->r<n->z<=8->m<=8->
  Ej LF n (z:Int) (m:Int) (i:Int) (G2 W) k0=k0 ((zGo (W.drop i) i z m).1:Nat) ((zGo (W.drop i) i z m).2:Nat) (G2 W):=by
 intro r
 induction r with
 | zero=>
  intro i n z m j o c l;obtain⟨n,rfl⟩:∃m,n=m+1:=⟨n-1,by omega⟩
  rw[Ej];rw[A6,j7 (by omega)];rfl
 | succ r d=>
  intro i n z m j o c l;obtain⟨n,rfl⟩:∃m,n=m+1:=⟨n-1,by omega⟩
  have e:=E2;rw[Ej];have a:=λK=>Cl2 (R:=R) (k0:=K) W f (z:Int) (m:Int) i r.succ 0 LF (by omega) (by omega)
  rw[show((0:Nat):Int)=0 from rfl] at a;simp only[af3,ak5] at a;rw[A8,cond_true,a];have g:W.drop i=W.getD i 0::W.drop (i+1):=by
   rw[j5,j9 (by omega),p5,aa9]
  have k:=WD (W.drop i);rw[ab3] at k;have b:A1 ((i:Int)+1)=((i+1:Nat):Int):=by rw[A5];rfl
  rw[b];have c:zGo (W.drop i) i z m=if m<Pj (W.drop i) then zGo (W.drop (i+1)) (i+1) i (Pj (W.drop i)) else zGo (W.drop (i+1)) (i+1) z m:=by
   rw[g];rfl
  rw[c];by_cases h:m<Pj (W.drop i)
  ·rw[if_pos h,A8,cond_true];exact d (i+1) n i (Pj (W.drop i)) (by omega) (by omega) (by omega) (by omega)
  ·rw[if_neg h,A6,cond_false];exact d (i+1) n z m (by omega) (by omega) (by omega) (by omega)
theorem Qs{a b c d e f g i:Int}(h:ok8 a b c d e f g i=true):∃j k l m n o p q:Nat,a=j/\b=k/\c=l/\d=m/\e=n/\f=o/\g=p/\i=q/\j<65536/\k<65536/\l<65536/\m<65536/\n<65536/\o<65536/\p<65536/\q<65536:=by simp only[ok8,an7,List.all_nil,ag8,aa0,D9] at h;exact⟨a.toNat,b.toNat,c.toNat,d.toNat,e.toNat,f.toNat,g.toNat,i.toNat,by omega,by omega,by omega,by omega,by omega,by omega,by omega,by omega,by omega,by omega,by omega,by omega,by omega,by omega,by omega,by omega⟩
theorem A94{R:Type}{j:Int->Int->LL->Option R}(a b c d e f g i:Int)(t:ok8 a b c d e f g i=true):Bi9 LF a b c d e f g i j=j ((zGo (n8 a b c d e f g i) 0 0 0).1:Nat) ((zGo (n8 a b c d e f g i) 0 0 0).2:Nat) (G2 (n8 a b c d e f g i)):=by obtain⟨k,l,m,n,o,p,q,r,rfl,rfl,rfl,rfl,rfl,rfl,rfl,rfl,h⟩:=Qs t;have:=E2;unfold Bi9;exact By4 [k,l,m,n,o,p,q,r] rfl 8 0 LF 0 0 rfl (by omega) (by omega) (by omega)
theorem Hi{n:Nat}(h:n<16):R7 n=[Rj n]:=by rw[R7,dif_pos h]
theorem Gh{n:Nat}(h:¬n<16):R7 n=R7 (n / 16)++[Rj (n % 16)]:=by rw[R7,dif_neg h]
theorem HO:∀n:Nat,n<65536->1<=(R7 n).length/\(R7 n).length<=4:=by
 intro n d;by_cases a:n<16
 ·rw[Hi a];simp
 rw[Gh a];by_cases b:n / 16<16
 ·rw[Hi b];simp
 rw[Gh b];by_cases c:n / 16 / 16<16
 ·rw[Hi c];simp
 rw[Gh c,Hi (show n / 16 / 16 / 16<16 by omega)];simp
theorem Bd2(d:Nat)(h:d<16):Rj d≠58:=by
 have:∀d:Fin 16,Rj d.val≠58:=by decide
 exact this ⟨d,h⟩
theorem Bm3(n:Nat):∃p d,R7 n=p++[d]/\d≠58:=by
 by_cases a:n<16
 ·exact⟨[],_,by rw[Hi a];rfl,Bd2 n a⟩
 ·exact⟨_,_,Gh a,Bd2 _ (by omega)⟩
theorem B64(d:Nat)(h:d<16):cut ([48,49,50,51,52,53,54,55,56,57,97,98,99,100,101,102]:By) (d:Int) ((d+1:Nat):Int)=[Rj d]:=by
 have:∀d:Fin 16,(([48,49,50,51,52,53,54,55,56,57,97,98,99,100,101,102]:By).take (d.val+1)).drop d.val=[Rj d.val]:=by decide
 rw[Fa];exact this ⟨d,h⟩
theorem A14{R:Type}{c:By->Option R}:∀(v n:Nat) (s:By),v<65536->v+1<n->s.length+v<=70000->(0<v\/s=[])->
  Al LF n s (v:Int) c=c (R7 v++s):=by
 intro v
 induction v using af0 with
 | _ v q=>
  intro n s w r u h;obtain⟨n,rfl⟩:∃m,n=m+1:=⟨n-1,by omega⟩
  have l:ak0 (v:Int) 16=((v % 16:Nat):Int):=Cl v 16;have k:af6 (v:Int) 16=((v / 16:Nat):Int):=M3 v 16;have i:Ib (((v % 16:Nat):Int)+1)=((v % 16+1:Nat):Int):=by rw[Pr];rfl
  have j:Ib ((v / 16:Nat):Int)=((v / 16:Nat):Int):=Pr;have last:∀(m:Nat) (t:By),t≠[]->Al LF (m+1) t 0 c=c t:=by
   intro m t o;rw[Al];rw[A6,show(t==([]:By))=false from beq_eq_false_iff_ne.2 o];rfl
  have a:(vl (Ib ((ak0 (v:Int) 16)+1)) λd=>
    cond (K5 (ak0 (v:Int) 16) d 16)
    (vl (cut (([48,49,50,51,52,53,54,55,56,57,97,98,99,100,101,102]:List UInt8)) (ak0 (v:Int) 16) d) λe=>
     cond (J7 (j4 e) (j4 s))
     (vl (Ib (af6 (v:Int) 16)) λg=>Al LF n (e++s) g c) none) none)=c (R7 v++s):=by
   simp only[vl,l,k,i,j];rw[Q3,B64 _ (by omega),J8 (by simp;omega)];simp only[cond_true];by_cases b:v<16
   ·rw[Hi b,Nat.mod_eq_of_lt b,show v / 16=0 by omega];obtain⟨n,rfl⟩:∃m,n=m+1:=⟨n-1,by omega⟩
    exact last n _ (by simp)
   ·rw[q (v / 16) (by omega) n _ (by omega) (by omega) (by simp;omega) (.inl (by omega)),Gh b];simp
  rw[Al];by_cases p:0<v
  ·rw[A8,cond_true];exact a
  ·have f:s=[]:=by rcases h with h|h;omega;exact h
   rw[A6,cond_false,show(s==([]:By))=true by simpa using f,cond_true];exact a
theorem A15{R:Type}{b:By->Option R}(v:Int)(c:ltN v 65536=true):Bg2 LF v b=b (R7 v.toNat):=by obtain⟨a,d⟩:=D9.1 c;obtain⟨m,rfl⟩:=k9 a;have:=E2;unfold Bg2;refine j8 (A14 m LF [] (by omega) (by omega) (by simp<;>omega) (.inr rfl)) ?_;grind
theorem Mn(n:Nat):ptI (n:Int)=U7 n:=rfl
theorem Ae1{R:Type}{a:Bool->Option R}(n:Int):VO LF n a=a (ptI n):=by
 unfold VO;by_cases h:n<0
 ·rw[D1 h];have:ptI n=false:=by
   cases n with
   | ofNat m=>exact absurd h (by simp)
   | negSucc m=>rfl
  grind
 ·obtain⟨m,rfl⟩:=k9 (show 0<=n by omega);rw[A6,Mn];unfold U7;by_cases b:1114111<m
  ·rw[A8];have:ac2 m 1114111=false:=by rw[aj8,ne_eq,ah6];omega
   grind
  ·rw[A6];have:ac2 m 1114111=true:=by rw[ah6];omega
   rw[this];by_cases c:m<55296
   ·rw[A8];have:Nat.blt m 55296=true:=by rw[Nat.blt_eq];omega
    grind
   ·rw[A6];have e:Nat.blt m 55296=false:=by rw[aj8,ne_eq,Nat.blt_eq];omega
    rw[e];simp only[j1,cond_true,cond_false,Bool.false_or,an5]
    congr 1
theorem FT{d k:Nat}(h:455<d):Yl d k=Yl (d / 35) (k+36):=by rw[Yl,dif_pos h]
theorem Se{d k:Nat}(h:¬ 455<d):Yl d k=k+36*d / (d+38):=by rw[Yl,dif_neg h]
theorem Ad2{R:Type}{k0:Int->Int->Option R}:∀(d n k:Nat),d<2305843009213693952->d<n->k+d<=4611686018427387904->
  ∃a b,a<=455/\b<=k+d/\Yl d k=b+36*a / (a+38)/\Gl LF n (d:Int) (k:Int) k0=k0 (a:Int) (b:Int):=by
 intro d
 induction d using af0 with
 | _ d l=>
  intro n k p r q;obtain⟨n,rfl⟩:∃m,n=m+1:=⟨n-1,by omega⟩
  rw[Gl];by_cases h:455<d
  ·obtain⟨a,b,g,o,i,j⟩:=l (d / 35) (by omega) n (k+36) (by omega) (by omega) (by omega);refine⟨a,b,g,by omega,by rw[FT h];exact i,?_⟩;have e:af6 (d:Int) 35=((d / 35:Nat):Int):=M3 d 35;have c:A1 ((d / 35:Nat):Int)=((d / 35:Nat):Int):=A5;have f:A1 ((k:Int)+36)=((k+36:Nat):Int):=by rw[A5];rfl
   rw[A8];simp only[cond_true,vl,e,c,f];exact j
  ·refine⟨d,k,by omega,by omega,Se h,?_⟩;rw[A6];rfl
theorem Ad3{R:Type}{k0:Int->Option R}(d c:Int)(f:Bool)(z:ltN d 1152921504606846976=true)(A:ltN c 1000000=true)(B:ltI 0 c=true):IS LF d c f k0=k0 (P9 d.toNat c.toNat f:Nat):=by
 obtain⟨k,F⟩:=D9.1 z;obtain⟨j,D⟩:=D9.1 A;obtain⟨d,rfl⟩:=k9 k;obtain⟨c,rfl⟩:=k9 j;have J:=Qm.1 B;have C:=E2;have key:∀x:Nat,x<1152921504606846976->Gk LF (x:Int) (c:Int) k0=k0 ((Yl (x+x / c) 0:Nat):Int):=by
  intro x L;have G:x / c<=x:=ai2 _ _;unfold Gk;have g:af6 (x:Int) (c:Int)=((x / c:Nat):Int):=M3 x c;generalize x / c=q at *;have h:A1 (q:Int)=(q:Int):=A5;have o:A1 ((x:Int)+(q:Int))=((x+q:Nat):Int):=by rw[A5];rfl
  rw[show((c:Int)!=0)=true by simp;omega];simp only[cond_true,vl,g,h,o];obtain⟨a,n,H,I,w,y⟩:=Ad2 (R:=R) (k0:=λb l=>vl (A1 ((36)*b)) λm=>vl (A1 (b+(38))) λe=>cond (e !=(0)) (vl (A1 (af6 m e)) λi=>k0 (A1 (l+i))) none) (x+q) LF 0 (by omega) (by omega) (by omega);refine j8 y ?_;have K:36*a / (a+38)<=36*a:=ai2 _ _;have p:A1 (36*(a:Int))=((36*a:Nat):Int):=by rw[A5];rfl
  have r:A1 ((a:Int)+38)=((a+38:Nat):Int):=by rw[A5];rfl
  have t:af6 ((36*a:Nat):Int) ((a+38:Nat):Int)=((36*a / (a+38):Nat):Int):=M3 _ _;have u:A1 ((36*a / (a+38):Nat):Int)=((36*a / (a+38):Nat):Int):=A5;have v:A1 ((n:Int)+((36*a / (a+38):Nat):Int))=((n+36*a / (a+38):Nat):Int):=by rw[A5];rfl
  simp only[vl,p,r,t,u,v];rw[show(((a+38:Nat):Int)!=0)=true by simp;omega,w];rfl
 unfold IS P9;rw[c9,c9];cases f with
 | true=>
  have g:af6 (d:Int) 700=((d / 700:Nat):Int):=M3 d 700;have h:A1 ((d / 700:Nat):Int)=((d / 700:Nat):Int):=A5;simp only[cond_true,vl,g,h,if_true];exact key _ (by omega)
 | false=>
  have g:af6 (d:Int) 2=((d / 2:Nat):Int):=M3 d 2;have h:A1 ((d / 2:Nat):Int)=((d / 2:Nat):Int):=A5;simp only[cond_false,vl,g,h,o5,if_false];exact key _ (by omega)
theorem LY{d:Nat}(h:d<36):(Ah d).toNat=if d<26 then 97+d else 22+d:=by unfold Ah;split<;>simp<;>omega
theorem Bq9{R:Type}{b:Int->Option R}(d:Int)(c:ltN d 36=true):Ct8 LF d b=b ((Ah d.toNat).toNat:Nat):=by
 obtain⟨a,e⟩:=D9.1 c;obtain⟨d,rfl⟩:=k9 a;unfold Ct8;rw[c9,LY (by omega)];by_cases h:d<26
 ·rw[A8,if_pos h];simp only[cond_true,vl]
  congr 1
  rw[A5,R2];rfl
 ·rw[A6,if_neg h];simp only[cond_false,vl]
  congr 1
  rw[F5 (n:=48+(d:Int)) (by omega) (by omega),A5,R2];omega
theorem CA(b:UInt8):(97<=b.toNat/\b.toNat<=122/\Nm b=some (b.toNat-97))\/(65<=b.toNat/\b.toNat<=90/\Nm b=some (b.toNat-65))\/(48<=b.toNat/\b.toNat<=57/\Nm b=some (b.toNat-22))\/(¬(97<=b.toNat/\b.toNat<=122)/\¬(65<=b.toNat/\b.toNat<=90)/\¬(48<=b.toNat/\b.toNat<=57)/\Nm b=none):=by unfold Nm;grind
theorem Br6{R:Type}{g:Int->Option R}(b:Int)(h:inR b 256=true):Ca3 LF b g=g (E3 (u8n b)):=by
 simp only[inR,aa0,decide_eq_true_eq] at h;have j:b=((u8n b).toNat:Int):=by
  unfold u8n;simp;omega
 generalize u8n b=c at *;subst j;have i:=c.toNat_lt;unfold Ca3 E3;simp only[Wg,Wf,vl];rcases CA c with⟨d,f,e⟩|⟨d,f,e⟩|⟨d,f,e⟩|⟨d,f,o,e⟩
 ·have a:A1 (wu8 ((c.toNat:Int)-97))=((c.toNat-97:Nat):Int):=by
   rw[R2,A5];omega
  simp (disch:=omega) only[D1,F1,j2,j1,cond_false,cond_true,a,e]
 ·have a:A1 (wu8 ((c.toNat:Int)-65))=((c.toNat-65:Nat):Int):=by
   rw[R2,A5];omega
  simp (disch:=omega) only[D1,F1,j2,j1,cond_false,cond_true,a,e]
 ·have a:A1 (A1 (wu8 ((c.toNat:Int)-48))+26)=((c.toNat-22:Nat):Int):=by
   rw[R2,F5 (n:=(c.toNat:Int)-48) (by omega) (by omega),A5];omega
  simp (disch:=omega) only[D1,F1,j2,j1,cond_false,cond_true,a,e]
 ·rw[e];by_cases k:c.toNat<48
  ·simp (disch:=omega) only[D1,F1,j2,j1,cond_false,cond_true]
  ·by_cases l:c.toNat<65
   ·simp (disch:=omega) only[D1,F1,j2,j1,cond_false,cond_true]
   ·by_cases m:c.toNat<97
    ·simp (disch:=omega) only[D1,F1,j2,j1,cond_false,cond_true]
    ·simp (disch:=omega) only[D1,F1,j2,j1,cond_false,cond_true]
theorem Cy0{l:LL}(h:l.all Vo=true):∃W:List Nat,l=G2 W/\(∀x∈W,x<65536):=by
 induction l with
 | nil=>exact⟨[],rfl,by simp⟩
 | cons x r c=>
  simp only[an7,aa0] at h;obtain⟨W,rfl,e⟩:=c h.2;have a:=h.1;unfold Vo at a;split at a
  ·rename_i n;obtain⟨b,d⟩:=D9.1 a;obtain⟨m,rfl⟩:=k9 b;refine⟨m::W,rfl,?_⟩;grind
  ·cases a
theorem WZ{W:List Nat}(h:∀x∈W,x<65536):(G2 W).all Vo=true:=by rw[ac3];intro x a;simp only[G2,ap0] at a;obtain⟨n,b,rfl⟩:=a;have:=h n b;exact BG (v:=(n:Int)) (n:=65536) (by omega) (by omega)
theorem Uz(W:List Nat):(G2 W).map elN=W:=by
 unfold G2;rw[ah5]
 conv=>rhs;rw[<-aq5 W]
 apply ad5;intro x _;simp[elN,SV.gI]
theorem ZR(l:List By):(C1 l).map elS=l:=by
 unfold C1;rw[ah5]
 conv=>rhs;rw[<-aq5 l]
 apply ad5;intro x _;simp[elS,SV.gS]
theorem Lb(l:List By):(C1 l).all isS=true:=by rw[ac3];intro x a;simp only[C1,ap0] at a;obtain⟨n,b,rfl⟩:=a;rfl
theorem Ah9{P:List Nat->Prop}(a:P [])(b:∀l x,P l->P (l++[x]))(l:List Nat):P l:=by
 have:∀r:List Nat,P r.reverse:=by
  intro r
  induction r with
  | nil=>exact a
  | cons x r c=>rw[List.reverse_cons];exact b _ _ c
 have:=this l.reverse;grind
theorem Bn8(l:List By)(x p:By)(h:l≠[]):ah0 (l++[x]) p=ah0 l p++p++x:=by
 cases l with
 | nil=>exact absurd rfl h
 | cons y r=>
  rw[ah1,an6,an6];unfold Lib.joinTail;simp
theorem Ko:T2 []=[]:=rfl
theorem Zo(n:Nat):T2 [n]=R7 n:=by unfold T2;exact ao7 _ _
theorem Te(l:List Nat)(n:Nat)(h:l≠[]):T2 (l++[n])=T2 l++[58]++R7 n:=by unfold T2;rw[List.map_append,List.map_singleton,Bn8 _ _ _ (by simpa using h)]
theorem Bj:∀l:List Nat,(∀x∈l,x<65536)->(T2 l).length<=5*l.length:=by
 refine Ah9 ?_ ?_
 ·intro _;simp[Ko]
 ·intro l n c h;have d:=c (λx b=>h x (by simp[b]));have e:=HO n (h n (by simp));by_cases a:l=[]
  ·subst a;rw[aa7,Zo];simp;omega
  ·rw[Te l n a];simp;omega
theorem Au2:∀(l:List Nat) (h:l≠[]),∃q d,T2 l=q++[d]/\d≠58:=by
 refine Ah9 ?_ ?_
 ·grind
 ·intro l n _ _;obtain⟨q,d,c,a⟩:=Bm3 n;by_cases b:l=[]
  ·subst b;exact⟨q,d,by rw[aa7,Zo,c],a⟩
  ·exact⟨T2 l++[58]++q,d,by rw[Te l n b,c];simp,a⟩
theorem Cg6{R:Type}{c:LL->Option R}(z t:Bool)(W:List Nat)(l:∀x∈W,x<65536)(p:W.length<=8):∀(r i n:Nat) (d:List By),i+r=W.length->r<n->d.length=i->
  Tt LF n z t (G2 W) (W.length:Int) (i:Int) (C1 d) c=c (C1 (d++(W.drop i).map R7)):=by
 intro r
 induction r with
 | zero=>
  intro i n d h j f;obtain⟨n,rfl⟩:∃m,n=m+1:=⟨n-1,by omega⟩
  rw[Tt];rw[A6,j7 (by omega)];simp
 | succ r k=>
  intro i n d h j f;obtain⟨n,rfl⟩:∃m,n=m+1:=⟨n-1,by omega⟩
  rw[Tt];have b:W.drop i=W.getD i 0::W.drop (i+1):=by
   rw[j5,j9 (by omega),p5,aa9]
  have o:W.getD i 0<65536:=by
   rw[j5,j9 (by omega),p5];simp_all
  have e:A1 ((i:Int)+1)=((i+1:Nat):Int):=by rw[A5];rfl
  rw[b];generalize g:W.getD i 0=x at *;simp (disch:=omega) only[D1,L1,cond_true,O8,c9,DB,TU,vl,e,g,XH,BG,C4,F3,show((16:Int)==16)=true from rfl];have a:C1 d++[[SV.str (R7 x)]]=C1 (d++[R7 x]):=by rw[Eh];rfl
  rw[a,k (i+1) n _ (by omega) (by omega) (by simp;omega)];simp
theorem Cg7{R:Type}{k0:By->LL->Option R}(z t:Bool)(l:LL)(c:l.all Vo=true)(a:ac2 l.length 8=true):∃g,v6j LF z t l k0=k0 (T2 (l.map elN)) g:=by
 obtain⟨W,rfl,b⟩:=Cy0 c;have f:W.length<=8:=by rw[O8] at a;exact ae4 a
 have d:=E2;refine⟨C1 (W.map R7),?_⟩;unfold v6j;rw[O8];refine j8 (Cg6 z t W b f W.length 0 LF [] (by omega) (by omega) rfl) ?_;have e:=Bj W b;unfold T2 at e;rw[aa7,v7,Lb,ZR,Uz,C4,U2,E5 (by simp;omega)];rfl
theorem XM:∀(l:List Nat) (i z m:Nat),z+m<=i+l.length->(zGo l i z m).1+(zGo l i z m).2<=i+l.length
 | [],i,z,m,h=>by simpa[zGo] using h
 | x::r,i,z,m,h=>by
  have a:=WD (x::r);simp only[zGo];simp only[o8] at h a ⊢;split
  ·have:=XM r (i+1) i (Pj (x::r)) (by omega);omega
  ·have:=XM r (i+1) z m (by omega);omega
theorem Cg5{R:Type}{k0:By->LL->Option R}(p r t u v w y A:Int)(G:ok8 p r t u v w y A=true):∃l,v6f LF p r t u v w y A k0=k0 (Nl (n8 p r t u v w y A)) l:=by
 obtain⟨a,b,c,d,e,f,g,j,rfl,rfl,rfl,rfl,rfl,rfl,rfl,rfl,h⟩:=Qs G;have C:n8 a b c d e f g j=[a,b,c,d,e,f,g,j]:=rfl;refine⟨G2 [a,b,c,d,e,f,g,j],?_⟩;unfold v6f;rw[G,C,cond_true];have o:([[SV.int .u16 (a:Int)],[SV.int .u16 (b:Int)],[SV.int .u16 (c:Int)],[SV.int .u16 (d:Int)],[SV.int .u16 (e:Int)],[SV.int .u16 (f:Int)],[SV.int .u16 (g:Int)],[SV.int .u16 (j:Int)]]:LL)=G2 [a,b,c,d,e,f,g,j]:=rfl;rw[o];have B:∀x∈[a,b,c,d,e,f,g,j],x<65536:=by simp_all
 have n:[a,b,c,d,e,f,g,j].length=8:=rfl;have k:=XM [a,b,c,d,e,f,g,j] 0 0 0 (by simp);unfold Nl;generalize [a,b,c,d,e,f,g,j]=W at *;generalize zGo W 0 0 0=q at *;obtain⟨z,m⟩:=q;rw[n] at k;simp only[vl] at k ⊢;have N:∀i,(G2 W).take i=G2 (W.take i):=λi=>by unfold G2;rw[an8]
 have J:∀i,(G2 W).drop i=G2 (W.drop i):=λi=>by unfold G2;rw[aj1]
 by_cases I:m<2
 ·rw[if_pos I,A8,cond_true,WZ B,Uz];rfl
 ·have K:A1 ((z:Int)+(m:Int))=((z+m:Nat):Int):=by rw[A5];rfl
  have hA:∀x∈W.take z,x<65536:=λx D=>B x (y7 D)
  have H:∀x∈W.drop (z+m),x<65536:=λx D=>B x (v8 D)
  have O:=Bj _ hA;have P:=Bj _ H;have L:(W.take z).length<=8:=by rw[aa1];omega
  have M:(W.drop (z+m)).length<=8:=by rw[ab3];omega
  rw[if_neg I,A6,cond_false,Q3,K];simp only[c9,Nat.sub_zero];rw[N,J,WZ hA,Uz,O8,ae3 L,J8 (by omega),Q3];have F:(G2 (W.drop (z+m))).take (8-(z+m))=G2 (W.drop (z+m)):=w9 (by rw[O8,ab3];omega);rw[F,WZ H,Uz,O8,ae3 M,J8 (by simp;omega)];simp
theorem Cw8{R:Type}{k0:Int->Int->Int->Int->LL->Option R}(W:List Nat)(l:W.length=8)(b a:Int)(i:Nat):∀(r j n:Nat),i+j+r=8->r<n->
  Mr LF n b a (i:Int) (j:Int) (G2 W) k0=k0 b a (i:Int) ((j+Pj (W.drop (i+j)):Nat):Int) (G2 W):=by
 intro r
 induction r with
 | zero=>
  intro j n f g;obtain⟨n,rfl⟩:∃m,n=m+1:=⟨n-1,by omega⟩
  rw[Mr];rw[A5,A6,j7 (by omega)];rfl
 | succ r k=>
  intro j n f g;obtain⟨n,rfl⟩:∃m,n=m+1:=⟨n-1,by omega⟩
  rw[Mr];have c:A1 ((i:Int)+(j:Int))=((i+j:Nat):Int):=by rw[A5];rfl
  have d:A1 ((j:Int)+1)=((j+1:Nat):Int):=by rw[A5];rfl
  have e:W.drop (i+j)=W.getD (i+j) 0::W.drop (i+(j+1)):=by
   rw[j5,j9 (by omega),p5,<-an9,aa9]
  simp (disch:=first|omega|(simp[O8];omega)) only[c,d,D1,L1,cond_true,c9,DB,TU,vl];rw[e,Ag5];by_cases h:W.getD (i+j) 0=0
  ·rw[h,if_pos rfl,show(((0:Nat):Int)==0)=true from rfl,cond_true,k (j+1) n (by omega) (by omega)]
   congr 2
   omega
  ·rw[if_neg h,show(((W.getD (i+j) 0:Nat):Int)==0)=false by rw[beq_eq_false_iff_ne];omega];rfl
def RR(z m:Nat)(a b:Int):Prop:=(2<=m/\a=z/\b=m)\/(m<2/\a=-1/\b=1)
theorem Cc9{R:Type}{k0:Int->Int->LL->Option R}(W:List Nat)(o:W.length=8):∀(r i n z m:Nat) (a b:Int),i+r=8->r<n->z<=8->m<=8->RR z m a b->
  ∃g j,RR (zGo (W.drop i) i z m).1 (zGo (W.drop i) i z m).2 g j/\Jb LF n a b (i:Int) (G2 W) k0=k0 g j (G2 W):=by
 intro r
 induction r with
 | zero=>
  intro i n z m a b t w e v h;obtain⟨n,rfl⟩:∃m,n=m+1:=⟨n-1,by omega⟩
  rw[Jb];rw[A6,j7 (by omega)];exact⟨a,b,h,rfl⟩
 | succ r f=>
  intro i n z m a b t w e v h;obtain⟨n,rfl⟩:∃m,n=m+1:=⟨n-1,by omega⟩
  have l:=E2;rw[Jb];have c:=λK=>Cw8 (R:=R) (k0:=K) W o a b i r.succ 0 LF (by omega) (by omega)
  rw[show((0:Nat):Int)=0 from rfl] at c;simp only[af3,ak5] at c;rw[A8,cond_true,c];have p:W.drop i=W.getD i 0::W.drop (i+1):=by
   rw[j5,j9 (by omega),p5,aa9]
  have u:=WD (W.drop i);rw[ab3] at u;have d:A1 ((i:Int)+1)=((i+1:Nat):Int):=by rw[A5];rfl
  rw[d];have e:zGo (W.drop i) i z m=if m<Pj (W.drop i) then zGo (W.drop (i+1)) (i+1) i (Pj (W.drop i)) else zGo (W.drop (i+1)) (i+1) z m:=by
   rw[p];rfl
  rw[e];generalize Pj (W.drop i)=q at *;unfold RR at h;by_cases k:m<q
  ·rw[if_pos k];by_cases x:q<2
   ·rw[A6,cond_false];exact f (i+1) n i q a b (by omega) (by omega) (by omega) (by omega) (by unfold RR;omega)
   ·rw[A8,cond_true];exact f (i+1) n i q i q (by omega) (by omega) (by omega) (by omega) (by unfold RR;omega)
  ·rw[if_neg k,A6,cond_false];exact f (i+1) n z m a b (by omega) (by omega) (by omega) (by omega) h
theorem ME(q:By)(d:UInt8):(q++[d]).getD q.length 0=d:=by simp
theorem Bt8{R:Type}{k:By->LL->Option R}(W:List Nat)(u:W.length=8)(v:∀x∈W,x<65536)(a b:Int)(s c:By)(i n:Nat)(w:i<8)(o:(i:Int)≠a)(j:s.length<=1000)
  (h:(s=[]/\c=R7 (W.getD i 0))\/(∃q d,s=q++[d]/\d≠58/\c=s++[58]++R7 (W.getD i 0))\/(∃q,s=q++[58]/\c=s++R7 (W.getD i 0))) :
  S7 LF (n+1) a b s (i:Int) (G2 W) k=S7 LF n a b c ((i+1:Nat):Int) (G2 W) k:=by
 rw[S7];have t:W.getD i 0<65536:=by simp_all
 have m:A1 ((i:Int)+1)=((i+1:Nat):Int):=by rw[A5];rfl
 have y:=HO _ t;rw[A8,show((i:Int)==a)=false from beq_eq_false_iff_ne.2 o];generalize r:W.getD i 0=x at *;have ok:=DB (l:=W) (i:=i) (by omega);simp (disch:=omega) only[cond_true,cond_false,L1,c9,ok,TU,r,BG,vl,m];rcases h with⟨rfl,rfl⟩|⟨q,d,rfl,p,rfl⟩|⟨q,rfl,rfl⟩
 ·have e:J7 ([]:By).length (R7 x).length=true:=J8 (by simp;omega);rw[e];rfl
 ·have f:A1 (((q++[d]).length:Int)-1)=((q.length:Nat):Int):=by rw[A5];simp
  rw[show((q++[d])==([]:By))=false by simp,f,L1 (by omega) (by simp<;>omega),G8,ME];have g:(d.toNat:Int)≠58:=by
   intro h;apply p;apply UInt8.toNat.inj;grind
  rw[show((d.toNat:Int)!=58)=true from bne_iff_ne.2 g,J8 (by simp at j ⊢;omega),J8 (by simp at j ⊢;omega)];rfl
 ·have f:A1 (((q++[58]).length:Int)-1)=((q.length:Nat):Int):=by rw[A5];simp
  rw[show((q++[(58:UInt8)])==([]:By))=false by simp,f,L1 (by omega) (by simp<;>omega),G8,ME];have e:J7 (q++[(58:UInt8)]).length (R7 x).length=true:=J8 (by simp at j ⊢;omega);rw[e];rfl
theorem Bv4(W:List Nat)(i:Nat)(h:i<W.length):W.take (i+1)=W.take i++[W.getD i 0]:=by simp_all
theorem JF{R:Type}{k0:By->LL->Option R}(W:List Nat)(m:W.length=8)(f:∀x∈W,x<65536)(a b:Int)(e:Nat)(I:e<=8)(p:By)(z:p=[]\/∃q,p=q++[58])(A:p.length<=100)(o:Nat)(w:o<=8) :
  ∀(r i n:Nat),i+r=e->o<=i->(∀j:Nat,i<=j->j<e->(j:Int)≠a)->
   S7 LF (n+r) a b (p++T2 ((W.take i).drop o)) (i:Int) (G2 W) k0=S7 LF n a b (p++T2 ((W.take e).drop o)) (e:Int) (G2 W) k0:=by
 intro r
 induction r with
 | zero=>
  intro i n u w _;rw[show i=e by omega];rfl
 | succ r G=>
  intro i n u y g;rw[show n+(r+1)=(n+r)+1 by omega];have h:((W.take i).drop o).length=i-o:=by rw[ab3,aa1];omega
  have v:=Bj ((W.take i).drop o) (λx F=>f x (y7 (v8 F)));have D:(W.take (i+1)).drop o=(W.take i).drop o++[W.getD i 0]:=by
   rw[Bv4 W i (by omega),ac5 (by rw[aa1];omega)]
  have C:(p++T2 ((W.take i).drop o)).length<=1000:=by rw[ac9];omega
  rw[Bt8 W m f a b (p++T2 ((W.take i).drop o)) (p++T2 ((W.take (i+1)).drop o)) i (n+r) (by omega) (g i (by omega) (by omega)) C]
  ·exact G (i+1) n (by omega) (by omega) (λj H k=>g j (by omega) k)
  ·rw[D];generalize (W.take i).drop o=l at *;by_cases c:l=[]
   ·subst c;rw[aa7,Zo,Ko,ad2];rcases z with rfl|⟨q,rfl⟩
    ·exact .inl ⟨rfl,rfl⟩
    ·exact .inr (.inr ⟨q,rfl,rfl⟩)
   ·obtain⟨q,d,B,t⟩:=Au2 l c;refine .inr (.inl ⟨p++q,d,by rw[B,ak3],t,?_⟩);rw[Te l _ c];simp
theorem Bt7{R:Type}{k0:By->LL->Option R}(A B C D F G H I:Int)(V:ok8 A B C D F G H I=true):Cw6 LF A B C D F G H I k0=k0 (Nl (n8 A B C D F G H I)) (G2 (n8 A B C D F G H I)):=by
 obtain⟨g,i,k,l,o,p,r,t,rfl,rfl,rfl,rfl,rfl,rfl,rfl,rfl,h⟩:=Qs V;have K:n8 g i k l o p r t=[g,i,k,l,o,p,r,t]:=rfl;unfold Cw6;rw[K];have y:([[SV.int .u16 (g:Int)],[SV.int .u16 (i:Int)],[SV.int .u16 (k:Int)],[SV.int .u16 (l:Int)],[SV.int .u16 (o:Int)],[SV.int .u16 (p:Int)],[SV.int .u16 (r:Int)],[SV.int .u16 (t:Int)]]:LL)=G2 [g,i,k,l,o,p,r,t]:=rfl;rw[y];have J:∀x∈[g,i,k,l,o,p,r,t],x<65536:=by simp_all
 have e:[g,i,k,l,o,p,r,t].length=8:=rfl;have w:=XM [g,i,k,l,o,p,r,t] 0 0 0 (by simp);have X:=E2;generalize [g,i,k,l,o,p,r,t]=W at *;obtain⟨a,b,L,Y⟩:=Cc9 (R:=R) (k0:=λv f M=>S7 LF LF v f [] 0 M (λd c=>k0 d c)) W e 8 0 LF 0 0 (-1) 1 (by omega) (by omega) (by omega) (by omega) (.inr ⟨by omega,rfl,rfl⟩);refine j8 Y ?_;rw[v7] at L;unfold Nl;generalize zGo W 0 0 0=q at *;obtain⟨z,m⟩:=q;rw[e] at w;simp only at w L ⊢;have stop:∀(n:Nat) (s:By),0<n->S7 LF n a b s ((8:Nat):Int) (G2 W) (λd c=>k0 d c)=k0 s (G2 W):=by
  intro n s O;obtain⟨n,rfl⟩:∃m,n=m+1:=⟨n-1,by omega⟩
  rw[S7];simp_all
 rcases L with⟨N,rfl,rfl⟩|⟨N,rfl,rfl⟩
 ·rw[J4];have u:=JF (R:=R) (k0:=λd c=>k0 d c) W e J (z:Int) (m:Int) z (by omega) [] (.inl rfl) (by simp) 0 (by omega) z 0 (LF-z) (by omega) (by omega) (λj _ h2=>by omega);rw[show LF-z+z=LF by omega] at u;simp only[af9,v7,Ko,aa7] at u;refine j8 u ?_;obtain⟨n,O⟩:∃n,LF-z=n+8+1:=⟨LF-z-9,by omega⟩
  rw[O,S7];have hA:∀x∈W.take z,x<65536:=λx Z=>J x (y7 Z)
  have la:=Bj _ hA;have l1:(W.take z).length<=8:=by rw[aa1];omega
  have S:A1 ((m:Int)-1)=((m-1:Nat):Int):=by rw[A5];omega
  have T:A1 ((z:Int)+((m-1:Nat):Int))=((z+(m-1):Nat):Int):=by rw[A5];omega
  have U:A1 (((z+(m-1):Nat):Int)+1)=((z+m:Nat):Int):=by rw[A5];omega
  rw[A8,J8 (by omega)];simp only[beq_self_eq_true,cond_true,vl,S,T,U];have P:=JF (R:=R) (k0:=λd c=>k0 d c) W e J (z:Int) (m:Int) 8 (by omega) (T2 (W.take z)++[58,58]) (.inr ⟨T2 (W.take z)++[58],by simp⟩) (by simp;omega) (z+m) (by omega) (8-(z+m)) (z+m) (n+(z+m)) (by omega) (by omega) (λj h1 _=>by omega);rw[show n+(z+m)+(8-(z+m))=n+8 by omega] at P;have Q:(W.take (z+m)).drop (z+m)=[]:=j7 (by rw[aa1];omega);rw[Q,Ko,ad2] at P;grind
 ·rw[if_pos N];have u:=JF (R:=R) (k0:=λd c=>k0 d c) W e J (-1) 1 8 (by omega) [] (.inl rfl) (by simp) 0 (by omega) 8 0 (LF-8) (by omega) (by omega) (λj _ _=>by omega);rw[show LF-8+8=LF by omega] at u;simp only[af9,v7,Ko,aa7] at u;grind
end
section
open Go
theorem HX(x y:By)(r:List By)(p:By):ah0 (x::y::r) p=x++(p++ah0 (y::r) p):=by simp[ah0,List.intercalate]
theorem Ad7(c:UInt8):∀l:List By,l≠[]->(∀x∈l,c∉x)->pcs c (ah0 l [c])=l
 | [],h,_=>absurd rfl h
 | [x],_,h=>by rw[ao7,Wd (h x (by simp))]
 | x::y::r,_,h=>by
  rw[HX,List.singleton_append,VI (h x (by simp)),Ad7 c (y::r) (by simp) (λz a=>h z (by simp[a]))]
theorem Dd(s:By):(D3 s).length=s.length:=ae8 _
theorem Mh(s:By)(i:Nat):(D3 s).getD i 0=Cn (s.getD i 0):=by unfold D3;simp only[j5,ak4];cases s[i]?<;>rfl
theorem Bo8{s:By}:D3 s=[]↔s=[]:=by unfold D3;simp
theorem Av5(s:By)(i:Nat):(D3 s).drop i=D3 (s.drop i):=by unfold D3;rw[aj1]
theorem Oy(b:UInt8):T8 b=true↔(97<=b.toNat/\b.toNat<=122)\/(48<=b.toNat/\b.toNat<=57)\/b=45\/b=95:=by simp[T8,or_assoc]
theorem Au8{b:UInt8}(h:T8 b=true):b.toNat<128/\(b.toNat<65\/90<b.toNat)/\b≠46/\b≠37/\b≠91:=by
 rw[Oy] at h;have key:∀c:UInt8,b=c->b.toNat=c.toNat:=λc e=>by rw[e]
 rcases h with h|h|h|h
 ·refine⟨by omega,by omega,?_,?_,?_⟩<;>intro e<;>have:=key _ e<;>simp at this<;>omega
 ·refine⟨by omega,by omega,?_,?_,?_⟩<;>intro e<;>have:=key _ e<;>simp at this<;>omega
 all_goals simp_all
structure VL (s:By):Prop where
 ne:s≠[]
 le:s.length<=63
 byt:∀b∈s,T8 b=true
theorem OG{s:By}(h:N9 s=true):VL s:=by unfold N9 at h;simp only[aa0,aj9,ac3] at h;obtain⟨⟨⟨⟨⟨a,c⟩,g⟩,i⟩,d⟩,j⟩:=h;refine⟨by intro e;subst e;simp at a,ae4 c,λb f=>d b f⟩
structure VN (s:By):Prop where
 le:s.length<=253
 num:L2 s=false
 all:∀x∈pcs 46 s,N9 x=true
theorem JT{s:By}:Af s=true↔VN s:=by unfold Af;simp only[aa0,aj9,ac3];exact⟨λh=>⟨ae4 h.1.1,h.1.2,h.2⟩,λh=>⟨⟨ae3 h.le,h.num⟩,h.all⟩⟩
theorem C91(v:Nat)(h:v<4294967296):(Hx v).length<=43:=by unfold Hx;have a:=F7 (v / 16777216) (by omega);have b:=F7 (v / 65536 % 256) (by omega);have c:=F7 (v / 256 % 256) (by omega);have d:=F7 (v % 256) (by omega);grind
theorem Ae0(free:Nat):∀(l:List By) (v x:Nat),Zv free v l=some x->x<(v+1)*256 ^ (l.length-1)*2 ^ free
 | [],v,x,h=>by simp[Zv] at h
 | [p],v,x,h=>by
  simp only[Zv] at h;split at h
  ·cases h
  ·split at h
   ·rename_i n c b;simp only[o7] at h;subst h;simp only[o8,ad3,ak7,Nat.pow_zero,Nat.mul_one,Nat.add_mul];omega
   ·cases h
 | p::q::r,v,x,h=>by
  rw[Zv] at h;split at h
  ·cases h
  ·simp only at h;split at h
   ·rename_i n c a;have d:=Ae0 free (q::r) _ x h;refine Nat.lt_of_lt_of_le d (ae7 _ ?_);simp only[o8,aj4];rw[ab6,ap1 (256 ^ r.length) 256,<-Nat.mul_assoc];exact ae7 _ (by omega)
   ·cases h
theorem Cu2{s:By}{v:Nat}(h:pnB s=some v):v<4294967296:=by
 unfold pnB at h;split at h
 ·cases h
 ·rename_i b;have a:=(Dh s).1;have:=Ae0 _ _ _ _ h;generalize (E4 s).length=n at *;have:n=1\/n=2\/n=3\/n=4:=by omega
  grind
def sh(n:Nat)(i:Int):Int:=if i=-1 then -1 else i+n
theorem Cg4(a:List Nat)(e:a.length=8)(h:∀x∈a,x<65536):(Nl a).length<=90:=by
 unfold Nl;split
 ·have:=Bj a h;omega
 ·have c:=Bj (a.take (zGo a 0 0 0).1) (λx b=>h x (y7 b));have d:=Bj (a.drop ((zGo a 0 0 0).1+(zGo a 0 0 0).2)) (λx b=>h x (v8 b));grind
theorem Aa4{s:By}{last:Bool}{r:List Nat}(h:Ec s last=some r):∀x∈r,x<65536:=by
 unfold Ec at h;split at h
 ·grind
 ·exact Bc9 _ _ _ h
theorem C94{s:By}{a:List Nat}(h:v6B s=some a):a.length=8/\∀x∈a,x<65536:=by
 unfold v6B at h;split at h
 ·rename_i x y b c;have d:=Aa4 b;have e:=Aa4 c;grind
 ·cases h
theorem Ce5{s:By}(h:(T3 s).2=0):N9 (T3 s).1=true:=by unfold T3 at h ⊢;grind
theorem Ym:∀l:List By,(M5 l).2=0->(∀x∈(M5 l).1,N9 x=true)/\(M5 l).1.length=l.length
 | [],_=>⟨by simp[M5],rfl⟩
 | x::r,h=>by
  unfold M5 at h ⊢;by_cases a:(T3 x).2=0
  ·rw[if_pos a] at h ⊢;obtain⟨d,c⟩:=Ym r h;refine⟨λy b=>?_,by simp[c]⟩;rcases ac0.1 b with rfl|b
   ·exact Ce5 a
   grind
  grind
structure Nq (h:C3):Prop where
 v4:h.v4<4294967296
 v6:h.v6.length=8/\∀x∈h.v6,x<65536
 kd:h.kind<4
theorem Bi7:z8.length=8/\∀x∈z8,x<65536:=by decide
theorem Bq2(s:By):Nq (J6 s).1/\((J6 s).2=0->N2 (J6 s).1=true):=by
 have no:Nq P5:=⟨by decide,Bi7,by decide⟩
 unfold J6;split
 ·grind
 split
 ·split
  ·cases d:v6B ((s.take (s.length-1)).drop 1) with
   | none=>exact⟨no,by simp⟩
   | some a=>exact⟨⟨show 0<4294967296 by decide,C94 d,show 3<4 by decide⟩,λ_=>by simp[N2]⟩
  grind
 cases l:Ce s with
 | none=>exact⟨no,by simp⟩
 | some t=>
  simp only;split
  ·cases d:pnB (P6 t) with
   | none=>exact⟨no,by simp⟩
   | some v=>exact⟨⟨Cu2 d,Bi7,show 2<4 by decide⟩,λ_=>by simp[N2]⟩
  split
  ·rename_i g;split
   ·grind
   split
   ·grind
   ·rename_i k h;refine⟨⟨show 0<4294967296 by decide,Bi7,show 1<4 by decide⟩,λ_=>?_⟩;obtain⟨f,i⟩:=Ym _ g;have b:(M5 (pcs 46 (P6 t))).1≠[]:=by
     intro e;rw[e] at i;have:=Ax7 46 (P6 t);grind
    have c:=Ad7 46 (M5 (pcs 46 (P6 t))).1 b (λx j e=>(Au8 ((OG (f x j)).byt 46 e)).2.2.1 rfl);unfold N2;simp only[if_true,beq_self_eq_true,ag8];rw[JT];exact⟨by omega,by simpa using h,by rw[c];exact f⟩
  grind
theorem HK{h:C3}(a:N2 h=false):Ai h=[]:=by unfold Ai;rw[a];rfl
structure W8 where
 sch:By
 user:By
 host:C3
 port:Int
 rest:By
def Cc:W8:=⟨[],[],P5,0,[]⟩
def LJ:By:=[104,116,116,112]
def Nx:By:=[104,116,116,112,115]
def bWs:By:=[119,115]
def YL:By:=[119,115,115]
def He(s:By):Int:=if s==LJ||s==bWs then 80 else if s==Nx||s==YL then 443 else -1
def G3(s:By):Bool:=s==LJ||s==bWs||(s==Nx||s==YL)
def De8(s:By):Bool:=s==LJ||s==bWs
def ctl(b:UInt8):Bool:=ac2 b.toNat 32||b==127
def V9(b:UInt8):Bool:=(ac2 97 b.toNat&&ac2 b.toNat 122)||(ac2 65 b.toNat&&ac2 b.toNat 90)
def Ar(b:UInt8):Bool:=V9 b||(ac2 48 b.toNat&&ac2 b.toNat 57)||b==43||b==45||b==46
def Dq:By->Bool
 | []=>false
 | b::r=>V9 b&&r.all Ar
def Y5(b:UInt8):Bool:=b==47||b==63||b==35
def M4(s:By):Nat:=(s.takeWhile λb=>!Y5 b).length
def Tb(c:UInt8):By->Option Nat
 | []=>none
 | b::r=>if b=c then some 0 else (Tb c r).map (· + 1)
def Wa:Int->By->Option Int
 | n,[]=>if n<65536 then some n else none
 | n,b::r=>if 48<=b.toNat/\b.toNat<=57 then Wa (min (10*max n 0+((b.toNat-48:Nat):Int)) 65536) r else none
def Pa(a:By):Option (By × By):=
 if a.head? = some 91 then (match Tb 93 a with
  | some k=>some (a.take (k+1),a.drop (k+1))
  | none=>none)
 else match Tb 58 a with
  | some k=>some (a.take k,a.drop k)
  | none=>some (a,[])
def Q2(c user b:By)(a:By):W8 × Nat:=
 match Pa a with
 | none=>(Cc,4)
 | some (name,tail)=>
  if tail≠[]/\tail.head?≠some 58 then (Cc,4)
  else if (J6 name).2≠0 then (Cc,(J6 name).2)
  else match Wa (-1) (tail.drop 1) with
   | none=>(Cc,16)
   | some p=>(⟨c,user,(J6 name).1,if p=He c then -1 else p,b⟩,0)
def I3(c b a:By):W8 × Nat:=
 if 0<=L7 64 a then Q2 c (a.take (L7 64 a).toNat) b (a.drop ((L7 64 a).toNat+1)) else Q2 c [] b a
def W7(r:By):By:=if r.head? = some 47 then r else 47::r
def G1(s:By):W8 × Nat:=
 if s.any ctl then (Cc,4)
 else if !(w8 s [58]).2.2||!Dq (w8 s [58]).1 then (Cc,15)
 else if !G3 (D3 (w8 s [58]).1) then (⟨D3 (w8 s [58]).1,[],P5,-1,(w8 s [58]).2.1⟩,0)
 else if !([47,47]:By).isPrefixOf (w8 s [58]).2.1 then (Cc,4)
 else I3 (D3 (w8 s [58]).1) (W7 (((w8 s [58]).2.1.drop 2).drop (M4 ((w8 s [58]).2.1.drop 2)))) (((w8 s [58]).2.1.drop 2).take (M4 ((w8 s [58]).2.1.drop 2)))
def D0(s:By):W8 × Nat:=if 2048<s.length then (Cc,3) else G1 s
def Ng(p:Int):By:=if p<0 then 45::o0 (-p).toNat else o0 p.toNat
def LI(u:W8):By:=(if u.user=[] then [] else u.user++[64])++(Ai u.host++(if u.port=-1 then [] else 58::Ng u.port))
def Ey(u:W8):By:=if G3 u.sch then u.sch++58::47::47::(LI u++u.rest) else u.sch++58::u.rest
def B85(b:Int)(c:By)(v4:Int)(a:List Nat):C3:=⟨if ltN b 4 then b.toNat else 4,c,v4.toNat,a⟩
def mkU(f g:By)(b:Int)(c:By)(v4:Int)(a:List Nat)(d:Int)(e:By):W8:=⟨f,g,B85 b c v4 a,d,e⟩
def smU(c d a b:By):Bool:=ac2 c.length 100000000&&ac2 d.length 100000000&&ac2 a.length 100000000&&ac2 b.length 100000000
def eqH(a b:C3):Bool:=a.kind==b.kind&&a.name==b.name&&a.v4==b.v4&&a.v6==b.v6
def eqU(a b:W8):Bool:=a.sch==b.sch&&a.user==b.user&&eqH a.host b.host&&a.port==b.port&&a.rest==b.rest
def Tu(u:W8):Bool:=(G1 (Ey u)).2==0&&eqU (G1 (Ey u)).1 u
def prt(b:By)(a:Int):Int:=if a==-1 then He b else a
def CJ:By->Int
 | s=>let rec go:Int->By->Int
   | n,[]=>n
   | n,b::r=>if 48<=b.toNat/\b.toNat<=57 then go (min (10*max n 0+((b.toNat-48:Nat):Int)) 65536) r else 0
  go (-1) s
def Co3(s t:By):Nat:=(s.takeWhile λb=>!t.contains b).length
def isl:By:=[47,63,35]
def Zn(p:By):Bool:=p==isl
def JU(r:Int):Bool:=ltN r 55296||(ltI 57343 r&&ltN r 1114112)
def irn(r:Int):Int:=if r=47 then 0 else if r=63 then 1 else if r=35 then 2 else -1
abbrev uS(p:W8 × Nat):By:=p.1.sch
abbrev uU(p:W8 × Nat):By:=p.1.user
abbrev uK(p:W8 × Nat):Int:=p.1.host.kind
abbrev uN(p:W8 × Nat):By:=p.1.host.name
abbrev uV(p:W8 × Nat):Int:=p.1.host.v4
abbrev uA(p:W8 × Nat)(i:Nat):Int:=(p.1.host.v6.getD i 0:Nat)
abbrev uP(p:W8 × Nat):Int:=p.1.port
abbrev uR(p:W8 × Nat):By:=p.1.rest
abbrev uE(p:W8 × Nat):Int:=p.2
theorem KB(s:By):decide (0<He s)=G3 s:=by
 unfold He G3;cases (s==LJ||s==bWs) with
 | true=>rfl
 | false=>cases (s==Nx||s==YL)<;>rfl
theorem Cl4{s:By}(h:G3 s=true):s=LJ\/s=bWs\/s=Nx\/s=YL:=by simp only[G3,ai0,beq_iff_eq] at h;rcases h with(h|h)|(h|h)<;>simp[h]
theorem Bn1{c:UInt8}:∀{s:By},c∉s->Tb c s=none
 | [],_=>rfl
 | b::r,h=>by
  simp only[ac0,not_or] at h;rw[Tb,if_neg (am7 h.1),Bn1 h.2];rfl
theorem MM{c:UInt8}:∀{s:By} {k:Nat},Tb c s=some k->∃p r,s=p++c::r/\c∉p/\p.length=k
 | [],k,h=>by cases h
 | b::s,k,h=>by
  rw[Tb] at h;split at h
  ·rename_i a;obtain rfl:=af1 h;exact⟨[],s,by rw[a];rfl,by simp,rfl⟩
  ·rename_i a;cases d:Tb c s with
   | none=>rw[d] at h;cases h
   | some j=>
    rw[d] at h;obtain rfl:=af1 h;obtain⟨p,r,rfl,e,rfl⟩:=MM d;exact⟨b::p,r,rfl,by simp only[ac0,not_or];exact⟨am7 a,e⟩,rfl⟩
theorem Tf{c:UInt8}:∀{s:By},c∉s->L7 c s=-1
 | [],_=>rfl
 | b::r,h=>by
  simp only[ac0,not_or] at h;rw[L7,Tf h.2,if_pos (by decide),if_neg (am7 h.1)]
theorem MT{c:UInt8}:∀(p:By) {r:By},c∉r->L7 c (p++c::r)=(p.length:Int)
 | [],r,h=>by rw[aa7,L7,Tf h,if_pos (by decide),if_pos rfl];rfl
 | b::p,r,h=>by
  rw[ah1,L7,MT p h,J4,o8];omega
theorem MU{c:UInt8}:∀{s:By},c∈s->∃p r,s=p++c::r/\c∉r
 | [],h=>by cases h
 | b::s,h=>by
  by_cases a:c∈s
  ·obtain⟨p,r,rfl,d⟩:=MU a;exact⟨b::p,r,rfl,d⟩
  ·simp only[ac0,a,or_false] at h;subst h;exact⟨[],s,rfl,a⟩
theorem Au5{c:UInt8}{s:By}(h:0<=L7 c s):∃p r,s=p++c::r/\c∉r/\L7 c s=(p.length:Int):=by
 by_cases b:c∈s
 ·obtain⟨p,r,rfl,a⟩:=MU b;exact⟨p,r,rfl,a,MT p a⟩
 ·rw[Tf b] at h;omega
theorem A49(s:By):∀b∈s.take (M4 s),Y5 b=false:=by
 intro b a;have h:s.take (M4 s)=s.takeWhile λb=>!Y5 b:=by
  unfold M4;exact(List.prefix_iff_eq_take.1 (List.takeWhile_prefix _)).symm
 rw[h] at a;have:∀l:By,b∈l.takeWhile (λb=>!Y5 b)->Y5 b=false:=by
  intro l
  induction l with
  | nil=>intro h;cases h
  | cons x l d=>
   intro h;rw[aj0] at h;split at h
   ·rename_i c;rcases ac0.1 h with rfl|h
    ·simpa using c
    ·exact d h
   ·cases h
 exact this s a
theorem Ay{b:UInt8}:V9 b=true↔(97<=b.toNat/\b.toNat<=122)\/(65<=b.toNat/\b.toNat<=90):=by simp[V9,ah6]
theorem Cn0{b:UInt8}:ctl b=true↔b.toNat<=32\/b.toNat=127:=by
 unfold ctl;rw[ai0,ah6,beq_iff_eq];have:b=127↔b.toNat=127:=⟨λh=>by rw[h];rfl,λh=>am6.1 h⟩
 rw[this]
theorem BS{b:UInt8}:Ar b=true↔(97<=b.toNat/\b.toNat<=122)\/(65<=b.toNat/\b.toNat<=90)\/(48<=b.toNat/\b.toNat<=57)\/b=43\/b=45\/b=46:=by simp only[Ar,ai0,Ay,aa0,ah6,beq_iff_eq,or_assoc]
abbrev clU(a b:By)(k:Int)(n:By)(v c d e f g h i j p:Int)(r:By):List PV:=[.s (.str a),.s (.str b),.s (.int .i64 k),.s (.str n),.s (.int .u32 v),.s (.int .u16 c),.s (.int .u16 d),.s (.int .u16 e),.s (.int .u16 f),.s (.int .u16 g),.s (.int .u16 h),.s (.int .u16 i),.s (.int .u16 j),.s (.int .i64 p),.s (.str r)]
abbrev clH(k:Int)(n:By)(v c d e f g h i j:Int):List PV:=[.s (.int .i64 k),.s (.str n),.s (.int .u32 v),.s (.int .u16 c),.s (.int .u16 d),.s (.int .u16 e),.s (.int .u16 f),.s (.int .u16 g),.s (.int .u16 h),.s (.int .u16 i),.s (.int .u16 j)]
abbrev bU(a b:By)(k:Int)(n:By)(v c d e f g h i j p:Int)(r:By):Blk:=.box (clU a b k n v c d e f g h i j p r)
abbrev gU(a b:By)(k:Int)(n:By)(v c d e f g h i j p:Int)(r:By):PV:=.agg (clU a b k n v c d e f g h i j p r)
abbrev bH(k:Int)(n:By)(v c d e f g h i j:Int):Blk:=.box (clH k n v c d e f g h i j)
abbrev gH(k:Int)(n:By)(v c d e f g h i j:Int):PV:=.agg (clH k n v c d e f g h i j)
abbrev bCx(a b c d z t:Bool)(l:LL):Blk:=.box [.s (.bool a),.s (.bool b),.s (.bool c),.s (.bool d),.s (.sl z t 1 l)]
abbrev gCx(a b c d z t:Bool)(l:LL):PV:=.agg [.s (.bool a),.s (.bool b),.s (.bool c),.s (.bool d),.s (.sl z t 1 l)]
abbrev bU0:Blk:=bU [] [] 0 [] 0 0 0 0 0 0 0 0 0 0 []
abbrev bQ(p:W8 × Nat):Blk:=bU (uS p) (uU p) (uK p) (uN p) (uV p) (uA p 0) (uA p 1) (uA p 2) (uA p 3) (uA p 4) (uA p 5) (uA p 6) (uA p 7) (uP p) (uR p)
abbrev okQ(p:W8 × Nat):Bool:=ok8 (uA p 0) (uA p 1) (uA p 2) (uA p 3) (uA p 4) (uA p 5) (uA p 6) (uA p 7)
abbrev mkQ(b:By)(p:W8 × Nat)(a:Int):W8:=mkU b (uU p) (uK p) (uN p) (uV p) (n8 (uA p 0) (uA p 1) (uA p 2) (uA p 3) (uA p 4) (uA p 5) (uA p 6) (uA p 7)) a (uR p)
end
section
open Go Go.Proofs
set_option maxRecDepth 100000
section
def FM:List PV->Tr
 | [.s (.str s)]=>.ret (.s (.int .i64 (He s))) []
 | _=>.fail
def QY(args:List PV):Tr:=FM (D4 [[0]] args)
def FN:List PV->Tr
 | [.s (.str s)]=>.ret (.s (.bool (G3 s))) []
 | _=>.fail
def Pz(args:List PV):Tr:=FN (D4 [[0]] args)
def Dh0:List PV->Tr
 | [.agg [.s (.str a),.s (.str n),.s (.int .i64 j),.s (.str k),.s (.int .u32 v4),.s (.int .u16 b),.s (.int .u16 c),.s (.int .u16 d),.s (.int .u16 e),.s (.int .u16 f),.s (.int .u16 g),.s (.int .u16 h),.s (.int .u16 i),.s (.int .i64 l),.s (.str m)]]=>.ret (.s (.bool (De8 a))) []
 | _=>.fail
def RA:List PV->Tr
 | [.s (.str s)]=>.need (A3 (j4 s)) (.ret (.s (.bool (Dq s))) [])
 | _=>.fail
def B15(args:List PV):Tr:=RA (D4 [[0]] args)
def QX:List PV->Tr
 | [.s (.str s)]=>.need (A3 (j4 s)) (.ret (.tup [.s (.int .i64 (CJ s)),.s (.bool (ao0 (Wa ((-1):Int) s)))]) [])
 | _=>.fail
def B09(args:List PV):Tr:=QX (D4 [[0]] args)
def Yg:List PV->Tr
 | [.agg [.s (.str c),.s (.str e),.s (.int .i64 n),.s (.str o),.s (.int .u32 v4),.s (.int .u16 f),.s (.int .u16 g),.s (.int .u16 h),.s (.int .u16 i),.s (.int .u16 j),.s (.int .u16 k),.s (.int .u16 l),.s (.int .u16 m),.s (.int .i64 d),.s (.str b)],.s (.str a)]=>.need (A3 (j4 c)) (.need (A3 (j4 b)) (.need (A3 (j4 a)) (.need (List.isEmpty e) (.need (d==((-1):Int)) (.ret (.tup [.agg [.s (.str (uS (I3 c b a))),.s (.str (uU (I3 c b a))),.s (.int .i64 (uK (I3 c b a))),.s (.str (uN (I3 c b a))),.s (.int .u32 (uV (I3 c b a))),.s (.int .u16 (uA (I3 c b a) 0)),.s (.int .u16 (uA (I3 c b a) 1)),.s (.int .u16 (uA (I3 c b a) 2)),.s (.int .u16 (uA (I3 c b a) 3)),.s (.int .u16 (uA (I3 c b a) 4)),.s (.int .u16 (uA (I3 c b a) 5)),.s (.int .u16 (uA (I3 c b a) 6)),.s (.int .u16 (uA (I3 c b a) 7)),.s (.int .i64 (uP (I3 c b a))),.s (.str (uR (I3 c b a)))],.s (.int .i64 (uE (I3 c b a)))]) [])))))
 | _=>.fail
def YD(args:List PV):Tr:=Yg (D4 [[0,0,0,0,0,0,0,0,0,0,0,0,0,0,0],[0]] args)
def QZ:List PV->Tr
 | [.s (.str s)]=>.need (A3 (j4 s)) (.ret (.tup [.agg [.s (.str (uS (G1 s))),.s (.str (uU (G1 s))),.s (.int .i64 (uK (G1 s))),.s (.str (uN (G1 s))),.s (.int .u32 (uV (G1 s))),.s (.int .u16 (uA (G1 s) 0)),.s (.int .u16 (uA (G1 s) 1)),.s (.int .u16 (uA (G1 s) 2)),.s (.int .u16 (uA (G1 s) 3)),.s (.int .u16 (uA (G1 s) 4)),.s (.int .u16 (uA (G1 s) 5)),.s (.int .u16 (uA (G1 s) 6)),.s (.int .u16 (uA (G1 s) 7)),.s (.int .i64 (uP (G1 s))),.s (.str (uR (G1 s)))],.s (.int .i64 (uE (G1 s)))]) [])
 | _=>.fail
def Am5(args:List PV):Tr:=QZ (D4 [[0]] args)
def Yf:List PV->Tr
 | [.s (.str s)]=>.need (A3 (j4 s)) (.ret (.tup [.agg [.s (.str (uS (D0 s))),.s (.str (uU (D0 s))),.s (.int .i64 (uK (D0 s))),.s (.str (uN (D0 s))),.s (.int .u32 (uV (D0 s))),.s (.int .u16 (uA (D0 s) 0)),.s (.int .u16 (uA (D0 s) 1)),.s (.int .u16 (uA (D0 s) 2)),.s (.int .u16 (uA (D0 s) 3)),.s (.int .u16 (uA (D0 s) 4)),.s (.int .u16 (uA (D0 s) 5)),.s (.int .u16 (uA (D0 s) 6)),.s (.int .u16 (uA (D0 s) 7)),.s (.int .i64 (uP (D0 s))),.s (.str (uR (D0 s)))],.s (.int .i64 (uE (D0 s)))]) [])
 | _=>.fail
def FL(args:List PV):Tr:=Yf (D4 [[0]] args)
def FO:List PV->Tr
 | [.agg [.s (.str l),.s (.str m),.s (.int .i64 n),.s (.str i),.s (.int .u32 v4),.s (.int .u16 a),.s (.int .u16 b),.s (.int .u16 c),.s (.int .u16 d),.s (.int .u16 e),.s (.int .u16 f),.s (.int .u16 g),.s (.int .u16 h),.s (.int .i64 j),.s (.str k)]]=>.need (smU l m i k) (.need (ltN v4 4294967296) (.need (ok8 a b c d e f g h) (.need (No j) (.ret (.s (.str (Ey (mkU l m n i v4 (n8 a b c d e f g h) j k)))) []))))
 | _=>.fail
def Bb2(args:List PV):Tr:=FO (D4 [[0,0,0,0,0,0,0,0,0,0,0,0,0,0,0]] args)
def Sd:List PV->Tr
 | [.agg [.s (.str l),.s (.str m),.s (.int .i64 n),.s (.str i),.s (.int .u32 v4),.s (.int .u16 a),.s (.int .u16 b),.s (.int .u16 c),.s (.int .u16 d),.s (.int .u16 e),.s (.int .u16 f),.s (.int .u16 g),.s (.int .u16 h),.s (.int .i64 j),.s (.str k)]]=>.need (smU l m i k) (.need (ltN v4 4294967296) (.need (ok8 a b c d e f g h) (.need (No j) (.ret (.s (.bool (Tu (mkU l m n i v4 (n8 a b c d e f g h) j k)))) []))))
 | _=>.fail
def LC(args:List PV):Tr:=Sd (D4 [[0,0,0,0,0,0,0,0,0,0,0,0,0,0,0]] args)
def Dd6:List PV->Tr
 | [.s (.str s),.s (.str t)]=>.need (A3 (j4 s)) (.need (A3 (j4 t)) (.ret (.s (.int .i64 (↑(Co3 s t):Int))) []))
 | _=>.fail
def C22:List PV->Tr
 | [.s (.int .i64 n)]=>.need (ltN n 9223372036854775808) (.ret (.s (.str (o0 (x5 n)))) [])
 | _=>.fail
def EC:List PV->Tr
 | [.s (.int .i64 n)]=>.need (No n) (.ret (.s (.str (Ng n))) [])
 | _=>.fail
def A98(args:List PV):Tr:=EC (D4 [[0]] args)
def FE:List PV->Tr
 | [.s (.str s),.s (.int .u8 c)]=>.need (A3 (j4 s)) (.need (inR c 256) (.ret (.s (.int .i64 (aa3 s (u8n c)))) []))
 | _=>.fail
def Ua(args:List PV):Tr:=FE (D4 [[0],[0]] args)
def EJ:List PV->Tr
 | [.s (.str s),.s (.str p)]=>.need (A3 (j4 s)) (.ret (.s (.str (Hb s p))) [])
 | _=>.fail
def Ba1(args:List PV):Tr:=EJ (D4 [[0],[0]] args)
def QW:List PV->Tr
 | [.s (.str s),.s (.str p)]=>.need (A3 (j4 s)) (.ret (.s (.str (Hb s p))) [])
 | _=>.fail
def B07(args:List PV):Tr:=QW (D4 [[0],[0]] args)
def XZ:List PV->Tr
 | [.s (.str s),.s (.str p)]=>.need (A3 (j4 s)) (.need (Zn p) (.ret (.s (.int .i64 (ad9 s p))) []))
 | _=>.fail
def QR(args:List PV):Tr:=XZ (D4 [[0],[0]] args)
def Pw:List PV->Tr
 | [.s (.str s),.s (.str p)]=>.need (A3 (j4 s)) (.need (Zn p) (.need (ac2 9 (j4 s)) (.ret (.s (.int .i64 (ad9 s p))) [])))
 | _=>.fail
def YA(args:List PV):Tr:=Pw (D4 [[0],[0]] args)
def Px:List PV->Tr
 | [.s (.str s),.s (.str p)]=>.need (Zn p) (.need (ac2 (j4 s) 8) (.ret (.s (.int .i64 (ad9 s p))) []))
 | _=>.fail
def YB(args:List PV):Tr:=Px (D4 [[0],[0]] args)
def Sb:List PV->Tr
 | [.s (.int .i64 n)]=>.ret (.s (.bool (ltI (8:Int) n))) []
 | _=>.fail
def Yc(args:List PV):Tr:=Sb (D4 [[0]] args)
def Yb:List PV->Tr
 | [.s (.str p),.s (.int .i32 r)]=>.need (Zn p) (.need (ltN r 1114112) (.ret (.s (.int .i64 (irn r))) []))
 | _=>.fail
def FF(args:List PV):Tr:=Yb (D4 [[0],[0]] args)
def LA:List PV->Tr
 | [.s (.str s)]=>.fail
 | _=>.fail
def Nv(args:List PV):Tr:=LA (D4 [[0]] args)
def Yj:List PV->Tr
 | [.s (.int .i32 r)]=>.ret (.s (.bool (JU r))) []
 | _=>.fail
def FP(args:List PV):Tr:=Yj (D4 [[0]] args)
end
section
variable {W R : Type} (L : Nat) (Q : F4) (Y : Yh W) (s : W) (k : Out -> St W -> Option R)
noncomputable def RZ(L:Nat):Cfg:=C8 L [147] (A4 []) [(110,PN)] (A4 [(3,[4]),(2,[4]),(1,[0,0,5]),(0,[0,0])]) [110] (A4 []) (some [4]) [] [] []
noncomputable def Be6{R:Type}(L:Nat)(b a:By)(d:By->Option R):Option R:=cond (A3 b.length) (cond (aa6 a b) (cond (K5 (a.length:Int) (b.length:Int) b.length) (vl (cut b (a.length:Int) (b.length:Int)) λc=>d c) none) (d b)) none
theorem B81(d:Nat)(s0 prefix1):evC (RZ L) (d+1) W Y 147 [pS s0,pS prefix1] [] s=Be6 L s0 prefix1 (λa=>some (pS a,[],s)):=by refine(evE (fn:=Tryz.f147) (by kernel_rfl)).trans ?_;generalize evC (RZ L) d=Q;unfold Be6;kernel_rfl
noncomputable def Aq0(L:Nat):Cfg:=C8 L [114] (A4 []) [(147,Ba1)] (A4 [(1,[4]),(0,[0,0])]) [147] (A4 []) (some [4]) [] [] []
noncomputable def Cx8{R:Type}(L:Nat)(b a:By)(c:By->Option R):Option R:=cond (A3 b.length) (c (Hb b a)) none
theorem Cx9(d:Nat)(s0 prefix1):evC (Aq0 L) (d+1) W Y 114 [pS s0,pS prefix1] [] s=Cx8 L s0 prefix1 (λa=>some (pS a,[],s)):=by refine(evE (fn:=Tryz.f114) (by kernel_rfl)).trans ?_;generalize evC (Aq0 L) d=Q;unfold Cx8;kernel_rfl
noncomputable def SN(L:Nat):Cfg:=C8 L [41] (A4 []) [] (A4 [(8,[2]),(4,[2]),(7,[2]),(6,[7]),(5,[3,3]),(3,[3,0]),(2,[3,0]),(1,[3]),(0,[0])]) [] (A4 [(0,[])]) (some [2]) [] [] []
noncomputable def Bh3{R:Type}(L:Nat)(a:By)(b:Int->Option R):Option R:=cond (a==[104,116,116,112]) (cond (a==[104,116,116,112]) (b 80) (cond (a==[104,116,116,112,115]) (cond (a==[104,116,116,112,115]) (b 443) (b (-1))) (cond (a==[119,115,115]) (b 443) (b (-1))))) (cond (a==[119,115]) (b 80) (cond (a==[104,116,116,112,115]) (cond (a==[104,116,116,112,115]) (b 443) (b (-1))) (cond (a==[119,115,115]) (b 443) (b (-1)))))
theorem Cf4(d:Nat)(scheme0):evC (SN L) (d+1) W Y 41 [pS scheme0] [] s=Bh3 L scheme0 (λa=>some (pI a,[],s)):=by refine(evE (fn:=Tryz.f41) (by kernel_rfl)).trans ?_;generalize evC (SN L) d=Q;unfold Bh3;kernel_rfl
noncomputable def SO(L:Nat):Cfg:=C8 L [21] (A4 []) [(41,QY)] (A4 [(1,[2]),(0,[0])]) [41] (A4 []) (some [2]) [] [] []
noncomputable def Bh4{R:Type}(L:Nat)(a:By)(b:Bool->Option R):Option R:=b (ltI 0 (He a))
theorem Cf7(d:Nat)(scheme0):evC (SO L) (d+1) W Y 21 [pS scheme0] [] s=Bh4 L scheme0 (λa=>some (pB a,[],s)):=by refine(evE (fn:=Tryz.f21) (by kernel_rfl)).trans ?_;generalize evC (SO L) d=Q;unfold Bh4;kernel_rfl
noncomputable abbrev Oc:Code:=E0 an1
noncomputable def Ab(L:Nat):Cfg:=C8 L [65] (A4 [(2,[0,1,4,0])]) [(104,Ua)] (A4 [(9,[2]),(8,[0,6,0]),(7,[2]),(6,[0,6,0,29]),(5,[0,2,0,0,1,0]),(4,[0,2,0,2,0]),(3,[0,2,3,0]),(2,[0,6,0,0]),(1,[0,6,0]),(0,[0])]) [104] (A4 [(0,[0]),(1,[0,6,0])]) (some [2]) [] [] []
noncomputable def DL{R:Type}(d:By)(a c:Int)(b:By->Int->Int->Option R):Option R:=b d c a
abbrev AH(b:Code):Prop:=∀(k:Out->St W->Option R) a i1 b2 n3,A9 (Ab L) Q Y b ⟨gp [(0,pS a),(2,pI i1),(0,p8 b2),(0,pB true),(1,pI n3),(0,pI i1)] 33,[],s⟩ k=DL a i1 n3 (λa c d=>k .normal ⟨gp [(0,pS a),(6,pI c),(0,pI d),(29,pB false)] 3,[],s⟩)
theorem A71:AH (R:=R) L Q Y s (cd [1,0,1,0,0,1,1,0,0,1,1,1] Oc):=by intro k d b a c;unfold DL;kernel_rfl
noncomputable def Fr{R:Type}(h:By)(c d:Int)(a:Bool)(g:Int)(e:Unit->Option R)(f:By->Int->Int->Bool->Option R):Option R:=cond (not a) (cond (c==0) (e ()) (cond (inR d 256) (vl (aa3 ([48,49,50,51,52,53,54,55,56,57,43,45,46]:List UInt8) (u8n d)) λb=>cond (ltI b 0) (e ()) (f h g c (ltI b 0))) none)) (f h g c false)
abbrev AI(b:Code):Prop:=∀(k:Out->St W->Option R) a i1 b2 letter3 n4,A9 (Ab L) Q Y b ⟨gp [(0,pS a),(2,pI i1),(0,p8 b2),(0,pB letter3),(1,pI n4),(0,pI i1)] 33,[],s⟩ k=Fr a i1 b2 letter3 n4 (λ_=>k .ret ⟨gp [(2,pB false)] 39,[],s⟩) (λa d e c=>k .normal ⟨gp [(0,pS a),(6,pI d),(0,pI e),(29,pB c)] 3,[],s⟩)
theorem A72:AI (R:=R) L Q Y s (cd [1,0,1,0,0,1,1,0,0,1,1,1] Oc):=by intro k e c b a d;unfold Fr;kernel_rfl
noncomputable def N6{R:Type}(L n:Nat)(b:By)(e a:Int)(c:Unit->Option R)(d:By->Option R):Option R:=match n with|0=>none|n+1=>cond (ltI a e) (cond (inR a b.length) (cond (not (ltI (bAt b a) (97:Int))) (cond (not (ltI 122 (bAt b a))) (DL b a e (λx r t=>N6 L n x r (A1 (t+1)) c d)) (cond (not (ltI (bAt b a) (65:Int))) (Fr b a (bAt b a) (not (ltI 90 (bAt b a))) e (λ_=>c ()) (λy u v D=>N6 L n y u (A1 (v+1)) c d)) (Fr b a (bAt b a) false e (λ_=>c ()) (λz w f A=>vl (A1 (f+1)) λg=>N6 L n z w g c d)))) (cond (not (ltI (bAt b a) (65:Int))) (Fr b a (bAt b a) (not (ltI 90 (bAt b a))) e (λ_=>c ()) (λp h i B=>vl (A1 (i+1)) λj=>N6 L n p h j c d)) (Fr b a (bAt b a) false e (λ_=>c ()) (λq l m C=>vl (A1 (m+1)) λo=>N6 L n q l o c d)))) none) (d b)
theorem A73(a:Code)(d:AH (R:=R) L Q Y s a)(b:AI (R:=R) L Q Y s a)(n:Nat)(c:By)(f e:Int):E7 0 ((Ab L).keep 2) (bd (Ab L) Q Y (cd [1,0,1,0,0] (K4 [1,0,1,0,0,1,1,0,0,1,1,1] a Oc))) n ⟨gp [(0,pS c),(6,pI f),(0,pI e)] 33,[],s⟩ k =
 N6 L n c f e (λ_=>k .ret ⟨gp [(2,pB false)] 39,[],s⟩) (λc=>k (.exit 0) ⟨gp [(0,pS c)] 41,[],s⟩):=by
 induction n generalizing c f e with
 | zero=>rfl
 | succ n h=>rw[N6];exact let g:=(F9 1 (G6 (Ab L) Q Y (cd [1,0,1,0,0,1,1,1] Oc) (lpK 0 ((Ab L).keep 2) (bd (Ab L) Q Y (cd [1,0,1,0,0] (K4 [1,0,1,0,0,1,1,0,0,1,1,1] a Oc))) n k)));(j8 (by kernel_rfl) (A0 (A0 (A0 (A0 ((d g c e (bAt c e) f).trans (congr rfl (fx3 λx r t=>(j8 (by kernel_rfl) (h x r (A1 (t+1))))))) (A0 ((b g c e (bAt c e) (not (ltI 90 (bAt c e))) f).trans (congr (congr rfl (by kernel_rfl)) (fx4 λy u v H=>(j8 (by kernel_rfl) (h y u (A1 (v+1))))))) ((b g c e (bAt c e) false f).trans (congr (congr rfl (by kernel_rfl)) (fx4 λz w D A=>(j8 (by kernel_rfl) (A7 λi=>(h z w i)))))))) (A0 ((b g c e (bAt c e) (not (ltI 90 (bAt c e))) f).trans (congr (congr rfl (by kernel_rfl)) (fx4 λp j F B=>(j8 (by kernel_rfl) (A7 λl=>(h p j l)))))) ((b g c e (bAt c e) false f).trans (congr (congr rfl (by kernel_rfl)) (fx4 λq m G C=>(j8 (by kernel_rfl) (A7 λo=>(h q m o)))))))) rfl) rfl))
noncomputable def Cf6{R:Type}(L:Nat)(c:By)(b:Bool->Option R):Option R:=N6 L L c (c.length:Int) 0 (λ_=>b false) (λa=>b (not (a==[])))
theorem Cy5(a:Code)(b:AH (R:=PV × List Blk × W) L Q Y s a)(c:AI (R:=PV × List Blk × W) L Q Y s a)(d:By):A9 (Ab L) Q Y (cd [] (K4 [1,0,1,0,0,1,1,0,0,1,1,1] a Oc)) ⟨[pS d]++tps 41,[],s⟩ (I1 (Ab L) an1)=Cf6 L d (λe=>some (pB e,[],s)):=by unfold Cf6;exact(j8 (by kernel_rfl) ((A73 L Q Y s (F9 0 (G6 (Ab L) Q Y (cd [1,1] Oc) (I1 (Ab L) an1))) a b c L d (d.length:Int) 0).trans (by kernel_rfl)))
theorem Cy6(d:Nat)(s0):evC (Ab L) (d+1) W Y 65 [pS s0] [] s=Cf6 L s0 (λa=>some (pB a,[],s)):=
 (evE (fn:=an1) (by kernel_rfl)).trans (j8 (by kernel_rfl) (Cy5 L (evC (Ab L) d) Y s (cd [1,0,1,0,0,1,1,0,0,1,1,1] Oc) (A71 L (evC (Ab L) d) Y s) (A72 L (evC (Ab L) d) Y s) s0))
noncomputable abbrev B25:Code:=E0 ao5
noncomputable def Su(L:Nat):Cfg:=C8 L [113] (A4 [(3,[0,1,0,0,2,0])]) [] (A4 [(9,[2,0]),(8,[0,3,2,0]),(7,[0,3,2,0]),(6,[2,0]),(5,[0,3,0,1,0,11]),(4,[0,3,0,1,0]),(3,[0,3,2,0,0]),(2,[0,3,2,0]),(1,[0,3]),(0,[0])]) [] (A4 [(0,[4]),(1,[0,3,2,0])]) (some [2,0]) [] [] []
noncomputable def Mx{R:Type}(L n:Nat)(b:By)(h j a:Int)(d:Unit->Option R)(i:Int->Option R):Option R:=match n with|0=>none|n+1=>cond (ltI a j) (cond (inR a b.length) (cond (ltI (bAt b a) (48:Int)) (d ()) (cond (inR a b.length) (cond (ltI 57 (bAt b a)) (d ()) (vl (A1 ((10:Int)*(if ((0:Int) > h) then (0:Int) else h))) λe=>cond (inR a b.length) (vl (wu8 ((bAt b a)-48)) λf=>vl (A1 (e+(A1 f))) λc=>vl (if ((65536:Int)<c) then (65536:Int) else c) λg=>Mx L n b g j (A1 (a+1)) d i) none)) none)) none) (i h)
theorem A66(n s0 n1 n2 n3):E7 0 ((Su L).keep 3) (bd (Su L) Q Y (cd [1,1,0,1,0,0] B25)) n ⟨gp [(0,pS s0),(3,pI n1),(2,pI n2),(0,pI n3)] 26,[],s⟩ k =
 Mx L n s0 n1 n2 n3 (λ_=>k .ret ⟨gp [(2,pI (0:Int)),(0,pB false)] 31,[],s⟩) (λn0=>k (.exit 0) ⟨gp [(4,pI n0)] 30,[],s⟩):=by
 induction n generalizing s0 n1 n2 n3 with
 | zero=>rfl
 | succ n a=>rw[Mx];simp only[<-a];kernel_rfl
noncomputable def Cy1{R:Type}(L:Nat)(c:By)(b:Int->Bool->Option R):Option R:=Mx L L c (-1) (c.length:Int) 0 (λ_=>b 0 false) (λa=>b a (ltI a 65536))
theorem Cy2(d:Nat)(s0):evC (Su L) (d+1) W Y 113 [pS s0] [] s=Cy1 L s0 (λa b=>some (.tup [pI a,pB b],[],s)):=by refine(evE (fn:=ao5) (by kernel_rfl)).trans ?_;generalize evC (Su L) d=Q;unfold Cy1;exact(j8 (by kernel_rfl) ((A66 L Q Y s (F9 0 (G6 (Su L) Q Y (cd [1,1,1] B25) (I1 (Su L) ao5))) L s0 (-1) (s0.length:Int) 0).trans (by kernel_rfl)))
noncomputable abbrev Bv:Code:=E0 an2
noncomputable def X4(L:Nat):Cfg:=C8 L [70] (A4 []) [(111,CP),(69,DY),(104,Ua),(112,XW),(114,B07),(113,B09),(41,QY)] (A4 [(24,[4,0]),(23,[2,1]),(22,[2,1,8,71]),(21,[2,1,8]),(20,[4,0]),(19,[2,1,6,1,63]),(18,[2,1,6,1,0]),(17,[4,0]),(16,[2,1,3,2,0,54]),(15,[2,1,3,2,0]),(14,[4,0]),(13,[2,1,2,0,50]),(9,[2,1,2,0]),(8,[4,0]),(7,[1,0,1,4,23]),(6,[1,0,1,4]),(12,[2,1,2,0]),(11,[1,0,1,2,0,1,35]),(10,[1,0,1,2,0,1]),(5,[1,0,1,2,0,20]),(4,[1,0,1,2,0]),(3,[1,0,1]),(2,[1,0,1,1,11]),(1,[1,0,1,1]),(0,[1,0,1])]) [111,69,104,114,113,41] (A4 []) (some [4,0]) [] [] []
noncomputable def V6{R:Type}(d e g h:By)(r:Int)(v:By)(t p u i j l m n o f:Int)(c:By)(q:Int->Blk->By->By->Int->By->Int->Int->Int->Int->Int->Int->Int->Int->Int->Int->By->(List Blk)->Option R):Option R:=cond (A3 d.length) (vl (J6 d) λa=>cond ((↑(a).2:Int)!=0) (q (↑(a).2:Int) (bU g h r v t p u i j l m n o f c) ([]:List UInt8) ([]:List UInt8) 0 ([]:List UInt8) 0 0 0 0 0 0 0 0 0 0 ([]:List UInt8) [(bH (↑(C3.kind (a).1):Int) (C3.name (a).1) (↑(C3.v4 (a).1):Int) (↑(j0 (C3.v6 (a).1) 0 0):Int) (↑(j0 (C3.v6 (a).1) 1 0):Int) (↑(j0 (C3.v6 (a).1) 2 0):Int) (↑(j0 (C3.v6 (a).1) 3 0):Int) (↑(j0 (C3.v6 (a).1) 4 0):Int) (↑(j0 (C3.v6 (a).1) 5 0):Int) (↑(j0 (C3.v6 (a).1) 6 0):Int) (↑(j0 (C3.v6 (a).1) 7 0):Int))]) (cond (A3 e.length) (vl (Hb e ([58]:List UInt8)) λb=>cond (A3 b.length) (cond (not (ao0 (Wa ((-1):Int) b))) (q 16 (bU g h r v t p u i j l m n o f c) ([]:List UInt8) ([]:List UInt8) 0 ([]:List UInt8) 0 0 0 0 0 0 0 0 0 0 ([]:List UInt8) [(bH (↑(C3.kind (a).1):Int) (C3.name (a).1) (↑(C3.v4 (a).1):Int) (↑(j0 (C3.v6 (a).1) 0 0):Int) (↑(j0 (C3.v6 (a).1) 1 0):Int) (↑(j0 (C3.v6 (a).1) 2 0):Int) (↑(j0 (C3.v6 (a).1) 3 0):Int) (↑(j0 (C3.v6 (a).1) 4 0):Int) (↑(j0 (C3.v6 (a).1) 5 0):Int) (↑(j0 (C3.v6 (a).1) 6 0):Int) (↑(j0 (C3.v6 (a).1) 7 0):Int))]) (cond ((CJ b)!=(He g)) (q 0 (bU g h (↑(C3.kind (a).1):Int) (C3.name (a).1) (↑(C3.v4 (a).1):Int) (↑(j0 (C3.v6 (a).1) 0 0):Int) (↑(j0 (C3.v6 (a).1) 1 0):Int) (↑(j0 (C3.v6 (a).1) 2 0):Int) (↑(j0 (C3.v6 (a).1) 3 0):Int) (↑(j0 (C3.v6 (a).1) 4 0):Int) (↑(j0 (C3.v6 (a).1) 5 0):Int) (↑(j0 (C3.v6 (a).1) 6 0):Int) (↑(j0 (C3.v6 (a).1) 7 0):Int) (CJ b) c) g h (↑(C3.kind (a).1):Int) (C3.name (a).1) (↑(C3.v4 (a).1):Int) (↑(j0 (C3.v6 (a).1) 0 0):Int) (↑(j0 (C3.v6 (a).1) 1 0):Int) (↑(j0 (C3.v6 (a).1) 2 0):Int) (↑(j0 (C3.v6 (a).1) 3 0):Int) (↑(j0 (C3.v6 (a).1) 4 0):Int) (↑(j0 (C3.v6 (a).1) 5 0):Int) (↑(j0 (C3.v6 (a).1) 6 0):Int) (↑(j0 (C3.v6 (a).1) 7 0):Int) (CJ b) c [(bH (↑(C3.kind (a).1):Int) (C3.name (a).1) (↑(C3.v4 (a).1):Int) (↑(j0 (C3.v6 (a).1) 0 0):Int) (↑(j0 (C3.v6 (a).1) 1 0):Int) (↑(j0 (C3.v6 (a).1) 2 0):Int) (↑(j0 (C3.v6 (a).1) 3 0):Int) (↑(j0 (C3.v6 (a).1) 4 0):Int) (↑(j0 (C3.v6 (a).1) 5 0):Int) (↑(j0 (C3.v6 (a).1) 6 0):Int) (↑(j0 (C3.v6 (a).1) 7 0):Int))]) (q 0 (bU g h (↑(C3.kind (a).1):Int) (C3.name (a).1) (↑(C3.v4 (a).1):Int) (↑(j0 (C3.v6 (a).1) 0 0):Int) (↑(j0 (C3.v6 (a).1) 1 0):Int) (↑(j0 (C3.v6 (a).1) 2 0):Int) (↑(j0 (C3.v6 (a).1) 3 0):Int) (↑(j0 (C3.v6 (a).1) 4 0):Int) (↑(j0 (C3.v6 (a).1) 5 0):Int) (↑(j0 (C3.v6 (a).1) 6 0):Int) (↑(j0 (C3.v6 (a).1) 7 0):Int) f c) g h (↑(C3.kind (a).1):Int) (C3.name (a).1) (↑(C3.v4 (a).1):Int) (↑(j0 (C3.v6 (a).1) 0 0):Int) (↑(j0 (C3.v6 (a).1) 1 0):Int) (↑(j0 (C3.v6 (a).1) 2 0):Int) (↑(j0 (C3.v6 (a).1) 3 0):Int) (↑(j0 (C3.v6 (a).1) 4 0):Int) (↑(j0 (C3.v6 (a).1) 5 0):Int) (↑(j0 (C3.v6 (a).1) 6 0):Int) (↑(j0 (C3.v6 (a).1) 7 0):Int) f c [(bH (↑(C3.kind (a).1):Int) (C3.name (a).1) (↑(C3.v4 (a).1):Int) (↑(j0 (C3.v6 (a).1) 0 0):Int) (↑(j0 (C3.v6 (a).1) 1 0):Int) (↑(j0 (C3.v6 (a).1) 2 0):Int) (↑(j0 (C3.v6 (a).1) 3 0):Int) (↑(j0 (C3.v6 (a).1) 4 0):Int) (↑(j0 (C3.v6 (a).1) 5 0):Int) (↑(j0 (C3.v6 (a).1) 6 0):Int) (↑(j0 (C3.v6 (a).1) 7 0):Int))]))) none) none)) none
abbrev Pn(b:Code):Prop:=∀(k:Out->St W->Option R) name0 tail1 b2 l s4 n5 s6 i h j a c d e f g n16 s17,A9 (X4 L) Q Y b ⟨gp [(2,.ptr 0 0 0),(1,.ptr 1 0 0),(2,pS name0),(0,pS tail1),(50,pB b2)] 29,[(bU l s4 n5 s6 i h j a c d e f g n16 s17),bU0],s⟩ k=V6 name0 tail1 l s4 n5 s6 i h j a c d e f g n16 s17 (λn0 o r l p t q i h j a c d e f g n m=>k .ret ⟨gp [(4,.ptr 1 0 0),(0,pI n0)] 83,(o::(bU r l p t q i h j a c d e f g n)::m),s⟩)
theorem Xg:Pn (R:=R) L Q Y s (cd [1,1,1,1,1] Bv):=by intro k a b m q r n t o j p c d e f g h i l;unfold V6;kernel_rfl
noncomputable def P8{R:Type}(b a s2 s3:By)(n4:Int)(s5:By)(n6 n7 i n9 c d e f g h:Int)(j:By)(k0:Int->Blk->By->By->Int->By->Int->Int->Int->Int->Int->Int->Int->Int->Int->Int->By->(List Blk)->Option R):Option R:=cond (not (a==[])) (cond (inR 0 a.length) (cond ((bAt a (0:Int))!=58) (k0 4 (bU s2 s3 n4 s5 n6 n7 i n9 c d e f g h j) ([]:List UInt8) ([]:List UInt8) 0 ([]:List UInt8) 0 0 0 0 0 0 0 0 0 0 ([]:List UInt8) []) (V6 b a s2 s3 n4 s5 n6 n7 i n9 c d e f g h j (λp l S T q U r t u v w x y z A B V n=>k0 p l S T q U r t u v w x y z A B V n))) none) (V6 b a s2 s3 n4 s5 n6 n7 i n9 c d e f g h j (λC m X Z D a0 F G H I J K M N O P a1 o=>k0 C m X Z D a0 F G H I J K M N O P a1 o))
abbrev Po(b:Code):Prop:=∀(k:Out->St W->Option R) name0 tail1 o p j q l m h n a c d e f g i,A9 (X4 L) Q Y b ⟨gp [(2,.ptr 0 0 0),(1,.ptr 1 0 0),(2,pS name0),(0,pS tail1)] 80,[(bU o p j q l m h n a c d e f g i),bU0],s⟩ k=P8 name0 tail1 o p j q l m h n a c d e f g i (λn0 t o p j q l m h n a c d e f g i r=>k .ret ⟨gp [(4,.ptr 1 0 0),(0,pI n0)] 83,(t::(bU o p j q l m h n a c d e f g i)::r),s⟩)
theorem XB(b:Code)(a:Pn (R:=R) L Q Y s b):Po (R:=R) L Q Y s (cd [1,1,1,1] (K4 [1,1,1,1,1] b Bv)):=by intro k d c r t n u o p l q e f g h i j m;unfold P8;exact(j8 (by kernel_rfl) (A0 (A0 (A0 rfl ((a k d c ((bAt c (0:Int))!=58) r t n u o p l q e f g h i j m).trans (by kernel_rfl))) rfl) ((a k d c false r t n u o p l q e f g h i j m).trans (by kernel_rfl))))
theorem XC:Po (R:=R) L Q Y s (cd [1,1,1,1] Bv):=by intro k a b p q l r m n i o c d e f g h j;exact j8 (by kernel_rfl) (XB L Q Y s (cd [1,1,1,1,1] Bv) (Xg L Q Y s) k a b p q l r m n i o c d e f g h j)
noncomputable def Re{R:Type}(a J K:By)(G:Int)(M:By)(H C I v w x y z A B:Int)(D:By)(F:Int->Blk->By->By->Int->By->Int->Int->Int->Int->Int->Int->Int->Int->Int->Int->By->(List Blk)->Option R):Option R:=V6 a ([]:List UInt8) J K G M H C I v w x y z A B D (λd b q r e t f g h i j l m n o p u c=>F d b q r e t f g h i j l m n o p u c)
abbrev Pp(b:Code):Prop:=∀(k:Out->St W->Option R) authority0 kk1 b2 l s4 n5 s6 i h j a c d e f g n16 s17,A9 (X4 L) Q Y b ⟨gp [(1,pS authority0),(0,.ptr 0 0 0),(1,.ptr 1 0 0),(2,pS authority0),(0,pS ([]:List UInt8)),(1,pI kk1),(35,pB b2)] 42,[(bU l s4 n5 s6 i h j a c d e f g n16 s17),bU0],s⟩ k=Re authority0 l s4 n5 s6 i h j a c d e f g n16 s17 (λn0 o r l p t q i h j a c d e f g n m=>k .ret ⟨gp [(4,.ptr 1 0 0),(0,pI n0)] 83,(o::(bU r l p t q i h j a c d e f g n)::m),s⟩)
theorem XD(c:Code)(a:Pn (R:=R) L Q Y s c):Pp (R:=R) L Q Y s (cd [1,1,1,1] (K4 [1,1,1,1,1] c Bv)):=by intro k b n v r t o u p l q d e f g h i j m;unfold Re;exact(j8 (by kernel_rfl) ((a k b ([]:List UInt8) false r t o u p l q d e f g h i j m).trans (by kernel_rfl)))
theorem XE:Pp (R:=R) L Q Y s (cd [1,1,1,1] Bv):=by intro k a b m q r n t o j p c d e f g h i l;exact j8 (by kernel_rfl) (XD L Q Y s (cd [1,1,1,1,1] Bv) (Xg L Q Y s) k a b m q r n t o j p c d e f g h i l)
noncomputable def Tq{R:Type}(L:Nat)(u0 u1:By)(u2:Int)(u3:By)(u4 u5 u6 u7 u8 u9 e f g h:Int)(i a:By)(k0:By->By->Int->By->Int->Int->Int->Int->Int->Int->Int->Int->Int->Int->By->Int->(List Blk)->Option R):Option R:=cond (A3 a.length) (vl (L7 (u8n (64:Int)) a) λc2=>cond (not (ltI c2 0)) (cond (K5 0 c2 a.length) (vl (cut a 0 c2) λe5=>cond (K5 (A1 (c2+1)) (a.length:Int) a.length) (vl (cut a (A1 (c2+1)) (a.length:Int)) λb=>cond (A3 b.length) (cond (aa6 ([91]:List UInt8) b) (cond (A3 b.length) (vl (aa3 b (u8n (93:Int))) λJ=>cond (ltI J 0) (k0 ([]:List UInt8) ([]:List UInt8) 0 ([]:List UInt8) 0 0 0 0 0 0 0 0 0 0 ([]:List UInt8) 4 [(bU u0 e5 u2 u3 u4 u5 u6 u7 u8 u9 e f g h i),bU0]) (vl (A1 (J+1)) λe6=>cond (K5 0 e6 b.length) (vl (A1 (J+1)) λe7=>cond (K5 e7 (b.length:Int) b.length) (vl (cut b e7 (b.length:Int)) λi3=>P8 (cut b 0 e6) i3 u0 e5 u2 u3 u4 u5 u6 u7 u8 u9 e f g h i (λi2 i1 g1 g2 f0 g3 f1 f2 f3 f4 f5 f6 f7 f8 f9 g0 g4 h0=>k0 g1 g2 f0 g3 f1 f2 f3 f4 f5 f6 f7 f8 f9 g0 g4 i2 (i1::((bU g1 g2 f0 g3 f1 f2 f3 f4 f5 f6 f7 f8 f9 g0 g4)::h0)))) none) none)) none) (cond (A3 b.length) (vl (aa3 b (u8n (58:Int))) λc=>cond (not (ltI c 0)) (cond (K5 0 c b.length) (cond (K5 c (b.length:Int) b.length) (vl (cut b c (b.length:Int)) λi4=>P8 (cut b 0 c) i4 u0 e5 u2 u3 u4 u5 u6 u7 u8 u9 e f g h i (λh6 g5 c3 c4 j c5 l m n o p q r t u v c6 h1=>k0 c3 c4 j c5 l m n o p q r t u v c6 h6 (g5::((bU c3 c4 j c5 l m n o p q r t u v c6)::h1)))) none) none) (Re b u0 e5 u2 u3 u4 u5 u6 u7 u8 u9 e f g h i (λh7 g6 c7 c8 w d0 x y z A B C D F G H d1 h2=>k0 c7 c8 w d0 x y z A B C D F G H d1 h7 (g6::((bU c7 c8 w d0 x y z A B C D F G H d1)::h2))))) none)) none) none) none) (cond (A3 a.length) (cond (aa6 ([91]:List UInt8) a) (cond (A3 a.length) (vl (aa3 a (u8n (93:Int))) λc1=>cond (ltI c1 0) (k0 ([]:List UInt8) ([]:List UInt8) 0 ([]:List UInt8) 0 0 0 0 0 0 0 0 0 0 ([]:List UInt8) 4 [(bU u0 u1 u2 u3 u4 u5 u6 u7 u8 u9 e f g h i),bU0]) (vl (A1 (c1+1)) λe8=>cond (K5 0 e8 a.length) (vl (cut a 0 e8) λi5=>vl (A1 (c1+1)) λe9=>cond (K5 e9 (a.length:Int) a.length) (vl (cut a e9 (a.length:Int)) λi6=>P8 i5 i6 u0 u1 u2 u3 u4 u5 u6 u7 u8 u9 e f g h i (λh8 g7 d2 d3 I d4 K M N O P S T U V X d5 h3=>k0 d2 d3 I d4 K M N O P S T U V X d5 h8 (g7::((bU d2 d3 I d4 K M N O P S T U V X d5)::h3)))) none) none)) none) (cond (A3 a.length) (vl (aa3 a (u8n (58:Int))) λd=>cond (not (ltI d 0)) (cond (K5 0 d a.length) (vl (cut a 0 d) λi7=>cond (K5 d (a.length:Int) a.length) (vl (cut a d (a.length:Int)) λi9=>P8 i7 i9 u0 u1 u2 u3 u4 u5 u6 u7 u8 u9 e f g h i (λh9 g8 d6 d7 Z d8 a0 a1 a2 a3 a4 a5 a6 a7 a8 a9 d9 h4=>k0 d6 d7 Z d8 a0 a1 a2 a3 a4 a5 a6 a7 a8 a9 d9 h9 (g8::((bU d6 d7 Z d8 a0 a1 a2 a3 a4 a5 a6 a7 a8 a9 d9)::h4)))) none) none) (Re a u0 u1 u2 u3 u4 u5 u6 u7 u8 u9 e f g h i (λi0 g9 e1 e2 b0 e3 b1 b2 b3 b4 b5 b6 b7 b8 b9 c0 e4 h5=>k0 e1 e2 b0 e3 b1 b2 b3 b4 b5 b6 b7 b8 b9 c0 e4 i0 (g9::((bU e1 e2 b0 e3 b1 b2 b3 b4 b5 b6 b7 b8 b9 c0 e4)::h5))))) none)) none)) none
theorem Bw3(d:Code)(a:Po (R:=PV × List Blk × W) L Q Y s d)(c:Pp (R:=PV × List Blk × W) L Q Y s d)(m G:By)(n:Int)(o:By)(p q r t u8 u e f g h:Int)(i b:By):A9 (X4 L) Q Y (cd [] (K4 [1,1,1,1] d Bv)) ⟨[(gU m G n o p q r t u8 u e f g h i),pS b]++tps 87,[],s⟩ (I1 (X4 L) an2)=Tq L m G n o p q r t u8 u e f g h i b (λZ r1 r2 r3 r4 r5 r6 r7 r8 r9 I J K M N O H=>some (.tup [(gU Z r1 r2 r3 r4 r5 r6 r7 r8 r9 I J K M N),pI O],H,s)):=by unfold Tq;exact let x:=(I1 (X4 L) an2);(j8 (by kernel_rfl) (A0 (A7 λX=>(A0 (A0 (A7 λv=>(A0 (A7 λw=>(A0 (A0 (A0 (A7 λP=>(A0 rfl (A7 λy=>(A0 (A7 λS=>(A0 (A7 λz=>((a x (cut w 0 y) z m v n o p q r t u8 u e f g h i).trans (by kernel_rfl))) rfl)) rfl)))) rfl) (A0 (A7 λj=>(A0 (A0 (A0 (A7 λA=>((a x (cut w 0 j) A m v n o p q r t u8 u e f g h i).trans (by kernel_rfl))) rfl) rfl) ((c x w j (not (ltI j 0)) m v n o p q r t u8 u e f g h i).trans (by kernel_rfl)))) rfl)) rfl)) rfl)) rfl) (A0 (A0 (A0 (A7 λT=>(A0 rfl (A7 λU=>(A0 (A7 λB=>(A7 λV=>(A0 (A7 λC=>((a x B C m G n o p q r t u8 u e f g h i).trans (by kernel_rfl))) rfl))) rfl)))) rfl) (A0 (A7 λl=>(A0 (A0 (A7 λD=>(A0 (A7 λF=>((a x D F m G n o p q r t u8 u e f g h i).trans (by kernel_rfl))) rfl)) rfl) ((c x b l (not (ltI l 0)) m G n o p q r t u8 u e f g h i).trans (by kernel_rfl)))) rfl)) rfl))) rfl))
theorem Bw4(d:Nat)(u0 u1 u2 u3 u4 u5 u6 u7 u8 u9 u10 u11 u12 u13 u14 authority15):evC (X4 L) (d+1) W Y 70 [(gU u0 u1 u2 u3 u4 u5 u6 u7 u8 u9 u10 u11 u12 u13 u14),pS authority15] [] s=Tq L u0 u1 u2 u3 u4 u5 u6 u7 u8 u9 u10 u11 u12 u13 u14 authority15 (λi j l m n o p q r8 r b c e f g h a=>some (.tup [(gU i j l m n o p q r8 r b c e f g),pI h],a,s)):=
 (evE (fn:=an2) (by kernel_rfl)).trans (j8 (by kernel_rfl) (Bw3 L (evC (X4 L) d) Y s (cd [1,1,1,1] Bv) (XC L (evC (X4 L) d) Y s) (XE L (evC (X4 L) d) Y s) u0 u1 u2 u3 u4 u5 u6 u7 u8 u9 u10 u11 u12 u13 u14 authority15))
noncomputable abbrev B26:Code:=E0 aq6
noncomputable def Sv(L:Nat):Cfg:=C8 L [39] (A4 [(2,[0,1,0,8,0])]) [(64,Am4),(65,B15),(66,EG),(21,Pz),(67,Al2),(68,QR),(69,DY),(70,YD)] (A4 [(23,[2,0]),(22,[2,5,0]),(21,[2,5,0,65]),(20,[2,5,0]),(19,[2,3,1,0]),(18,[2,3,1,0,0,52]),(17,[2,3,1,0,0]),(16,[2,3,1,0]),(15,[2,0]),(14,[2,3,1,48]),(13,[2,3,0,0]),(12,[2,0]),(11,[2,3,1,40]),(10,[2,3,1]),(9,[2,0]),(8,[2,2,0,33]),(7,[2,2,0,0]),(6,[0,1,9,0]),(5,[2,0]),(4,[0,1,9,0,11]),(3,[0,1,1,7,0]),(2,[0,1,9,0,0]),(1,[0,1,9,0]),(0,[0,1])]) [64,65,66,21,67,68,69] (A4 [(0,[0,1]),(1,[0,1,9,0])]) (some [2,0]) [] [] []
noncomputable def Jf{R:Type}(L n:Nat)(b:By)(e a:Int)(c:(List Blk)->Option R)(d:By->Option R):Option R:=match n with|0=>none|n+1=>cond (ltI a e) (cond (inR a b.length) (cond (not (ltI 32 (bAt b a))) (c []) (cond (inR a b.length) (cond ((bAt b a)==127) (c []) (Jf L n b e (A1 (a+1)) c d)) none)) none) (d b)
theorem A70(n a n1 n2):E7 1 ((Sv L).keep 2) (bd (Sv L) Q Y (cd [1,0,1,0,0] B26)) n ⟨gp [(0,pS a),(1,.ptr 0 0 0),(9,pI n1),(0,pI n2)] 71,[bU0],s⟩ k =
 Jf L n a n1 n2 (λb=>k .ret ⟨gp [(2,.ptr 0 0 0),(0,pI (4:Int))] 81,(bU0::b),s⟩) (λa=>k (.exit 0) ⟨gp [(0,pS a),(1,.ptr 0 0 0)] 82,[bU0],s⟩):=by
 induction n generalizing a n1 n2 with
 | zero=>rfl
 | succ n c=>rw[Jf];simp only[<-c];kernel_rfl
noncomputable def KT{R:Type}(L:Nat)(q:By)(n:By->By->Int->By->Int->Int->Int->Int->Int->Int->Int->Int->Int->Int->By->Int->(List Blk)->Option R):Option R:=Jf L L q (q.length:Int) 0 (λp=>n ([]:List UInt8) ([]:List UInt8) 0 ([]:List UInt8) 0 0 0 0 0 0 0 0 0 0 ([]:List UInt8) 4 (bU0::p)) (λo=>cond (A3 o.length) (vl ((w8 o ([58]:List UInt8))).1 λf=>vl (((w8 o ([58]:List UInt8))).2).1 λj=>cond (not (((w8 o ([58]:List UInt8))).2).2) (n ([]:List UInt8) ([]:List UInt8) 0 ([]:List UInt8) 0 0 0 0 0 0 0 0 0 0 ([]:List UInt8) 15 [bU0]) (cond (A3 f.length) (cond (not (Dq f)) (n ([]:List UInt8) ([]:List UInt8) 0 ([]:List UInt8) 0 0 0 0 0 0 0 0 0 0 ([]:List UInt8) 15 [bU0]) (cond (A3 f.length) (cond (not (G3 (D3 f))) (n (D3 f) ([]:List UInt8) 0 ([]:List UInt8) 0 0 0 0 0 0 0 0 0 (-1) j 0 [(bU (D3 f) ([]:List UInt8) (0:Int) ([]:List UInt8) (0:Int) (0:Int) (0:Int) (0:Int) (0:Int) (0:Int) (0:Int) (0:Int) (0:Int) ((-1):Int) j),(bU (D3 f) ([]:List UInt8) (0:Int) ([]:List UInt8) (0:Int) (0:Int) (0:Int) (0:Int) (0:Int) (0:Int) (0:Int) (0:Int) (0:Int) ((-1):Int) j)]) (cond (A3 j.length) (vl (Hb j ([47,47]:List UInt8)) λe=>cond (not (aa6 ([47,47]:List UInt8) j)) (n ([]:List UInt8) ([]:List UInt8) 0 ([]:List UInt8) 0 0 0 0 0 0 0 0 0 0 ([]:List UInt8) 4 [bU0,(bU (D3 f) ([]:List UInt8) (0:Int) ([]:List UInt8) (0:Int) (0:Int) (0:Int) (0:Int) (0:Int) (0:Int) (0:Int) (0:Int) (0:Int) ((-1):Int) j)]) (cond (A3 e.length) (cond (Zn ([47,63,35]:List UInt8)) (vl (ad9 e ([47,63,35]:List UInt8)) λi=>cond (not (ltI i 0)) (cond (K5 0 i e.length) (cond (K5 (↑(j4 (cut e 0 i)):Int) (e.length:Int) e.length) (vl (cut e (↑(j4 (cut e 0 i)):Int) (e.length:Int)) λg=>cond (A3 g.length) (cond (not (aa6 ([47]:List UInt8) g)) (cond (J7 1 g.length) (vl (([47]:List UInt8)++g) λl=>cond (A3 (j4 (D3 f))) (cond (A3 l.length) (cond (A3 (j4 (cut e 0 i))) (cond (((-1):Int)==((-1):Int)) (vl (I3 (D3 f) l (cut e 0 i)) λa=>n (uS a) (uU a) (uK a) (uN a) (uV a) (uA a 0) (uA a 1) (uA a 2) (uA a 3) (uA a 4) (uA a 5) (uA a 6) (uA a 7) (uP a) (uR a) (uE a) [(bQ a),(bU (D3 f) ([]:List UInt8) (0:Int) ([]:List UInt8) (0:Int) (0:Int) (0:Int) (0:Int) (0:Int) (0:Int) (0:Int) (0:Int) (0:Int) ((-1):Int) l)]) none) none) none) none) none) (cond (A3 (j4 (D3 f))) (cond (A3 g.length) (cond (A3 (j4 (cut e 0 i))) (cond (((-1):Int)==((-1):Int)) (vl (I3 (D3 f) g (cut e 0 i)) λb=>n (uS b) (uU b) (uK b) (uN b) (uV b) (uA b 0) (uA b 1) (uA b 2) (uA b 3) (uA b 4) (uA b 5) (uA b 6) (uA b 7) (uP b) (uR b) (uE b) [(bQ b),(bU (D3 f) ([]:List UInt8) (0:Int) ([]:List UInt8) (0:Int) (0:Int) (0:Int) (0:Int) (0:Int) (0:Int) (0:Int) (0:Int) (0:Int) ((-1):Int) g)]) none) none) none) none)) none) none) none) (cond (K5 (e.length:Int) (e.length:Int) e.length) (vl (cut e (e.length:Int) (e.length:Int)) λh=>cond (A3 h.length) (cond (not (aa6 ([47]:List UInt8) h)) (cond (J7 1 h.length) (vl (([47]:List UInt8)++h) λm=>cond (A3 (j4 (D3 f))) (cond (A3 m.length) (cond (A3 e.length) (cond (((-1):Int)==((-1):Int)) (vl (I3 (D3 f) m e) λc=>n (uS c) (uU c) (uK c) (uN c) (uV c) (uA c 0) (uA c 1) (uA c 2) (uA c 3) (uA c 4) (uA c 5) (uA c 6) (uA c 7) (uP c) (uR c) (uE c) [(bQ c),(bU (D3 f) ([]:List UInt8) (0:Int) ([]:List UInt8) (0:Int) (0:Int) (0:Int) (0:Int) (0:Int) (0:Int) (0:Int) (0:Int) (0:Int) ((-1):Int) m)]) none) none) none) none) none) (cond (A3 (j4 (D3 f))) (cond (A3 h.length) (cond (A3 e.length) (cond (((-1):Int)==((-1):Int)) (vl (I3 (D3 f) h e) λd=>n (uS d) (uU d) (uK d) (uN d) (uV d) (uA d 0) (uA d 1) (uA d 2) (uA d 3) (uA d 4) (uA d 5) (uA d 6) (uA d 7) (uP d) (uR d) (uE d) [(bQ d),(bU (D3 f) ([]:List UInt8) (0:Int) ([]:List UInt8) (0:Int) (0:Int) (0:Int) (0:Int) (0:Int) (0:Int) (0:Int) (0:Int) (0:Int) ((-1):Int) h)]) none) none) none) none)) none) none)) none) none)) none)) none)) none)) none)
theorem Cy3(d:Nat)(s0):evC (Sv L) (d+1) W Y 39 [pS s0] [] s=KT L s0 (λi j l m n o p q r8 r b c e f g h a=>some (.tup [(gU i j l m n o p q r8 r b c e f g),pI h],a,s)):=by refine(evE (fn:=aq6) (by kernel_rfl)).trans ?_;generalize evC (Sv L) d=Q;unfold KT;exact(j8 (by kernel_rfl) ((A70 L Q Y s (F9 0 (G6 (Sv L) Q Y (cd [1,1] B26) (I1 (Sv L) aq6))) L s0 (s0.length:Int) 0).trans (by kernel_rfl)))
noncomputable def GJ(L:Nat):Cfg:=C8 L [19] (A4 []) [(39,Am5)] (A4 [(3,[2,0]),(2,[2,0]),(1,[0,1,3]),(0,[0,1])]) [] (A4 []) (some [2,0]) [] [] []
noncomputable def XA{R:Type}(L:Nat)(b:By)(c:By->By->Int->By->Int->Int->Int->Int->Int->Int->Int->Int->Int->Int->By->Int->(List Blk)->Option R):Option R:=cond (ltI 2048 (b.length:Int)) (c ([]:List UInt8) ([]:List UInt8) 0 ([]:List UInt8) 0 0 0 0 0 0 0 0 0 0 ([]:List UInt8) 3 [bU0]) (cond (A3 b.length) (vl (G1 b) λa=>c (uS a) (uU a) (uK a) (uN a) (uV a) (uA a 0) (uA a 1) (uA a 2) (uA a 3) (uA a 4) (uA a 5) (uA a 6) (uA a 7) (uP a) (uR a) (uE a) [(bQ a)]) none)
theorem Bw1(d:Nat)(s0):evC (GJ L) (d+1) W Y 19 [pS s0] [] s=XA L s0 (λi j l m n o p q r8 r b c e f g h a=>some (.tup [(gU i j l m n o p q r8 r b c e f g),pI h],a,s)):=by refine(evE (fn:=Tryz.f19) (by kernel_rfl)).trans ?_;generalize evC (GJ L) d=Q;unfold XA;kernel_rfl
noncomputable def SP(L:Nat):Cfg:=C8 L [73] (A4 []) [(21,Pz),(17,DW),(61,A98)] (A4 [(9,[2]),(8,[1,1]),(7,[1,1,28]),(6,[1,1]),(5,[1,1]),(4,[1,1,15]),(3,[1,1]),(2,[2]),(1,[1,5]),(0,[1])]) [21,17,61] (A4 []) (some [2]) [] [] []
noncomputable def Rv{R:Type}(L:Nat)(l t:By)(u:Int)(m:By)(n o p q u8 r e f g b:Int)(a:By)(v:By->(List Blk)->Option R):Option R:=cond (not (G3 l)) (cond (J7 l.length 1) (vl (l++[58]) λw=>cond (J7 w.length a.length) (v (w++a) [(bU l t u m n o p q u8 r e f g b a)]) none) none) (cond (J7 l.length 3) (vl (l++[58,47,47]) λc=>cond (not (t==[])) (cond (J7 t.length 1) (vl (t++[64]) λh=>cond (J7 c.length h.length) (cond (A3 m.length) (cond (ltN n 4294967296) (cond (ok8 o p q u8 r e f g) (vl (Ai (mkH u m n (n8 o p q u8 r e f g))) λj=>cond (J7 (j4 (c++h)) j.length) (cond (b !=((-1):Int)) (cond (No b) (cond (J7 1 (j4 (Ng b))) (vl (([58]:List UInt8)++(Ng b)) λz=>cond (J7 (j4 ((c++h)++j)) z.length) (vl (((c++h)++j)++z) λA=>cond (J7 A.length a.length) (v (A++a) [(bU l t u m n o p q u8 r e f g b a)]) none) none) none) none) (cond (J7 (j4 ((c++h)++j)) a.length) (vl (((c++h)++j)++a) λx=>v x [(bU l t u m n o p q u8 r e f g b a)]) none)) none) none) none) none) none) none) (cond (A3 m.length) (cond (ltN n 4294967296) (cond (ok8 o p q u8 r e f g) (vl (Ai (mkH u m n (n8 o p q u8 r e f g))) λd=>cond (J7 c.length d.length) (cond (b !=((-1):Int)) (cond (No b) (cond (J7 1 (j4 (Ng b))) (vl (([58]:List UInt8)++(Ng b)) λi=>cond (J7 (j4 (c++d)) i.length) (cond (J7 (j4 ((c++d)++i)) a.length) (vl (((c++d)++i)++a) λy=>v y [(bU l t u m n o p q u8 r e f g b a)]) none) none) none) none) (cond (J7 (j4 (c++d)) a.length) (v ((c++d)++a) [(bU l t u m n o p q u8 r e f g b a)]) none)) none) none) none) none)) none)
theorem Cf8(d:Nat)(u0 u1 u2 u3 u4 u5 u6 u7 u8 u9 u10 u11 u12 u13 u14):evC (SP L) (d+1) W Y 73 [(gU u0 u1 u2 u3 u4 u5 u6 u7 u8 u9 u10 u11 u12 u13 u14)] [] s=Rv L u0 u1 u2 u3 u4 u5 u6 u7 u8 u9 u10 u11 u12 u13 u14 (λb a=>some (pS b,a,s)):=by refine(evE (fn:=Tryz.f73) (by kernel_rfl)).trans ?_;generalize evC (SP L) d=Q;unfold Rv;kernel_rfl
noncomputable def Yy(L:Nat):Cfg:=C8 L [42] (A4 []) [(73,Bb2),(39,Am5)] (A4 [(2,[2]),(1,[1,1,0]),(0,[1])]) [73] (A4 []) (some [2]) [] [] []
noncomputable def DM{R:Type}(L:Nat)(h i:By)(q:Int)(j:By)(l m n o u8 p b c d e:Int)(f:By)(r:Bool->(List Blk)->Option R):Option R:=cond (smU h i j f) (cond (ltN l 4294967296) (cond (ok8 m n o u8 p b c d) (cond (No e) (vl (Ey (mkU h i q j l (n8 m n o u8 p b c d) e f)) λg=>cond (A3 g.length) (vl (G1 g) λa=>cond ((uE a)==0) (r ((h==(uS a))&&((i==(uU a))&&((q==(uK a))&&((j==(uN a))&&((l==(uV a))&&((m==(uA a 0))&&((n==(uA a 1))&&((o==(uA a 2))&&((u8==(uA a 3))&&((p==(uA a 4))&&((b==(uA a 5))&&((c==(uA a 6))&&((d==(uA a 7))&&((e==(uP a))&&((f==(uR a))&&true))))))))))))))) [(bU h i q j l m n o u8 p b c d e f),(bQ a)]) (r false [(bU h i q j l m n o u8 p b c d e f),(bQ a)])) none) none) none) none) none
theorem A75(d:Nat)(u0 u1 u2 u3 u4 u5 u6 u7 u8 u9 u10 u11 u12 u13 u14):evC (Yy L) (d+1) W Y 42 [(gU u0 u1 u2 u3 u4 u5 u6 u7 u8 u9 u10 u11 u12 u13 u14)] [] s=DM L u0 u1 u2 u3 u4 u5 u6 u7 u8 u9 u10 u11 u12 u13 u14 (λb a=>some (pB b,a,s)):=by refine(evE (fn:=Tryz.f42) (by kernel_rfl)).trans ?_;generalize evC (Yy L) d=Q;unfold DM;kernel_rfl
end
section
variable {W R : Type} (L : Nat) (Q : F4) (Y : Yh W) (s : W) (k : Out -> St W -> Option R)
noncomputable def Yw(L:Nat):Cfg:=C8 L [107] (A4 []) [] (A4 [(1,[2]),(0,[0])]) [] (A4 []) (some [2]) [] [] []
noncomputable def WM{R:Type}(L:Nat)(a:Int)(b:Bool->Option R):Option R:=b (ltI (8:Int) a)
theorem A55(d:Nat)(a:Int):evC (Yw L) (d+1) W Y 107 [.s (.int .i64 a)] [] s=WM L a (λb=>some (.s (.bool b),[],s)):=by refine(evE (fn:=Tryz.f107) (by kernel_rfl)).trans ?_;generalize evC (Yw L) d=Q;unfold WM;kernel_rfl
noncomputable abbrev Uf:Code:=E0 am1
noncomputable def Bw(L:Nat):Cfg:=C8 L [138] (A4 []) [] (A4 [(5,[2]),(2,[2]),(4,[2]),(3,[10]),(1,[0,2]),(0,[0])]) [] (A4 [(0,[])]) (some [2]) [] [] []
noncomputable def Lg{R:Type}(a:Int)(d:Bool)(b:Unit->Option R)(c:Bool->Option R):Option R:=cond d (b ()) (cond (ltI (57343:Int) a) (cond (not (ltI (1114111:Int) a)) (b ()) (c (not (ltI (1114111:Int) a)))) (c false))
abbrev BZ(b:Code):Prop:=∀(k:Out->St W->Option R) (c:Int) (a:Bool),A9 (Bw L) Q Y b ⟨gp [(0,.s (.int .i32 c)),(2,.s (.bool a))] 13,[],s⟩ k=Lg c a (λ_=>k .ret ⟨gp [(2,.s (.bool true))] 14,[],s⟩) (λd=>k .normal ⟨gp [(10,.s (.bool d))] 6,[],s⟩)
theorem XF:BZ (R:=R) L Q Y s (cd [1,0,0,1] Uf):=by intro k b a;unfold Lg;kernel_rfl
noncomputable def JS{R:Type}(L:Nat)(b:Int)(a:Bool->Option R):Option R:=cond (not (ltI b (0:Int))) (Lg b (ltI b (55296:Int)) (λ_=>a true) (λc=>a false)) (Lg b false (λ_=>a true) (λd=>a false))
theorem Bw9(b:Code)(a:BZ (R:=PV × List Blk × W) L Q Y s b)(c:Int):A9 (Bw L) Q Y (cd [] (K4 [1,0,0,1] b Uf)) ⟨[.s (.int .i32 c)]++tps 16,[],s⟩ (I1 (Bw L) am1)=JS L c (λc=>some (.s (.bool c),[],s)):=by unfold JS;exact let d:=(F9 0 (G6 (Bw L) Q Y (cd [1,1] Uf) (I1 (Bw L) am1)));(j8 (by kernel_rfl) (A0 ((a d c (ltI c (55296:Int))).trans (by kernel_rfl)) ((a d c false).trans (by kernel_rfl))))
theorem Bx0(d:Nat)(a:Int):evC (Bw L) (d+1) W Y 138 [.s (.int .i32 a)] [] s=JS L a (λa=>some (.s (.bool a),[],s)):=
 (evE (fn:=am1) (by kernel_rfl)).trans (j8 (by kernel_rfl) (Bw9 L (evC (Bw L) d) Y s (cd [1,0,0,1] Uf) (XF L (evC (Bw L) d) Y s) a))
noncomputable abbrev Ag:Code:=E0 al9
noncomputable def L9(L:Nat):Cfg:=C8 L [106] (A4 [(38,[4,170]),(29,[0,3,2,0,0,4,0,0]),(25,[0,3,2,0,0,4,0]),(12,[0,3,2,0,0,2]),(5,[0,3,2,0,0])]) [(104,Ua),(138,FP)] (A4 [(35,[4]),(42,[4]),(41,[4]),(40,[5,169,5]),(39,[5,0,168]),(38,[175,0,0]),(37,[175]),(44,[4]),(33,[4]),(22,[4]),(21,[8,0,3,94]),(20,[8,0,3]),(26,[0,6,0,0,4,0]),(32,[4]),(30,[0,6,0,0,4,0,0]),(31,[0,6,0,0,4,0,0,139]),(29,[0,6,0,0,4,0,0,126]),(28,[0,6,0,0,4,0,0]),(27,[0,6,0,0,4,0,123]),(25,[0,6,0,0,4,0,108]),(24,[0,6,0,0,4,0]),(23,[0,6,0,0,4]),(19,[4]),(18,[0,6,0,0,88]),(17,[0,6,0,0,0]),(16,[0,6,0,0,0]),(15,[4]),(13,[0,6,0,0,2]),(14,[0,6,0,0,2,51]),(12,[0,6,0,0,2,38]),(11,[0,6,0,0,2]),(10,[0,6,0,0]),(9,[4]),(8,[0,6,0,0,1,31]),(7,[0,6,0,0,1]),(6,[0,6,0,0,23]),(5,[0,6,0,0,16]),(4,[0,6,0,0]),(3,[0,6,0,0]),(2,[0,6,0]),(1,[0,6]),(43,[0,0,181]),(36,[0,0,169]),(34,[0,0,158]),(0,[0,0])]) [104,138] (A4 [(0,[4]),(9,[]),(10,[175]),(5,[]),(6,[0,6,0,0,4,0]),(7,[8,0]),(8,[0,6,0,0,4,0,0]),(1,[]),(2,[0,6,0,0]),(3,[8,0]),(4,[0,6,0,0,2])]) (some [4]) [] [] []
noncomputable def Dj{R:Type}(L n:Nat)(self:Nat->Option R)(a:Nat)(c:Int->Nat->Option R)(d:Nat->Option R):Option R:=cond (decide (a<3)) (vl ((ad4 ⟨ad0 (([47,63,35]:List UInt8))⟩ a)).1 λb=>cond (b==(65533:Int)) (c (↑a:Int) (a+((ad4 ⟨ad0 (([47,63,35]:List UInt8))⟩ a)).2)) (self (a+((ad4 ⟨ad0 (([47,63,35]:List UInt8))⟩ a)).2))) (d a)
noncomputable def Z5{R:Type}(L n:Nat)(a:Nat)(b:Int->Nat->Option R)(c:Nat->Option R):Option R:=Cb0 (α:=Nat->Option R) (λ_=>none) (λn self a=>Dj L n self a b c) n a
theorem Eg{R:Type}(L n:Nat)(a:Nat)(b:Int->Nat->Option R)(c:Nat->Option R):Z5 L (n+1) a b c=Dj L n (λa=>Z5 L n a b c) a b c:=rfl
theorem WJ(n:Nat)(a:Nat):E7 1 ((L9 L).keep 38) (bd (L9 L) Q Y (cd [1,0,1,1,1,0,0,1,0,0] Ag)) n ⟨gp [(175,.it 0)] 11,[.iter (([47,63,35]:List UInt8)) a],s⟩ k =
 Z5 L n a (λn0 c=>k .ret ⟨gp [(4,.s (.int .i64 n0))] 182,[.iter (([47,63,35]:List UInt8)) c],s⟩) (λa=>k (.exit 9) ⟨gp [] 187,[.iter (([47,63,35]:List UInt8)) a],s⟩):=by
 induction n generalizing a with
 | zero=>rfl
 | succ n b=>rw[Eg];unfold Dj;exact(j8 (by kernel_rfl) (A0 (A7 λd=>(A0 rfl (b (a+((ad4 ⟨ad0 (([47,63,35]:List UInt8))⟩ a)).2)))) rfl))
noncomputable def To{R:Type}(L n:Nat)(self:By->Int->Int->Int->Option R)(b:By)(a f c:Int)(g:Int->Int->Option R):Option R:=cond (ltI c (↑(j4 b):Int)) (cond (inR (A1 (f-c)) 3) (vl (bAt (([47,63,35]:List UInt8)) (A1 (f-c))) λd=>cond (inR (A1 (a-c)) (j4 b)) (vl (bAt b (A1 (a-c))) λe=>cond (d !=e) (none) (self b a f (A1 (c+(1:Int))))) (none)) (none)) (g a f)
noncomputable def La{R:Type}(L n:Nat)(b:By)(a c d:Int)(e:Int->Int->Option R):Option R:=Cb0 (α:=By->Int->Int->Int->Option R) (λ_ _ _ _=>none) (λn self b a c d=>To L n self b a c d e) n b a c d
theorem Ah3{R:Type}(L n:Nat)(b:By)(a c d:Int)(e:Int->Int->Option R):La L (n+1) b a c d e=To L n (λb a c d=>La L n b a c d e) b a c d e:=rfl
theorem Ww(n:Nat)(b:By)(a d e:Int):E7 0 ((L9 L).keep 12) (bd (L9 L) Q Y (cd [1,0,1,1,1,1,1,1,0,1,1,1,1,0,0,0,1,0,0,1,0,1,0,0] Ag)) n ⟨gp [(0,.s (.str (([47,63,35]:List UInt8)))),(6,.s (.str b)),(0,.s (.int .i64 a)),(0,.s (.int .i64 d)),(2,.s (.int .i64 e))] 174,[],s⟩ k =
 La L n b a d e (λc h=>k (.exit 3) ⟨gp [(8,.s (.int .i64 c)),(0,.s (.int .i64 h))] 177,[],s⟩):=by
 induction n generalizing b a d e with
 | zero=>rfl
 | succ n i=>rw[Ah3];unfold To;exact(j8 (by kernel_rfl) (A0 (A0 (A7 λf=>(A0 (A7 λg=>(A0 rfl (i b a d (A1 (e+(1:Int)))))) rfl)) rfl) rfl))
noncomputable def Mt{R:Type}(L n:Nat)(self:By->Int->Option R)(b:By)(a:Int)(m:Int->Option R)(o:Unit->Option R):Option R:=cond (ltI a (3:Int)) (cond (inR a 3) (vl (bAt (([47,63,35]:List UInt8)) a) λj=>cond (inR a (j4 b)) (cond (j !=(bAt b a)) (vl (A1 (a+(1:Int))) λe=>cond (K5 e (3:Int) 3) (vl (cut (([47,63,35]:List UInt8)) e (3:Int)) λg=>cond (inR a (j4 b)) (cond (A3 (j4 g)) (cond (inR (bAt b a) 256) (vl (aa3 g (u8n (bAt b a))) λf=>cond (ltI f (0:Int)) (m (-1)) (vl (A1 (f+(1:Int))) λl=>La L L b a (A1 (a+l)) 1 (λc h=>m (A1 (h-c))))) (none)) (none)) (none)) (none)) (La L L b a a 1 (λd i=>m (A1 (i-d))))) (none)) (none)) (o ())
noncomputable def Gq{R:Type}(L n:Nat)(b:By)(a:Int)(c:Int->Option R)(d:Unit->Option R):Option R:=Cb0 (α:=By->Int->Option R) (λ_ _=>none) (λn self b a=>Mt L n self b a c d) n b a
theorem BW{R:Type}(L n:Nat)(b:By)(a:Int)(c:Int->Option R)(d:Unit->Option R):Gq L (n+1) b a c d=Mt L n (λb a=>Gq L n b a c d) b a c d:=rfl
theorem WK(n:Nat)(b:By)(a:Int):E7 0 ((L9 L).keep 5) (bd (L9 L) Q Y (cd [1,0,1,1,1,1,1,1,0,1,1,1,1,0,0,0] Ag)) n ⟨gp [(0,.s (.str (([47,63,35]:List UInt8)))),(6,.s (.str b)),(0,.s (.int .i64 a)),(0,.s (.int .i64 a))] 177,[],s⟩ k =
 Gq L n b a (λn0=>k .ret ⟨gp [(4,.s (.int .i64 n0))] 182,[],s⟩) (λ_=>k (.exit 1) ⟨gp [] 187,[],s⟩):=by
 induction n generalizing b a with
 | zero=>rfl
 | succ n i=>rw[BW];unfold Mt;exact let d:=(F9 3 (G6 (L9 L) Q Y (cd [1,0,1,1,1,1,1,1,0,1,1,1,1,0,0,0,1,0,0,1,1] Ag) (F9 2 (lpK 0 ((L9 L).keep 5) (bd (L9 L) Q Y (cd [1,0,1,1,1,1,1,1,0,1,1,1,1,0,0,0] Ag)) n k))));(j8 (by kernel_rfl) (A0 (A0 (A7 λe=>(A0 (A0 (A7 λf=>(A0 (A7 λh=>(A0 (A0 (A0 (A7 λg=>(A0 rfl (A7 λc=>((Ww L Q Y s d L b a (A1 (a+c)) 1).trans (by kernel_rfl))))) rfl) rfl) rfl)) rfl)) ((Ww L Q Y s d L b a a 1).trans (by kernel_rfl))) rfl)) rfl) rfl))
noncomputable def Kz{R:Type}(L:Nat)(b:Int)(l:Bool)(d:Int->Option R)(j:Int->Nat->Option R):Option R:=cond l (cond (inR (wu8 b) 256) (vl (aa3 (([47,63,35]:List UInt8)) (u8n (wu8 b))) λg=>d g) (none)) (cond (b==(65533:Int)) (Z5 L L 0 (λi e=>j i e) (λf=>j (-1) f)) (cond (not (JU b)) (d (-1)) (vl (Utf8.encode b).data.toList λc=>vl (A1 ((↑(j4 c):Int)-(1:Int))) λh=>Gq L L c h (λa=>d a) (λ_=>d (-1)))))
abbrev BU(b:Code):Prop:=∀(k:Out->St W->Option R) (c:Int) (a:Bool),A9 (L9 L) Q Y b ⟨gp [(0,.s (.str (([47,63,35]:List UInt8)))),(0,.s (.int .i32 c)),(158,.s (.bool a))] 26,[],s⟩ k=Kz L c a (λn0=>k .ret ⟨gp [(4,.s (.int .i64 n0))] 182,[],s⟩) (λn0 d=>k .ret ⟨gp [(4,.s (.int .i64 n0))] 182,[.iter (([47,63,35]:List UInt8)) d],s⟩)
theorem WI:BU (R:=R) L Q Y s (cd [1,0,1] Ag):=by intro k e d;unfold Kz;exact(j8 (by kernel_rfl) (A0 (A0 (A7 λc=>rfl) rfl) (A0 ((WJ L Q Y s (F9 9 (G6 (L9 L) Q Y (cd [1,0,1,1,1,0,1] Ag) k)) L 0).trans (by kernel_rfl)) (A0 rfl (A7 λb=>(A7 λa=>((WK L Q Y s (F9 1 (G6 (L9 L) Q Y (cd [1,0,1,1,1,1,1,1,0,1,1,1,1,1] Ag) k)) L b a).trans (by kernel_rfl))))))))
noncomputable def JK{R:Type}(L:Nat)(r:Int)(g:Int->Option R)(h:Int->Nat->Option R):Option R:=cond (not (ltI r (0:Int))) (Kz L r (ltI r (128:Int)) (λc=>g c) (λd a=>h d a)) (Kz L r false (λe=>g e) (λf b=>h f b))
theorem Bu3(b:Code)(a:BU (R:=PV × List Blk × W) L Q Y s b)(r:Int):A9 (L9 L) Q Y (cd [] (K4 [1,0,1] b Ag)) ⟨[.s (.str (([47,63,35]:List UInt8))),.s (.int .i32 r)]++tps 185,[],s⟩ (I1 (L9 L) al9)=JK L r (λc=>some (.s (.int .i64 c),[],s)) (λc e=>some (.s (.int .i64 c),[.iter (([47,63,35]:List UInt8)) e],s)):=by unfold JK;exact let d:=(F9 0 (I1 (L9 L) al9));(j8 (by kernel_rfl) (A0 ((a d r (ltI r (128:Int))).trans (by kernel_rfl)) ((a d r false).trans (by kernel_rfl))))
theorem Bu4(d:Nat)(r:Int):evC (L9 L) (d+1) W Y 106 [.s (.str (([47,63,35]:List UInt8))),.s (.int .i32 r)] [] s=JK L r (λa=>some (.s (.int .i64 a),[],s)) (λa b=>some (.s (.int .i64 a),[.iter (([47,63,35]:List UInt8)) b],s)):=
 (evE (fn:=al9) (by kernel_rfl)).trans (j8 (by kernel_rfl) (Bu3 L (evC (L9 L) d) Y s (cd [1,0,1] Ag) (WI L (evC (L9 L) d) Y s) r))
noncomputable abbrev YS:Code:=E0 aq7
noncomputable def Gx(L:Nat):Cfg:=C8 L [68] (A4 [(18,[1,2,40]),(12,[0,3,1,1])]) [(106,FF),(107,Yc),(108,Nv)] (A4 [(22,[4]),(21,[4]),(20,[1,7,35,7]),(19,[1,7,0,34]),(18,[1,43,0,0]),(17,[1,43]),(16,[4]),(13,[0,5,1]),(15,[4]),(14,[0,5,1,33]),(12,[0,5,1,27]),(11,[0,5,1]),(10,[0,0,4,25]),(9,[0,0,4,0]),(8,[0,0,24]),(7,[4]),(6,[0,4]),(5,[0,4,14]),(4,[0,4]),(3,[0,0,13]),(2,[4]),(1,[0,0,10]),(0,[0,0])]) [106,107] (A4 [(2,[]),(3,[1,43]),(0,[]),(1,[0,5,1])]) (some [4]) [] [] []
noncomputable def Y4{R:Type}(L n:Nat)(self:By->Nat->Option R)(b:By)(a:Nat)(d:Int->(List Blk)->Option R)(e:By->Nat->Option R):Option R:=cond (decide (a<(j4 b))) (vl ((ad4 ⟨ad0 b⟩ a)).1 λc=>cond (Zn (([47,63,35]:List UInt8))) (cond (ltN c 1114112) (cond (not (ltI (irn c) (0:Int))) (d (↑a:Int) [(Blk.iter b (a+((ad4 ⟨ad0 b⟩ a)).2))]) (self b (a+((ad4 ⟨ad0 b⟩ a)).2))) (none)) (none)) (e b a)
noncomputable def Ky{R:Type}(L n:Nat)(b:By)(a:Nat)(c:Int->(List Blk)->Option R)(d:By->Nat->Option R):Option R:=Cb0 (α:=By->Nat->Option R) (λ_ _=>none) (λn self b a=>Y4 L n self b a c d) n b a
theorem Bn{R:Type}(L n:Nat)(b:By)(a:Nat)(c:Int->(List Blk)->Option R)(d:By->Nat->Option R):Ky L (n+1) b a c d=Y4 L n (λb a=>Ky L n b a c d) b a c d:=rfl
theorem WH(n:Nat)(b:By)(a:Nat):E7 1 ((Gx L).keep 18) (bd (Gx L) Q Y (cd [1,1,1,1,0,1,0,0] YS)) n ⟨gp [(1,.s (.str (([47,63,35]:List UInt8)))),(43,.it 0)] 9,[.iter b a],s⟩ k =
 Ky L n b a (λn0 c=>k .ret ⟨gp [(4,.s (.int .i64 n0))] 50,c,s⟩) (λb a=>k (.exit 2) ⟨gp [] 55,[.iter b a],s⟩):=by
 induction n generalizing b a with
 | zero=>rfl
 | succ n d=>rw[Bn];unfold Y4;exact(j8 (by kernel_rfl) (A0 (A7 λe=>(A0 (A0 (A0 rfl (d b (a+((ad4 ⟨ad0 b⟩ a)).2))) rfl) rfl)) rfl))
noncomputable def WG{R:Type}(L:Nat)(t:By)(e:Int->(List Blk)->Option R):Option R:=cond (ltI (8:Int) (↑(j4 t):Int)) (none) (Ky L L t 0 (λc a=>e c a) (λd b=>e (-1) [(Blk.iter d b)]))
theorem Bu1(d:Nat)(t:By):evC (Gx L) (d+1) W Y 68 [.s (.str t),.s (.str (([47,63,35]:List UInt8)))] [] s=WG L t (λb a=>some (.s (.int .i64 b),a,s)):=by refine(evE (fn:=aq7) (by kernel_rfl)).trans ?_;generalize evC (Gx L) d=Q;unfold WG;exact(j8 (by kernel_rfl) (A0 rfl ((WH L Q Y s (F9 2 (G6 (Gx L) Q Y (cd [1,1,1,1,1] YS) (I1 (Gx L) aq7))) L t 0).trans (by kernel_rfl))))
end
end
section
open Go
theorem Za{c:UInt8}{s:By}(h:c∉s):w8 s [c]=(s,[],false):=by unfold w8;rw[Tc h,if_neg (by decide)]
theorem Ha{c:UInt8}{p r:By}(h:c∉p):w8 (p++c::r) [c]=(p,r,true):=by unfold w8;rw[Zl h,Aj,c9,List.take_left,ab4];rw[show p++c::r=(p++[c])++r by simp,ai1 (by simp)]
def Vz:Int->By->Option Int
 | n,[]=>some n
 | n,b::r=>if 48<=b.toNat/\b.toNat<=57 then Vz (min (10*max n 0+((b.toNat-48:Nat):Int)) 65536) r else none
theorem UU:∀(s:By) (n:Int),Wa n s=(Vz n s).bind λm=>if m<65536 then some m else none
 | [],n=>rfl
 | b::r,n=>by
  rw[Wa,Vz];split
  ·exact UU r _
  ·rfl
theorem IL:∀(s:By) (n p:Int),-1<=n->Wa n s=some p->-1<=p/\p<65536
 | [],n,p,a,h=>by
  rw[Wa] at h;split at h
  ·rename_i c;obtain rfl:=af1 h;exact⟨a,c⟩
  ·cases h
 | b::r,n,p,a,h=>by
  rw[Wa] at h;split at h
  ·exact IL r _ p (by omega) h
  ·cases h
def Pc(s:By):Prop:=∀b∈s,ctl b=false
def Df6(s:By):Prop:=∀b∈s,Y5 b=false
structure CU (u:W8):Prop where
 ns:G3 u.sch=false->Dq u.sch=true/\D3 u.sch=u.sch/\u.user=[]/\u.host=P5/\u.port=-1/\Pc u.rest
 sp:G3 u.sch=true->Pc u.user/\Df6 u.user/\Nq u.host/\N2 u.host=true/\(u.port=-1\/(0<=u.port/\u.port<=65535/\u.port≠He u.sch))/\(∃r,u.rest=47::r)/\Pc u.rest
theorem Cm0{s:By}:s.any ctl=false↔Pc s:=by unfold Pc;rw[List.any_eq_false];exact⟨λh b a=>by simpa using h b a,λh b a=>by simp[h b a]⟩
theorem Ot{e user c a:By}(h:(Q2 e user c a).2=0):∃f b,(Q2 e user c a).1=⟨e,user,f,b,c⟩/\Nq f/\N2 f=true/\(b=-1\/(0<=b/\b<=65535/\b≠He e)):=by
 unfold Q2 at h ⊢;cases i:Pa a with
 | none=>rw[i] at h;simp at h
 | some q=>
  obtain⟨name,tail⟩:=q;rw[i] at h;simp only at h ⊢;by_cases g:tail≠[]/\tail.head?≠some 58
  ·rw[if_pos g] at h;simp at h
  ·rw[if_neg g] at h ⊢;by_cases d:(J6 name).2≠0
   ·rw[if_pos d] at h;exact absurd h d
   ·rw[if_neg d] at h ⊢;cases j:Wa (-1) (tail.drop 1) with
    | none=>rw[j] at h;simp at h
    | some p=>
     have o:=IL _ _ _ (by omega) j;obtain⟨m,n⟩:=Bq2 name;refine⟨_,_,rfl,m,n (by simpa using d),?_⟩;split
     ·exact .inl rfl
     ·rename_i l;by_cases k:p=-1
      ·exact .inl k
      ·exact .inr ⟨by omega,by omega,l⟩
theorem Mc{c user b a:By}(h:(Q2 c user b a).2≠0):(Q2 c user b a).1=Cc:=by
 unfold Q2 at h ⊢;split
 ·rfl
 ·rename_i name tail f;rw[f] at h;simp only at h ⊢;split
  ·rfl
  ·rename_i d;rw[if_neg d] at h;split
   ·rfl
   ·rename_i e;rw[if_neg e] at h;split
    ·rfl
    ·rename_i p g;rw[g] at h;exact absurd rfl h
theorem Av6(s:By):D3 (D3 s)=D3 s:=by
 unfold D3;rw[ah5];apply ad5;intro b _;show Cn (Cn b)=Cn b;rcases X9 b with⟨_,e⟩|⟨_,e⟩|⟨c,d,e⟩
 ·rw[e,e]
 ·rw[e,e]
 ·rcases X9 (Cn b) with⟨_,a⟩|⟨_,a⟩|⟨f,g,_⟩
  ·exact a
  ·exact a
  ·omega
theorem Av3(b:UInt8):V9 (Cn b)=V9 b:=by
 rw[ah9,Ay,Ay];rcases X9 b with⟨_,e⟩|⟨_,e⟩|⟨a,c,e⟩
 ·rw[e]
 ·rw[e]
 ·omega
theorem UL{b c:UInt8}(f:c.toNat<65):Cn b=c↔b=c:=by
 rcases X9 b with⟨_,e⟩|⟨_,e⟩|⟨a,d,e⟩
 ·rw[e]
 ·rw[e]
 ·constructor
  ·intro h;rw[h] at e;omega
  ·intro h;subst h;omega
theorem Ag6(b:UInt8):Ar (Cn b)=Ar b:=by
 rw[ah9,BS,BS,UL (by decide),UL (by decide),UL (by decide)];rcases X9 b with⟨_,e⟩|⟨_,e⟩|⟨a,c,e⟩
 ·rw[e]
 ·rw[e]
 ·constructor
  ·rintro(h|h|h|h)<;>first|omega|exact .inr (.inr (.inr h))
  ·rintro(h|h|h|h)<;>first|omega|exact .inr (.inr (.inr h))
theorem Ag8(s:By):Dq (D3 s)=Dq s:=by
 cases s with
 | nil=>rfl
 | cons b r=>
  show(V9 (Cn b)&&(r.map Cn).all Ar)=(V9 b&&r.all Ar)
  rw[Av3,List.all_map]
  congr 1
  apply List.all_congr rfl;intro b;exact Ag6 b
theorem WL(r:By):∃t,W7 r=47::t:=by
 unfold W7;split
 ·rename_i h;cases r with
  | nil=>cases h
  | cons b t=>
   obtain rfl:=af1 h;exact⟨t,rfl⟩
 ·exact⟨r,rfl⟩
theorem Ah4{r:By}(h:Pc r):Pc (W7 r):=by
 unfold W7;split
 ·exact h
 ·intro b a;rcases ac0.1 a with rfl|a
  ·decide
  ·exact h b a
theorem Br0{j c a:By}(p:G3 j=true)(q:Pc a)(i:Df6 a)(o:Pc c)(f:∃r,c=47::r)(h:(I3 j c a).2=0):CU (I3 j c a).1:=by
 unfold I3 at h ⊢;by_cases n:0<=L7 64 a
 ·rw[if_pos n] at h ⊢;obtain⟨t,g,e,k,l,m⟩:=Ot h;rw[e];exact⟨λh=>(by rw[p] at h;cases h),λ_=>⟨λb d=>q b (y7 d),λb d=>i b (y7 d),k,l,m,f,o⟩⟩
 ·rw[if_neg n] at h ⊢;obtain⟨t,g,e,k,l,m⟩:=Ot h;rw[e];exact⟨λh=>(by rw[p] at h;cases h),λ_=>⟨λb d=>(by cases d),λb d=>(by cases d),k,l,m,f,o⟩⟩
theorem Ad5{s:By}(h:(G1 s).2=0):CU (G1 s).1:=by
 unfold G1 at h ⊢;cases f:s.any ctl with
 | true=>rw[f] at h;simp at h
 | false=>
  rw[f] at h;have j:=Cm0.1 f;simp only[o5,if_false] at h ⊢;rcases Bo 58 s with c|⟨p,r,rfl,c⟩
  ·rw[Za c] at h;simp at h
  ·rw[Ha c] at h ⊢;have k:Pc p:=λb d=>j b (by simp[d])
   have g:Pc r:=λb d=>j b (by simp[d])
   cases a:Dq p with
   | false=>rw[a] at h;simp at h
   | true=>
    rw[a] at h;simp only[j2,Bool.or_self,o5,if_false] at h ⊢;cases e:G3 (D3 p) with
    | false=>
     simp only[j1,if_true];exact⟨λ_=>⟨by rw[Ag8];exact a,Av6 p,rfl,rfl,rfl,g⟩,λh=>(by simp only at h;rw[e] at h;cases h)⟩
    | true=>
     rw[e] at h;simp only[j2,o5,if_false] at h ⊢;cases i:([47,47]:By).isPrefixOf r with
     | false=>rw[i] at h;simp at h
     | true=>
      rw[i] at h;simp only[j2,o5,if_false] at h ⊢;exact Br0 e (λb d=>g b (v8 (y7 d))) (A49 _) (Ah4 λb d=>g b (v8 (v8 d))) (WL _) h
theorem Ay9{d b a:By}(h:(I3 d b a).2≠0):(I3 d b a).1=Cc:=by
 unfold I3 at h ⊢;split
 ·rename_i c;rw[if_pos c] at h;exact Mc h
 ·rename_i c;rw[if_neg c] at h;exact Mc h
theorem NI{s:By}(h:(G1 s).2≠0):(G1 s).1=Cc:=by
 unfold G1 at h ⊢;split
 ·rfl
 ·rename_i b;rw[if_neg b] at h;split
  ·rfl
  ·rename_i c;rw[if_neg c] at h;split
   ·rename_i a;rw[if_pos a] at h;exact absurd rfl h
   ·rename_i a;rw[if_neg a] at h;split
    ·rfl
    ·rename_i d;rw[if_neg d] at h;exact Ay9 h
theorem Vm(c user b a:By):(Q2 c user b a).1.sch.length<=c.length/\(Q2 c user b a).1.user.length<=user.length/\(Q2 c user b a).1.rest.length<=b.length:=by
 by_cases h:(Q2 c user b a).2=0
 ·obtain⟨f,d,e,_⟩:=Ot h;rw[e];exact⟨ae6 _,ae6 _,ae6 _⟩
 ·rw[Mc h];exact⟨ac6 _,ac6 _,ac6 _⟩
theorem Az0(c b a:By):(I3 c b a).1.sch.length<=c.length/\(I3 c b a).1.user.length<=a.length/\(I3 c b a).1.rest.length<=b.length:=by
 unfold I3;split
 ·obtain⟨d,e,f⟩:=Vm c (a.take (L7 64 a).toNat) b (a.drop ((L7 64 a).toNat+1));rw[aa1] at e;exact⟨d,by omega,f⟩
 ·obtain⟨d,e,f⟩:=Vm c [] b a;simp only[ad3] at e;exact⟨d,by omega,f⟩
theorem Ah5(r:By):(W7 r).length<=r.length+1:=by
 unfold W7;split
 ·omega
 ·simp
theorem Bq5(s:By):(G1 s).1.sch.length<=s.length/\(G1 s).1.user.length<=s.length/\(G1 s).1.rest.length<=s.length+1:=by
 have z:Cc.sch.length<=s.length/\Cc.user.length<=s.length/\Cc.rest.length<=s.length+1:=⟨ac6 _,ac6 _,ac6 _⟩
 unfold G1;split
 ·exact z
 ·rcases Bo 58 s with a|⟨p,r,rfl,a⟩
  ·rw[Za a];exact z
  ·rw[Ha a];have b:(p++58::r).length=p.length+r.length+1:=by rw[ac9,o8];omega
   simp only;split
   ·exact z
   ·split
    ·simp only[Dd,ad3];omega
    ·split
     ·exact z
     ·obtain⟨c,d,e⟩:=Az0 (D3 p) (W7 ((r.drop 2).drop (M4 (r.drop 2)))) ((r.drop 2).take (M4 (r.drop 2)));have f:=Ah5 ((r.drop 2).drop (M4 (r.drop 2)));simp only[aa1,ab3,Dd] at c d e f;omega
structure XT (u:W8):Prop where
 host:Nq u.host
 port:-1<=u.port/\u.port<65536
theorem Zu:Nq P5:=⟨by decide,Bi7,by decide⟩
theorem CU.ok{u:W8}(h:CU u):XT u:=by
 cases hs:G3 u.sch with
 | false=>
  obtain⟨_,_,_,a4,a5,_⟩:=h.ns hs;exact⟨by rw[a4];exact Zu,by omega⟩
 | true=>
  obtain⟨_,_,a3,_,a5,_⟩:=h.sp hs;exact⟨a3,by omega⟩
theorem Ad6(s:By):XT (G1 s).1:=by
 by_cases h:(G1 s).2=0
 ·exact(Ad5 h).ok
 ·rw[NI h];exact⟨Zu,by decide,by decide⟩
theorem B86{m n j l:By}{h v4:Nat}{a b c d e f g i:Nat}{k:Int}(o:h<4):mkU m n (h:Int) j (v4:Int) (n8 a b c d e f g i) k l=⟨m,n,⟨h,j,v4,[a,b,c,d,e,f,g,i]⟩,k,l⟩:=by unfold mkU B85 n8;rw[if_pos (D9.2 ⟨by omega,by omega⟩)];simp only[c9]
theorem Bq4(s:By):XT (D0 s).1:=by
 unfold D0;split
 ·exact⟨Zu,by decide,by decide⟩
 ·exact Ad6 s
theorem Ax5{s:By}(h:(D0 s).2≠0):(D0 s).1=Cc:=by
 unfold D0 at h ⊢;split
 ·rfl
 ·rename_i c;rw[if_neg c] at h;exact NI h
theorem Bq3{s:By}(h:(D0 s).2=0):CU (D0 s).1:=by
 unfold D0 at h ⊢;split
 ·rename_i c;rw[if_pos c] at h;cases h
 ·rename_i c;rw[if_neg c] at h;exact Ad5 h
theorem IT(s:By):(D0 s).1.sch.length<=s.length/\(D0 s).1.user.length<=s.length/\(D0 s).1.rest.length<=s.length+1:=by
 unfold D0;split
 ·exact⟨ac6 _,ac6 _,ac6 _⟩
 ·exact Bq5 s
theorem Ju(c:UInt8):∀s:By,aa3 s c=match Tb c s with|some k=>(k:Int)|none=>-1
 | []=>rfl
 | b::r=>by
  have a:=Ju c r;unfold aa3 Tb;by_cases h:b=c
  ·rw[if_pos h,if_pos (by simpa using h)];rfl
  ·rw[if_neg h,if_neg (by simpa using h),a];cases Tb c r with
   | none=>rfl
   | some k=>
    have e:((k:Int)==-1)=false:=by rw[beq_eq_false_iff_ne];omega
    simp only[ad7,e,o5,if_false];rfl
theorem Bu6(b:UInt8):isl.contains b=Y5 b:=by rw[ah9];simp[isl,Y5,or_assoc]
theorem Hu(b:UInt8)(r:By):M4 (b::r)=if Y5 b then 0 else M4 r+1:=by unfold M4;rw[aj0];cases h:Y5 b<;>simp
theorem JM:∀s:By,M4 s<=s.length
 | []=>ae6 _
 | b::r=>by
  have:=JM r;rw[Hu,o8];split<;>omega
theorem Jt:∀s:By,ad9 s isl=if M4 s<s.length then (M4 s:Int) else -1
 | []=>rfl
 | b::r=>by
  have c:=Jt r;have d:=JM r;rw[ad9,Bu6,Hu,o8,c];cases Y5 b with
  | true=>simp
  | false=>
   simp only[o5,if_false];by_cases h:M4 r<r.length
   ·have e:((M4 r:Int)==-1)=false:=by rw[beq_eq_false_iff_ne];omega
    have a:M4 r+1<r.length+1:=by omega
    simp only[if_pos h,if_pos a,e,o5,if_false];rfl
   ·have a:¬M4 r+1<r.length+1:=by omega
    simp only[if_neg h,if_neg a];rfl
theorem C60(b:UInt8)(t:By)(g:128<=b.toNat):128<=(ag4 (b::t)).1/\(ag4 (b::t)).1<1114112/\1<=(ag4 (b::t)).2/\(ag4 (b::t)).2<=t.length+1/\∀i,i<(ag4 (b::t)).2->128<=((b::t).getD i 0).toNat:=by
 have d:=Lib.decodeL_le (b::t) (by simp);have l:=Lib.decodeL_width (b::t);have n:=Lib.decodeL_rune (b::t);rw[o8] at d;refine⟨?_,by omega,l,d,?_⟩;all_goals
  clear d l n;rw[Lib.decodeL_N];rcases Lib.decodeN_shape (b::t).length ((b::t).getD 0 0).toNat ((b::t).getD 1 0).toNat ((b::t).getD 2 0).toNat ((b::t).getD 3 0).toNat with⟨c,e⟩|⟨h,j,k,f,e⟩|⟨h,j,k,m,f,p,e⟩|⟨h,j,k,m,o,f,q,e⟩|e
  all_goals rw[e]
 ·exact absurd g (by simp at c;omega)
 ·exact f
 ·simp only;omega
 ·simp only;omega
 ·simp only;omega
 ·exact absurd g (by simp at c;omega)
 ·intro i a;have:i=0\/i=1:=by simp only at a;omega
  rcases this with rfl|rfl<;>omega
 ·intro i a;have:i=0\/i=1\/i=2:=by simp only at a;omega
  rcases this with rfl|rfl|rfl<;>omega
 ·intro i a;have:i=0\/i=1\/i=2\/i=3:=by simp only at a;omega
  rcases this with rfl|rfl|rfl|rfl<;>omega
 ·intro i a;have:i=0:=by simp only at a;omega
  subst this;exact g
theorem Cd3{b:UInt8}(h:128<=b.toNat):Y5 b=false:=by
 unfold Y5;have n:∀c:UInt8,c.toNat<128->(b==c)=false:=λc a=>by
  rw[beq_eq_false_iff_ne];rintro rfl;omega
 rw[n 47 (by decide),n 63 (by decide),n 35 (by decide)];rfl
theorem B68{r:Int}(h:128<=r):irn r=-1:=by unfold irn;rw[J4,J4,J4]
theorem C72(b:UInt8):ltI (irn (b.toNat:Int)) 0 = !Y5 b:=by
 have e:∀c:UInt8,((b.toNat:Int)=(c.toNat:Int))=(b=c):=λc=>propext ⟨λh=>am6.1 (by omega),λh=>by rw[h]⟩
 have g:((b.toNat:Int)=47)=(b=47):=e 47;have i:((b.toNat:Int)=63)=(b=63):=e 63;have j:((b.toNat:Int)=35)=(b=35):=e 35;unfold irn Y5;simp only[g,i,j];by_cases a:b=47
 ·subst a;rfl
 ·by_cases d:b=63
  ·subst d;rfl
  ·by_cases f:b=35
   ·subst f;rfl
   ·have n:∀c,b≠c->(b==c)=false:=λc h=>by rwa [beq_eq_false_iff_ne]
    rw[if_neg a,if_neg d,if_neg f,n _ a,n _ d,n _ f];rfl
end
section
open Go Go.Proofs
set_option maxRecDepth 100000
section
variable {W R : Type} (Y : Nat) (J : F4) (Q : Yh W) (s : W) (k : Out -> St W -> Option R)
noncomputable def RY(Y:Nat):Cfg:=C8 Y [98] (A4 []) [] (A4 [(1,[6]),(0,[3,0,0])]) [] (A4 []) (some [6]) [] [] []
noncomputable def B79{R:Type}(Y:Nat)(d b:By)(a:Int)(c:By->By->Int->Option R):Option R:=c d b a
theorem B80(d:Nat)(a sep1 sepSave2):evC (RY Y) (d+1) W Q 98 [pS a,pS sep1,pI sepSave2] [] s=B79 Y a sep1 sepSave2 (λa c b=>some (.fnr (ag2 126) [] [.ptr 1 0 0,.ptr 0 0 0,.ptr 2 0 0],[.box [pS a],.box [pS c],.box [pI b]],s)):=by refine(evE (fn:=Tryz.f98) (by kernel_rfl)).trans ?_;generalize evC (RY Y) d=J;unfold B79;kernel_rfl
noncomputable def Ap9(Y:Nat):Cfg:=C8 Y [59] (A4 []) [(98,PP)] (A4 [(1,[4]),(0,[0,0])]) [] (A4 []) (some [4]) [] [] []
noncomputable def C85{R:Type}(Y:Nat)(c a:By)(b:By->By->Option R):Option R:=b c a
theorem Cx4(d:Nat)(a sep1):evC (Ap9 Y) (d+1) W Q 59 [pS a,pS sep1] [] s=C85 Y a sep1 (λa b=>some (.fnr (ag2 126) [] [.ptr 1 0 0,.ptr 0 0 0,.ptr 2 0 0],[.box [pS a],.box [pS b],.box [pI (0:Int)]],s)):=by refine(evE (fn:=Tryz.f59) (by kernel_rfl)).trans ?_;generalize evC (Ap9 Y) d=J;unfold C85;kernel_rfl
noncomputable abbrev LK:Code:=E0 an0
noncomputable def Oe(Y:Nat):Cfg:=C8 Y [34] (A4 []) [(58,Pu),(59,FI),(60,PS)] (A4 [(7,[2]),(6,[2]),(5,[2,13]),(4,[2,0]),(3,[2,9]),(2,[2]),(1,[0,1,7]),(0,[0,1])]) [58,60] (A4 [(0,[2]),(1,[2])]) (some [2]) [] [(126,Py)] []
noncomputable def CX{R:Type}(Y:Nat)(a:By)(xs:List By)(self:Unit->Option R)(c:Unit->Option R)(b:Unit->Option R):Option R:=cond (A3 a.length) (cond (not (N9 a)) (b ()) (self ())) none
noncomputable def HP{R:Type}(Y:Nat)(L:List By)(b:Unit->Option R)(c:Unit->Option R):Option R:=Cb1 (α:=Unit->Option R) (λ_=>b ()) (λa xs self _=>CX Y a xs self  b c) L ()
theorem Ab1{R:Type}(Y:Nat)(a:By)(xs:List By)(b:Unit->Option R)(c:Unit->Option R):HP Y (a::xs)  b c=CX Y a xs (λ_=>HP Y xs  b c)  b c:=rfl
theorem Bn0(L:List By):S6 #[13] (gp [(2,.ptr 0 0 0),(9,.fnr (ag2 126) [] [.bad,.bad,.bad])] 4) (bd (Oe Y) J Q (cd [1,1,0,1,0,0] LK)) (bd (Oe Y) J Q (cd [1,1,0,1,0,1] LK)) (L.map (λ(a:By)=>([pS a]:List PV))) [.box [pB false],.dead,.dead,.dead] s (rgK (gp [(2,.ptr 0 0 0),(9,.fnr (ag2 126) [] [.bad,.bad,.bad])] 4) (λH=>U1 H [2,1,3] [.box [.bad],.box [.bad],.box [.bad]]) k) =
 HP Y L  (λ_=>k .normal ⟨gp [(2,.ptr 0 0 0),(9,.fnr (ag2 126) [] [.bad,.bad,.bad])] 4,[.box [pB false],.box [.bad],.box [.bad],.box [.bad]],s⟩) (λ_=>k .ret ⟨gp [(2,.ptr 0 0 0),(9,.fnr (ag2 126) [] [.bad,.bad,.bad])] 4,[.box [pB false],.box [.bad],.box [.bad],.box [.bad]],s⟩):=by
 induction L with
 | nil=>rfl
 | cons a xs b=>rw[Ab1];unfold CX;exact(j8 (by kernel_rfl) (A0 (A0 rfl b) rfl))
noncomputable def TZ{R:Type}(Y:Nat)(a:By)(b:Unit->Option R)(c:Unit->Option R):Option R:=cond ((A3 a.length)&&((1==1)&&((0:Int)==0))) (HP Y (pcs (j0 ([46]:List UInt8) 0 0) a)  b c) none
abbrev Ab0(b:Code):Prop:=∀(k:Out->St W->Option R) s0,A9 (Oe Y) J Q b ⟨gp [(2,.ptr 0 0 0),(9,.fnr (ag2 126) [] [.ptr 2 0 0,.ptr 1 0 0,.ptr 3 0 0])] 4,[.box [pB false],.box [pS s0],.box [pS ([46]:List UInt8)],.box [pI (0:Int)]],s⟩ k=TZ Y s0 (λ_=>k .normal ⟨gp [(2,.ptr 0 0 0),(9,.fnr (ag2 126) [] [.bad,.bad,.bad])] 4,[.box [pB false],.box [.bad],.box [.bad],.box [.bad]],s⟩) (λ_=>k .ret ⟨gp [(2,.ptr 0 0 0),(9,.fnr (ag2 126) [] [.bad,.bad,.bad])] 4,[.box [pB false],.box [.bad],.box [.bad],.box [.bad]],s⟩)
theorem Bm9:Ab0 (R:=R) Y J Q s (cd [1,1,0,1,0] LK):=by intro k a;unfold TZ;exact((Bc6 [1,1,0,1,0] (by kernel_rfl)).trans (by kernel_rfl)).trans (Mj (Bn0 Y J Q s k (pcs (j0 ([46]:List UInt8) 0 0) a) ))
noncomputable def hvn{R:Type}(Y:Nat)(a:By)(b:Unit->Option R)(c:Bool->Bool->Option R):Option R:=cond (ltI 253 (a.length:Int)) (b ()) (cond (A3 a.length) (cond (L2 a) (b ()) (TZ Y a (λ_=>c true true) (λ_=>c false false))) none)
theorem C68(a:Code)(c:Ab0 (R:=PV × List Blk × W) Y J Q s a)(b:By):A9 (Oe Y) J Q (cd [] (K4 [1,1,0,1,0] a LK)) ⟨[pS b]++tps 16,[],s⟩ (I1 (Oe Y) an0)=hvn Y b (λ_=>some (pB false,[.box [pB false]],s)) (λe d=>some (pB e,[.box [pB d],.box [.bad],.box [.bad],.box [.bad]],s)):=by unfold hvn;exact(j8 (by kernel_rfl) (A0 rfl (A0 (A0 rfl ((c (F9 0 (G6 (Oe Y) J Q (cd [1,1,1] LK) (I1 (Oe Y) an0))) b).trans (by kernel_rfl))) rfl)))
theorem C69(d:Nat)(name0):evC (Oe Y) (d+1) W Q 34 [pS name0] [] s=hvn Y name0 (λ_=>some (pB false,[.box [pB false]],s)) (λb a=>some (pB b,[.box [pB a],.box [.bad],.box [.bad],.box [.bad]],s)):=
 (evE (fn:=an0) (by kernel_rfl)).trans (j8 (by kernel_rfl) (C68 Y (evC (Oe Y) d) Q s (cd [1,1,0,1,0] LK) (Bm9 Y (evC (Oe Y) d) Q s) name0))
noncomputable abbrev Ue:Code:=E0 am0
noncomputable def Ao(Y:Nat):Cfg:=C8 Y [126] (A4 [(5,[0,0,0,0]),(1,[0,1])]) [(127,Tz),(128,FD)] (A4 [(10,[]),(9,[0,0,0,0]),(8,[0,0,0,0,3,34]),(7,[0,0,0,0,3,0]),(6,[0,0,0,0,3,25]),(5,[0,0,0,0,3]),(4,[0,1]),(3,[0,1,3,18]),(2,[0,1,3]),(1,[0,1,11]),(0,[0,0,0,0,7])]) [128] (A4 [(2,[0,1]),(3,[0,0,0,0]),(0,[]),(1,[0,1])]) (some []) [] [] []
noncomputable def JO{W R:Type}(Q:Yh W)(Y n:Nat)(d a:By)(c:Int)(s:W)(b:By->By->Int->W->Option R):Option R:=match n with|0=>none|n+1=>cond (ltI 0 (a.length:Int)) none (b d a c s)
theorem Ai3(n:Nat)(b c:By)(a:Int)(s:W):E7 3 ((Ao Y).keep 1) (bd (Ao Y) J Q (cd [0,1,0,0,0,0] Ue)) n ⟨gp [(0,.yd),(1,.ptr 1 0 0)] 49,[.box [pS b],.box [pS c],.box [pI a]],s⟩ k =
 JO Q Y n b c a s (λb c a s=>k (.exit 0) ⟨gp [] 52,[.box [pS b],.box [pS c],.box [pI a]],s⟩):=by
 induction n generalizing b c a s with
 | zero=>rfl
 | succ n d=>rw[JO];kernel_rfl
noncomputable def T0{W R:Type}(Q:Yh W)(Y n:Nat)(c a:By)(g:Int)(s:W)(i:By->By->Int->W->Option R)(j:By->By->Int->W->Option R):Option R:=match n with
 | 0=>none
 | n+1=>
  cond (A3 a.length)
   (cond (ltI (ai8 a c) (0:Int))
   (i c a g s)
   (vl (A1 ((ai8 a c)+g)) λe=>
    cond (K5 0 e a.length)
    (ydK (Q [pS (cut a 0 e)] s) λd b=>
     (cond (not d)
     (j c a g b)
     (vl (A1 ((ai8 a c)+(c.length:Int))) λf=>
      cond (K5 f (a.length:Int) a.length)
      (vl (cut a f (a.length:Int)) λh=>
       T0 Q Y n c h g b i j)
      none)))
    none))
   none
theorem Ai4(n:Nat)(b c:By)(a:Int)(s:W):E7 3 ((Ao Y).keep 5) (bd (Ao Y) J Q (cd [1,0,0,0] Ue)) n ⟨gp [(0,.yd),(0,.ptr 0 0 0),(0,.ptr 1 0 0),(0,.ptr 2 0 0)] 48,[.box [pS b],.box [pS c],.box [pI a]],s⟩ k =
 T0 Q Y n b c a s (λb c a s=>k (.exit 2) ⟨gp [(0,.yd),(1,.ptr 1 0 0)] 49,[.box [pS b],.box [pS c],.box [pI a]],s⟩) (λb c a s=>k .ret ⟨gp [] 52,[.box [pS b],.box [pS c],.box [pI a]],s⟩):=by
 induction n generalizing b c a s with
 | zero=>rfl
 | succ n d=>rw[T0];simp only[<-d];kernel_rfl
noncomputable def Ai2{W R:Type}(Q:Yh W)(Y:Nat)(p t:By)(n:Int)(s:W)(j:By->By->Int->W->Option R):Option R:=
 cond ((p.length:Int)==0)
 (JO Q Y Y p t n s (λm o l q=>j m o l q))
 (T0 Q Y Y p t n s (λr a c e=>ydK (Q [pS a] e) λi b=>
  (j r a c b)) (λf g d h=>j f g d h))
theorem Cd6(d:Nat)(p t n s):evC (Ao Y) (d+1) W Q 126 [.yd,.ptr 0 0 0,.ptr 1 0 0,.ptr 2 0 0] [.box [pS p],.box [pS t],.box [pI n]] s=Ai2 Q Y p t n s (λb c a s=>some (.tup [],[.box [pS b],.box [pS c],.box [pI a]],s)):=by refine(evE (fn:=am0) (by kernel_rfl)).trans ?_;generalize evC (Ao Y) d=J;unfold Ai2;exact(j8 (by kernel_rfl) (A0 ((Ai3 Y J Q (F9 0 (G6 (Ao Y) J Q (cd [0,1,0,1] Ue) (G6 (Ao Y) J Q (cd [1] Ue) (I1 (Ao Y) am0)))) Y p t n s).trans (by kernel_rfl)) ((Ai4 Y J Q (F9 2 (G6 (Ao Y) J Q (cd [1,1] Ue) (I1 (Ao Y) am0))) Y p t n s).trans (by kernel_rfl))))
end
section
variable {W R : Type} (L : Nat) (Q : F4) (Y : Yh W) (s : W) (k : Out -> St W -> Option R)
noncomputable def RU(L:Nat):Cfg:=C8 L [179] (A4 []) [] (A4 [(1,[2]),(0,[0])]) [] (A4 []) (some [2]) [] [] []
noncomputable def C36{R:Type}(L:Nat)(a:Unit->Option R):Option R:=a ()
theorem B71(d:Nat):evC (RU L) (d+1) W Y 179 [pI (16:Int)] [] s=C36 L  (λ_=>some (pB true,[],s)):=by refine(evE (fn:=Tryz.f179) (by kernel_rfl)).trans ?_;generalize evC (RU L) d=Q;unfold C36;kernel_rfl
noncomputable abbrev RK:Code:=E0 ao6
noncomputable def Ih(L:Nat):Cfg:=C8 L [161] (A4 [(11,[0,0,1,0,5,0,0,0,0,0,0]),(18,[0,0,1,0,5,0,0,0,3])]) [(179,PJ),(180,C45)] (A4 [(30,[10,0]),(29,[10,0]),(28,[0,9,0,0,0,80]),(27,[0,3,5,0,0,0]),(26,[0,3,5,0,0,0]),(25,[0,3,5,0,0,0,75]),(16,[0,2,0,5,0,0,0]),(15,[0,0,1,0,5,0,0,0]),(14,[0,0,1,0,5,0,0,0,0,0,0]),(13,[0,0,1,0,5,0,0,0,0,0,0]),(12,[0,0,1,0,5,0,0,0,0,0,0]),(11,[0,0,1,0,5,0,0,0,0,0,0,29]),(10,[0,0,1,0,5,0,0,0,0,0,0]),(9,[0,0,0,0,0,5,0,0,0,0,0]),(8,[0,0,0,0,0,5,0,0,0,0]),(24,[0,2,0,5,0,0,0]),(23,[0,0,1,0,5,0,0,0]),(22,[0,0,1,0,5,0,0,0,3]),(21,[0,2,0,5,0,0,0,3,0]),(20,[0,0,1,0,5,0,0,0,3,0]),(19,[0,0,1,0,5,0,0,0,3]),(18,[0,0,1,0,5,0,0,0,3,50]),(17,[0,0,1,0,5,0,0,0,3]),(7,[0,0,0,0,0,5,0,0,0,20]),(6,[0,0,0,0,0,5,0,0,0]),(5,[0,0,0,0,0,5,0,0,0,16]),(4,[0,0,0,0,0,5,0,0,0]),(3,[0,0,0,0,0,5,0,0]),(2,[0,0,0,0,0,5,0]),(1,[0,0,0,0,0,5,0,16]),(0,[0,0,0,0,0,5,0])]) [179,180] (A4 [(0,[0,0,1,0,5,0,0,0]),(1,[0,0,1,0,5,0,0,0,0,0,0]),(2,[0,0,1,0,5,0,0,0]),(3,[0,0,1,0,5,0,0,0,3])]) (some [10,0]) [] [] []
noncomputable def Kl{R:Type}(L n:Nat)(b a:Bool)(c:LL)(g d:Int)(f:LL)(j:Bool->Bool->LL->Int->Int->LL->Option R):Option R:=match n with|0=>none|n+1=>cond (not (ltI g 16)) (vl (An6 .u64 g (15:Int)) λe=>cond (inR e 36) (vl (bAt (([48,49,50,51,52,53,54,55,56,57,97,98,99,100,101,102,103,104,105,106,107,108,109,110,111,112,113,114,115,116]:List UInt8)++[117,118,119,120,121,122]) e) λi=>cond (inR (A1 (d-1)) 65) (cond (decide ((x5 (A1 (d-1)))<f.length)) (vl (ai5 f (x5 (A1 (d-1))) (H8 (j0 f (x5 (A1 (d-1))) []) 0 [(SV.int .u8 i)])) λh=>Kl L n b a c (Rl .u64 g (4:Int)) (A1 (d-1)) h j) none) none) none) (j b a c g d f)
theorem ZU(n b a c f d e):E7 2 ((Ih L).keep 11) (bd (Ih L) Q Y (cd [1,1,1,1,1,0,1,0,1,1,1,0,0,0] RK)) n ⟨gp [(0,.s (.sl b a 0 c)),(0,p64 f),(1,pB false),(0,pB false),(5,.fl 0),(0,pS ([]:List UInt8)),(0,.ptr 1 0 0),(0,pI d),(0,p64 (4:Int)),(0,p64 (16:Int)),(0,p64 (15:Int))] 85,[.arr true 5 1 [],.arr false 181 1 e],s⟩ k =
 Kl L n b a c f d e (λb a c f d e=>k (.exit 0) ⟨gp [(0,.s (.sl b a 0 c)),(0,p64 f),(1,pB false),(0,pB false),(5,.fl 0),(0,pS ([]:List UInt8)),(0,.ptr 1 0 0),(0,pI d)] 88,[.arr true 5 1 [],.arr false 181 1 e],s⟩):=by
 induction n generalizing b a c f d e with
 | zero=>rfl
 | succ n g=>rw[Kl];simp only[<-g];kernel_rfl
noncomputable def ZT{R:Type}(L:Nat)(e d:Bool)(ds:LL)(v:Int)(m:By->LL->Option R):Option R:=cond ((16:Int)==16) (cond ((16:Int)==16) (Kl L L e d ds v 65 (j6 65 [(SV.int .u8 (0:Int))]) (λg f j i a c=>cond (inR i 36) (vl (bAt (([48,49,50,51,52,53,54,55,56,57,97,98,99,100,101,102,103,104,105,106,107,108,109,110,111,112,113,114,115,116]:List UInt8)++[117,118,119,120,121,122]) i) λl=>cond (inR (A1 (a-1)) 65) (cond (decide ((x5 (A1 (a-1)))<c.length)) (vl (ai5 c (x5 (A1 (a-1))) (H8 (j0 c (x5 (A1 (a-1))) []) 0 [(SV.int .u8 l)])) λb=>cond (decide (b.length=65)) (cond (K5 (A1 (a-1)) (65:Int) 65) (cond (List.all (ah2 (65-(x5 (A1 (a-1)))) (al6 (x5 (A1 (a-1))) b)) Td) (vl (aq4 Rf (ah2 (65-(x5 (A1 (a-1)))) (al6 (x5 (A1 (a-1))) b))) λh=>m h b) none) none) none) none) none) none)) none) none
theorem B50(d:Nat)(ds_z ds_t ds v):evC (Ih L) (d+1) W Y 161 [.s (.sl ds_z ds_t 0 ds),p64 v,pI (16:Int),pB false,pB false] [] s=ZT L ds_z ds_t ds v (λb a=>some (.tup [.fl 0,pS b],[.arr true 5 1 [],.arr false 181 1 a],s)):=by refine(evE (fn:=ao6) (by kernel_rfl)).trans ?_;generalize evC (Ih L) d=Q;unfold ZT;exact(j8 (by kernel_rfl) (A0 (A0 ((ZU L Q Y s (F9 0 (G6 (Ih L) Q Y (cd [1,1,1,1,1,0,1,0,1,1,1,1] RK) (G6 (Ih L) Q Y (cd [1,1,1,1,1,1] RK) (I1 (Ih L) ao6)))) L ds_z ds_t ds v 65 (j6 65 [(SV.int .u8 (0:Int))])).trans (by kernel_rfl)) rfl) rfl))
noncomputable def RT(L:Nat):Cfg:=C8 L [132] (A4 []) [(161,OT)] (A4 [(9,[4]),(8,[8]),(7,[4]),(6,[5,0]),(5,[0,4,0]),(4,[0,4]),(3,[4]),(2,[0,11]),(1,[0,0,8]),(0,[0,0])]) [] (A4 []) (some [4]) [] [] []
noncomputable def Bd9{R:Type}(L:Nat)(v:Int)(a:By->Option R):Option R:=cond (ltN v 65536) (cond ((16:Int)==16) (a (R7 (x5 v))) none) none
theorem B66(d:Nat)(v):evC (RT L) (d+1) W Y 132 [p64 v,pI (16:Int)] [] s=Bd9 L v (λa=>some (pS a,[],s)):=by refine(evE (fn:=Tryz.f132) (by kernel_rfl)).trans ?_;generalize evC (RT L) d=Q;unfold Bd9;kernel_rfl
noncomputable def Ao5(L:Nat):Cfg:=C8 L [101] (A4 []) [(132,PH)] (A4 [(1,[4]),(0,[0,0])]) [132] (A4 []) (some [4]) [] [] []
noncomputable def Co6{R:Type}(L:Nat)(v:Int)(a:By->Option R):Option R:=cond (ltN v 65536) (cond ((16:Int)==16) (a (R7 (x5 v))) none) none
theorem Co7(d:Nat)(v):evC (Ao5 L) (d+1) W Y 101 [p64 v,pI (16:Int)] [] s=Co6 L v (λa=>some (pS a,[],s)):=by refine(evE (fn:=Tryz.f101) (by kernel_rfl)).trans ?_;generalize evC (Ao5 L) d=Q;unfold Co6;kernel_rfl
end
end
end Go.Proofs.YtddlcgjamdbinaaGreatDoor.E
namespace Go.Proofs
open Go.Shelf
def Tryz.lays156_ren:x6:=⟨fun|156=>102|165=>133|166=>134|169=>135|240=>162|241=>163|276=>181|277=>182|n=>n,fun|31=>22|9=>9|3=>3|4=>4|0=>0|20=>20|72=>148|76=>152|70=>146|37=>83|75=>151|127=>170|164=>182|5=>5|80=>154|n=>n,fun|n=>n⟩
theorem Tryz.lays156:ar4 o6 Tryz.lays156_ren:={
 mixed:=by kernel_rfl
 f156:=Tryz.func102.trans (congrArg some (by kernel_rfl))
 f165:=Tryz.func133.trans (congrArg some (by kernel_rfl))
 f166:=Tryz.func134.trans (congrArg some (by kernel_rfl))
 f169:=Tryz.func135.trans (congrArg some (by kernel_rfl))
 f240:=Tryz.func162.trans (congrArg some (by kernel_rfl))
 f241:=Tryz.func163.trans (congrArg some (by kernel_rfl))
 f276:=Tryz.func181.trans (congrArg some (by kernel_rfl))
 f277:=Tryz.func182.trans (congrArg some (by kernel_rfl))
 t0:=x3
 a0:=ab7
 z0:=ab0
 v0:=x8
 t3:=o9
 a3:=z7
 z3:=x7
 v3:=p4
 t4:=p6
 a4:=aa5
 z4:=y8
 v4:=p7
 t9:=p9
 a9:=ab2
 z9:=aa4
 v9:=w6
 t20:=al2
 a20:=ap9
 z20:=ao3
 v20:=am2
 t31:=ag6
 a31:=al1
 z31:=aj3
 v31:=ah4
 t37:=al3
 a37:=aq0
 z37:=ao4
 v37:=am3
 t70:=Tryz.underlying146
 a70:=Tryz.isAgg146
 z70:=Tryz.sizeOf146
 v70:=Tryz.zeroValue146
 t72:=Tryz.underlying148
 a72:=Tryz.isAgg148
 z72:=Tryz.sizeOf148
 v72:=Tryz.zeroValue148
 t75:=Tryz.underlying151
 a75:=Tryz.isAgg151
 z75:=Tryz.sizeOf151
 v75:=Tryz.zeroValue151
 t76:=Tryz.underlying152
 a76:=Tryz.isAgg152
 z76:=Tryz.sizeOf152
 v76:=Tryz.zeroValue152
 t127:=Tryz.underlying170
 a127:=Tryz.isAgg170
 z127:=Tryz.sizeOf170
 v127:=Tryz.zeroValue170
 t164:=Tryz.underlying182
 a164:=Tryz.isAgg182
 z164:=Tryz.sizeOf182
 v164:=Tryz.zeroValue182 }
theorem Tryz.Builder_Extra_156:Builder.Extra o6 Tryz.lays156_ren:={
 sizeBuilder:=by kernel_rfl
 liesBuilder:=by kernel_rfl
 t5:=x4
 a5:=ab8
 z5:=ab1
 v5:=x9
 infoByte:=by kernel_rfl
 cellsByte:=by kernel_rfl
 sizeByte:=by kernel_rfl
 neB5:=by decide }
def Tryz.lays195_ren:x6:=⟨fun|195=>170|n=>n,fun|9=>9|3=>3|0=>0|4=>4|n=>n,fun|n=>n⟩
theorem Tryz.lays195:ar7 o6 Tryz.lays195_ren:={
 mixed:=by kernel_rfl
 f195:=ap5.trans (congrArg some (by kernel_rfl))
 t0:=x3
 a0:=ab7
 z0:=ab0
 v0:=x8
 t3:=o9
 a3:=z7
 z3:=x7
 v3:=p4
 t4:=p6
 a4:=aa5
 z4:=y8
 v4:=p7
 t9:=p9
 a9:=ab2
 z9:=aa4
 v9:=w6 }
def Tryz.laysM171_ren:x6:=⟨fun|171=>61|243=>100|246=>131|283=>158|284=>159|285=>160|286=>161|129=>85|317=>177|318=>178|319=>179|320=>180|337=>191|338=>192|n=>n,fun|3=>3|9=>9|2=>2|4=>4|171=>166|0=>0|53=>115|37=>83|5=>5|173=>168|212=>180|51=>25|20=>20|213=>181|46=>79|232=>190|233=>191|n=>n,fun|17=>3|18=>4|19=>5|n=>n⟩
theorem Tryz.laysM171:aq2 o6 Tryz.laysM171_ren:={
 mixed:=by kernel_rfl
 f129:=aq8.trans (congrArg some (by kernel_rfl))
 f171:=Tryz.func61.trans (congrArg some (by kernel_rfl))
 f243:=Tryz.func100.trans (congrArg some (by kernel_rfl))
 f246:=Tryz.func131.trans (congrArg some (by kernel_rfl))
 f283:=Tryz.func158.trans (congrArg some (by kernel_rfl))
 f284:=Tryz.func159.trans (congrArg some (by kernel_rfl))
 f285:=Tryz.func160.trans (congrArg some (by kernel_rfl))
 f286:=Tryz.func161.trans (congrArg some (by kernel_rfl))
 f317:=Tryz.func177.trans (congrArg some (by kernel_rfl))
 f318:=Tryz.func178.trans (congrArg some (by kernel_rfl))
 f319:=Tryz.func179.trans (congrArg some (by kernel_rfl))
 f320:=ap6.trans (congrArg some (by kernel_rfl))
 f337:=ap7.trans (congrArg some (by kernel_rfl))
 f338:=ap8.trans (congrArg some (by kernel_rfl))
 t0:=x3
 a0:=ab7
 z0:=ab0
 v0:=x8
 t2:=Tryz.underlying2
 a2:=Tryz.isAgg2
 z2:=Tryz.sizeOf2
 v2:=Tryz.zeroValue2
 t3:=o9
 a3:=z7
 z3:=x7
 v3:=p4
 t4:=p6
 a4:=aa5
 z4:=y8
 v4:=p7
 t5:=x4
 a5:=ab8
 z5:=ab1
 v5:=x9
 t9:=p9
 a9:=ab2
 z9:=aa4
 v9:=w6
 t20:=al2
 a20:=ap9
 z20:=ao3
 v20:=am2
 t37:=al3
 a37:=aq0
 z37:=ao4
 v37:=am3
 t46:=y9
 a46:=ad1
 z46:=ac1
 v46:=aa2
 t51:=ab9
 a51:=ae1
 z51:=ad6
 v51:=ac4
 t53:=ad8
 a53:=ag9
 z53:=ag0
 v53:=ae2
 t171:=Tryz.underlying166
 a171:=Tryz.isAgg166
 z171:=Tryz.sizeOf166
 v171:=Tryz.zeroValue166
 t173:=Tryz.underlying168
 a173:=Tryz.isAgg168
 z173:=Tryz.sizeOf168
 v173:=Tryz.zeroValue168
 t212:=Tryz.underlying180
 a212:=Tryz.isAgg180
 z212:=Tryz.sizeOf180
 v212:=Tryz.zeroValue180
 t213:=Tryz.underlying181
 a213:=Tryz.isAgg181
 z213:=Tryz.sizeOf181
 t232:=aj6
 a232:=ao1
 z232:=an3
 v232:=al4
 t233:=aj7
 a233:=ao2
 z233:=an4
 v233:=Tryz.zeroValue191
 g17:=by kernel_rfl
 g18:=by kernel_rfl
 g19:=by kernel_rfl
 i0:=by kernel_rfl
 i2:=by kernel_rfl
 i3:=by kernel_rfl
 i4:=by kernel_rfl
 i5:=by kernel_rfl
 i9:=by kernel_rfl
 i20:=by kernel_rfl
 i37:=by kernel_rfl
 i46:=by kernel_rfl
 i51:=by kernel_rfl
 i53:=by kernel_rfl
 i171:=by kernel_rfl
 i173:=by kernel_rfl
 i212:=by kernel_rfl
 i232:=by kernel_rfl
 i233:=by kernel_rfl
 m17:=by kernel_rfl
 m18:=by kernel_rfl
 m19:=by kernel_rfl }
def Tryz.lays143_ren:x6:=⟨fun|143=>128|219=>136|217=>137|225=>140|224=>139|267=>164|266=>165|314=>183|n=>n,fun|9=>9|3=>3|4=>4|5=>5|46=>79|146=>185|51=>25|n=>n,fun|1=>0|n=>n⟩
theorem Tryz.lays143:ar1 o6 Tryz.lays143_ren:={
 mixed:=by kernel_rfl
 f143:=ap4.trans (congrArg some (by kernel_rfl))
 f217:=af4.trans (congrArg some (by kernel_rfl))
 f219:=ak8.trans (congrArg some (by kernel_rfl))
 f224:=ah7.trans (congrArg some (by kernel_rfl))
 f225:=ah8.trans (congrArg some (by kernel_rfl))
 f266:=af5.trans (congrArg some (by kernel_rfl))
 f267:=ak9.trans (congrArg some (by kernel_rfl))
 f314:=al0.trans (congrArg some (by kernel_rfl))
 t3:=o9
 a3:=z7
 z3:=x7
 v3:=p4
 t4:=p6
 a4:=aa5
 z4:=y8
 v4:=p7
 t5:=x4
 a5:=ab8
 z5:=ab1
 v5:=x9
 t9:=p9
 a9:=ab2
 z9:=aa4
 v9:=w6
 t46:=y9
 a46:=ad1
 z46:=ac1
 v46:=aa2
 t51:=ab9
 a51:=ae1
 z51:=ad6
 v51:=ac4
 t146:=ag1
 a146:=aj2
 z146:=ai7
 v146:=ag7
 g1:=by kernel_rfl }
def Tryz.lays145_ren:x6:=⟨fun|145=>64|220=>103|219=>136|217=>137|225=>140|224=>139|267=>164|266=>165|314=>183|n=>n,fun|9=>9|4=>4|59=>99|3=>3|5=>5|46=>79|146=>185|51=>25|n=>n,fun|1=>0|n=>n⟩
theorem Tryz.lays145:ar2 o6 Tryz.lays145_ren:={
 mixed:=by kernel_rfl
 f145:=Tryz.func64.trans (congrArg some (by kernel_rfl))
 f217:=af4.trans (congrArg some (by kernel_rfl))
 f219:=ak8.trans (congrArg some (by kernel_rfl))
 f220:=Tryz.func103.trans (congrArg some (by kernel_rfl))
 f224:=ah7.trans (congrArg some (by kernel_rfl))
 f225:=ah8.trans (congrArg some (by kernel_rfl))
 f266:=af5.trans (congrArg some (by kernel_rfl))
 f267:=ak9.trans (congrArg some (by kernel_rfl))
 f314:=al0.trans (congrArg some (by kernel_rfl))
 t3:=o9
 a3:=z7
 z3:=x7
 v3:=p4
 t4:=p6
 a4:=aa5
 z4:=y8
 v4:=p7
 t5:=x4
 a5:=ab8
 z5:=ab1
 v5:=x9
 t9:=p9
 a9:=ab2
 z9:=aa4
 v9:=w6
 t46:=y9
 a46:=ad1
 z46:=ac1
 v46:=aa2
 t51:=ab9
 a51:=ae1
 z51:=ad6
 v51:=ac4
 t59:=Tryz.underlying99
 a59:=Tryz.isAgg99
 z59:=Tryz.sizeOf99
 v59:=Tryz.zeroValue99
 t146:=ag1
 a146:=aj2
 z146:=ai7
 v146:=ag7
 g1:=by kernel_rfl }
def Tryz.lays138_ren:x6:=⟨fun|138=>172|195=>170|218=>186|143=>128|219=>136|217=>137|225=>140|224=>139|267=>164|266=>165|314=>183|n=>n,fun|9=>9|3=>3|4=>4|5=>5|0=>0|46=>79|146=>185|51=>25|n=>n,fun|1=>0|n=>n⟩
theorem Tryz.lays138:ar0 o6 Tryz.lays138_ren:={
 mixed:=by kernel_rfl
 f138:=Tryz.func172.trans (congrArg some (by kernel_rfl))
 f143:=ap4.trans (congrArg some (by kernel_rfl))
 f195:=ap5.trans (congrArg some (by kernel_rfl))
 f217:=af4.trans (congrArg some (by kernel_rfl))
 f218:=Tryz.func186.trans (congrArg some (by kernel_rfl))
 f219:=ak8.trans (congrArg some (by kernel_rfl))
 f224:=ah7.trans (congrArg some (by kernel_rfl))
 f225:=ah8.trans (congrArg some (by kernel_rfl))
 f266:=af5.trans (congrArg some (by kernel_rfl))
 f267:=ak9.trans (congrArg some (by kernel_rfl))
 f314:=al0.trans (congrArg some (by kernel_rfl))
 t0:=x3
 a0:=ab7
 z0:=ab0
 v0:=x8
 t3:=o9
 a3:=z7
 z3:=x7
 v3:=p4
 t4:=p6
 a4:=aa5
 z4:=y8
 v4:=p7
 t5:=x4
 a5:=ab8
 z5:=ab1
 v5:=x9
 t9:=p9
 a9:=ab2
 z9:=aa4
 v9:=w6
 t46:=y9
 a46:=ad1
 z46:=ac1
 v46:=aa2
 t51:=ab9
 a51:=ae1
 z51:=ad6
 v51:=ac4
 t146:=ag1
 a146:=aj2
 z146:=ai7
 v146:=ag7
 g1:=by kernel_rfl }
def Tryz.lays196_ren:x6:=⟨fun|196=>169|259=>185|n=>n,fun|9=>9|4=>4|3=>3|5=>5|12=>12|119=>172|0=>0|46=>79|139=>175|138=>174|53=>115|n=>n,fun|3=>1|4=>2|n=>n⟩
theorem Tryz.lays196:ar8 o6 Tryz.lays196_ren:={
 mixed:=by kernel_rfl
 f196:=Tryz.func169.trans (congrArg some (by kernel_rfl))
 f259:=Tryz.func185.trans (congrArg some (by kernel_rfl))
 t0:=x3
 a0:=ab7
 z0:=ab0
 v0:=x8
 t3:=o9
 a3:=z7
 z3:=x7
 v3:=p4
 t4:=p6
 a4:=aa5
 z4:=y8
 v4:=p7
 t5:=x4
 a5:=ab8
 z5:=ab1
 v5:=x9
 t9:=p9
 a9:=ab2
 z9:=aa4
 v9:=w6
 t12:=Tryz.underlying12
 a12:=Tryz.isAgg12
 z12:=Tryz.sizeOf12
 v12:=Tryz.zeroValue12
 t46:=y9
 a46:=ad1
 z46:=ac1
 v46:=aa2
 t53:=ad8
 a53:=ag9
 z53:=ag0
 v53:=ae2
 t119:=Tryz.underlying172
 a119:=Tryz.isAgg172
 z119:=Tryz.sizeOf172
 t138:=Tryz.underlying174
 a138:=Tryz.isAgg174
 z138:=Tryz.sizeOf174
 v138:=Tryz.zeroValue174
 t139:=Tryz.underlying175
 a139:=Tryz.isAgg175
 z139:=Tryz.sizeOf175
 v139:=Tryz.zeroValue175
 g3:=by kernel_rfl
 g4:=by kernel_rfl }
def Tryz.lays2_21_ren:x6:=⟨fun|21=>174|27=>188|28=>189|35=>195|39=>196|n=>n,fun|22=>88|3=>3|4=>4|0=>0|n=>n,fun|n=>n⟩
theorem Tryz.lays2_21:ar9 o6 Tryz.lays2_21_ren:={
 mixed:=by kernel_rfl
 f21:=Tryz.func174.trans (congrArg some (by kernel_rfl))
 f27:=Tryz.func188.trans (congrArg some (by kernel_rfl))
 f28:=Tryz.func189.trans (congrArg some (by kernel_rfl))
 f35:=Tryz.func195.trans (congrArg some (by kernel_rfl))
 f39:=Tryz.func196.trans (congrArg some (by kernel_rfl))
 t0:=x3
 a0:=ab7
 z0:=ab0
 v0:=x8
 t3:=o9
 a3:=z7
 z3:=x7
 v3:=p4
 t4:=p6
 a4:=aa5
 z4:=y8
 v4:=p7
 t22:=Tryz.underlying88
 a22:=Tryz.isAgg88
 z22:=Tryz.sizeOf88
 v22:=Tryz.zeroValue88
 i3:=by kernel_rfl }
def Tryz.lays7_27_ren:x6:=⟨fun|27=>180|28=>191|29=>192|n=>n,fun|25=>79|3=>3|27=>25|22=>115|4=>4|53=>190|0=>0|5=>5|54=>191|n=>n,fun|0=>4|1=>5|n=>n⟩
theorem Tryz.lays7_27:as0 o6 Tryz.lays7_27_ren:={
 mixed:=by kernel_rfl
 f27:=ap6.trans (congrArg some (by kernel_rfl))
 f28:=ap7.trans (congrArg some (by kernel_rfl))
 f29:=ap8.trans (congrArg some (by kernel_rfl))
 t0:=x3
 a0:=ab7
 z0:=ab0
 v0:=x8
 i0:=by kernel_rfl
 t3:=o9
 a3:=z7
 z3:=x7
 v3:=p4
 i3:=by kernel_rfl
 t4:=p6
 a4:=aa5
 z4:=y8
 v4:=p7
 i4:=by kernel_rfl
 t5:=x4
 a5:=ab8
 z5:=ab1
 v5:=x9
 i5:=by kernel_rfl
 t22:=ad8
 a22:=ag9
 z22:=ag0
 v22:=ae2
 i22:=by kernel_rfl
 t25:=y9
 a25:=ad1
 z25:=ac1
 v25:=aa2
 i25:=by kernel_rfl
 t27:=ab9
 a27:=ae1
 z27:=ad6
 v27:=ac4
 i27:=by kernel_rfl
 t53:=aj6
 a53:=ao1
 z53:=an3
 v53:=al4
 i53:=by kernel_rfl
 t54:=aj7
 a54:=ao2
 z54:=an4
 g0:=by kernel_rfl
 g1:=by kernel_rfl }
def Tryz.lays137_ren:x6:=⟨fun|137=>104|217=>137|266=>165|n=>n,fun|9=>9|5=>5|3=>3|n=>n,fun|n=>n⟩
theorem Tryz.lays137:aq9 o6 Tryz.lays137_ren:={
 mixed:=by kernel_rfl
 f137:=ap3.trans (congrArg some (by kernel_rfl))
 f217:=af4.trans (congrArg some (by kernel_rfl))
 f266:=af5.trans (congrArg some (by kernel_rfl))
 t3:=o9
 a3:=z7
 z3:=x7
 v3:=p4
 t5:=x4
 a5:=ab8
 z5:=ab1
 v5:=x9
 t9:=p9
 a9:=ab2
 z9:=aa4
 v9:=w6 }
def Tryz.lays153_ren:x6:=⟨fun|153=>68|152=>106|226=>107|227=>108|228=>109|137=>104|119=>138|224=>139|225=>140|217=>137|266=>165|n=>n,fun|9=>9|3=>3|4=>4|5=>5|21=>21|117=>130|116=>129|0=>0|46=>79|124=>157|n=>n,fun|n=>n⟩
theorem Tryz.lays153:ar3 o6 Tryz.lays153_ren:={
 mixed:=by kernel_rfl
 f119:=Tryz.func138.trans (congrArg some (by kernel_rfl))
 f137:=ap3.trans (congrArg some (by kernel_rfl))
 f152:=Tryz.func106.trans (congrArg some (by kernel_rfl))
 f153:=Tryz.func68.trans (congrArg some (by kernel_rfl))
 f217:=af4.trans (congrArg some (by kernel_rfl))
 f224:=ah7.trans (congrArg some (by kernel_rfl))
 f225:=ah8.trans (congrArg some (by kernel_rfl))
 f226:=Tryz.func107.trans (congrArg some (by kernel_rfl))
 f227:=Tryz.func108.trans (congrArg some (by kernel_rfl))
 f228:=Tryz.func109.trans (congrArg some (by kernel_rfl))
 f266:=af5.trans (congrArg some (by kernel_rfl))
 t0:=x3
 a0:=ab7
 z0:=ab0
 v0:=x8
 t3:=o9
 a3:=z7
 z3:=x7
 v3:=p4
 t4:=p6
 a4:=aa5
 z4:=y8
 v4:=p7
 t5:=x4
 a5:=ab8
 z5:=ab1
 v5:=x9
 t9:=p9
 a9:=ab2
 z9:=aa4
 v9:=w6
 t21:=Tryz.underlying21
 a21:=Tryz.isAgg21
 z21:=Tryz.sizeOf21
 v21:=Tryz.zeroValue21
 t46:=y9
 a46:=ad1
 z46:=ac1
 v46:=aa2
 t116:=Tryz.underlying129
 a116:=Tryz.isAgg129
 z116:=Tryz.sizeOf129
 t117:=Tryz.underlying130
 a117:=Tryz.isAgg130
 z117:=Tryz.sizeOf130
 v117:=Tryz.zeroValue130
 t124:=Tryz.underlying157
 a124:=Tryz.isAgg157
 z124:=Tryz.sizeOf157
 v124:=Tryz.zeroValue157 }
def Tryz.lays190_ren:x6:=⟨fun|190=>23|125=>45|258=>44|128=>84|129=>85|302=>75|303=>76|304=>77|305=>78|306=>79|307=>80|308=>81|309=>82|310=>83|333=>117|329=>118|330=>119|334=>120|335=>121|336=>122|344=>150|n=>n,fun|31=>22|9=>9|3=>3|46=>79|0=>0|51=>25|53=>115|4=>4|183=>108|182=>107|131=>86|5=>5|218=>134|222=>138|228=>158|229=>96|n=>n,fun|n=>n⟩
theorem Tryz.lays190:ar5 o6 Tryz.lays190_ren:={
 mixed:=by kernel_rfl
 f125:=Tryz.func45.trans (congrArg some (by kernel_rfl))
 f128:=Tryz.func84.trans (congrArg some (by kernel_rfl))
 f129:=aq8.trans (congrArg some (by kernel_rfl))
 f190:=Tryz.func23.trans (congrArg some (by kernel_rfl))
 f258:=Tryz.func44.trans (congrArg some (by kernel_rfl))
 f302:=Tryz.func75.trans (congrArg some (by kernel_rfl))
 f303:=Tryz.func76.trans (congrArg some (by kernel_rfl))
 f304:=Tryz.func77.trans (congrArg some (by kernel_rfl))
 f305:=Tryz.func78.trans (congrArg some (by kernel_rfl))
 f306:=Tryz.func79.trans (congrArg some (by kernel_rfl))
 f307:=Tryz.func80.trans (congrArg some (by kernel_rfl))
 f308:=Tryz.func81.trans (congrArg some (by kernel_rfl))
 f309:=Tryz.func82.trans (congrArg some (by kernel_rfl))
 f310:=Tryz.func83.trans (congrArg some (by kernel_rfl))
 f329:=Tryz.func118.trans (congrArg some (by kernel_rfl))
 f330:=Tryz.func119.trans (congrArg some (by kernel_rfl))
 f333:=Tryz.func117.trans (congrArg some (by kernel_rfl))
 f334:=Tryz.func120.trans (congrArg some (by kernel_rfl))
 f335:=Tryz.func121.trans (congrArg some (by kernel_rfl))
 f336:=Tryz.func122.trans (congrArg some (by kernel_rfl))
 f344:=Tryz.func150.trans (congrArg some (by kernel_rfl))
 t0:=x3
 a0:=ab7
 z0:=ab0
 v0:=x8
 t3:=o9
 a3:=z7
 z3:=x7
 v3:=p4
 t4:=p6
 a4:=aa5
 z4:=y8
 v4:=p7
 t5:=x4
 a5:=ab8
 z5:=ab1
 v5:=x9
 t9:=p9
 a9:=ab2
 z9:=aa4
 v9:=w6
 t31:=ag6
 a31:=al1
 z31:=aj3
 v31:=ah4
 t46:=y9
 a46:=ad1
 z46:=ac1
 v46:=aa2
 t51:=ab9
 a51:=ae1
 z51:=ad6
 v51:=ac4
 t53:=ad8
 a53:=ag9
 z53:=ag0
 v53:=ae2
 t131:=Tryz.underlying86
 a131:=Tryz.isAgg86
 z131:=Tryz.sizeOf86
 v131:=Tryz.zeroValue86
 t182:=Tryz.underlying107
 a182:=Tryz.isAgg107
 z182:=Tryz.sizeOf107
 v182:=Tryz.zeroValue107
 t183:=Tryz.underlying108
 a183:=Tryz.isAgg108
 z183:=Tryz.sizeOf108
 v183:=Tryz.zeroValue108
 t218:=Tryz.underlying134
 a218:=Tryz.isAgg134
 z218:=Tryz.sizeOf134
 v218:=Tryz.zeroValue134
 t222:=Tryz.underlying138
 a222:=Tryz.isAgg138
 z222:=Tryz.sizeOf138
 v222:=Tryz.zeroValue138
 t228:=Tryz.underlying158
 a228:=Tryz.isAgg158
 z228:=Tryz.sizeOf158
 v228:=Tryz.zeroValue158
 t229:=Tryz.underlying96
 a229:=Tryz.isAgg96
 z229:=Tryz.sizeOf96
 v229:=Tryz.zeroValue96 }
def Tryz.lays194_ren:x6:=⟨fun|194=>24|n=>n,fun|31=>22|9=>9|3=>3|4=>4|0=>0|n=>n,fun|n=>n⟩
theorem Tryz.lays194:ar6 o6 Tryz.lays194_ren:={
 mixed:=by kernel_rfl
 f194:=Tryz.func24.trans (congrArg some (by kernel_rfl))
 t0:=x3
 a0:=ab7
 z0:=ab0
 v0:=x8
 t3:=o9
 a3:=z7
 z3:=x7
 v3:=p4
 t4:=p6
 a4:=aa5
 z4:=y8
 v4:=p7
 t9:=p9
 a9:=ab2
 z9:=aa4
 v9:=w6
 t31:=ag6
 a31:=al1
 z31:=aj3
 v31:=ah4 }
end Go.Proofs
namespace Go.Proofs.YtddlcgjamdbinaaGreatDoor.E
set_option linter.all false
section
open Go Go.Proofs Go.Sort
set_option maxRecDepth 100000
theorem TV{C:Cfg}{St:Nat->Prop}{w:World}{g:Nat}{k:IntKind}{zs:List Int}(a:GOK C St w)(b:C.G=GX)(h:GX.tab g=some (k,zs)):∃e x,w.heap[g]? = some (.cells (zs.map λz=>Value.int k z).toArray e x):=(a.1 g k zs (by rw[b];exact h)).2
theorem B54{C:Cfg}{St:Nat->Prop}{w:World}(a:GOK C St w)(b:C.G=GX):∃m,w.cell? ⟨0,0,none⟩=some (.int .i64 m):=(a.2 _ (by rw[b];rfl)).2
theorem CW{w:World}{g:Nat}{a:List Int}{k:IntKind}{e:TypeId}{x}(h:w.heap[g]? = some (.cells (a.map λz=>Value.int k z).toArray e x))(i:Nat)(b:i<a.length):w.cell? ⟨g,i,none⟩=some (.int k (a.getD i 0)):=by simp[World.cell?,h,j5,j9 b]
theorem Co9{C:Cfg}{St:Nat->Prop}{w:World}(f:GOK C St w)(a:C.G=GX):Lib.Utf8Tabs 1 2 w:=by
 obtain⟨j,m,h⟩:=TV (g:=1) (k:=.u8) (zs:=ak2) f a rfl;obtain⟨b,n,d⟩:=TV (g:=2) (k:=.u8) (zs:=Gs) f a rfl;refine⟨λc a=>?_,λi l=>⟨?_,?_⟩⟩
 ·rw[CW h c (by simp[ak2];omega)];simp[ak2,j5,j9,a]
 ·rw[CW d (2*i) (by simp[Gs];omega)];have:2*i<32:=by omega
  simp[Gs,j5,this]
 ·rw[CW d (2*i+1) (by simp[Gs];omega)];have:2*i+1<32:=by omega
  have e:(2*i+1) / 2=i:=by omega
  have b:¬(2*i+1) % 2=0:=by omega
  simp[Gs,j5,this,e,b]
theorem B55{C:Cfg}{St:Nat->Prop}{w:World}(b:GOK C St w)(c:C.G=GX):Lib.TabIs o6 w "internal/strconv.uint64pow10" .u64 ao8:=by
 obtain⟨d,e,a⟩:=TV (g:=3) (k:=.u64) (zs:=ao8) b c rfl;unfold Lib.TabIs World.var?
 rw [show o6.globalNamed "internal/strconv.uint64pow10" = some 3 by kernel_rfl]
 simp only[al8,a]
theorem A88:C0 o6 GX 128 FD:=by
 refine C0.fix (pf:=QQ) _ (K2 (fn:=Tryz.f128) (by kernel_rfl) (by kernel_rfl) (by kernel_rfl) ?_);intro args ret o h;unfold QQ at h;split at h
 ·rename_i s p;obtain⟨b,h⟩:=C9 h;obtain⟨rfl,rfl⟩:=I9 h;refine⟨rfl,rfl,λC r a t w q c f d=>?_⟩;obtain⟨U,V,rfl,j,k⟩:=d.arr2;obtain⟨n,rfl,rfl⟩:=j.inv_str;obtain⟨l,rfl,rfl⟩:=k.inv_str;obtain⟨m,g⟩:=B54 c a;have i:=N5 b;refine(Any.strings_Index Tryz.lays143 n l m w (by simp at i;omega) g).mono ?_;rintro e w' ⟨rfl,rfl⟩;exact⟨_,rfl,ae0 _ _,VP.mk_int _ _⟩
 ·cases h
theorem Cj4:C0 o6 GX 64 Am4:=by
 refine C0.fix (pf:=QP) _ (K2 (fn:=Tryz.f64) (by kernel_rfl) (by kernel_rfl) (by kernel_rfl) ?_);intro args ret q h;unfold QP at h;split at h
 ·rename_i s p;obtain⟨b,h⟩:=C9 h;obtain⟨rfl,rfl⟩:=I9 h;refine⟨rfl,rfl,λC t a u w r c f d=>?_⟩;obtain⟨U,V,rfl,j,k⟩:=d.arr2;obtain⟨o,rfl,rfl⟩:=j.inv_str;obtain⟨l,rfl,rfl⟩:=k.inv_str;obtain⟨m,g⟩:=B54 c a;have i:=N5 b;refine(Any.strings_Cut Tryz.lays145 o l m w (by simp at i;omega) g).mono ?_;rintro e w' ⟨rfl,n,rfl⟩;exact⟨_,rfl,Od _ _,VP.mk_tup3 (VP.mk_str _) (VP.mk_str _) (VP.mk_bool _)⟩
 ·cases h
theorem Cj3:C0 o6 GX 172 Am3:=by
 refine C0.fix (pf:=QO) _ (K2 (fn:=Tryz.f172) (by kernel_rfl) (by kernel_rfl) (by kernel_rfl) ?_);intro args ret o h;unfold QO at h;split at h
 ·rename_i s p;obtain⟨f,h⟩:=C9 h;obtain⟨rfl,rfl⟩:=I9 h;refine⟨rfl,rfl,λC t g u w q r j i=>?_⟩;obtain⟨U,V,rfl,l,m⟩:=i.arr2;obtain⟨n,rfl,rfl⟩:=l.inv_str;obtain⟨b,rfl,k⟩:=m.inv_str;obtain⟨c,rfl⟩:∃c,p=[c]:=by
   match p,f with
   | [c],_=>exact⟨c,rfl⟩
  have a:b=⟨#[c]⟩:=by
   cases b with
   | mk d=>congr 1;exact Array.toList_inj.1 k
  subst a;refine(Any.strings_Count_one Tryz.lays138 n c w).mono ?_;rintro e w' ⟨rfl,rfl⟩;exact⟨_,rfl,ae0 _ _,VP.mk_int _ _⟩
 ·cases h
theorem Ci4:C0 o6 GX 61 Al6:=by
 refine C0.fix (pf:=PK) _ (K2 (fn:=Tryz.f61) (by kernel_rfl) (by kernel_rfl) (by kernel_rfl) ?_);intro args ret l h;unfold PK at h;split at h
 ·rename_i n;obtain⟨b,h⟩:=C9 h;obtain⟨rfl,rfl⟩:=I9 h;refine⟨rfl,rfl,λC o a p w m c i g=>?_⟩;obtain⟨U,rfl,j⟩:=g.arr1;obtain rfl:=j.inv_int;obtain⟨d,f⟩:=D9.1 b;refine(Any.strconv_Itoa Tryz.laysM171 n (by omega) (by omega) w (B55 c a)).mono ?_;rintro e w' ⟨rfl,k,os,rfl⟩;refine⟨_,rfl,(Od w k).trans (show ap2 w.heap.size _ _ from GB (w.drewN k) os),?_⟩;have:Lib.itoa n=o0 n.toNat:=by unfold Lib.itoa;rw[J4]
  rw[this];exact VP.mk_str _
 ·cases h
theorem Je{l:LL}(h:l.all isS=true):l=C1 (l.map elS):=by
 unfold C1;rw[ah5]
 symm
 rw[ad5 (g:=id)]
 ·simp
 ·intro x a;have:=ac3.1 h x a;unfold isS at this;split at this
  ·rfl
  grind
theorem Bi3:C0 o6 GX 102 QT:=by
 refine C0.fix (pf:=FG) _ (K2 (fn:=Tryz.f102) (by kernel_rfl) (by kernel_rfl) (by kernel_rfl) ?_);intro args ret Hc h;unfold FG at h;split at h
 ·rename_i z t l p;obtain⟨L,h⟩:=C9 h;obtain⟨O,h⟩:=C9 h;obtain⟨P,h⟩:=C9 h;obtain⟨rfl,rfl⟩:=I9 h;refine⟨rfl,rfl,λC hP Q Γ w Vs hG H R=>?_⟩;obtain⟨U,V,rfl,Z,hv⟩:=R.arr2;obtain⟨u,rfl,rfl⟩:=hv.inv_str;have m:=N5 O;have hn:=N5 P;have Y:=Z.inv_s;have c:∀(a:Option Addr) (cap:Nat),l=[]->Calls o6 102 #[.slice a 0 cap,.string u] w λe w'=>∃V,e = .returned V/\ap2 w.heap.size w w'/\VP Γ (A2 []) w' (.s (.str (ah0 (l.map elS) u.data.toList))) V:=by
   intro a cap T;subst T;refine(Any.strings_Join_none Tryz.lays156 Tryz.Builder_Extra_156 a cap u w).mono ?_;rintro e w' ⟨rfl,rfl⟩;exact⟨_,rfl,ae0 _ _,VP.mk_str _⟩
  cases Y with
  | nil=>exact c _ _ rfl
  | emp=>exact c _ _ rfl
  | sl _ _ g off n cap sz Vc I M hm ht S W y K=>
   subst I;have N:=Je L;have J:∀i (h:i<l.length),∃b:ByteArray,(l[i])=[SV.str b.data.toList]/\w.cell? ⟨g,off+i,none⟩=some (.string b):=by
    intro i B;have d:=ac3.1 L (l[i]) (al7 B);unfold isS at d;split at d
    ·rename_i x r;have k:=y i B 0 (by rw[r];simp);have o:=K i B 0 (by rw[r];simp);simp only[r,List.getElem_cons_zero] at o;obtain⟨b,f,rfl⟩:=o.inv_str;rw[f] at k;exact⟨b,r,by simpa using k⟩
    ·cases d
   obtain⟨xs,q,A⟩:∃xs:List ByteArray,xs.map (·.data.toList)=l.map elS/\∀(j:Nat) x,xs[j]? = some x->w.cell? ⟨g,off+j,none⟩=some (.string x):=by
    refine⟨(l.map elS).map λs=>⟨s.toArray⟩,by simp[Function.comp_def],?_⟩;intro j x d;simp only[ak4] at d;cases D:l[j]? with
    | none=>simp[D] at d
    | some el=>
     obtain⟨F,rfl⟩:=List.getElem?_eq_some_iff.1 D;obtain⟨b,f,v⟩:=J j F;simp only[D,ad7,o7] at d;rw[f] at d;simp[elS,SV.gS] at d;rw[<-d];exact v
   have G:xs.length=l.length:=by
    have:=congrArg j4 q;simpa using this
   rw[<-q] at m ⊢;have f:g<w.heap.size:=H g S;have X:l.length<=140737488355328:=by omega
   refine(G▸Any.strings_Join Tryz.lays156 Tryz.Builder_Extra_156 g off cap xs u w A f (by omega) (by omega) (by omega)).mono ?_;rintro e w' ⟨rfl,hw⟩;exact⟨_,rfl,hw,VP.mk_str _⟩
 ·cases h
theorem A82(b:Nat)(f:b<=9223372036854775808):C0 o6 GX 56 (Lk b):=by
 induction b with
 | zero=>
  intro args ret c h;exfalso;unfold Lk Ic at h;split at h
  ·rename_i n g;obtain⟨a,h⟩:=C9 h;have:=D9.1 a;omega
  ·cases h
 | succ b d=>
  refine C0.fix (pf:=Ic (b+1)) _ (I4 [] (C₀:=Yt b) (K8.ok (l:=[(56,Lk b)]) rfl ⟨d (by omega),trivial⟩) (G5 rfl (by kernel_rfl)) follows ?_);intro args ret c h;unfold Ic at h;split at h
  ·rename_i n;obtain⟨a,h⟩:=C9 h;obtain⟨rfl,rfl⟩:=I9 h;have e:=(As4 b noY () 0 n).trans (TT b (by omega) n a);exact⟨rfl,rfl,rfl,1,_,_,e,rfl⟩
  ·cases h
theorem Bx8:C0 o6 GX 56 KY:=A82 4294967296 (by omega)
theorem Dd7(x:Nat)(h:x<65536):An6 .u64 (x:Int) 15=((x % 16:Nat):Int):=by unfold An6;rw[show ac8 .u64=64 from rfl,show(15:Int)=((15:Nat):Int) from rfl,C32 64 x 15 (by omega) (by omega),show x &&& 15=x % 16 from ae5 x 4];exact XH (by omega) (by omega)
theorem Di1(x:Nat):Rl .u64 (x:Int) 4=((x / 16:Nat):Int):=by unfold Rl;show Int.fdiv (x:Int) 16=_;grind
theorem Bc4(d:Nat)(h:d<16):bAt (([48,49,50,51,52,53,54,55,56,57,97,98,99,100,101,102,103,104,105,106,107,108,109,110,111,112,113,114,115,116]:List UInt8)++([117,118,119,120,121,122]:List UInt8)) (d:Int)=((Rj d).toNat:Int):=by
 have:∀d:Fin 16,bAt (([48,49,50,51,52,53,54,55,56,57,97,98,99,100,101,102,103,104,105,106,107,108,109,110,111,112,113,114,115,116]:List UInt8)++([117,118,119,120,121,122]:List UInt8)) (d.val:Int)=((Rj d.val).toNat:Int):=by decide
 exact this ⟨d,h⟩
def Ta(i:Nat)(s:By):LL:=j6 i [SV.int .u8 0]++s.map F0
theorem GU(i:Nat)(s:By):(Ta i s).length=i+s.length:=by simp[Ta]
theorem ZL(i:Nat)(s:By)(c:UInt8):ai5 (Ta (i+1) s) i (H8 (j0 (Ta (i+1) s) i []) 0 [SV.int .u8 (c.toNat:Int)])=Ta i (c::s):=by
 have a:j0 (Ta (i+1) s) i []=[SV.int .u8 0]:=by
  unfold Ta;grind
 rw[a];unfold Ta;rw[List.replicate_succ',ak3,ai4 _ _ (by simp),List.length_replicate,ak7];rfl
theorem As2{R:Type}(z t:Bool)(l:LL){e:Bool->Bool->LL->Int->Int->LL->Option R}:∀(v i n:Nat) (s:By),v<65536->v<n->i+s.length=65->(R7 v).length+s.length<=60->
  ∃(u a:Nat) (b:By),u<16/\Rj u::b=R7 v++s/\a+b.length=65/\Kl LF n z t l (v:Int) (i:Int) (Ta i s) e=e z t l (u:Int) (a:Int) (Ta a b):=by
 intro v
 induction v using af0 with
 | _ v w=>
  intro i n s r y q x;obtain⟨n,rfl⟩:∃m,n=m+1:=⟨n-1,by omega⟩
  rw[Kl];by_cases h:v<16
  ·refine⟨v,i,s,h,by rw[Hi h];rfl,q,?_⟩;rw[A8];rfl
  ·have d:=Gh h;have c:(R7 v).length=(R7 (v / 16)).length+1:=by rw[d];simp
   obtain⟨j,rfl⟩:∃j,i=j+1:=⟨i-1,by omega⟩
   have f:A1 (((j+1:Nat):Int)-1)=(j:Int):=by rw[A5];omega
   obtain⟨u,a,b,g,k,o,p⟩:=w (v / 16) (by omega) j n (Rj (v % 16)::s) (by omega) (by omega) (by rw[o8];omega) (by rw[o8];omega);refine⟨u,a,b,g,by rw[k,d];simp,o,?_⟩;rw[A6,j1,cond_true,Dd7 v r];simp only[vl];rw[Di1,f,c9,J1,Bc4 _ (by omega),J1];simp only[cond_true];rw[ZL,GU,show(decide (j<j+1+s.length))=true from decide_eq_true (by omega)];exact p
theorem Bl7{R:Type}{k0:By->LL->Option R}(z t:Bool)(l:LL)(v:Int)(f:ltN v 65536=true):∃p,ZT LF z t l v k0=k0 (R7 v.toNat) p:=by
 obtain⟨d,m⟩:=D9.1 f;obtain⟨v,rfl⟩:=k9 d;have k:=E2;have r:=HO v (by omega);rw[c9];unfold ZT;have o:(j6 65 [SV.int .u8 (0:Int)])=Ta 65 []:=by unfold Ta;rw[ao9,ad2]
 rw[o];obtain⟨u,i,s,g,c,q,h⟩:=As2 (R:=R) z t l v 65 LF [] (by omega) (by omega) rfl (by rw[ad3];omega);rw[ad2] at c;have n:s.length<=3:=by have:=congrArg j4 c;rw[o8] at this;omega
 obtain⟨j,rfl⟩:∃j,i=j+1:=⟨i-1,by omega⟩
 refine⟨Ta j (Rj u::s),?_⟩;rw[show((16:Int)==16)=true from rfl,cond_true,cond_true];refine j8 h ?_;have e:A1 (((j+1:Nat):Int)-1)=(j:Int):=by rw[A5];omega
 simp only[vl];rw[e,c9,J1,Bc4 u g,J1];simp only[cond_true];have a:(Rj u::s).length=s.length+1:=rfl;have b:((Ta j (Rj u::s)).drop j).take (65-j)=(Rj u::s).map F0:=by
  unfold Ta;rw[ai1 (by simp),w9 (by rw[ae8,a];omega)]
 rw[ZL,GU,GU,show(decide (j<j+1+s.length))=true from decide_eq_true (by omega),a,show(decide (j+(s.length+1)=65))=true from decide_eq_true (by omega),Q3,b,Br,Ca,c];rfl
theorem As3(z t:Bool)(l:LL)(v:Int)(c:ltN v 65536=true):∃r H,ZT LF z t l v (λb a=>rv (.tup [.fl 0,.s (.str b)]) [.arr true 5 1 [],.arr false 181 1 a])=rv r H/\r.stab [1,0] H = .tup [.s (.sl true true 1 []),.s (.str (R7 v.toNat))]:=by obtain⟨d,e⟩:=Bl7 (k0:=(λb a=>rv (.tup [.fl 0,.s (.str b)]) [.arr true 5 1 [],.arr false 181 1 a])) z t l v c;exact⟨_,_,e,rfl⟩
theorem Bl8{C:Cfg}{St:Nat->Prop}{w:World}(c:GOK C St w)(d:C.G=GX):TabAt 5 ak1 w:=by obtain⟨e,f,b⟩:=TV (g:=5) (k:=.u8) (zs:=ak1.map λn:Nat=>(n:Int)) c d rfl;intro j a;rw[CW b j (by rw[ae8];exact a)];simp[j5,j9 a]
theorem Di2:C0 o6 GX 180 C45:=by
 refine C0.fix (pf:=B08) _ (K2 (fn:=Tryz.f180) (by kernel_rfl) (by kernel_rfl) (by kernel_rfl) ?_);intro args ret i h;unfold B08 at h;split at h
 ·rename_i x;obtain⟨b,h⟩:=C9 h;obtain⟨rfl,rfl⟩:=I9 h;obtain rfl:x=16:=eq_of_beq b;refine⟨rfl,rfl,λC k a l w j c f d=>?_⟩;obtain⟨U,rfl,g⟩:=d.arr1;obtain rfl:=g.inv_int;refine(Any7.bits_TrailingZeros Tryz.lays7_27 16 (by omega) w (λ_=>Bl8 c a)).mono ?_;rintro e w' ⟨rfl,rfl⟩;exact⟨_,rfl,ae0 _ _,VP.mk_int _ _⟩
 ·cases h
theorem Cz7:C0 o6 GX 179 PJ:=by
 refine C0.fix (pf:=EA) _ (I4 [] (C₀:=RU LF) (K8.ok (l:=[]) rfl trivial) (G5 rfl (by kernel_rfl)) follows ?_);intro args ret b h;unfold EA at h;split at h
 ·rename_i x;obtain⟨a,h⟩:=C9 h;obtain⟨rfl,rfl⟩:=I9 h;obtain rfl:x=16:=eq_of_beq a;exact⟨rfl,rfl,rfl,1,_,_,B71 LF noY () 0,rfl⟩
 ·cases h
theorem Cz3:C0 o6 GX 161 OT:=by
 refine C0.fix (pf:=DT) _ (I4 [1,0] (C₀:=Ih LF) (K8.ok (l:=[(179,PJ),(180,C45)]) rfl ⟨Cz7,Di2,trivial⟩) (G5 rfl (by kernel_rfl)) follows ?_);intro args ret k h;unfold DT at h;split at h
 ·rename_i c a ds v b neg app;obtain⟨d,h⟩:=C9 h;obtain⟨f,h⟩:=C9 h;obtain⟨g,h⟩:=C9 h;obtain⟨i,h⟩:=C9 h;obtain⟨rfl,rfl⟩:=I9 h;obtain rfl:b=16:=eq_of_beq f;obtain rfl:neg=false:=by simpa using g
  obtain rfl:app=false:=by simpa using i
  obtain⟨r,H,e,j⟩:=As3 c a ds v d;exact⟨rfl,rfl,rfl,1,r,H,(B50 LF noY () 0 c a ds v).trans e,j⟩
 ·cases h
theorem Cz6:C0 o6 GX 132 PH:=by
 refine C0.fix (pf:=DZ) _ (I4 [] (C₀:=RT LF) (K8.ok (l:=[(161,OT)]) rfl ⟨Cz3,trivial⟩) (G5 rfl (by kernel_rfl)) follows ?_);intro args ret f h;unfold DZ at h;split at h
 ·rename_i v b;obtain⟨a,h⟩:=C9 h;obtain⟨c,h⟩:=C9 h;obtain⟨rfl,rfl⟩:=I9 h;obtain rfl:b=16:=eq_of_beq c;have e:Bd9 LF v (λd=>rv (.s (.str d)) [])=rv (.s (.str (R7 v.toNat))) []:=by
   unfold Bd9;rw[a];rfl
  exact⟨rfl,rfl,rfl,1,_,_,(B66 LF noY () 0 v).trans e,rfl⟩
 ·cases h
theorem Da5:C0 o6 GX 101 By8:=by
 refine C0.fix (pf:=OU) _ (I4 [] (C₀:=Ao5 LF) (K8.ok (l:=[(132,PH)]) rfl ⟨Cz6,trivial⟩) (G5 rfl (by kernel_rfl)) follows ?_);intro args ret f h;unfold OU at h;split at h
 ·rename_i v b;obtain⟨a,h⟩:=C9 h;obtain⟨c,h⟩:=C9 h;obtain⟨rfl,rfl⟩:=I9 h;obtain rfl:b=16:=eq_of_beq c;have e:Co6 LF v (λd=>rv (.s (.str d)) [])=rv (.s (.str (R7 v.toNat))) []:=by
   unfold Co6;rw[a];rfl
  exact⟨rfl,rfl,rfl,1,_,_,(Co7 LF noY () 0 v).trans e,rfl⟩
 ·cases h
end
section
open Go Go.Proofs
theorem C98(z t:Bool)(l:LL)(c:l.all Vo=true)(d:ac2 l.length 8=true):∃r H,v6j LF z t l (λb a=>rv (.s (.str b)) [.arr true 9 1 a])=rv r H/\r.stab [] H = .s (.str (T2 (l.map elN))):=by obtain⟨f,e⟩:=Cg7 (k0:=(λb a=>rv (.s (.str b)) [.arr true 9 1 a])) z t l c d;exact⟨_,_,e,rfl⟩
theorem C96(a b c d f g h i:Int)(l:ok8 a b c d f g h i=true):∃r H,v6f LF a b c d f g h i (λk j=>rv (.s (.str k)) [.arr false 27 1 j])=rv r H/\r.stab [] H = .s (.str (Nl (n8 a b c d f g h i))):=by obtain⟨m,e⟩:=Cg5 (k0:=(λk j=>rv (.s (.str k)) [.arr false 27 1 j])) a b c d f g h i l;exact⟨_,_,e,rfl⟩
def v6V(s:By):PV:=.tup [.agg [.s (.int .u16 (v6c 0 s)),.s (.int .u16 (v6c 1 s)),.s (.int .u16 (v6c 2 s)),.s (.int .u16 (v6c 3 s)),.s (.int .u16 (v6c 4 s)),.s (.int .u16 (v6c 5 s)),.s (.int .u16 (v6c 6 s)),.s (.int .u16 (v6c 7 s))],.s (.bool (v6B s).isSome)]
theorem Da1(s:By)(k:A3 s.length=true):∃r H,v6p LF s (λb c d f g h i j r8 a l10=>rv (.tup [.agg [.s (.int .u16 b),.s (.int .u16 c),.s (.int .u16 d),.s (.int .u16 f),.s (.int .u16 g),.s (.int .u16 h),.s (.int .u16 i),.s (.int .u16 j)],.s (.bool r8)]) [.arr false 27 1 a,.arr false 27 1 l10])=rv r H/\r.stab [0,0] H=v6V s:=by obtain⟨l,m,e⟩:=Cg8 (k0:=(λb c d f g h i j r8 a l10=>rv (.tup [.agg [.s (.int .u16 b),.s (.int .u16 c),.s (.int .u16 d),.s (.int .u16 f),.s (.int .u16 g),.s (.int .u16 h),.s (.int .u16 i),.s (.int .u16 j)],.s (.bool r8)]) [.arr false 27 1 a,.arr false 27 1 l10])) s k;exact⟨_,_,e,rfl⟩
end
end Go.Proofs.YtddlcgjamdbinaaGreatDoor.E
