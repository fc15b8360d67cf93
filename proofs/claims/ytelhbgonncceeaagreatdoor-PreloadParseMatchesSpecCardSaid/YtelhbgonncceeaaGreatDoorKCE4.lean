/-
  Parts of the proof, merged by a program of the prover's own; no condition.
-/
import Derived.Test.YtelhbgonncceeaaGreatDoorKCE3
import Derived.Lib.JoinLaws
import Derived.Lib.TrimAscii
import Derived.Lib.TrimUEq
import Derived.Lib.ValidLaws
import Derived.Shelf.LaysM
import Derived.Shelf.SlSortCmp.Insertion
import Derived.Shelf.Small.Strs
import Derived.Shelf.Spec.SlicesInsert
import Derived.Shelf.Spec.SlicesInsertGrow
import Derived.Shelf.Spec.TrailingZeros
import Derived.Shelf.Strconv.Itoa3
import Derived.Shelf.Strings.Count
import Derived.Shelf.Strings.Cut
import Derived.Shelf.Strings.IndexAnyAll
import Derived.Shelf.Strings.LastIndex
import Derived.Shelf.Strings.OnBuilder
import Derived.Shelf.Strings.Search3
import Derived.Shelf.Unicode.ValidAny
import Derived.Shelf.Utf8.RuneCount
import Derived.Sort.AssemblyPlain
import Derived.Test.YtelhbgonncceeaaGreatDoorProg
namespace Go.Proofs.YtelhbgonncceeaaGreatDoor.E
set_option linter.all false
section
open Go Go.Proofs
theorem Ag4 {R:Type} {k0:Unit->Option R} {k1:Int->Option R} (l:List By) (hm1:1<=l.length) (hm:l.length<=4) (hl:∀ x∈l,x.length<=1000000000):∀ (r i v n:Nat),i+r=l.length->0<r->r<n->v<256 ^ i->
  Cv LF n (C6 l) ((v*2 ^ (32-8*i):Nat):Int) (i:Int) k0 k1=match EC (8*(5-l.length)) v (l.drop i) with | some w=>k1 (w:Int) | none=>k0 ():=by
 intro r
 induction r with
 | zero=>intro i v n _ h;omega
 | succ r ih=>
  intro i v n hi _ hn hv
  obtain ⟨n,rfl⟩:∃ m,n=m+1:=⟨n-1,by omega⟩
  rw [Cv,Hj l i (by omega)]
  have hx:=hl _ (GM (show i<l.length by omega))
  have hsat:Ba=1099511627776:=rfl
  have hvb:v*2 ^ (32-8*i)<4294967296:=by
   have:i=0\/i=1\/i=2\/i=3:=by omega
   rcases this with rfl | rfl | rfl | rfl
   all_goals omega
  simp (disch:=omega) only [C2,D4,K2,cond_true,Int.toNat_natCast,L2,O7,F5,vl]
  simp only [EC]
  have hn1:((i:Int)+1)=((i+1:Nat):Int):=by omega
  cases hq:Z0 (l.getD i []) with
  | none=>rfl
  | some q=>
   have hql:=Ar2 hq
   have ep:A1 ((l.length:Int)-1)=((l.length-1:Nat):Int):=by rw [A5];omega
   simp only [Option.isSome_some,Bool.not_true,cond_false,M5,Option.getD_some,ep]
   by_cases hr:r=0
   ·subst hr
    have hd:l.drop (i+1)=[]:=List.drop_of_length_le (by omega)
    have ef:A1 (8*A1 (5-(l.length:Int)))=((8*(5-l.length):Nat):Int):=by
     rw [D3 (n:=5-(l.length:Int)) (by omega) (by omega),A5];omega
    have hfp:2 ^ (8*(5-l.length))*256 ^ i=4294967296:=by
     have:l.length=1\/l.length=2\/l.length=3\/l.length=4:=by omega
     grind
    have hf1:1*2 ^ (8*(5-l.length))<=4294967296:=by
     rw [<-hfp,Nat.one_mul]
     exact Nat.le_mul_of_pos_right _ (Nat.pow_pos (by omega))
    have he:((i:Int)==((l.length-1:Nat):Int))=true:=by rw [beq_iff_eq];omega
    rw [hd,he,ef,decide_eq_true (show (0:Int)<=((8*(5-l.length):Nat):Int) by omega)]
    simp only [cond_true]
    have s1:=TQ 1 (8*(5-l.length)) (by omega) (by omega)
    rw [show ((1:Nat):Int)=1 from rfl] at s1
    rw [s1,Nat.one_mul]
    by_cases hc:q<2 ^ (8*(5-l.length))
    ·rw [A8,if_pos hc]
     simp only [Bool.not_true,cond_false]
     obtain ⟨n,rfl⟩:∃ m,n=m+1:=⟨n-1,by omega⟩
     rw [Cv]
     rw [hn1,D3 (n:=((i+1:Nat):Int)) (by omega) (by omega),D4,A7]
     have:32-8*i=8*(5-l.length):=by omega
     rw [this] at hvb ⊢
     rw [cond_false,A5]
     rfl
    ·rw [A7,if_neg hc];rfl
   ·obtain ⟨y,z,hyz⟩:∃ y z,l.drop (i+1)=y::z:=⟨_,_,Hj l (i+1) (by omega)⟩
    have he:((i:Int)==((l.length-1:Nat):Int))=false:=by rw [beq_eq_false_iff_ne];omega
    rw [hyz,he]
    simp only [cond_false]
    by_cases hc:q<=255
    ·have e1:A1 (24-A1 (8*(i:Int)))=((24-8*i:Nat):Int):=by
      rw [D3 (n:=8*(i:Int)) (by omega) (by omega),A5];omega
     have hqb:q*2 ^ (24-8*i)<4294967296:=by
      have:i=0\/i=1\/i=2:=by omega
      clear hvb
      rcases this with rfl | rfl | rfl
      ·show q*16777216<_;omega
      ·show q*65536<_;omega
      ·show q*256<_;omega
     have s2:=TQ q (24-8*i) (by omega) (by omega)
     rw [A7,if_pos hc,e1,decide_eq_true (show (0:Int)<=((24-8*i:Nat):Int) by omega),s2,hn1,D3 (n:=((i+1:Nat):Int)) (by omega) (by omega)]
     have e2:A1 (((v*2 ^ (32-8*i):Nat):Int)+((q*2 ^ (24-8*i):Nat):Int))=(((v*256+q)*2 ^ (32-8*(i+1)):Nat):Int):=by
      rw [A5]
      have:i=0\/i=1\/i=2:=by omega
      clear hvb hqb s2 e1
      rcases this with rfl | rfl | rfl
      ·show ((v*4294967296:Nat):Int)+((q*16777216:Nat):Int)=(((v*256+q)*16777216:Nat):Int);omega
      ·show ((v*16777216:Nat):Int)+((q*65536:Nat):Int)=(((v*256+q)*65536:Nat):Int);omega
      ·show ((v*65536:Nat):Int)+((q*256:Nat):Int)=(((v*256+q)*256:Nat):Int);omega
     rw [e2,<-hyz]
     exact ih (i+1) _ n (by omega) (by omega) (by omega) (by rw [Nat.pow_succ];omega)
    ·rw [A8,if_neg hc];rfl
theorem Ag5 {R:Type} {k0:Int->Bool->Option R} (s:By) (h0:A3 s.length=true):As8 LF s k0=k0 (M5 (pnB s):Int) (pnB s).isSome:=by
 have hs:=K8 h0
 have:=D7
 have hp:=Bv s
 unfold As8
 rw [h0,D4]
 by_cases h:4<(D0 s).length
 ·rw [A8]
  unfold pnB
  rw [if_pos h]
  rfl
 ·rw [A7]
  simp only [cond_true,cond_false]
  have hh:=Ag4 (k0:=λ_=>k0 0 false) (k1:=λv=>k0 (Wg v) true) (D0 s) hp.1 (by omega) (λx hx=>Nat.le_trans (Jt hx) hs) (D0 s).length 0 0 LF (by omega) (by omega) (by omega) (by decide)
  rw [Nat.zero_mul] at hh
  refine Eq.trans hh ?_
  have e:pnB s=EC (8*(5-(D0 s).length)) 0 (D0 s):=by unfold pnB;rw [if_neg h]
  rw [List.drop_zero,<-e]
  cases hq:pnB s with
  | none=>rfl
  | some w=>
   have:=Bh5 hq
   simp only [M5,Option.getD_some,Option.isSome_some]
   rw [Mo]
theorem Ar3:∀ (l:List By) (v w m:Nat),v<256 ^ m->CE v l=some w->w<256 ^ (m+l.length)
 | [],v,w,m,hv,h=>by simp only [CE,Option.some.injEq] at h;subst h;simpa using hv
 | p::r,v,w,m,hv,h=>by
  simp only [CE] at h
  cases hq:oct p with
  | none=>simp [hq] at h
  | some q=>
   simp only [hq] at h
   have hq1:=(Rs.1 hq).1
   have:=Ar3 r (v*256+q) w (m+1) (by rw [Nat.pow_succ];omega) h
   grind
theorem Bx5 (s:By):oct s=match E7 10 0 s with | some n=>(if n<=255 then (if Lib.decDigits n=s then some n else none) else none) | none=>none:=by
 unfold oct
 grind
theorem Bn0 {R:Type} {k0:Unit->Option R} {k1:Int->Option R} (l:List By) (hm:l.length=4) (hl:∀ x∈l,x.length<=1000000000):∀ (r i v n:Nat),i+r=4->r<n->v<256 ^ i->
  Py LF n (v:Int) (C6 l) 4 (i:Int) k0 k1=match CE v (l.drop i) with | some w=>k1 (w:Int) | none=>k0 ():=by
 intro r
 induction r with
 | zero=>
  intro i v n hi hn hv
  obtain ⟨n,rfl⟩:∃ m,n=m+1:=⟨n-1,by omega⟩
  rw [Py]
  rw [A7,List.drop_of_length_le (by omega)]
  rfl
 | succ r ih=>
  intro i v n hi hn hv
  obtain ⟨n,rfl⟩:∃ m,n=m+1:=⟨n-1,by omega⟩
  rw [Py,Hj l i (by omega)]
  have hx:=hl _ (GM (show i<l.length by omega))
  have hpw:256 ^ i<=16777216:=by
   have:i=0\/i=1\/i=2\/i=3:=by omega
   grind
  simp (disch:=omega) only [C2,D4,K2,cond_true,Int.toNat_natCast,L2,O7,F5,Xd,vl]
  simp only [CE]
  have hn1:((i:Int)+1)=((i+1:Nat):Int):=by omega
  rw [Bx5]
  cases hq:E7 10 0 (l.getD i []) with
  | none=>rfl
  | some q=>
   have hql:=AS (by unfold Ba;omega) hq
   have hsat:Ba=1099511627776:=rfl
   simp only [Option.isSome_some,Bool.not_true,cond_false,M5,Option.getD_some,Int.toNat_natCast]
   by_cases hc:q<=255
   ·rw [A7,if_pos hc,N4]
    simp only [cond_false,cond_true]
    by_cases he:Lib.decDigits q=l.getD i []
    ·have s2:=Ck3 v 8 (by omega) (by omega)
     rw [show ((8:Nat):Int)=8 from rfl] at s2
     rw [show (Lib.decDigits q==l.getD i [])=true by simpa using he,if_pos he,s2,Mo,Cj0 _ _ (by omega) (by omega),Yg v q 8 (by omega),hn1,A5]
     exact ih (i+1) _ n (by omega) (by omega) (by rw [Nat.pow_succ];omega)
    ·rw [show (Lib.decDigits q==l.getD i [])=false from beq_eq_false_iff_ne.2 he,if_neg he];rfl
   ·rw [A8,if_neg hc];rfl
theorem Bn1 {R:Type} {k0:Int->Bool->Option R} (s:By) (h0:A3 s.length=true):v4p LF s k0=k0 (M5 (v4B s):Int) (v4B s).isSome:=by
 have hs:=K8 h0
 have:=D7
 unfold v4p v4B
 rw [h0]
 simp only [cond_true,vl,List.getD_cons_zero,D4,show ((1:Nat)==1)=true from rfl]
 by_cases h:(pcs 46 s).length=4
 ·rw [if_pos h,h,show (((4:Nat):Int) != 4)=false from rfl,cond_false]
  refine Eq.trans (Bn0 (pcs 46 s) h (λx hx=>Nat.le_trans (X1 hx).2 hs) 4 0 0 LF (by omega) (by omega) (by decide)) ?_
  rw [List.drop_zero]
  cases CE 0 (pcs 46 s)<;>rfl
 ·rw [if_neg h,show (((pcs 46 s).length:Int) != 4)=true by simp<;>omega]
  rfl
theorem A46 {R:Type} {k0:Unit->Option R} {k1:Int->Option R} (l:List By) (hm:l.length=4) (hl:∀ x∈l,x.length<=1000000000):∀ (r i v n:Nat),i+r=4->r<n->v<256 ^ i->
  Ke LF n (C6 l) (v:Int) (i:Int) k0 k1=match CE v (l.drop i) with | some w=>k1 (w:Int) | none=>k0 ():=by
 intro r
 induction r with
 | zero=>
  intro i v n hi hn hv
  obtain ⟨n,rfl⟩:∃ m,n=m+1:=⟨n-1,by omega⟩
  rw [Ke]
  rw [A7,List.drop_of_length_le (by omega)]
  rfl
 | succ r ih=>
  intro i v n hi hn hv
  obtain ⟨n,rfl⟩:∃ m,n=m+1:=⟨n-1,by omega⟩
  rw [Ke,Hj l i (by omega)]
  have hx:=hl _ (GM (show i<l.length by omega))
  have hpw:256 ^ i<=16777216:=by
   have:i=0\/i=1\/i=2\/i=3:=by omega
   grind
  simp (disch:=omega) only [C2,D4,K2,cond_true,Int.toNat_natCast,L2,O7,F5,Xd,vl]
  simp only [CE]
  have hn1:((i:Int)+1)=((i+1:Nat):Int):=by omega
  cases hq:oct (l.getD i []) with
  | none=>rfl
  | some q=>
   have hql:=(Rs.1 hq).1
   simp only [Option.isSome_some,Bool.not_true,cond_false,M5,Option.getD_some]
   have e1:Wg ((v:Int)*256)=((v*256:Nat):Int):=by rw [Mo];simp
   have e2:Wg (q:Int)=(q:Int):=Mo
   have e3:Wg (((v*256:Nat):Int)+(q:Int))=((v*256+q:Nat):Int):=by rw [Mo];simp
   rw [e1,e2,e3,hn1,A5]
   exact ih (i+1) _ n (by omega) (by omega) (by rw [Nat.pow_succ];omega)
theorem A47 {R:Type} {k0:Int->Bool->Option R} (s:By) (h0:A3 s.length=true):B27 LF s k0=k0 (M5 (v4B s):Int) (v4B s).isSome:=by
 have hs:=K8 h0
 have:=D7
 unfold B27 v4B
 rw [h0]
 simp only [cond_true,vl,show u8n 46=46 from rfl,D4]
 by_cases h:(pcs 46 s).length=4
 ·rw [if_pos h,h,show (((4:Nat):Int) != 4)=false from rfl,cond_false]
  refine Eq.trans (A46 (pcs 46 s) h (λx hx=>Nat.le_trans (X1 hx).2 hs) 4 0 0 LF (by omega) (by omega) (by decide)) ?_
  rw [List.drop_zero]
  cases CE 0 (pcs 46 s)<;>rfl
 ·rw [if_neg h,show (((pcs 46 s).length:Int) != 4)=true by simp<;>omega]
  rfl
theorem NA {R:Type} {k0:Unit->Option R} {k1:By->Option R} (s:By) (hs:s.length<=1000000000):∀ (r i n v:Nat),i+r=s.length->r<n->Z5 LF n s (i:Int) k0 k1=if (E7 10 v (s.drop i)).isSome then k1 s else k0 ():=by
 intro r
 induction r with
 | zero=>
  intro i n v hi hn
  obtain ⟨n,rfl⟩:∃ m,n=m+1:=⟨n-1,by omega⟩
  rw [Z5]
  rw [A7,List.drop_of_length_le (by omega)]
  rfl
 | succ r ih=>
  intro i n v hi hn
  obtain ⟨n,rfl⟩:∃ m,n=m+1:=⟨n-1,by omega⟩
  rw [Z5,F7 s i (by omega)]
  rw [F4]
  have hbt:=(s.getD i 0).toNat_lt
  generalize s.getD i 0=b at *
  have hn1:((i:Int)+1)=((i+1:Nat):Int):=by omega
  simp (disch:=omega) only [C2,K2,cond_true,D3]
  simp only [E7]
  rw [hn1,ih (i+1) n (min (v*10+dig b) Ba) (by omega) (by omega)]
  rcases Bi b with ⟨h1,h2,e⟩ | ⟨h1,h2,e⟩ | ⟨h1,h2,e⟩ | ⟨h1,h2,h3,e⟩
  ·simp only [if_pos (show dig b<10 by omega)];rw [A7,A7];rfl
  ·simp only [if_neg (show ¬ dig b<10 by omega)];rw [A7,A8];rfl
  ·simp only [if_neg (show ¬ dig b<10 by omega)];rw [A7,A8];rfl
  ·simp only [if_neg (show ¬ dig b<10 by omega)]
   by_cases c:b.toNat<48
   ·rw [A8];rfl
   ·rw [A7,A8];rfl
theorem NB {R:Type} {k0:Bool->Option R} (s:By) (h0:A3 s.length=true):Yk LF s k0=k0 (!s.isEmpty&&(E7 10 0 s).isSome):=by
 have hs:=K8 h0
 have:=D7
 unfold Yk
 refine Eq.trans (NA s hs s.length 0 LF 0 (by omega) (by omega)) ?_
 rw [List.drop_zero]
 cases hd:E7 10 0 s with
 | none=>simp
 | some v=>cases s<;>rfl
theorem A22 {R:Type} {k0:Int->Option R} (b:Int) (h0:inR b 256=true):Bi3 LF b k0=k0 (dig (u8n b):Int):=by
 simp only [inR,Bool.and_eq_true,decide_eq_true_eq] at h0
 have hc:b=((u8n b).toNat:Int):=by
  unfold u8n
  simp
  omega
 generalize u8n b=c at *
 subst hc
 have hbt:=c.toNat_lt
 unfold Bi3
 simp only [Sd,Sc,vl]
 rcases Bi c with ⟨h1,h2,e⟩ | ⟨h1,h2,e⟩ | ⟨h1,h2,e⟩ | ⟨h1,h2,h3,e⟩
 ·have e2:A1 (wu8 ((c.toNat:Int)-48))=((dig c:Nat):Int):=by
   rw [N2,A5];omega
  simp (disch:=omega) only [C2,D1,Bool.not_true,Bool.not_false,cond_false,cond_true,e2]
 ·have e2:A1 (A1 (wu8 ((c.toNat:Int)-97))+10)=((dig c:Nat):Int):=by
   rw [N2,D3 (n:=(c.toNat:Int)-97) (by omega) (by omega),A5];omega
  simp (disch:=omega) only [C2,D1,Bool.not_true,Bool.not_false,cond_false,cond_true,e2]
 ·have e2:A1 (A1 (wu8 ((c.toNat:Int)-65))+10)=((dig c:Nat):Int):=by
   rw [N2,D3 (n:=(c.toNat:Int)-65) (by omega) (by omega),A5];omega
  simp (disch:=omega) only [C2,D1,Bool.not_true,Bool.not_false,cond_false,cond_true,e2]
 ·rw [e]
  by_cases c1:c.toNat<48
  ·simp (disch:=omega) only [C2,D1,Bool.not_true,Bool.not_false,cond_false,cond_true]
   rfl
  ·by_cases c2:c.toNat<65
   ·simp (disch:=omega) only [C2,D1,Bool.not_true,Bool.not_false,cond_false,cond_true]
    rfl
   ·by_cases c3:c.toNat<97
    ·simp (disch:=omega) only [C2,D1,Bool.not_true,Bool.not_false,cond_false,cond_true]
     rfl
    ·simp (disch:=omega) only [C2,D1,Bool.not_true,Bool.not_false,cond_false,cond_true]
     rfl
theorem SN {R:Type} {k0:Unit->Option R} {k1:Int->Option R} (s:By) (hs:s.length<=1000000000):∀ (r i acc n:Nat),i+r=s.length->r<n->acc<=Ba->
  Gt LF n s (acc:Int) (i:Int) k0 k1=match E7 16 acc (s.drop i) with | some v=>k1 (v:Int) | none=>k0 ():=by
 intro r
 induction r with
 | zero=>
  intro i acc n hi hn ha
  obtain ⟨n,rfl⟩:∃ m,n=m+1:=⟨n-1,by omega⟩
  rw [Gt]
  rw [A7,List.drop_of_length_le (by omega)]
  rfl
 | succ r ih=>
  intro i acc n hi hn ha
  obtain ⟨n,rfl⟩:∃ m,n=m+1:=⟨n-1,by omega⟩
  rw [Gt,F7 s i (by omega)]
  rw [F4,Nu,OC]
  generalize s.getD i 0=b at *
  have hn1:((i:Int)+1)=((i+1:Nat):Int):=by omega
  have hsat:Ba=1099511627776:=rfl
  simp (disch:=omega) only [C2,K2,cond_true,vl,D3]
  simp only [E7]
  rw [hn1]
  by_cases hd:dig b<16
  ·have e1:A1 (A1 ((acc:Int)*16)+(dig b:Int))=((acc*16+dig b:Nat):Int):=by
    rw [D3 (n:=(acc:Int)*16) (by omega) (by omega),A5];simp
   rw [if_pos hd,A8]
   simp (disch:=omega) only [D3,Bool.not_true,cond_false] at e1 ⊢
   rw [e1,Bk8]
   exact ih (i+1) _ n (by omega) (by omega) (by omega)
  ·rw [if_neg hd,A7];rfl
theorem Af5 {R:Type} {k0:Unit->Option R} {k1:Int->Option R} (s:By) (hs:s.length<=1000000000) (base:Nat) (hb:base<=16):∀ (r i acc n:Nat),i+r=s.length->r<n->acc<=Ba->
  Dw LF n s (base:Int) (acc:Int) (i:Int) k0 k1=match E7 base acc (s.drop i) with | some v=>k1 (v:Int) | none=>k0 ():=by
 intro r
 induction r with
 | zero=>
  intro i acc n hi hn ha
  obtain ⟨n,rfl⟩:∃ m,n=m+1:=⟨n-1,by omega⟩
  rw [Dw]
  rw [A7,List.drop_of_length_le (by omega)]
  rfl
 | succ r ih=>
  intro i acc n hi hn ha
  obtain ⟨n,rfl⟩:∃ m,n=m+1:=⟨n-1,by omega⟩
  rw [Dw,F7 s i (by omega)]
  rw [F4,Nu,OC]
  generalize s.getD i 0=b at *
  have hn1:((i:Int)+1)=((i+1:Nat):Int):=by omega
  have hsat:Ba=1099511627776:=rfl
  simp only [E7,vl]
  rw [A8,I6,hn1,D3 (n:=((i+1:Nat):Int)) (by omega) (by omega)]
  simp only [cond_true]
  by_cases hd:dig b<base
  ·have h1:acc*base<=1099511627776*16:=Nat.mul_le_mul (by omega) (by omega)
   have e0:A1 ((acc:Int)*(base:Int))=((acc*base:Nat):Int):=by
    rw [<-Int.natCast_mul];exact A5
   have e1:A1 (((acc*base:Nat):Int)+(dig b:Int))=((acc*base+dig b:Nat):Int):=by
    rw [A5];rfl
   rw [if_pos hd,A8,e0,e1,Bk8]
   exact ih (i+1) _ n (by omega) (by omega) (by omega)
  ·rw [if_neg hd,A7];rfl
theorem A35 {R:Type} {k0:Int->Bool->Option R} (s:By) (h0:A3 s.length=true):Bj7 LF s k0=k0 (M5 (Z0 s):Int) (Z0 s).isSome:=by
 have hs:=K8 h0
 have:=D7
 have go16:∀ x:By,x.length<=1000000000->Gt LF LF x 0 0 (λ_=>k0 0 false) (λn=>k0 n true)=k0 (M5 (E7 16 0 x):Int) (E7 16 0 x).isSome:=by
  intro x hx
  refine Eq.trans (SN x hx x.length 0 0 LF (by omega) (by omega) (by unfold Ba;omega)) ?_
  rw [List.drop_zero]
  cases E7 16 0 x<;>rfl
 have goB:∀ (x:By) (b:Nat),b<=16->x.length<=1000000000->Dw LF LF x (b:Int) 0 0 (λ_=>k0 0 false) (λn=>k0 n true)=k0 (M5 (E7 b 0 x):Int) (E7 b 0 x).isSome:=by
  intro x b hb hx
  refine Eq.trans (Af5 x hx b hb x.length 0 0 LF (by omega) (by omega) (by unfold Ba;omega)) ?_
  rw [List.drop_zero]
  cases E7 b 0 x<;>rfl
 have go10:=λx=>goB x 10 (by omega)
 have go8:=λx=>goB x 8 (by omega)
 have gox:=λx=>goB x 16 (by omega)
 rw [show ((10:Nat):Int)=10 from rfl] at go10
 rw [show ((8:Nat):Int)=8 from rfl] at go8
 rw [show ((16:Nat):Int)=16 from rfl] at gox
 unfold Bj7 Z0
 by_cases h1:s=[]
 ·subst h1;rfl
 have h1':(s==([]:By))=false:=by simpa using h1
 have hl:0<s.length:=List.length_pos_iff.2 h1
 rw [if_neg h1,h1']
 simp only [cond_false,Yo,Yp,No,Np,Nq,vl]
 have ea:=P6 (s.getD 0 0) 48 (by omega)
 have eb:=P6 (s.getD 1 0) 120 (by omega)
 have ec:=P6 (s.getD 1 0) 88 (by omega)
 rw [show ((48:Nat):Int)=48 from rfl] at ea
 rw [show ((120:Nat):Int)=120 from rfl] at eb
 rw [show ((88:Nat):Int)=88 from rfl] at ec
 simp only [Hu,An7,ea,eb,ec,show UInt8.ofNat 48=(48:UInt8) from rfl,show UInt8.ofNat 120=(120:UInt8) from rfl,show UInt8.ofNat 88=(88:UInt8) from rfl]
 by_cases h2:2<=s.length
 ·simp (disch:=omega) only [D1,K2,T3,Bool.not_false,cond_true,Q8,show 1<s.length by omega,true_and]
  unfold Ao
  grind
 ·rw [A8]
  have hx:Ao s=false:=by
   cases h:Ao s with
   | false=>rfl
   | true=>have:=Nc h;omega
  grind
theorem Ci9 (a b:Nat) (ha:a<65536) (hb:b<65536):bOr .u16 (a:Int) (b:Int)=((a ||| b:Nat):Int):=by
 unfold bOr
 rw [show IntKind.bits .u16=16 from rfl,B97 16 a b (by omega) (by omega)]
 have:a ||| b<2 ^ 16:=Nat.or_lt_two_pow (by omega) (by omega)
 exact Mn
theorem Ck2 (a m:Nat) (h:a*2 ^ m<65536) (hm:m<=16):Nw .u16 (a:Int) (m:Int)=((a*2 ^ m:Nat):Int):=by
 unfold Nw
 rw [Int.toNat_natCast,show IntKind.bits .u16=16 from rfl,Nat.min_eq_left hm]
 have:(a:Int)*2 ^ m=((a*2 ^ m:Nat):Int):=by simp
 rw [this]
 exact Mn
theorem Aj6 (v d:Nat) (hv:v<4096) (hd:d<16):bOr .u16 (Nw .u16 (v:Int) 4) (d:Int)=((v*16+d:Nat):Int):=by
 have:=Ck2 v 4 (by omega) (by omega)
 rw [show ((4:Nat):Int)=4 from rfl] at this
 rw [this,Ci9 _ _ (by omega) (by omega),Yg v d 4 (by omega)]
theorem Be0 {R:Type} {k0:Unit->Option R} {k1:Int->Option R} (s:By) (hs:s.length<=4):∀ (r i v n:Nat),i+r=s.length->r<n->v<16 ^ i->
  Dk LF n s (v:Int) (s.length:Int) (i:Int) k0 k1=match Fc v (s.drop i) with | some w=>k1 (w:Int) | none=>k0 ():=by
 intro r
 induction r with
 | zero=>
  intro i v n hi hn hv
  obtain ⟨n,rfl⟩:∃ m,n=m+1:=⟨n-1,by omega⟩
  rw [Dk]
  rw [A7,List.drop_of_length_le (by omega)]
  rfl
 | succ r ih=>
  intro i v n hi hn hv
  obtain ⟨n,rfl⟩:∃ m,n=m+1:=⟨n-1,by omega⟩
  rw [Dk,F7 s i (by omega)]
  rw [F4]
  have hbt:=(s.getD i 0).toNat_lt
  generalize s.getD i 0=b at *
  have hn1:((i:Int)+1)=((i+1:Nat):Int):=by omega
  have hp:16 ^ i<=4096:=by
   have:i=0\/i=1\/i=2\/i=3:=by omega
   rcases this with rfl | rfl | rfl | rfl<;>decide
  simp (disch:=omega) only [C2,K2,cond_true,vl,D3,Rc,Rb,Ra]
  rw [hn1]
  simp only [Fc]
  have go:∀ d:Nat,d<16->Dk LF n s ((v*16+d:Nat):Int) (s.length:Int) ((i+1:Nat):Int) k0 k1=match Fc (v*16+d) (s.drop (i+1)) with | some w=>k1 (w:Int) | none=>k0 ():=
   λd hd=>ih (i+1) _ n (by omega) (by omega) (by rw [Nat.pow_succ];omega)
  rcases Bi b with ⟨h1,h2,e⟩ | ⟨h1,h2,e⟩ | ⟨h1,h2,e⟩ | ⟨h1,h2,h3,e⟩
  ·have e2:Kn (wu8 ((b.toNat:Int)-48))=((dig b:Nat):Int):=by rw [N2,Mn];omega
   simp (disch:=omega) only [C2,D1,Bool.not_true,Bool.not_false,cond_false,cond_true,e2,Aj6,if_pos (show dig b<16 by omega)]
   exact go _ (by omega)
  ·have e2:Kn (wu8 (wu8 ((b.toNat:Int)-97)+10))=((dig b:Nat):Int):=by rw [OE (n:=(b.toNat:Int)-97) (by omega) (by omega),N2,Mn];omega
   simp (disch:=omega) only [C2,D1,Bool.not_true,Bool.not_false,cond_false,cond_true,e2,Aj6,if_pos (show dig b<16 by omega)]
   exact go _ (by omega)
  ·have e2:Kn (wu8 (wu8 ((b.toNat:Int)-65)+10))=((dig b:Nat):Int):=by rw [OE (n:=(b.toNat:Int)-65) (by omega) (by omega),N2,Mn];omega
   simp (disch:=omega) only [C2,D1,Bool.not_true,Bool.not_false,cond_false,cond_true,e2,Aj6,if_pos (show dig b<16 by omega)]
   exact go _ (by omega)
  ·rw [if_neg (show ¬ dig b<16 by omega)]
   by_cases c1:b.toNat<48
   ·simp (disch:=omega) only [C2,D1,Bool.not_true,Bool.not_false,cond_false,cond_true]
   ·by_cases c2:b.toNat<65
    ·simp (disch:=omega) only [C2,D1,Bool.not_true,Bool.not_false,cond_false,cond_true]
    ·by_cases c3:b.toNat<97
     ·simp (disch:=omega) only [C2,D1,Bool.not_true,Bool.not_false,cond_false,cond_true]
     ·simp (disch:=omega) only [C2,D1,Bool.not_true,Bool.not_false,cond_false,cond_true]
theorem Aw6 {R:Type} {k0:Int->Bool->Option R} (s:By) (h0:A3 s.length=true):Be1 LF s k0=k0 (M5 (grp s):Int) (grp s).isSome:=by
 have:=D7
 unfold Be1 grp
 by_cases h1:s=[]
 ·subst h1;rfl
 ·rw [show (s==([]:By))=false from beq_eq_false_iff_ne.2 h1]
  by_cases h2:4<s.length
  ·rw [A8,if_pos (.inr h2)];rfl
  ·rw [A7,if_neg (by intro h;rcases h with h | h;exact h1 h;exact h2 h)]
   refine Eq.trans (Be0 s (by omega) s.length 0 0 LF (by omega) (by omega) (by decide)) ?_
   rw [List.drop_zero]
   cases Fc 0 s<;>rfl
theorem QH:∀ (s:By) (v w m:Nat),v<16 ^ m->Fc v s=some w->w<16 ^ (m+s.length)
 | [],v,w,m,hv,h=>by simp only [Fc,Option.some.injEq] at h;subst h;simpa using hv
 | b::r,v,w,m,hv,h=>by
  simp only [Fc] at h
  split at h
  ·have:=QH r (v*16+dig b) w (m+1) (by rw [Nat.pow_succ];omega) h
   grind
  ·cases h
theorem Ca8 {s:By} {v:Nat} (h:grp s=some v):v<65536:=by
 unfold grp at h
 split at h
 ·cases h
 ·rename_i hc
  have:=QH s 0 v 0 (by decide) h
  have hl:s.length<=4:=by omega
  have:16 ^ (0+s.length)<=16 ^ 4:=Nat.pow_le_pow_right (by omega) (by omega)
  omega
theorem A26 {R:Type} {k0:Unit->Option R} {k1:Int->Option R} (s:By) (hs:s.length<=4):∀ (r i v n:Nat),i+r=s.length->r<n->v<16 ^ i->
  Du LF n s (v:Int) (i:Int) k0 k1=match Fc v (s.drop i) with | some w=>k1 (w:Int) | none=>k0 ():=by
 intro r
 induction r with
 | zero=>
  intro i v n hi hn hv
  obtain ⟨n,rfl⟩:∃ m,n=m+1:=⟨n-1,by omega⟩
  rw [Du]
  rw [A7,List.drop_of_length_le (by omega)]
  rfl
 | succ r ih=>
  intro i v n hi hn hv
  obtain ⟨n,rfl⟩:∃ m,n=m+1:=⟨n-1,by omega⟩
  rw [Du,F7 s i (by omega)]
  rw [F4]
  have hbt:=(s.getD i 0).toNat_lt
  generalize s.getD i 0=b at *
  have hn1:((i:Int)+1)=((i+1:Nat):Int):=by omega
  have hp:16 ^ i<=4096:=by
   have:i=0\/i=1\/i=2\/i=3:=by omega
   rcases this with rfl | rfl | rfl | rfl<;>decide
  simp (disch:=omega) only [C2,K2,cond_true,vl,D3,Sg,Sf,Se]
  rw [hn1]
  simp only [Fc]
  have go:∀ d:Nat,d<16->Du LF n s ((v*16+d:Nat):Int) ((i+1:Nat):Int) k0 k1=match Fc (v*16+d) (s.drop (i+1)) with | some w=>k1 (w:Int) | none=>k0 ():=
   λd hd=>ih (i+1) _ n (by omega) (by omega) (by rw [Nat.pow_succ];omega)
  rcases Bi b with ⟨h1,h2,e⟩ | ⟨h1,h2,e⟩ | ⟨h1,h2,e⟩ | ⟨h1,h2,h3,e⟩
  ·have e3:wu8 ((b.toNat:Int)-48)=(b.toNat:Int)-48:=N2
   simp (disch:=omega) only [C2,D1,Bool.not_true,Bool.not_false,cond_false,cond_true,e3,D3,if_pos (show dig b<16 by omega)]
   rw [show (v:Int)*16+((b.toNat:Int)-48)=((v*16+dig b:Nat):Int) by omega]
   exact go _ (by omega)
  ·have e3:wu8 ((b.toNat:Int)-97)=(b.toNat:Int)-97:=N2
   simp (disch:=omega) only [C2,D1,Bool.not_true,Bool.not_false,cond_false,cond_true,e3,D3,if_pos (show dig b<16 by omega)]
   rw [show (v:Int)*16+((b.toNat:Int)-97)+10=((v*16+dig b:Nat):Int) by omega]
   exact go _ (by omega)
  ·have e3:wu8 ((b.toNat:Int)-65)=(b.toNat:Int)-65:=N2
   simp (disch:=omega) only [C2,D1,Bool.not_true,Bool.not_false,cond_false,cond_true,e3,D3,if_pos (show dig b<16 by omega)]
   rw [show (v:Int)*16+((b.toNat:Int)-65)+10=((v*16+dig b:Nat):Int) by omega]
   exact go _ (by omega)
  ·rw [if_neg (show ¬ dig b<16 by omega)]
   by_cases c1:b.toNat<48
   ·simp (disch:=omega) only [C2,D1,Bool.not_true,Bool.not_false,cond_false,cond_true]
   ·by_cases c2:b.toNat<65
    ·simp (disch:=omega) only [C2,D1,Bool.not_true,Bool.not_false,cond_false,cond_true]
    ·by_cases c3:b.toNat<97
     ·simp (disch:=omega) only [C2,D1,Bool.not_true,Bool.not_false,cond_false,cond_true]
     ·simp (disch:=omega) only [C2,D1,Bool.not_true,Bool.not_false,cond_false,cond_true]
theorem A27 {R:Type} {k0:Int->Bool->Option R} (s:By) (h0:A3 s.length=true):Bi8 LF s k0=k0 (M5 (grp s):Int) (grp s).isSome:=by
 have:=D7
 unfold Bi8
 by_cases h1:s=[]
 ·subst h1;rfl
 ·have hl:0<s.length:=List.length_pos_iff.2 h1
  rw [A7]
  by_cases h2:4<s.length
  ·rw [A8]
   unfold grp
   rw [if_pos (.inr h2)];rfl
  ·rw [A7]
   refine Eq.trans (A26 s (by omega) s.length 0 0 LF (by omega) (by omega) (by decide)) ?_
   have e:grp s=Fc 0 s:=by
    unfold grp
    grind
   rw [List.drop_zero,<-e]
   cases hg:grp s with
   | none=>rfl
   | some w=>
    have:=Ca8 hg
    simp only [M5,Option.getD_some,Option.isSome_some]
    rw [Mn]
theorem L4 (l:List Nat):(F2 l).length=l.length:=by simp [F2]
theorem Ip (a b:List Nat):F2 (a++b)=F2 a++F2 b:=by simp [F2]
theorem Te (l:List Nat):(F2 l).isEmpty=l.isEmpty:=by cases l<;>rfl
theorem MP {l:List Nat} {i:Nat} (h:i<l.length):okE ⟨true,false,[.int .u16]⟩ (F2 l) i 0=true:=by
 unfold okE F2
 simp [List.getD_eq_getElem?_getD,h,okS,SV.has]
theorem XU (l:List Nat) (i:Nat):gE (F2 l) i 0=(l.getD i 0:Int):=by
 unfold gE gC F2
 by_cases h:i<l.length
 ·simp [List.getD_eq_getElem?_getD,List.getElem?_eq_getElem h,SV.gI]
 ·simp [List.getD_eq_getElem?_getD,List.getElem?_eq_none (show l.length<=i by omega),SV.gI]
theorem Ia:∀ (last:Bool) (l:List By) (r:List Nat),Ga last l=some r->r.length<=2*l.length
 | last,[],r,h=>by simp only [Ga,Option.some.injEq] at h;subst h;simp
 | last,x::l,r,h=>by
  simp only [Ga] at h
  split at h
  ·cases hq:Ga last l with
   | none=>simp [hq] at h
   | some q=>
    simp only [hq,Option.map_some,Option.some.injEq] at h
    subst h
    have:=Ia last l q hq
    grind
  grind
theorem Bm9 {s:By} {v:Nat} (h:v4B s=some v):v<4294967296:=by
 unfold v4B at h
 split at h
 ·rename_i hc
  have:=Ar3 (pcs 46 s) 0 v 0 (by decide) h
  grind
 ·cases h
theorem YC {R:Type} {k0:LL->Option R} {k1:LL->Option R} (last:Bool) (l:List By) (hL:l.length<=1000000001) (hl:∀ x∈l,x.length<=1000000000):∀ (r i n:Nat) (d:List Nat),i+r=l.length->r<n->d.length<=2*i->
  (∀ q,Ga last (l.drop i)=some q->Cr LF n last (C6 l) (l.length:Int) (i:Int) (F2 d) k0 k1=k1 (F2 (d++q)))/\
  (Ga last (l.drop i)=none->∃ d',Cr LF n last (C6 l) (l.length:Int) (i:Int) (F2 d) k0 k1=k0 d'):=by
 intro r
 induction r with
 | zero=>
  intro i n d hi hn hd
  obtain ⟨n,rfl⟩:∃ m,n=m+1:=⟨n-1,by omega⟩
  rw [Cr,List.drop_of_length_le (by omega)]
  rw [A7]
  refine ⟨λq hq=>?_,λh=>(by cases h)⟩
  simp only [Ga,Option.some.injEq] at hq
  subst hq
  simp
 | succ r ih=>
  intro i n d hi hn hd
  obtain ⟨n,rfl⟩:∃ m,n=m+1:=⟨n-1,by omega⟩
  rw [Cr,Hj l i (by omega)]
  have hx:=hl _ (GM (show i<l.length by omega))
  have hn1:((i:Int)+1)=((i+1:Nat):Int):=by omega
  simp (disch:=omega) only [C2,D4,K2,cond_true,Int.toNat_natCast,L2,O7,F5,vl,L4,E0,D3]
  rw [hn1]
  simp only [Ga]
  cases hg:grp (l.getD i []) with
  | some v=>
   simp only [Option.isSome_some,cond_true,M5,Option.getD_some]
   have hrow:F2 d++[[SV.int .u16 (v:Int)]]=F2 (d++[v]):=by rw [Ip];rfl
   rw [hrow]
   have:=ih (i+1) n (d++[v]) (by omega) (by omega) (by simp<;>omega)
   refine ⟨λq hq=>?_,λh=>?_⟩
   ·cases hq':Ga last (l.drop (i+1)) with
    | none=>simp [hq'] at hq
    | some q'=>
     simp only [hq',Option.map_some,Option.some.injEq] at hq
     subst hq
     rw [this.1 q' hq']
     simp
   ·cases hq':Ga last (l.drop (i+1)) with
    | none=>exact this.2 hq'
    | some q'=>simp [hq'] at h
  | none=>
   simp only [Option.isSome_none,cond_false]
   cases hv:v4B (l.getD i []) with
   | none=>
    simp only [Option.isSome_none,Bool.not_false,cond_true]
    exact ⟨λq hq=>(by cases hq),λ_=>⟨_,rfl⟩⟩
   | some v=>
    have hvl:=Bm9 hv
    simp only [Option.isSome_some,Bool.not_true,cond_false,M5,Option.getD_some]
    cases last with
    | false=>
     simp only [Bool.not_false,cond_true,Bool.false_eq_true,false_and,if_false]
     exact ⟨λq hq=>(by cases hq),λ_=>⟨_,rfl⟩⟩
    | true=>
     simp only [Bool.not_true,cond_false,true_and]
     by_cases hr:r=0
     ·have hd':l.drop (i+1)=[]:=List.drop_of_length_le (by omega)
      rw [A7,hd',if_pos rfl,show (16:Int)=((16:Nat):Int) from rfl,NS .u32 v 16 (by decide)]
      refine ⟨λq hq=>?_,λh=>(by cases h)⟩
      simp only [Option.some.injEq] at hq
      subst hq
      have e1:Kn ((v / 2 ^ 16:Nat):Int)=((v / 65536:Nat):Int):=Mn
      have e2:Kn (v:Int)=((v % 65536:Nat):Int):=UR v
      rw [e1,e2,Ip]
      rfl
     ·have hne:l.drop (i+1)≠[]:=by
       rw [Hj l (i+1) (by omega)];simp
      rw [A8,if_neg hne]
      exact ⟨λq hq=>(by cases hq),λ_=>⟨_,rfl⟩⟩
theorem W9 (c:UInt8) {s:By} (hs:s.length<=1000000000):(pcs c s).length<=1000000001:=by
 have:=Ar c s
 grind
theorem YD (s:By) (last:Bool) (h0:A3 s.length=true):∃ r H,Ap1 LF s last (λl=>rv (.tup [.fl 0,.s (.bool true)]) [.arr true 25 1 l]) (λl=>rv (.tup [.fl 1,.s (.bool false)]) [.arr true 25 1 l,.arr true 25 1 []])=rv r H/\
  r.stab [1,0] H = .tup [.s (.sl (gvs s last).isEmpty (gvs s last).isEmpty 1 (F2 (gvs s last))),.s (.bool (Q0 s last).isSome)]:=by
 have hs:=K8 h0
 have:=D7
 unfold Ap1 gvs Q0
 by_cases h1:s=[]
 ·subst h1
  exact ⟨_,_,rfl,rfl⟩
 ·rw [show (s==([]:By))=false from beq_eq_false_iff_ne.2 h1,h0,if_neg h1]
  simp only [cond_false,cond_true,vl,List.getD_cons_zero,D4,show ((1:Nat)==1)=true from rfl]
  obtain ⟨a,b⟩:=YC (k0:=λl=>rv (.tup [.fl 1,.s (.bool false)]) [.arr true 25 1 l,.arr true 25 1 []]) (k1:=λl=>rv (.tup [.fl 0,.s (.bool true)]) [.arr true 25 1 l]) last (pcs 58 s) (W9 58 hs) (λx hx=>Nat.le_trans (X1 hx).2 hs) (pcs 58 s).length 0 LF [] (by omega) (by have:=W9 58 hs;omega) (by simp)
  rw [List.drop_zero] at a b
  cases hq:Ga last (pcs 58 s) with
  | some q=>
   refine ⟨_,_,a q hq,?_⟩
   simp [PV.stab,Ls,Ld,PV.snap,L5,Te]
  | none=>
   obtain ⟨d',e⟩:=b hq
   refine ⟨_,_,e,?_⟩
   simp [PV.stab,Ls,Ld,PV.snap,L5,F2]
theorem BD:∀ (s:By) (v:Nat) (b:UInt8),b∈s->16<=dig b->Fc v s=none
 | c::r,v,b,h,hb=>by
  simp only [Fc]
  rcases List.mem_cons.1 h with rfl | h
  ·grind
  ·split
   ·exact BD r _ b h hb
   ·rfl
theorem Ak3 {s:By} {v:Nat} (h:v4B s=some v):grp s=none:=by
 unfold v4B at h
 split at h
 ·rename_i hc
  have hm:(46:UInt8)∈s:=by
   apply Classical.byContradiction
   intro hn
   rw [Fl hn] at hc
   simp at hc
  unfold grp
  split
  ·rfl
  ·exact BD s 0 46 hm (by decide)
 ·cases h
theorem Ad8 {R:Type} {k0:LL->Option R} {k1:LL->Option R} (last:Bool) (l:List By) (hL:l.length<=1000000001) (hl:∀ x∈l,x.length<=1000000000):∀ (r i n:Nat) (d:List Nat),i+r=l.length->r<n->d.length<=2*i->
  (∀ q,Ga last (l.drop i)=some q->P4 LF n last (C6 l) (i:Int) (F2 d) k0 k1=k1 (F2 (d++q)))/\
  (Ga last (l.drop i)=none->∃ d',P4 LF n last (C6 l) (i:Int) (F2 d) k0 k1=k0 d'):=by
 intro r
 induction r with
 | zero=>
  intro i n d hi hn hd
  obtain ⟨n,rfl⟩:∃ m,n=m+1:=⟨n-1,by omega⟩
  rw [P4,List.drop_of_length_le (by omega)]
  rw [D4,A7]
  refine ⟨λq hq=>?_,λh=>(by cases h)⟩
  simp only [Ga,Option.some.injEq] at hq
  subst hq
  simp
 | succ r ih=>
  intro i n d hi hn hd
  obtain ⟨n,rfl⟩:∃ m,n=m+1:=⟨n-1,by omega⟩
  rw [P4,Hj l i (by omega)]
  have hx:=hl _ (GM (show i<l.length by omega))
  have hn1:((i:Int)+1)=((i+1:Nat):Int):=by omega
  have e1:A1 ((l.length:Int)-1)=((l.length-1:Nat):Int):=by rw [A5];omega
  simp (disch:=omega) only [C2,D4,K2,cond_true,Int.toNat_natCast,L2,O7,F5,vl,Ii,Ij,L4,E0,D3,cond_false]
  rw [hn1]
  simp only [Ga]
  have rest:∀ (hv:v4B (l.getD i [])=none\/(last=false\/l.drop (i+1)≠[])),
    (∀ q,(match grp (l.getD i []) with | some v=>(Ga last (l.drop (i+1))).map (v::·) | none=>match v4B (l.getD i []) with | some v=>if last=true/\l.drop (i+1)=[] then some [v / 65536,v % 65536] else none | none=>none)=some q->
     (cond (!(grp (l.getD i [])).isSome) (k0 (F2 d)) (P4 LF n last (C6 l) ((i+1:Nat):Int) (F2 d++[[SV.int .u16 (M5 (grp (l.getD i [])):Int)]]) k0 k1))=k1 (F2 (d++q)))/\
    ((match grp (l.getD i []) with | some v=>(Ga last (l.drop (i+1))).map (v::·) | none=>match v4B (l.getD i []) with | some v=>if last=true/\l.drop (i+1)=[] then some [v / 65536,v % 65536] else none | none=>none)=none->
     ∃ d',(cond (!(grp (l.getD i [])).isSome) (k0 (F2 d)) (P4 LF n last (C6 l) ((i+1:Nat):Int) (F2 d++[[SV.int .u16 (M5 (grp (l.getD i [])):Int)]]) k0 k1))=k0 d'):=by
   intro hv
   cases hg:grp (l.getD i []) with
   | some v=>
    simp only [Option.isSome_some,Bool.not_true,cond_false,M5,Option.getD_some]
    have hrow:F2 d++[[SV.int .u16 (v:Int)]]=F2 (d++[v]):=by rw [Ip];rfl
    rw [hrow]
    have:=ih (i+1) n (d++[v]) (by omega) (by omega) (by simp<;>omega)
    refine ⟨λq hq=>?_,λh=>?_⟩
    ·cases hq':Ga last (l.drop (i+1)) with
     | none=>simp [hq'] at hq
     | some q'=>
      simp only [hq',Option.map_some,Option.some.injEq] at hq
      subst hq
      rw [this.1 q' hq']
      simp
    ·cases hq':Ga last (l.drop (i+1)) with
     | none=>exact this.2 hq'
     | some q'=>simp [hq'] at h
   | none=>
    simp only [Option.isSome_none,Bool.not_false,cond_true]
    refine ⟨λq hq=>?_,λ_=>⟨_,rfl⟩⟩
    exfalso
    cases hv4:v4B (l.getD i []) with
    | none=>rw [hv4] at hq;cases hq
    | some v=>
     rw [hv4] at hq
     rcases hv with h | h | h
     ·rw [hv4] at h;cases h
     ·simp only [h,Bool.false_eq_true,false_and,if_false] at hq;cases hq
     ·simp only [if_neg (λhc:last=true/\l.drop (i+1)=[]=>h hc.2)] at hq;cases hq
  cases hv:v4B (l.getD i []) with
  | none=>
   simp only [Option.isSome_none,cond_false]
   have:=rest (.inl hv)
   simp only [hv] at this
   exact this
  | some v=>
   have hvl:=Bm9 hv
   have hgn:=Ak3 hv
   simp only [Option.isSome_some,cond_true,M5,Option.getD_some]
   cases last with
   | false=>
    simp only [cond_false]
    have:=rest (.inr (.inl rfl))
    simp only [hv,M5] at this
    exact this
   | true=>
    simp only [cond_true]
    by_cases hr:r=0
    ·have hd':l.drop (i+1)=[]:=List.drop_of_length_le (by omega)
     have he:((i:Int)==(l.length:Int)-1)=true:=by rw [beq_iff_eq];omega
     rw [he,hgn,hd']
     simp only [cond_true,and_self,if_true,Option.some.injEq]
     refine ⟨λq hq=>?_,λh=>(by cases h)⟩
     subst hq
     rw [show (16:Int)=((16:Nat):Int) from rfl,NS .u32 v 16 (by decide)]
     have e1:Kn ((v / 2 ^ 16:Nat):Int)=((v / 65536:Nat):Int):=Mn
     have e2:Kn (v:Int)=((v % 65536:Nat):Int):=UR v
     rw [e1,e2]
     have hrow:F2 d++[[SV.int .u16 ((v / 65536:Nat):Int)],[SV.int .u16 ((v % 65536:Nat):Int)]]=F2 (d++[v / 65536,v % 65536]):=by rw [Ip];rfl
     rw [hrow]
     have hn0:0<n:=by omega
     exact (ih (i+1) n (d++[v / 65536,v % 65536]) (by omega) (by omega) (by simp<;>omega)).1 [] (by rw [hd'];rfl) |>.trans (by simp)
    ·have hne:l.drop (i+1)≠[]:=by
      rw [Hj l (i+1) (by omega)];simp
     have he:((i:Int)==(l.length:Int)-1)=false:=by rw [beq_eq_false_iff_ne];omega
     rw [he]
     simp only [cond_false]
     have:=rest (.inr (.inr hne))
     simp only [hv,M5] at this
     exact this
theorem Ad9 (s:By) (last:Bool) (h0:A3 s.length=true):∃ r H,SD LF s last (λl=>rv (.tup [.fl 0,.s (.bool true)]) [.arr true 25 1 l]) (λl=>rv (.tup [.fl 1,.s (.bool false)]) [.arr true 25 1 l,.arr true 25 1 []])=rv r H/\
  r.stab [1,0] H = .tup [.s (.sl (gvs s last).isEmpty (gvs s last).isEmpty 1 (F2 (gvs s last))),.s (.bool (Q0 s last).isSome)]:=by
 have hs:=K8 h0
 have:=D7
 unfold SD gvs Q0
 by_cases h1:s=[]
 ·subst h1
  exact ⟨_,_,rfl,rfl⟩
 ·rw [show (s==([]:By))=false from beq_eq_false_iff_ne.2 h1,h0,if_neg h1]
  simp only [cond_false,cond_true,vl,show u8n 58=58 from rfl]
  obtain ⟨a,b⟩:=Ad8 (k0:=λl=>rv (.tup [.fl 1,.s (.bool false)]) [.arr true 25 1 l,.arr true 25 1 []]) (k1:=λl=>rv (.tup [.fl 0,.s (.bool true)]) [.arr true 25 1 l]) last (pcs 58 s) (W9 58 hs) (λx hx=>Nat.le_trans (X1 hx).2 hs) (pcs 58 s).length 0 LF [] (by omega) (by have:=W9 58 hs;omega) (by simp)
  rw [List.drop_zero] at a b
  cases hq:Ga last (pcs 58 s) with
  | some q=>
   refine ⟨_,_,a q hq,?_⟩
   simp [PV.stab,Ls,Ld,PV.snap,L5,Te]
  | none=>
   obtain ⟨d',e⟩:=b hq
   refine ⟨_,_,e,?_⟩
   simp [PV.stab,Ls,Ld,PV.snap,L5,F2]
theorem Bv3 {α:Type} {W:List α} (h:W.length=8):∃ a b c d e f g i,W=[a,b,c,d,e,f,g,i]:=by
 match W,h with
 | [a,b,c,d,e,f,g,i],_=>exact ⟨a,b,c,d,e,f,g,i,rfl⟩
def r8 (n:Nat):LL:=List.replicate n [SV.int .u16 0]
theorem Ab2 (n:Nat):r8 n=F2 (List.replicate n 0):=by simp [r8,F2]
theorem BG {s:By} {last:Bool} {q:List Nat} (h:Q0 s last=some q):gvs s last=q:=by unfold gvs;rw [h];rfl
theorem Br6 (s:By):(Lib.cut s [58,58]).1.length<=s.length/\(Lib.cut s [58,58]).2.1.length<=s.length:=by
 unfold Lib.cut
 grind
theorem At5 {R:Type} {K:LL->LL->Option R} (X Y:List Nat) (h:X.length+Y.length<=8) :
  Ml (F2 X) (F2 Y) (r8 8) K=K (F2 (X++List.replicate (8-X.length-Y.length) 0++Y)) (F2 (X++List.replicate (8-X.length-Y.length) 0++Y)):=by
 unfold Ml
 have l9:(List.take 0 (r8 8)++(List.take 8 (F2 X)++List.drop (0+min (F2 X).length 8) (r8 8)))=F2 (X++List.replicate (8-X.length) 0):=by
  rw [L4,Nat.min_eq_left (show X.length<=8 by omega),List.take_of_length_le (l:=F2 X) (i:=8) (by rw [L4];omega),Ip,Nat.zero_add,Ab2,List.take_zero,List.nil_append]
  unfold F2
  rw [<-List.map_drop,List.drop_replicate]
 have en:A1 (8-(Y.length:Int))=((8-Y.length:Nat):Int):=by rw [A5];omega
 have ll:(F2 (X++List.replicate (8-X.length) 0)).length=8:=by simp [L4]<;>omega
 have l11:(List.take (8-Y.length) (F2 (X++List.replicate (8-X.length) 0))++(List.take (8-(8-Y.length)) (F2 Y)++List.drop (8-Y.length+min Y.length (8-(8-Y.length))) (F2 (X++List.replicate (8-X.length) 0))))=F2 (X++List.replicate (8-X.length-Y.length) 0++Y):=by
  rw [List.drop_of_length_le (by rw [ll];omega),List.take_of_length_le (l:=F2 Y) (by rw [L4];omega),Ip (X++_) Y,List.append_nil]
  congr 1
  unfold F2
  rw [<-List.map_take,List.take_append,List.take_of_length_le (by omega),List.take_replicate]
  grind
 have hW:(X++List.replicate (8-X.length-Y.length) 0++Y).length=8:=by simp<;>omega
 simp only [vl]
 rw [l9]
 simp only [L4,en,Int.toNat_natCast]
 rw [l11]
 simp only [L4]
 rw [show (r8 8).length=8 from rfl,show List.length (X++List.replicate (8-X.length) (0:Nat))=8 by simp<;>omega,P5,decide_eq_true (show 8-Y.length+(8-(8-Y.length))<=8 by omega)]
 simp only [decide_true,cond_true,Nat.le_refl,hW]
 generalize (X++List.replicate (8-X.length-Y.length) 0++Y)=W at *
 obtain ⟨a,b,c,d,e,f,g,i,rfl⟩:=Bv3 hW
 rfl
theorem Bn2 {R:Type} {k0:Int->Int->Int->Int->Int->Int->Int->Int->Bool->LL->LL->Option R} (s:By) (h0:A3 s.length=true) :
  ∃ l l',v6p LF s k0=k0 (v6c 0 s) (v6c 1 s) (v6c 2 s) (v6c 3 s) (v6c 4 s) (v6c 5 s) (v6c 6 s) (v6c 7 s) (v6B s).isSome l l':=by
 have hs:=K8 h0
 have hcl:=Br6 s
 unfold v6p v6c
 rw [h0]
 have bad:∀ (h:v6B s=none),k0 0 0 0 0 0 0 0 0 false (r8 8) (r8 8)=k0 ((((v6B s).getD z8).getD 0 0:Nat):Int) ((((v6B s).getD z8).getD 1 0:Nat):Int) ((((v6B s).getD z8).getD 2 0:Nat):Int) ((((v6B s).getD z8).getD 3 0:Nat):Int) ((((v6B s).getD z8).getD 4 0:Nat):Int) ((((v6B s).getD z8).getD 5 0:Nat):Int) ((((v6B s).getD z8).getD 6 0:Nat):Int) ((((v6B s).getD z8).getD 7 0:Nat):Int) (v6B s).isSome (r8 8) (r8 8):=by
  intro h;rw [h];rfl
 simp (disch:=omega) only [cond_true,vl,F5]
 have e6:v6B s=match Q0 (Lib.cut s [58,58]).1 (!(Lib.cut s [58,58]).2.2),Q0 (Lib.cut s [58,58]).2.1 true with
  | some x,some y=>if (Lib.cut s [58,58]).2.2 then (if x.length+y.length<=7 then some (x++List.replicate (8-x.length-y.length) 0++y) else none)
   else if x.length+y.length=8 then some (x++y) else none
  | _,_=>none:=rfl
 generalize (Lib.cut s [58,58]).1=A at *
 generalize (Lib.cut s [58,58]).2.1=B at *
 generalize (Lib.cut s [58,58]).2.2=gap at *
 cases hx:Q0 A (!gap) with
 | none=>exact ⟨_,_,bad (by rw [e6,hx])⟩
 | some X=>
  cases hy:Q0 B true with
  | none=>exact ⟨_,_,bad (by rw [e6,hx,hy])⟩
  | some Y=>
   have hXl:X.length<=2000000002:=by
    unfold Q0 at hx
    split at hx
    ·grind
    ·have:=Ia _ _ _ hx;have:=W9 58 (s:=A) (by omega);omega
   have hYl:Y.length<=2000000002:=by
    unfold Q0 at hy
    split at hy
    ·grind
    ·have:=Ia _ _ _ hy;have:=W9 58 (s:=B) (by omega);omega
   rw [hx,hy] at e6
   simp only [BG hx,BG hy,L4,Option.isSome_some,Bool.not_true,cond_false]
   rw [A5]
   have fin:∀ (W:List Nat),W.length=8->v6B s=some W->∃ l l',(cond ((decide (8=(F2 W).length*1))&&(okS ⟨true,true,[.int .u16,.int .u16,.int .u16,.int .u16,.int .u16,.int .u16,.int .u16,.int .u16]⟩ (List.flatten (F2 W)) 0))
     (k0 (SV.gI (List.getD (List.flatten (F2 W)) 0 SV.nilp)) (SV.gI (List.getD (List.flatten (F2 W)) 1 SV.nilp)) (SV.gI (List.getD (List.flatten (F2 W)) 2 SV.nilp)) (SV.gI (List.getD (List.flatten (F2 W)) 3 SV.nilp)) (SV.gI (List.getD (List.flatten (F2 W)) 4 SV.nilp)) (SV.gI (List.getD (List.flatten (F2 W)) 5 SV.nilp)) (SV.gI (List.getD (List.flatten (F2 W)) 6 SV.nilp)) (SV.gI (List.getD (List.flatten (F2 W)) 7 SV.nilp)) true (F2 W) (F2 W)) none) =
     k0 ((((v6B s).getD z8).getD 0 0:Nat):Int) ((((v6B s).getD z8).getD 1 0:Nat):Int) ((((v6B s).getD z8).getD 2 0:Nat):Int) ((((v6B s).getD z8).getD 3 0:Nat):Int) ((((v6B s).getD z8).getD 4 0:Nat):Int) ((((v6B s).getD z8).getD 5 0:Nat):Int) ((((v6B s).getD z8).getD 6 0:Nat):Int) ((((v6B s).getD z8).getD 7 0:Nat):Int) (v6B s).isSome l l':=by
    intro W hW h
    rw [h]
    obtain ⟨a,b,c,d,e,f,g,i,rfl⟩:=Bv3 hW
    exact ⟨_,_,rfl⟩
   cases gap with
   | false=>
    simp only [Bool.not_false,cond_true,Bool.false_eq_true,if_false] at e6 ⊢
    by_cases h8:X.length+Y.length=8
    ·rw [if_pos h8] at e6
     rw [show ((X.length:Int)+(Y.length:Int) != 8)=false by simp;omega]
     simp only [cond_false]
     rw [show (List.replicate 8 [SV.int IntKind.u16 0])=r8 8 from rfl,At5 X Y (by omega)]
     have hz:8-X.length-Y.length=0:=by omega
     rw [hz]
     simp only [List.replicate_zero,List.append_nil]
     exact fin (X++Y) (by simp<;>omega) e6
    ·rw [if_neg h8] at e6
     rw [show ((X.length:Int)+(Y.length:Int) != 8)=true by simp;omega]
     exact ⟨_,_,bad e6⟩
   | true=>
    simp only [Bool.not_true,cond_false,cond_true,if_true] at e6 ⊢
    by_cases h8:X.length+Y.length<=7
    ·rw [if_pos h8] at e6
     rw [A7]
     simp only [cond_false]
     rw [show (List.replicate 8 [SV.int IntKind.u16 0])=r8 8 from rfl,At5 X Y (by omega)]
     exact fin _ (by simp<;>omega) e6
    ·rw [if_neg h8] at e6
     rw [A8]
     exact ⟨_,_,bad e6⟩
theorem NQ (P T:List Nat) (t v:Nat):List.set (F2 (P++t::T)) P.length (G3 (List.getD (F2 (P++t::T)) P.length []) 0 [SV.int .u16 (v:Int)])=F2 (P++v::T):=by
 have hg:List.getD (F2 (P++t::T)) P.length []=[SV.int .u16 (t:Int)]:=by
  simp [F2,List.getD_eq_getElem?_getD]
 rw [hg]
 simp only [G3,List.set_cons_zero]
 simp [F2]
theorem Bl7 (X T:List Nat) (i:Nat) (h:i<X.length):X.take (i+1)++T=X.take i++X.getD i 0::T:=by
 rw [List.take_add_one,List.getElem?_eq_getElem h,List.getD_eq_getElem?_getD,List.getElem?_eq_getElem h,List.append_assoc]
 rfl
theorem Cd2 {R:Type} {k0:LL->LL->Option R} (z:Bool) (X:List Nat) (hX:X.length=8) (l3:LL):∀ (r i n:Nat),i+r=8->r<n->Kf LF n z (F2 X) (i:Int) l3 (F2 (X.take i++List.replicate r 0)) k0=k0 l3 (F2 X):=by
 intro r
 induction r with
 | zero=>
  intro i n hi hn
  obtain ⟨n,rfl⟩:∃ m,n=m+1:=⟨n-1,by omega⟩
  rw [Kf]
  rw [A7,List.take_of_length_le (by omega)]
  simp
 | succ r ih=>
  intro i n hi hn
  obtain ⟨n,rfl⟩:∃ m,n=m+1:=⟨n-1,by omega⟩
  rw [Kf]
  have hn1:((i:Int)+1)=((i+1:Nat):Int):=by omega
  have hl:(X.take i).length=i:=by rw [List.length_take];omega
  have hs:=NQ (X.take i) (List.replicate r 0) 0 (X.getD i 0)
  rw [hl] at hs
  simp (disch:=first | omega | (simp [L4];omega)) only [C2,L4,K2,cond_true,Int.toNat_natCast,MP,XU,vl,D3,List.replicate_succ,hs]
  rw [decide_eq_true (show i<List.length (X.take i++(0:Nat)::List.replicate r (0:Nat)) by simp<;>omega),hn1]
  simp only [cond_true]
  have:=ih (i+1) n (by omega) (by omega)
  rw [Bl7 X _ i (by omega)] at this
  exact this
theorem Cd3 {R:Type} {k0:Bool->LL->LL->LL->Option R} (z:Bool) (X:List Nat) (hX:X.length<=8) (z2:Bool) (r3 l5:LL):∀ (r i n:Nat),i+r=X.length->r<n->Kg LF n z (F2 X) z2 r3 (i:Int) l5 (F2 (X.take i++List.replicate (8-i) 0)) k0=k0 z2 r3 l5 (F2 (X++List.replicate (8-X.length) 0)):=by
 intro r
 induction r with
 | zero=>
  intro i n hi hn
  obtain ⟨n,rfl⟩:∃ m,n=m+1:=⟨n-1,by omega⟩
  rw [Kg]
  rw [L4,A7,List.take_of_length_le (by omega),show i=X.length by omega]
  rfl
 | succ r ih=>
  intro i n hi hn
  obtain ⟨n,rfl⟩:∃ m,n=m+1:=⟨n-1,by omega⟩
  rw [Kg]
  have hn1:((i:Int)+1)=((i+1:Nat):Int):=by omega
  have hl:(X.take i).length=i:=by rw [List.length_take];omega
  have hs:=NQ (X.take i) (List.replicate (7-i) 0) 0 (X.getD i 0)
  rw [hl] at hs
  rw [show 8-i=7-i+1 by omega,List.replicate_succ]
  simp (disch:=first | omega | (simp [L4];omega)) only [C2,L4,K2,cond_true,Int.toNat_natCast,MP,XU,vl,D3,hs]
  rw [decide_eq_true (show i<List.length (X.take i++(0:Nat)::List.replicate (7-i) (0:Nat)) by simp<;>omega),hn1]
  simp only [cond_true]
  have:=ih (i+1) n (by omega) (by omega)
  rw [Bl7 X _ i (by omega),show 8-(i+1)=7-i by omega] at this
  exact this
theorem Cd4 {R:Type} {k0:LL->LL->Option R} (z:Bool) (Y P:List Nat) (hY:P.length+Y.length=8) (l3:LL):∀ (r i n:Nat) (T:List Nat),i+r=Y.length->r<n->T.length=r->Kh LF n z (F2 Y) (i:Int) l3 (F2 (P++Y.take i++T)) k0=k0 l3 (F2 (P++Y)):=by
 intro r
 induction r with
 | zero=>
  intro i n T hi hn hT
  obtain ⟨n,rfl⟩:∃ m,n=m+1:=⟨n-1,by omega⟩
  rw [Kh]
  rw [L4,A7,List.take_of_length_le (by omega),List.length_eq_zero_iff.1 hT]
  simp
 | succ r ih=>
  intro i n T hi hn hT
  obtain ⟨n,rfl⟩:∃ m,n=m+1:=⟨n-1,by omega⟩
  obtain ⟨t,T,rfl⟩:∃ t T',T=t::T':=by
   match T,hT with
   | t::T',_=>exact ⟨t,T',rfl⟩
  rw [Kh]
  have hn1:((i:Int)+1)=((i+1:Nat):Int):=by omega
  have hl:(P++Y.take i).length=P.length+i:=by simp<;>omega
  have hs:=NQ (P++Y.take i) T t (Y.getD i 0)
  rw [hl] at hs
  have e1:A1 (8-(Y.length:Int))=(P.length:Int):=by rw [A5];omega
  have e2:A1 ((P.length:Int)+(i:Int))=((P.length+i:Nat):Int):=by rw [A5];rfl
  simp (disch:=first | omega | (simp [L4];omega)) only [C2,L4,K2,cond_true,Int.toNat_natCast,MP,XU,vl,e1,e2,D3,hs]
  rw [decide_eq_true (show P.length+i<List.length (P++Y.take i++t::T) by simp<;>omega),hn1]
  simp only [cond_true]
  have:=ih (i+1) n T (by omega) (by omega) (by simpa using hT)
  rw [List.append_assoc,Bl7 Y _ i (by omega),<-List.append_assoc] at this
  exact this
theorem A48 {R:Type} {k0:Int->Int->Int->Int->Int->Int->Int->Int->Bool->LL->LL->Option R} (s:By) (h0:A3 s.length=true) :
  ∃ l l',Bk6 LF s k0=k0 (v6c 0 s) (v6c 1 s) (v6c 2 s) (v6c 3 s) (v6c 4 s) (v6c 5 s) (v6c 6 s) (v6c 7 s) (v6B s).isSome l l':=by
 have hs:=K8 h0
 have hLF:=D7
 unfold Bk6 v6c
 rw [h0]
 have bad:∀ (h:v6B s=none),k0 0 0 0 0 0 0 0 0 false (r8 8) (r8 8)=k0 ((((v6B s).getD z8).getD 0 0:Nat):Int) ((((v6B s).getD z8).getD 1 0:Nat):Int) ((((v6B s).getD z8).getD 2 0:Nat):Int) ((((v6B s).getD z8).getD 3 0:Nat):Int) ((((v6B s).getD z8).getD 4 0:Nat):Int) ((((v6B s).getD z8).getD 5 0:Nat):Int) ((((v6B s).getD z8).getD 6 0:Nat):Int) ((((v6B s).getD z8).getD 7 0:Nat):Int) (v6B s).isSome (r8 8) (r8 8):=by
  intro h;rw [h];rfl
 have e6:v6B s=match Q0 (Lib.cut s [58,58]).1 (!(Lib.cut s [58,58]).2.2),Q0 (Lib.cut s [58,58]).2.1 true with
  | some x,some y=>if (Lib.cut s [58,58]).2.2 then (if x.length+y.length<=7 then some (x++List.replicate (8-x.length-y.length) 0++y) else none)
   else if x.length+y.length=8 then some (x++y) else none
  | _,_=>none:=rfl
 have hr:=Lib.index_room s [58,58]
 have hge:=Lib.index_ge s [58,58]
 simp only [cond_true]
 by_cases hk:AR s<0
 ·have hcut:Lib.cut s [58,58]=(s,[],false):=by
   unfold Lib.cut
   rw [if_neg (by unfold AR at hk;omega)]
  rw [hcut] at e6
  simp only [Bool.not_false,Bool.false_eq_true,if_false] at e6
  rw [C2 hk]
  simp only [cond_true]
  cases hx:Q0 s true with
  | none=>
   rw [hx] at e6
   exact ⟨_,_,bad e6⟩
  | some X=>
   have hy:Q0 [] true=some []:=rfl
   have hXl:X.length<=2000000002:=by
    unfold Q0 at hx
    split at hx
    ·cases hx;simp
    ·have:=Ia _ _ _ hx;have:=W9 58 (s:=s) (by omega);omega
   rw [hx,hy] at e6
   simp only [List.length_nil,Nat.add_zero,List.append_nil] at e6
   simp only [Option.isSome_some,Bool.not_true,cond_false,BG hx,L4]
   by_cases h8:X.length=8
   ·rw [if_pos h8] at e6
    rw [show ((X.length:Int) != 8)=false by simp;omega]
    simp only [cond_false]
    rw [show (List.replicate 8 [SV.int IntKind.u16 0])=r8 8 from rfl]
    have h:=λK=>Cd2 (R:=R) (k0:=K) X.isEmpty X h8 (r8 8) 8 0 LF (by omega) (by omega)
    simp only [List.take_zero,List.nil_append] at h
    rw [<-Ab2] at h
    rw [show ((0:Nat):Int)=0 from rfl] at h
    rw [h]
    rw [e6]
    clear h e6 hx bad
    obtain ⟨a,b,c,d,e,f,g,i,rfl⟩:=Bv3 h8
    exact ⟨_,_,rfl⟩
   ·rw [if_neg h8] at e6
    rw [show ((X.length:Int) != 8)=true by simp;omega]
    exact ⟨_,_,bad e6⟩
 ·have hk0:0<=AR s:=by omega
  have hroom:=hr hk0
  obtain ⟨k,hkk⟩:=Int.eq_ofNat_of_zero_le hk0
  have hroom':k+2<=s.length:=by
   have:AR s+2<=(s.length:Int):=hroom
   omega
  have hcut:Lib.cut s [58,58]=(s.take k,s.drop (k+2),true):=by
   unfold Lib.cut
   have:Lib.index s [58,58]=(k:Int):=hkk
   rw [V7,this]
   rfl
  rw [hcut] at e6
  simp only [Bool.not_true,if_true] at e6
  have e2:A1 ((k:Int)+2)=((k+2:Nat):Int):=by rw [A5];rfl
  rw [hkk,A7,P5]
  simp only [cond_false,cond_true,vl,e2,Y7,Q8,Int.toNat_natCast]
  rw [F5 (by simp<;>omega),P5,F5 (by simp<;>omega)]
  simp only [cond_true]
  cases hx:Q0 (s.take k) false with
  | none=>
   rw [hx] at e6
   exact ⟨_,_,bad e6⟩
  | some X=>
   cases hy:Q0 (s.drop (k+2)) true with
   | none=>
    rw [hx,hy] at e6
    exact ⟨_,_,bad e6⟩
   | some Y=>
    have hXl:X.length<=2000000002:=by
     unfold Q0 at hx
     split at hx
     ·cases hx;simp
     ·have:=Ia _ _ _ hx;have:=W9 58 (s:=s.take k) (by simp<;>omega);omega
    have hYl:Y.length<=2000000002:=by
     unfold Q0 at hy
     split at hy
     ·cases hy;simp
     ·have:=Ia _ _ _ hy;have:=W9 58 (s:=s.drop (k+2)) (by simp<;>omega);omega
    rw [hx,hy] at e6
    simp only [Option.isSome_some,Bool.not_true,cond_false,BG hx,BG hy,L4]
    rw [A5]
    by_cases h8:X.length+Y.length<=7
    ·simp only [if_pos h8] at e6
     rw [A7]
     simp only [cond_false]
     rw [show (List.replicate 8 [SV.int IntKind.u16 0])=r8 8 from rfl]
     have h1:=λK=>Cd3 (R:=R) (k0:=K) X.isEmpty X (by omega) Y.isEmpty (F2 Y) (r8 8) X.length 0 LF (by omega) (by omega)
     simp only [List.take_zero,List.nil_append] at h1
     rw [show (8-0:Nat)=8 from rfl,<-Ab2,show ((0:Nat):Int)=0 from rfl] at h1
     rw [h1]
     have hsp:X++List.replicate (8-X.length) 0=(X++List.replicate (8-X.length-Y.length) 0)++List.take 0 Y++List.replicate Y.length 0:=by
      simp only [List.take_zero,List.append_nil,List.append_assoc]
      rw [List.replicate_append_replicate]
      congr 2
      omega
     have h2:=λK=>Cd4 (R:=R) (k0:=K) Y.isEmpty Y (X++List.replicate (8-X.length-Y.length) 0) (by simp<;>omega) (r8 8) Y.length 0 LF (List.replicate Y.length 0) (by omega) (by omega) (by simp)
     rw [<-hsp,show ((0:Nat):Int)=0 from rfl] at h2
     rw [h2]
     rw [e6]
     have hW:List.length (X++List.replicate (8-X.length-Y.length) 0++Y)=8:=by simp<;>omega
     clear h1 h2 hsp e6 hx hy bad
     generalize (X++List.replicate (8-X.length-Y.length) 0++Y)=W at *
     obtain ⟨a,b,c,d,e,f,g,i,rfl⟩:=Bv3 hW
     exact ⟨_,_,rfl⟩
    ·simp only [if_neg h8] at e6
     rw [A8]
     exact ⟨_,_,bad e6⟩
theorem NC {R:Type} {k0:Int->Option R} {k1:Unit->Option R} (s:By) (hs:s.length<=1000000000):∀ (r i n:Nat),i+r=s.length->r<n->
  T1 LF n s (i:Int) k0 k1=if Lib.index (s.drop i) [58,58] = -1 then k1 () else k0 ((i:Int)+Lib.index (s.drop i) [58,58]):=by
 intro r
 induction r with
 | zero=>
  intro i n hi hn
  obtain ⟨n,rfl⟩:∃ m,n=m+1:=⟨n-1,by omega⟩
  rw [T1]
  rw [A5,A7,List.drop_of_length_le (by omega)]
  rfl
 | succ r ih=>
  intro i n hi hn
  obtain ⟨n,rfl⟩:∃ m,n=m+1:=⟨n-1,by omega⟩
  rw [T1]
  have hn1:A1 ((i:Int)+1)=((i+1:Nat):Int):=by rw [A5];rfl
  rw [hn1]
  by_cases hl:i+1<s.length
  ·have ih:=ih (i+1) n (by omega) (by omega)
   rw [F7 s i (by omega)]
   have hd2:=F7 s (i+1) hl
   have hge:=Lib.index_ge (s.drop (i+1)) [58,58]
   have ei:Lib.index (s.getD i 0::s.drop (i+1)) [58,58]=if ([58,58]:By).isPrefixOf (s.getD i 0::s.drop (i+1)) then 0 else if Lib.index (s.drop (i+1)) [58,58] == -1 then -1 else Lib.index (s.drop (i+1)) [58,58]+1:=by
    rw [Lib.index]
   have ep:([58,58]:By).isPrefixOf (s.getD i 0::s.drop (i+1))=(s.getD i 0==58&&s.getD (i+1) 0==58):=by
    rw [hd2]
    simp only [List.isPrefixOf,Bool.and_true]
    rw [BEq.comm (a:=(58:UInt8)),BEq.comm (a:=(58:UInt8)) (b:=s.getD (i+1) 0)]
   have u1:=P6 (s.getD i 0) 58 (by omega)
   have u2:=P6 (s.getD (i+1) 0) 58 (by omega)
   rw [show ((58:Nat):Int)=58 from rfl,show UInt8.ofNat 58=(58:UInt8) from rfl] at u1 u2
   have next:T1 LF n s ((i+1:Nat):Int) k0 k1=if (if Lib.index (s.drop (i+1)) [58,58] == -1 then (-1:Int) else Lib.index (s.drop (i+1)) [58,58]+1) = -1 then k1 () else k0 ((i:Int)+(if Lib.index (s.drop (i+1)) [58,58] == -1 then -1 else Lib.index (s.drop (i+1)) [58,58]+1)):=by
    rw [ih]
    by_cases hx:Lib.index (s.drop (i+1)) [58,58] = -1
    ·rw [hx];rfl
    ·rw [if_neg hx,show (Lib.index (s.drop (i+1)) [58,58] == -1)=false from beq_eq_false_iff_ne.2 hx]
     simp only [Bool.false_eq_true,if_false]
     rw [I8]
     congr 1
     omega
   rw [ei,ep,A8,I6,I6]
   simp only [cond_true,F4,vl,u1,u2]
   cases h1:(s.getD i 0==58) with
   | false=>
    simp only [cond_false,Bool.false_and,Bool.false_eq_true,if_false]
    exact next
   | true=>
    cases h2:(s.getD (i+1) 0==58) with
    | false=>
     simp only [cond_true,cond_false,Bool.and_false,Bool.false_eq_true,if_false]
     exact next
    | true=>
     simp
  ·rw [A7,F7 s i (by omega),List.drop_of_length_le (show s.length<=i+1 by omega)]
   have:Lib.index [s.getD i 0] [58,58] = -1:=by
    rw [Lib.index]
    simp [List.isPrefixOf,Lib.index]
   rw [this]
   rfl
theorem ND {R:Type} {k0:Int->Option R} (s:By) (h0:A3 s.length=true):Yl LF s k0=k0 (AR s):=by
 have hs:=K8 h0
 have:=D7
 unfold Yl AR
 refine Eq.trans (NC s hs s.length 0 LF (by omega) (by omega)) ?_
 grind
theorem Jw (n:Nat):ptI (n:Int)=T7 n:=rfl
theorem RU {R:Type} {k0:Bool->Option R} (n:Int):MW LF n k0=k0 (ptI n):=by
 unfold MW
 by_cases h:n<0
 ·rw [C2 h]
  have:ptI n=false:=by
   cases n with
   | ofNat m=>exact absurd h (by simp)
   | negSucc m=>rfl
  grind
 ·obtain ⟨m,rfl⟩:=Int.eq_ofNat_of_zero_le (show 0<=n by omega)
  rw [A7,Jw]
  unfold T7
  by_cases h1:1114111<m
  ·rw [A8]
   have:Nat.ble m 1114111=false:=by rw [Bool.eq_false_iff,ne_eq,Nat.ble_eq];omega
   grind
  ·rw [A7]
   have:Nat.ble m 1114111=true:=by rw [Nat.ble_eq];omega
   rw [this]
   by_cases h2:m<55296
   ·rw [A8]
    have:Nat.blt m 55296=true:=by rw [Nat.blt_eq];omega
    grind
   ·rw [A7]
    have e:Nat.blt m 55296=false:=by rw [Bool.eq_false_iff,ne_eq,Nat.blt_eq];omega
    rw [e]
    simp only [Bool.not_false,cond_true,cond_false,Bool.false_or,Bool.true_and]
    congr 1
theorem Zx {d k:Nat} (h:455<d):Ug d k=Ug (d / 35) (k+36):=by rw [Ug,dif_pos h]
theorem Ot {d k:Nat} (h:¬ 455<d):Ug d k=k+36*d / (d+38):=by rw [Ug,dif_neg h]
theorem RP {R:Type} {k0:Int->Int->Option R}:∀ (d n k:Nat),d<2305843009213693952->d<n->k+d<=4611686018427387904->
  ∃ d' k',d'<=455/\k'<=k+d/\Ug d k=k'+36*d' / (d'+38)/\Ei LF n (d:Int) (k:Int) k0=k0 (d':Int) (k':Int):=by
 intro d
 induction d using Nat.strongRecOn with
 | _ d ih=>
  intro n k hd hn hk
  obtain ⟨n,rfl⟩:∃ m,n=m+1:=⟨n-1,by omega⟩
  rw [Ei]
  by_cases h:455<d
  ·obtain ⟨d',k',h1,h2,h3,h4⟩:=ih (d / 35) (by omega) n (k+36) (by omega) (by omega) (by omega)
   refine ⟨d',k',h1,by omega,by rw [Zx h];exact h3,?_⟩
   have e:Int.tdiv (d:Int) 35=((d / 35:Nat):Int):=L9 d 35
   have e1:A1 ((d / 35:Nat):Int)=((d / 35:Nat):Int):=A5
   have e2:A1 ((k:Int)+36)=((k+36:Nat):Int):=by rw [A5];rfl
   rw [A8]
   simp only [cond_true,vl,e,e1,e2]
   exact h4
  ·refine ⟨d,k,by omega,by omega,Ot h,?_⟩
   rw [A7]
   rfl
theorem RR {R:Type} {k0:Int->Option R} (d c:Int) (f:Bool) (h0:ltN d 1152921504606846976=true) (h1:ltN c 1000000=true) (h2:ltI 0 c=true):CJ LF d c f k0=k0 (P2 d.toNat c.toNat f:Nat):=by
 obtain ⟨hd0,hd1⟩:=L8.1 h0
 obtain ⟨hc0,hc1⟩:=L8.1 h1
 obtain ⟨d,rfl⟩:=Int.eq_ofNat_of_zero_le hd0
 obtain ⟨c,rfl⟩:=Int.eq_ofNat_of_zero_le hc0
 have hc:=Aq4.1 h2
 have hLF:=D7
 have key:∀ x:Nat,x<1152921504606846976->Eh LF (x:Int) (c:Int) k0=k0 ((Ug (x+x / c) 0:Nat):Int):=by
  intro x hx
  have hxc:x / c<=x:=Nat.div_le_self _ _
  unfold Eh
  have e1:Int.tdiv (x:Int) (c:Int)=((x / c:Nat):Int):=L9 x c
  generalize x / c=q at *
  have e2:A1 (q:Int)=(q:Int):=A5
  have e3:A1 ((x:Int)+(q:Int))=((x+q:Nat):Int):=by rw [A5];rfl
  rw [show ((c:Int) != 0)=true by simp;omega]
  simp only [cond_true,vl,e1,e2,e3]
  obtain ⟨d',k',g1,g2,g3,g4⟩:=RP (R:=R) (k0:=λdelta'7 k'8=>vl (A1 ((36)*delta'7)) λn'9=>vl (A1 (delta'7+(38))) λn'10=>cond (n'10 != (0)) (vl (A1 (Int.tdiv n'9 n'10)) λn'11=>k0 (A1 (k'8+n'11))) none) (x+q) LF 0 (by omega) (by omega) (by omega)
  refine Eq.trans g4 ?_
  have hq:36*d' / (d'+38)<=36*d':=Nat.div_le_self _ _
  have f1:A1 (36*(d':Int))=((36*d':Nat):Int):=by rw [A5];rfl
  have f2:A1 ((d':Int)+38)=((d'+38:Nat):Int):=by rw [A5];rfl
  have f3:Int.tdiv ((36*d':Nat):Int) ((d'+38:Nat):Int)=((36*d' / (d'+38):Nat):Int):=L9 _ _
  have f4:A1 ((36*d' / (d'+38):Nat):Int)=((36*d' / (d'+38):Nat):Int):=A5
  have f5:A1 ((k':Int)+((36*d' / (d'+38):Nat):Int))=((k'+36*d' / (d'+38):Nat):Int):=by rw [A5];rfl
  simp only [vl,f1,f2,f3,f4,f5]
  rw [show (((d'+38:Nat):Int) != 0)=true by simp;omega,g3]
  rfl
 unfold CJ P2
 rw [Int.toNat_natCast,Int.toNat_natCast]
 cases f with
 | true=>
  have e1:Int.tdiv (d:Int) 700=((d / 700:Nat):Int):=L9 d 700
  have e2:A1 ((d / 700:Nat):Int)=((d / 700:Nat):Int):=A5
  simp only [cond_true,vl,e1,e2,if_true]
  exact key _ (by omega)
 | false=>
  have e1:Int.tdiv (d:Int) 2=((d / 2:Nat):Int):=L9 d 2
  have e2:A1 ((d / 2:Nat):Int)=((d / 2:Nat):Int):=A5
  simp only [cond_false,vl,e1,e2,Bool.false_eq_true,if_false]
  exact key _ (by omega)
theorem FO {d:Nat} (h:d<36):(Y8 d).toNat=if d<26 then 97+d else 22+d:=by
 unfold Y8
 split<;>simp<;>omega
theorem A10 {R:Type} {k0:Int->Option R} (d:Int) (h0:ltN d 36=true):By3 LF d k0=k0 ((Y8 d.toNat).toNat:Nat):=by
 obtain ⟨hd0,hd1⟩:=L8.1 h0
 obtain ⟨d,rfl⟩:=Int.eq_ofNat_of_zero_le hd0
 unfold By3
 rw [Int.toNat_natCast,FO (by omega)]
 by_cases h:d<26
 ·rw [A8,if_pos h]
  simp only [cond_true,vl]
  congr 1
  rw [A5,N2]
  rfl
 ·rw [A7,if_neg h]
  simp only [cond_false,vl]
  congr 1
  rw [D3 (n:=48+(d:Int)) (by omega) (by omega),A5,N2]
  omega
theorem Xr (b:UInt8):(97<=b.toNat/\b.toNat<=122/\Lb b=some (b.toNat-97))\/(65<=b.toNat/\b.toNat<=90/\Lb b=some (b.toNat-65))\/(48<=b.toNat/\b.toNat<=57/\Lb b=some (b.toNat-22))\/(¬(97<=b.toNat/\b.toNat<=122)/\¬(65<=b.toNat/\b.toNat<=90)/\¬(48<=b.toNat/\b.toNat<=57)/\Lb b=none):=by
 unfold Lb
 grind
theorem A16 {R:Type} {k0:Int->Option R} (b:Int) (h0:inR b 256=true):Bi0 LF b k0=k0 (E1 (u8n b)):=by
 simp only [inR,Bool.and_eq_true,decide_eq_true_eq] at h0
 have hc:b=((u8n b).toNat:Int):=by
  unfold u8n
  simp
  omega
 generalize u8n b=c at *
 subst hc
 have hbt:=c.toNat_lt
 unfold Bi0 E1
 simp only [Sa,Rz,vl]
 rcases Xr c with ⟨h1,h2,e⟩ | ⟨h1,h2,e⟩ | ⟨h1,h2,e⟩ | ⟨h1,h2,h3,e⟩
 ·have e2:A1 (wu8 ((c.toNat:Int)-97))=((c.toNat-97:Nat):Int):=by
   rw [N2,A5];omega
  simp (disch:=omega) only [C2,D1,Bool.not_true,Bool.not_false,cond_false,cond_true,e2,e]
 ·have e2:A1 (wu8 ((c.toNat:Int)-65))=((c.toNat-65:Nat):Int):=by
   rw [N2,A5];omega
  simp (disch:=omega) only [C2,D1,Bool.not_true,Bool.not_false,cond_false,cond_true,e2,e]
 ·have e2:A1 (A1 (wu8 ((c.toNat:Int)-48))+26)=((c.toNat-22:Nat):Int):=by
   rw [N2,D3 (n:=(c.toNat:Int)-48) (by omega) (by omega),A5];omega
  simp (disch:=omega) only [C2,D1,Bool.not_true,Bool.not_false,cond_false,cond_true,e2,e]
 ·rw [e]
  by_cases c1:c.toNat<48
  ·simp (disch:=omega) only [C2,D1,Bool.not_true,Bool.not_false,cond_false,cond_true]
  ·by_cases c2:c.toNat<65
   ·simp (disch:=omega) only [C2,D1,Bool.not_true,Bool.not_false,cond_false,cond_true]
   ·by_cases c3:c.toNat<97
    ·simp (disch:=omega) only [C2,D1,Bool.not_true,Bool.not_false,cond_false,cond_true]
    ·simp (disch:=omega) only [C2,D1,Bool.not_true,Bool.not_false,cond_false,cond_true]
theorem Cm0 {W:List Nat} (h:∀ x∈W,x<65536):(F2 W).all B81=true:=by
 rw [List.all_eq_true]
 intro x hx
 simp only [F2,List.mem_map] at hx
 obtain ⟨n,hn,rfl⟩:=hx
 have:=h n hn
 exact Xd (v:=(n:Int)) (n:=65536) (by omega) (by omega)
theorem Bd0 (l:List By):(C6 l).map elS=l:=by
 unfold C6
 rw [List.map_map]
 conv=>rhs;rw [<-List.map_id l]
 apply List.map_congr_left
 intro x _
 simp [elS,SV.gS]
theorem Bl2 (l:List By):(C6 l).all isS=true:=by
 rw [List.all_eq_true]
 intro x hx
 simp only [C6,List.mem_map] at hx
 obtain ⟨n,hn,rfl⟩:=hx
 rfl
end
section
open Go
theorem Jm (x y:By) (r:List By) (p:By):Lib.join (x::y::r) p=x++(p++Lib.join (y::r) p):=by
 simp [Lib.join,List.intercalate]
theorem RS (c:UInt8):∀ l:List By,l≠[]->(∀ x∈l,c∉x)->pcs c (Lib.join l [c])=l
 | [],h,_=>absurd rfl h
 | [x],_,h=>by rw [Lib.join_one,Fl (h x (by simp))]
 | x::y::r,_,h=>by
  rw [Jm,List.singleton_append,Rw (h x (by simp)),RS c (y::r) (by simp) (λz hz=>h z (by simp [hz]))]
theorem QX (c:UInt8):∀ (n:Nat) (s:By),s.length<=n->Lib.join (pcs c s) [c]=s
 | n,s,hn=>by
  rcases Gw c s with h | ⟨p,r,rfl,h⟩
  ·rw [Fl h,Lib.join_one]
  ·rw [Rw h]
   cases n with
   | zero=>simp at hn
   | succ n=>
    have ih:=QX c n r (by simp at hn;omega)
    cases hp:pcs c r with
    | nil=>exact absurd hp (Vq c r)
    | cons y q=>
     rw [Jm,<-hp,ih]
     rfl
theorem Vl (c:UInt8) (s:By):Lib.join (pcs c s) [c]=s:=QX c _ s (Nat.le_refl _)
theorem Aq2 (b:UInt8):Gb b=46↔b=46:=by
 rcases Fg b with ⟨h,e⟩ | ⟨h,e⟩ | ⟨h,h2,e⟩
 ·rw [e]
 ·rw [e]
 ·constructor
  ·intro h3;rw [h3] at e;simp at e;omega
  ·intro h3;subst h3;simp at h
theorem Az1 (a b:By):C7 (a++b)=C7 a++C7 b:=List.map_append
theorem Ie (s:By):(C7 s).length=s.length:=List.length_map _
theorem Ho:∀ (s acc:By),J6 46 (C7 acc) (C7 s)=(J6 46 acc s).map C7
 | [],acc=>rfl
 | b::r,acc=>by
  show (if Gb b=46 then _ else _)=_
  simp only [J6]
  by_cases h:b=46
  ·rw [if_pos ((Aq2 b).2 h),if_pos h,List.map_cons]
   have:=Ho r []
   rw [<-this]
   rfl
  ·rw [if_neg (λe=>h ((Aq2 b).1 e)),if_neg h,<-Ho r (acc++[b]),Az1]
   rfl
theorem A07 (s:By):pcs 46 (C7 s)=(pcs 46 s).map C7:=Ho s []
theorem Jp (s:By) (i:Nat):(C7 s).getD i 0=Gb (s.getD i 0):=by
 unfold C7
 simp only [List.getD_eq_getElem?_getD,List.getElem?_map]
 cases s[i]?<;>rfl
theorem GH {s:By}:C7 s=[]↔s=[]:=by unfold C7;simp
theorem LY (l:List By):(l.map C7).getLastD []=C7 (l.getLastD []):=by
 rw [List.getLastD_eq_getLast?,List.getLastD_eq_getLast?,List.getLast?_map]
 cases l.getLast?<;>rfl
theorem Cc5 (s:By):D0 (C7 s)=(D0 s).map C7:=by
 unfold D0
 rw [A07,LY]
 simp only [List.length_map,GH]
 grind
theorem YY (s:By) (i:Nat):(C7 s).drop i=C7 (s.drop i):=by unfold C7;rw [List.map_drop]
theorem Xb (b:UInt8):V0 b=true↔(97<=b.toNat/\b.toNat<=122)\/(48<=b.toNat/\b.toNat<=57)\/b=45\/b=95:=by
 simp [V0,or_assoc]
structure VL (s:By):Prop where
 ne:s≠[]
 le:s.length<=63
 byt:∀ b∈s,V0 b=true
theorem Iq {s:By} (h:K4 s=true):VL s:=by
 unfold K4 at h
 simp only [Bool.and_eq_true,Bool.not_eq_true',List.all_eq_true] at h
 obtain ⟨⟨⟨⟨⟨h1,h2⟩,h3⟩,h4⟩,h5⟩,h6⟩:=h
 refine ⟨by intro e;subst e;simp at h1,Nat.le_of_ble_eq_true h2,λb hb=>h5 b hb⟩
structure VN (s:By):Prop where
 le:s.length<=253
 num:F6 s=false
 all:∀ x∈pcs 46 s,K4 x=true
theorem Ak5 {s:By}:P7 s=true↔VN s:=by
 unfold P7
 simp only [Bool.and_eq_true,Bool.not_eq_true',List.all_eq_true]
 exact ⟨λh=>⟨Nat.le_of_ble_eq_true h.1.1,h.1.2,h.2⟩,λh=>⟨⟨Nat.ble_eq_true_of_le h.le,h.num⟩,h.all⟩⟩
theorem Xg {s:By} (h:∀ x∈pcs 46 s,x≠[]):D0 s=pcs 46 s:=by
 unfold D0
 grind
theorem VN.pne {s:By} (h:VN s):∀ x∈pcs 46 s,x≠[]:=λx hx=>(Iq (h.all x hx)).ne
theorem VN.super {s x y:By} {r:List By} (h:VN s) (hp:pcs 46 s=x::y::r):s=x++46::Lib.join (y::r) [46]/\VN (Lib.join (y::r) [46])/\pcs 46 (Lib.join (y::r) [46])=y::r:=by
 have hs:=Vl 46 s
 rw [hp,Jm] at hs
 have hpc:pcs 46 (Lib.join (y::r) [46])=y::r:=RS 46 _ (by simp) (λz hz=>(X1 (s:=s) (by rw [hp];simp [hz])).1)
 have hall:∀ z∈y::r,K4 z=true:=λz hz=>h.all z (by rw [hp];exact List.mem_cons_of_mem _ hz)
 refine ⟨hs.symm,⟨?_,?_,by rw [hpc];exact hall⟩,hpc⟩
 ·have:=congrArg List.length hs
  have:=h.le
  grind
 ·have h1:=h.num
  unfold F6 at h1 ⊢
  have e:De (Lib.join (y::r) [46])=De s:=by
   unfold De
   rw [Xg h.pne,Xg (by rw [hpc];exact λz hz=>(Iq (hall z hz)).ne),hpc,hp]
   rfl
  grind
def sh (n:Nat) (i:Int):Int:=if i = -1 then -1 else i+n
theorem Bm0 {s:By} (h:(I5 s).2=0):K4 (I5 s).1=true:=by
 unfold I5 at h ⊢
 grind
theorem Mt:∀ l:List By,(F8 l).2=0->(∀ x∈(F8 l).1,K4 x=true)/\(F8 l).1.length=l.length
 | [],_=>⟨by simp [F8],rfl⟩
 | x::r,h=>by
  unfold F8 at h ⊢
  by_cases hx:(I5 x).2=0
  ·rw [if_pos hx] at h ⊢
   obtain ⟨h1,h2⟩:=Mt r h
   refine ⟨λy hy=>?_,by simp [h2]⟩
   rcases List.mem_cons.1 hy with rfl | hy
   ·exact Bm0 hx
   grind
  grind
end
section
open Go Go.Op
abbrev Ent:=By × Bool
abbrev B88:=By × Bool × Int
def Uy (e:Ent):List SV:=[.str e.1,.bool e.2]
def Cm9 (p:B88):List SV:=[.str p.1,.bool p.2.1,.int .i64 p.2.2]
def J8 (l:List Ent):LL:=l.map Uy
def Cn0 (l:List B88):LL:=l.map Cm9
def Cs:List SV->Bool | [.str _,.bool _]=>true | _=>false
def V6 (el:List SV):Ent:=((el.getD 0 .nilp).gS,(el.getD 1 .nilp).gB)
theorem GJ {α β:Type} (f:β->α) (g:α->β):∀ l:List α,(∀ x∈l,f (g x)=x)->l=(l.map g).map f
 | [],_=>rfl
 | a::r,h=>by
  rw [List.map_cons,List.map_cons,h a (by simp),<-GJ f g r λx hx=>h x (by simp [hx])]
theorem Qv {l:LL} (h:l.all Cs=true):l=J8 (l.map V6):=GJ Uy V6 l λx hx=>by
 have:=List.all_eq_true.1 h x hx
 unfold Cs at this
 split at this
 ·rfl
 ·cases this
theorem LU (l:List Ent):(J8 l).map V6=l:=by
 unfold J8
 rw [List.map_map]
 exact List.map_id'' (λ_=>rfl) l
@[simp] theorem I7 (l:List Ent):(J8 l).length=l.length:=List.length_map ..
@[simp] theorem Ck0 (l:List B88):(Cn0 l).length=l.length:=List.length_map ..
def noE:Ent:=([],false)
theorem Qu {l:List Ent} {i:Nat} (h:i<l.length):(J8 l).getD i []=Uy (l.getD i noE):=by
 unfold J8
 simp [List.getD_eq_getElem?_getD,List.getElem?_eq_getElem h]
theorem W6:∀ x y:By,bytesLess x y=decide (x<y)
 | [],[]=>by simp [bytesLess]
 | _::_,[]=>by simp [bytesLess]
 | [],_::_=>by simp [bytesLess]
 | a::x,b::y=>by
  rw [bytesLess,W6 x y]
  simp only [List.cons_lt_cons_iff]
  by_cases h1:a<b<;>by_cases h2:a=b<;>by_cases h3:x<y<;>simp [h1,h2,h3]
def rl (s:By):List By:=(pcs 46 s).reverse
def BX:List By->List By->Bool
 | _,[]=>false
 | [],_::_=>true
 | x::r,y::q=>bytesLess x y || (x==y&&BX r q)
theorem Yd:∀ x y:List By,BX x y=decide (x<y)
 | [],[]=>by simp [BX]
 | _::_,[]=>by simp [BX]
 | [],_::_=>by simp [BX]
 | a::x,b::y=>by
  rw [BX,Yd x y,W6]
  simp only [List.cons_lt_cons_iff]
  by_cases h1:a<b<;>by_cases h2:a=b<;>by_cases h3:x<y<;>simp [h1,h2,h3]
def Fi (a b:By):Bool:=BX (rl a) (rl b)
def Y6 (a b:By):Int:=cond (bytesLess a b) (-1) (cond (bytesLess b a) 1 0)
def LP (a b:Int):Int:=cond (ltI a b) (-1) (cond (ltI b a) 1 0)
def V5 (a b:By):Int:=cond (Fi a b) (-1) (cond (Fi b a) 1 0)
theorem Cd0 {a b:By} (h:rl a=rl b):a=b:=by
 rw [<-Vl 46 a,<-Vl 46 b,List.reverse_inj.1 h]
theorem Ly (a:By):Fi a a=false:=by
 unfold Fi
 rw [Yd]
 simp
theorem CA {a b c:By} (h:Fi a b=true) (g:Fi b c=true):Fi a c=true:=by
 unfold Fi at *
 rw [Yd] at *
 exact decide_eq_true (List.lt_trans (of_decide_eq_true h) (of_decide_eq_true g))
theorem RL {a b:By} (h:Fi a b=false) (g:Fi b a=false):a=b:=by
 unfold Fi at *
 rw [Yd] at *
 exact Cd0 (List.le_antisymm (List.not_lt.1 (of_decide_eq_false g)) (List.not_lt.1 (of_decide_eq_false h)))
theorem RK {a b c:By} (h:Fi a b=false) (g:Fi b c=false):Fi a c=false:=by
 cases e:Fi a c with
 | false=>rfl
 | true=>
  cases e1:Fi b a with
  | true=>rw [CA e1 e] at g;cases g
  | false=>
   obtain rfl:=RL h e1
   rw [e] at g;cases g
theorem Qi (a b:By):decide (V5 a b<0)=Fi a b:=by
 unfold V5
 cases Fi a b with
 | true=>rfl
 | false=>cases Fi b a<;>rfl
theorem Av2 (a b:By):(V5 a b==0)=(a==b):=by
 unfold V5
 cases h:Fi a b with
 | true=>
  have:a≠b:=λe=>by rw [e,Ly] at h;cases h
  simp [this]
 | false=>
  cases g:Fi b a with
  | true=>
   have:a≠b:=λe=>by rw [e,Ly] at g;cases g
   simp [this]
  | false=>
   obtain rfl:=RL h g
   simp
theorem UC {α:Type} [Inhabited α] (f:α->By):Sort.SWO (Go.Proofs.ltOf λx y:α=>V5 (f x) (f y)) where
 irrefl x:=by unfold Go.Proofs.ltOf;rw [Qi,Ly]
 trans x y z h g:=by unfold Go.Proofs.ltOf at *;rw [Qi] at *;exact CA h g
 ntrans x y z h g:=by unfold Go.Proofs.ltOf at *;rw [Qi] at *;exact RK h g
def AF (f:Nat->Int):Nat->Nat->Nat->Nat
 | 0,lo,_=>lo
 | n+1,lo,hi=>if lo<hi then (if f ((lo+hi) / 2)<0 then AF f n ((lo+hi) / 2+1) hi else AF f n lo ((lo+hi) / 2)) else lo
theorem KV (f:Nat->Int):∀ n lo hi,lo<=hi->lo<=AF f n lo hi/\AF f n lo hi<=hi
 | 0,lo,hi,h=>⟨Nat.le_refl _,h⟩
 | n+1,lo,hi,h=>by
  unfold AF
  split
  ·split
   ·have:=KV f n ((lo+hi) / 2+1) hi (by omega);omega
   ·have:=KV f n lo ((lo+hi) / 2) (by omega);omega
  ·omega
def bsI (h:List By) (s:By):Nat:=AF (λi=>V5 (h.getD i []) s) (h.length+1) 0 h.length
def bsB (h:List By) (s:By):Bool:=Nat.blt (bsI h s) h.length&&h.getD (bsI h s) []==s
def asc (h:List By):Bool:=match h with
 | []=>true
 | [_]=>true
 | a::b::r=>Fi a b&&asc (b::r)
theorem Ao5 {a b:Nat}:Nat.blt a b=true↔a<b:=by rw [Nat.blt_eq]
theorem Ki (c:UInt8):∀ (p acc s:By),J6 c acc (p++c::s)=J6 c acc p++J6 c [] s
 | [],acc,s=>by simp [J6]
 | b::r,acc,s=>by
  simp only [List.cons_append,J6]
  split
  ·rw [Ki c r [] s];rfl
  ·exact Ki c r _ s
def smE (el:List SV):Bool:=A3 (elS el).length
def Ar1 (z:Bool) (l:LL):Bool:=!z || l.isEmpty
def Cm8 (h:By) (e:Int):Bool:=P7 h&&(!ltI e 0 && !ltI 1099511627776 e)
def ixE (l:List Ent):Int:=match l.findIdx? (λe=>!P7 e.1) with | some j=>(j:Int) | none=>-1
def Bq7 (l:List Ent):Bool:=l.any λe=>!P7 e.1
abbrev Oh:={e:Ent // e.1.length<=1000000000}
instance:Inhabited Oh:=⟨⟨noE,by decide⟩⟩
def mkS (e:Ent):Oh:=if h:e.1.length<=1000000000 then ⟨e,h⟩ else default
def Kj (d:Array Oh):Array Oh:=Sort.pdq (Go.Proofs.ltOf λx y:Oh=>V5 x.1.1 y.1.1) d 0 d.size (Lib.bitLen d.size) true true
def Mh (l:List Ent):List Ent:=(Kj (l.map mkS).toArray).toList.map (·.1)
theorem BC {l:List Ent} {i:Nat} (h:i<l.length):gX (J8 l) i 0=(l.getD i noE).1:=by unfold gX gC;rw [Qu h];rfl
theorem Bd7 {l:List Ent} {i:Nat} (h:i<l.length):gY (J8 l) i 1=(l.getD i noE).2:=by unfold gY gC;rw [Qu h];rfl
theorem Rt {l:List Ent} {i:Nat} (h:i<l.length):okE ⟨true,true,[.str,.bool]⟩ (J8 l) i 0=true:=by unfold okE;rw [Qu h];simp [h,okS,Uy,SV.has]
theorem NT {l:List Ent} (h:(J8 l).all smE=true) {i:Nat} (hi:i<l.length):A3 (l.getD i noE).1.length=true:=by
 have:=List.all_eq_true.1 h ((J8 l).getD i []) (by
  rw [List.getD_eq_getElem?_getD,List.getElem?_eq_getElem (by simpa using hi)]
  exact List.getElem_mem _)
 rw [Qu hi] at this
 exact this
theorem Ap7 {α:Type} (f:α->By) {d:α} {l:List α} {i:Nat} (h:i<l.length):(l.map f).getD i []=f (l.getD i d):=by
 simp [List.getD_eq_getElem?_getD,h]
theorem TU (d:Array Oh):(Kj d).toList.Perm d.toList/\(Kj d).size=d.size/\∀ i j,i<j->j<d.size->Fi ((Kj d)[j]!).1.1 ((Kj d)[i]!).1.1=false:=by
 obtain ⟨⟨h1,_,h3⟩,h4⟩:=Sort.pdq_sorts (Go.Proofs.ltOf λx y:Oh=>V5 x.1.1 y.1.1) (UC λx:Oh=>x.1.1) d 0 d.size (Lib.bitLen d.size) true true (Nat.zero_le _) (Nat.le_refl _) (.inl rfl)
 have hs:(Kj d).size=d.size:=h1
 refine ⟨?_,hs,λi j hij hj=>?_⟩
 ·have h3:((Kj d).extract 0 d.size).toList.Perm (d.extract 0 d.size).toList:=h3
  rw [<-hs] at h3
  rw [Array.extract_size,hs,Array.extract_size] at h3
  exact h3
 ·have:=h4 i j (Nat.zero_le _) hij hj
  unfold Go.Proofs.ltOf at this
  rw [Qi] at this
  exact this
theorem Aq9 {e:Ent} (h:e.1.length<=1000000000):(mkS e).1=e:=by unfold mkS;rw [dif_pos h]
theorem Aj0 {l:List Ent} (hl:∀ e∈l,e.1.length<=1000000000):(Mh l).Perm l:=by
 have h:=((TU (l.map mkS).toArray).1).map (·.1)
 unfold Mh
 refine h.trans ?_
 simp only [List.map_map]
 rw [show List.map ((λx:Oh=>x.1) ∘ mkS) l=l from (List.map_congr_left (g:=id) λe he=>Aq9 (hl e he)).trans (List.map_id l)]
end
section
open Go Go.Proofs
set_option maxRecDepth 100000
section
variable {σ R : Type} (lf : Nat) (cl : G2) (yh : Yh σ) (s : σ) (k : Out -> St σ -> Option R)
noncomputable def LC (lf:Nat):Cfg:=C8 lf [81] (A4 []) [] (A4 [(1,[6]),(0,[3,0,0])]) [] (A4 []) (some [6]) [] [] []
noncomputable def Bf9 {R:Type} (lf:Nat) (s0 sep1:By) (sepSave2:Int) (k0:By->By->Int->Option R):Option R:=k0 s0 sep1 sepSave2
theorem Bg0 (d:Nat) (s0 sep1 sepSave2):evC (LC lf) (d+1) σ yh 81 [pS s0,pS sep1,pI sepSave2] [] s=Bf9 lf s0 sep1 sepSave2 (λs0 s1 n2=>some (.fnr (Fn.func 106) [] [.ptr 1 0 0,.ptr 0 0 0,.ptr 2 0 0],[.box [pS s0],.box [pS s1],.box [pI n2]],s)):=by
 refine (evE (fn:=Tryz.f81) (by kernel_rfl)).trans ?_
 generalize evC (LC lf) d=cl
 unfold Bf9;kernel_rfl
noncomputable def XB (lf:Nat):Cfg:=C8 lf [49] (A4 []) [(81,JC)] (A4 [(1,[4]),(0,[0,0])]) [] (A4 []) (some [4]) [] [] []
noncomputable def Cd6 {R:Type} (lf:Nat) (s0 sep1:By) (k0:By->By->Option R):Option R:=k0 s0 sep1
theorem B34 (d:Nat) (s0 sep1):evC (XB lf) (d+1) σ yh 49 [pS s0,pS sep1] [] s=Cd6 lf s0 sep1 (λs0 s1=>some (.fnr (Fn.func 106) [] [.ptr 1 0 0,.ptr 0 0 0,.ptr 2 0 0],[.box [pS s0],.box [pS s1],.box [pI (0:Int)]],s)):=by
 refine (evE (fn:=Tryz.f49) (by kernel_rfl)).trans ?_
 generalize evC (XB lf) d=cl
 unfold Cd6;kernel_rfl
noncomputable abbrev FC:Code:=D8 Tryz.f59
noncomputable def Lm (lf:Nat):Cfg:=C8 lf [59] (A4 []) [(93,Hr),(49,Ua),(94,JE)] (A4 [(7,[2]),(6,[2]),(5,[2,13]),(4,[2,0]),(3,[2,9]),(2,[2]),(1,[0,1,7]),(0,[0,1])]) [93,94] (A4 [(0,[2]),(1,[2])]) (some [2]) [] [(106,Iv)] []
noncomputable def Yb {R:Type} (lf:Nat) (x'0:By) (xs:List By) (self:Unit->Option R) (k0:Unit->Option R) (k1:Unit->Option R):Option R:=cond (A3 x'0.length) (cond (not (K4 x'0)) (k1 ()) (self ())) none
noncomputable def BI {R:Type} (lf:Nat) (L:List By) (k0:Unit->Option R) (k1:Unit->Option R):Option R:=Cc7 (α:=Unit->Option R) (λ_=>k0 ()) (λx'0 xs self _=>Yb lf x'0 xs self  k0 k1) L ()
theorem QQ {R:Type} (lf:Nat) (x'0:By) (xs:List By) (k0:Unit->Option R) (k1:Unit->Option R):BI lf (x'0::xs)  k0 k1=Yb lf x'0 xs (λ_=>BI lf xs  k0 k1)  k0 k1:=rfl
theorem Ax5 (L:List By):X2 #[13] (gp [(2,.ptr 0 0 0),(9,.fnr (Fn.func 106) [] [.bad,.bad,.bad])] 4) (bd (Lm lf) cl yh (cd [1,1,0,1,0,0] FC)) (bd (Lm lf) cl yh (cd [1,1,0,1,0,1] FC)) (L.map (λ(x'0:By)=>([pS x'0]:List PV))) [.box [pB false],.dead,.dead,.dead] s (rgK (gp [(2,.ptr 0 0 0),(9,.fnr (Fn.func 106) [] [.bad,.bad,.bad])] 4) (λH=>Y3 H [2,1,3] [.box [.bad],.box [.bad],.box [.bad]]) k) =
 BI lf L  (λ_=>k .normal ⟨gp [(2,.ptr 0 0 0),(9,.fnr (Fn.func 106) [] [.bad,.bad,.bad])] 4,[.box [pB false],.box [.bad],.box [.bad],.box [.bad]],s⟩) (λ_=>k .ret ⟨gp [(2,.ptr 0 0 0),(9,.fnr (Fn.func 106) [] [.bad,.bad,.bad])] 4,[.box [pB false],.box [.bad],.box [.bad],.box [.bad]],s⟩):=by
 induction L with
 | nil=>rfl
 | cons x'0 xs ih=>rw [QQ];unfold Yb;exact (Eq.trans (by kernel_rfl) (A0 (A0 rfl ih) rfl))
noncomputable def MB {R:Type} (lf:Nat) (s0:By) (k0:Unit->Option R) (k1:Unit->Option R):Option R:=cond ((A3 s0.length)&&((1==1)&&((0:Int)==0))) (BI lf (pcs (List.getD ([46]:List UInt8) 0 0) s0)  k0 k1) none
abbrev QP (b:Code):Prop:=∀ (k:Out->St σ->Option R) s0,A9 (Lm lf) cl yh b ⟨gp [(2,.ptr 0 0 0),(9,.fnr (Fn.func 106) [] [.ptr 2 0 0,.ptr 1 0 0,.ptr 3 0 0])] 4,[.box [pB false],.box [pS s0],.box [pS ([46]:List UInt8)],.box [pI (0:Int)]],s⟩ k=MB lf s0 (λ_=>k .normal ⟨gp [(2,.ptr 0 0 0),(9,.fnr (Fn.func 106) [] [.bad,.bad,.bad])] 4,[.box [pB false],.box [.bad],.box [.bad],.box [.bad]],s⟩) (λ_=>k .ret ⟨gp [(2,.ptr 0 0 0),(9,.fnr (Fn.func 106) [] [.bad,.bad,.bad])] 4,[.box [pB false],.box [.bad],.box [.bad],.box [.bad]],s⟩)
theorem Ax4:QP (R:=R) lf cl yh s (cd [1,1,0,1,0] FC):=by
 intro k s0;unfold MB;exact ((B80 [1,1,0,1,0] (by kernel_rfl)).trans (by kernel_rfl)).trans (BY (Ax5 lf cl yh s k (pcs (List.getD ([46]:List UInt8) 0 0) s0) ))
noncomputable def hvn {R:Type} (lf:Nat) (name0:By) (k0:Unit->Option R) (k1:Bool->Bool->Option R):Option R:=cond (ltI 253 (name0.length:Int)) (k0 ()) (cond (A3 name0.length) (cond (F6 name0) (k0 ()) (MB lf name0 (λ_=>k1 true true) (λ_=>k1 false false))) none)
theorem Cb1 (b_11010:Code) (h_hvn_e1:QP (R:=PV × List Blk × σ) lf cl yh s b_11010) (name0:By):A9 (Lm lf) cl yh (cd [] (J3 [1,1,0,1,0] b_11010 FC)) ⟨[pS name0]++tps 16,[],s⟩ (G5 (Lm lf) Tryz.f59)=hvn lf name0 (λ_=>some (pB false,[.box [pB false]],s)) (λr0 b1=>some (pB r0,[.box [pB b1],.box [.bad],.box [.bad],.box [.bad]],s)):=by
 unfold hvn;exact (Eq.trans (by kernel_rfl) (A0 rfl (A0 (A0 rfl ((h_hvn_e1 (F9 0 (G1 (Lm lf) cl yh (cd [1,1,1] FC) (G5 (Lm lf) Tryz.f59))) name0).trans (by kernel_rfl))) rfl)))
theorem Cb2 (d:Nat) (name0):evC (Lm lf) (d+1) σ yh 59 [pS name0] [] s=hvn lf name0 (λ_=>some (pB false,[.box [pB false]],s)) (λr0 b1=>some (pB r0,[.box [pB b1],.box [.bad],.box [.bad],.box [.bad]],s)):=
 (evE (fn:=Tryz.f59) (by kernel_rfl)).trans (Eq.trans (by kernel_rfl) (Cb1 lf (evC (Lm lf) d) yh s (cd [1,1,0,1,0] FC) (Ax4 lf (evC (Lm lf) d) yh s) name0))
noncomputable def WM (lf:Nat):Cfg:=C8 lf [41] (A4 []) [] (A4 [(1,[2]),(0,[1])]) [] (A4 []) (some [2]) [] [] []
noncomputable def Cb0 {R:Type} (lf:Nat) (name0:By) (k0:By->Option R):Option R:=k0 name0
theorem Bu0 (d:Nat) (name0):evC (WM lf) (d+1) σ yh 41 [pS name0] [] s=Cb0 lf name0 (λs0=>some (.fnr (Fn.func 76) [] [.ptr 0 0 0],[.box [pS s0]],s)):=by
 refine (evE (fn:=Tryz.f41) (by kernel_rfl)).trans ?_
 generalize evC (WM lf) d=cl
 unfold Cb0;kernel_rfl
noncomputable abbrev Qe:Code:=D8 Tryz.f106
noncomputable def Z1 (lf:Nat):Cfg:=C8 lf [106] (A4 [(5,[0,0,0,0]),(1,[0,1])]) [(107,Qb),(108,Zs)] (A4 [(10,[]),(9,[0,0,0,0]),(8,[0,0,0,0,3,34]),(7,[0,0,0,0,3,0]),(6,[0,0,0,0,3,25]),(5,[0,0,0,0,3]),(4,[0,1]),(3,[0,1,3,18]),(2,[0,1,3]),(1,[0,1,11]),(0,[0,0,0,0,7])]) [108] (A4 [(2,[0,1]),(3,[0,0,0,0]),(0,[]),(1,[0,1])]) (some []) [] [] []
noncomputable def DN {σ R:Type} (yh:Yh σ) (lf n:Nat) (s0 s1:By) (n2:Int) (s:σ) (k0:By->By->Int->σ->Option R):Option R:=match n with | 0=>none | n+1=>cond (ltI 0 (s1.length:Int)) none (k0 s0 s1 n2 s)
theorem TW (n:Nat) (s0 s1:By) (n2:Int) (s:σ):E5 3 ((Z1 lf).keep 1) (bd (Z1 lf) cl yh (cd [0,1,0,0,0,0] Qe)) n ⟨gp [(0,.yd),(1,.ptr 1 0 0)] 49,[.box [pS s0],.box [pS s1],.box [pI n2]],s⟩ k =
 DN yh lf n s0 s1 n2 s (λs0 s1 n2 s=>k (.exit 0) ⟨gp [] 52,[.box [pS s0],.box [pS s1],.box [pI n2]],s⟩):=by
 induction n generalizing s0 s1 n2 s with
 | zero=>rfl
 | succ n ih=>rw [DN];kernel_rfl
noncomputable def S7 {σ R:Type} (yh:Yh σ) (lf n:Nat) (s0 s1:By) (n2:Int) (s:σ) (k0:By->By->Int->σ->Option R) (k1:By->By->Int->σ->Option R):Option R:=match n with
 | 0=>none
 | n+1=>
  cond (A3 s1.length)
   (cond (ltI (Lib.index s1 s0) (0:Int))
   (k0 s0 s1 n2 s)
   (vl (A1 ((Lib.index s1 s0)+n2)) λn'5=>
    cond (P0 0 n'5 s1.length)
    (ydK (yh [pS (cut s1 0 n'5)] s) λby'6 s'y6=>
     (cond (not by'6)
     (k1 s0 s1 n2 s'y6)
     (vl (A1 ((Lib.index s1 s0)+(s0.length:Int))) λn'7=>
      cond (P0 n'7 (s1.length:Int) s1.length)
      (vl (cut s1 n'7 (s1.length:Int)) λs'8=>
       S7 yh lf n s0 s'8 n2 s'y6 k0 k1)
      none)))
    none))
   none
theorem TX (n:Nat) (s0 s1:By) (n2:Int) (s:σ):E5 3 ((Z1 lf).keep 5) (bd (Z1 lf) cl yh (cd [1,0,0,0] Qe)) n ⟨gp [(0,.yd),(0,.ptr 0 0 0),(0,.ptr 1 0 0),(0,.ptr 2 0 0)] 48,[.box [pS s0],.box [pS s1],.box [pI n2]],s⟩ k =
 S7 yh lf n s0 s1 n2 s (λs0 s1 n2 s=>k (.exit 2) ⟨gp [(0,.yd),(1,.ptr 1 0 0)] 49,[.box [pS s0],.box [pS s1],.box [pI n2]],s⟩) (λs0 s1 n2 s=>k .ret ⟨gp [] 52,[.box [pS s0],.box [pS s1],.box [pI n2]],s⟩):=by
 induction n generalizing s0 s1 n2 s with
 | zero=>rfl
 | succ n ih=>rw [S7];simp only [<-ih];kernel_rfl
noncomputable def TV {σ R:Type} (yh:Yh σ) (lf:Nat) (p t:By) (n:Int) (s:σ) (k0:By->By->Int->σ->Option R):Option R:=
 cond ((p.length:Int)==0)
 (DN yh lf lf p t n s (λs'0 s'1 n'2 s'3=>k0 s'0 s'1 n'2 s'3))
 (S7 yh lf lf p t n s (λs'9 s'10 n'11 s'12=>ydK (yh [pS s'10] s'12) λby'17 s'y17=>
  (k0 s'9 s'10 n'11 s'y17)) (λs'13 s'14 n'15 s'16=>k0 s'13 s'14 n'15 s'16))
theorem Bl0 (d:Nat) (p t n s):evC (Z1 lf) (d+1) σ yh 106 [.yd,.ptr 0 0 0,.ptr 1 0 0,.ptr 2 0 0] [.box [pS p],.box [pS t],.box [pI n]] s=TV yh lf p t n s (λs0 s1 n2 s=>some (.tup [],[.box [pS s0],.box [pS s1],.box [pI n2]],s)):=by
 refine (evE (fn:=Tryz.f106) (by kernel_rfl)).trans ?_
 generalize evC (Z1 lf) d=cl
 unfold TV;exact (Eq.trans (by kernel_rfl) (A0 ((TW lf cl yh (F9 0 (G1 (Z1 lf) cl yh (cd [0,1,0,1] Qe) (G1 (Z1 lf) cl yh (cd [1] Qe) (G5 (Z1 lf) Tryz.f106)))) lf p t n s).trans (by kernel_rfl)) ((TX lf cl yh (F9 2 (G1 (Z1 lf) cl yh (cd [1,1] Qe) (G5 (Z1 lf) Tryz.f106))) lf p t n s).trans (by kernel_rfl))))
noncomputable abbrev Br1:Code:=D8 Tryz.f76
noncomputable def Mu (lf:Nat):Cfg:=C8 lf [76] (A4 [(1,[0,0])]) [(59,Am2),(50,Oo)] (A4 [(3,[0,0]),(2,[0,0,2,17]),(1,[0,0,2,0]),(0,[0,0,6])]) [59,50] (A4 [(0,[]),(1,[0,0])]) (some []) [] [] []
noncomputable def An {σ R:Type} (yh:Yh σ) (lf n:Nat) (s0:By) (s:σ) (k0:By->σ->Option R):Option R:=match n with
 | 0=>none
 | n+1=>
  cond (A3 s0.length)
   (vl ((Lib.cut s0 ([46]:List UInt8))).1 λs'2=>
   vl (((Lib.cut s0 ([46]:List UInt8))).2).1 λs'3=>
    cond (not (((Lib.cut s0 ([46]:List UInt8))).2).2)
    (k0 s0 s)
    (ydK (yh [pS s'3] s) λby'4 s'y4=>
     (cond (not by'4)
     (k0 s0 s'y4)
     (An yh lf n s'3 s'y4 k0))))
   none
theorem QO (n:Nat) (s0:By) (s:σ):E5 1 ((Mu lf).keep 1) (bd (Mu lf) cl yh (cd [1,0,0] Br1)) n ⟨gp [(0,.yd),(0,.ptr 0 0 0)] 22,[.box [pS s0]],s⟩ k =
 An yh lf n s0 s (λs0 s=>k .ret ⟨gp [] 24,[.box [pS s0]],s⟩):=by
 induction n generalizing s0 s with
 | zero=>rfl
 | succ n ih=>rw [An];simp only [<-ih];kernel_rfl
noncomputable def QN {σ R:Type} (yh:Yh σ) (lf:Nat) (t:By) (s:σ) (k0:By->σ->Option R):Option R:=cond (A3 t.length) (cond (not (P7 t)) (k0 t s) (An yh lf lf t s (λs'5 s'6=>k0 s'5 s'6))) none
theorem Be7 (d:Nat) (t s):evC (Mu lf) (d+1) σ yh 76 [.yd,.ptr 0 0 0] [.box [pS t]] s=QN yh lf t s (λs0 s=>some (.tup [],[.box [pS s0]],s)):=by
 refine (evE (fn:=Tryz.f76) (by kernel_rfl)).trans ?_
 generalize evC (Mu lf) d=cl
 unfold QN;exact (Eq.trans (by kernel_rfl) (A0 (A0 rfl ((QO lf cl yh (F9 0 (G5 (Mu lf) Tryz.f76)) lf t s).trans (by kernel_rfl))) rfl))
end
end
end Go.Proofs.YtelhbgonncceeaaGreatDoor.E
namespace Go.Proofs
open Go.Shelf
def Tryz.lays156_ren:Go.Shelf.Ren:=⟨fun | 156=>119 | 165=>162 | 166=>70 | 169=>72 | 240=>104 | 241=>187 | 276=>147 | 277=>196 | n=>n,fun | 31=>83 | 9=>9 | 3=>3 | 4=>4 | 0=>0 | 20=>20 | 72=>112 | 76=>115 | 70=>109 | 37=>110 | 75=>114 | 127=>142 | 164=>172 | 5=>5 | 80=>118 | n=>n,fun | n=>n⟩
theorem Tryz.lays156:Go.Proofs.Lays.n156 Tryz.prog Tryz.lays156_ren:={
 mixed:=by kernel_rfl
 f156:=Tryz.func119.trans (congrArg some (by kernel_rfl))
 f165:=Tryz.func162.trans (congrArg some (by kernel_rfl))
 f166:=Tryz.func70.trans (congrArg some (by kernel_rfl))
 f169:=Tryz.func72.trans (congrArg some (by kernel_rfl))
 f240:=Tryz.func104.trans (congrArg some (by kernel_rfl))
 f241:=Tryz.func187.trans (congrArg some (by kernel_rfl))
 f276:=Tryz.func147.trans (congrArg some (by kernel_rfl))
 f277:=Tryz.func196.trans (congrArg some (by kernel_rfl))
 t0:=Tryz.underlying0
 a0:=Tryz.isAgg0
 z0:=Tryz.sizeOf0
 v0:=Tryz.zeroValue0
 t3:=Tryz.underlying3
 a3:=Tryz.isAgg3
 z3:=Tryz.sizeOf3
 v3:=Tryz.zeroValue3
 t4:=Tryz.underlying4
 a4:=Tryz.isAgg4
 z4:=Tryz.sizeOf4
 v4:=Tryz.zeroValue4
 t9:=Tryz.underlying9
 a9:=Tryz.isAgg9
 z9:=Tryz.sizeOf9
 v9:=Tryz.zeroValue9
 t20:=Tryz.underlying20
 a20:=Tryz.isAgg20
 z20:=Tryz.sizeOf20
 v20:=Tryz.zeroValue20
 t31:=Tryz.underlying83
 a31:=Tryz.isAgg83
 z31:=Tryz.sizeOf83
 v31:=Tryz.zeroValue83
 t37:=Tryz.underlying110
 a37:=Tryz.isAgg110
 z37:=Tryz.sizeOf110
 v37:=Tryz.zeroValue110
 t70:=Tryz.underlying109
 a70:=Tryz.isAgg109
 z70:=Tryz.sizeOf109
 v70:=Tryz.zeroValue109
 t72:=Tryz.underlying112
 a72:=Tryz.isAgg112
 z72:=Tryz.sizeOf112
 v72:=Tryz.zeroValue112
 t75:=Tryz.underlying114
 a75:=Tryz.isAgg114
 z75:=Tryz.sizeOf114
 v75:=Tryz.zeroValue114
 t76:=Tryz.underlying115
 a76:=Tryz.isAgg115
 z76:=Tryz.sizeOf115
 v76:=Tryz.zeroValue115
 t127:=Tryz.underlying142
 a127:=Tryz.isAgg142
 z127:=Tryz.sizeOf142
 v127:=Tryz.zeroValue142
 t164:=Tryz.underlying172
 a164:=Tryz.isAgg172
 z164:=Tryz.sizeOf172
 v164:=Tryz.zeroValue172 }
theorem Tryz.Builder_Extra_156:Builder.Extra Tryz.prog Tryz.lays156_ren:={
 sizeBuilder:=by kernel_rfl
 liesBuilder:=by kernel_rfl
 t5:=Tryz.underlying5
 a5:=Tryz.isAgg5
 z5:=Tryz.sizeOf5
 v5:=Tryz.zeroValue5
 infoByte:=by kernel_rfl
 cellsByte:=by kernel_rfl
 sizeByte:=by kernel_rfl
 neB5:=by decide }
def Tryz.lays195_ren:Go.Shelf.Ren:=⟨fun | 195=>160 | n=>n,fun | 9=>9 | 3=>3 | 0=>0 | 4=>4 | n=>n,fun | n=>n⟩
theorem Tryz.lays195:Go.Proofs.Lays.n195 Tryz.prog Tryz.lays195_ren:={
 mixed:=by kernel_rfl
 f195:=Tryz.func160.trans (congrArg some (by kernel_rfl))
 t0:=Tryz.underlying0
 a0:=Tryz.isAgg0
 z0:=Tryz.sizeOf0
 v0:=Tryz.zeroValue0
 t3:=Tryz.underlying3
 a3:=Tryz.isAgg3
 z3:=Tryz.sizeOf3
 v3:=Tryz.zeroValue3
 t4:=Tryz.underlying4
 a4:=Tryz.isAgg4
 z4:=Tryz.sizeOf4
 v4:=Tryz.zeroValue4
 t9:=Tryz.underlying9
 a9:=Tryz.isAgg9
 z9:=Tryz.sizeOf9
 v9:=Tryz.zeroValue9 }
def Tryz.laysM171_ren:Go.Shelf.Ren:=⟨fun | 171=>200 | 243=>205 | 246=>207 | 283=>209 | 284=>210 | 285=>211 | 286=>212 | 129=>141 | 317=>213 | 318=>214 | 319=>215 | 320=>216 | 337=>217 | 338=>218 | n=>n,fun | 3=>3 | 9=>9 | 2=>2 | 4=>4 | 171=>212 | 0=>0 | 53=>168 | 37=>110 | 5=>5 | 173=>214 | 212=>217 | 51=>24 | 20=>20 | 213=>218 | 46=>139 | 232=>219 | 233=>220 | n=>n,fun | 17=>3 | 18=>4 | 19=>5 | n=>n⟩
theorem Tryz.laysM171:Go.Proofs.LaysM.n171 Tryz.prog Tryz.laysM171_ren:={
 mixed:=by kernel_rfl
 f129:=Tryz.func141.trans (congrArg some (by kernel_rfl))
 f171:=Tryz.func200.trans (congrArg some (by kernel_rfl))
 f243:=Tryz.func205.trans (congrArg some (by kernel_rfl))
 f246:=Tryz.func207.trans (congrArg some (by kernel_rfl))
 f283:=Tryz.func209.trans (congrArg some (by kernel_rfl))
 f284:=Tryz.func210.trans (congrArg some (by kernel_rfl))
 f285:=Tryz.func211.trans (congrArg some (by kernel_rfl))
 f286:=Tryz.func212.trans (congrArg some (by kernel_rfl))
 f317:=Tryz.func213.trans (congrArg some (by kernel_rfl))
 f318:=Tryz.func214.trans (congrArg some (by kernel_rfl))
 f319:=Tryz.func215.trans (congrArg some (by kernel_rfl))
 f320:=Tryz.func216.trans (congrArg some (by kernel_rfl))
 f337:=Tryz.func217.trans (congrArg some (by kernel_rfl))
 f338:=Tryz.func218.trans (congrArg some (by kernel_rfl))
 t0:=Tryz.underlying0
 a0:=Tryz.isAgg0
 z0:=Tryz.sizeOf0
 v0:=Tryz.zeroValue0
 t2:=Tryz.underlying2
 a2:=Tryz.isAgg2
 z2:=Tryz.sizeOf2
 v2:=Tryz.zeroValue2
 t3:=Tryz.underlying3
 a3:=Tryz.isAgg3
 z3:=Tryz.sizeOf3
 v3:=Tryz.zeroValue3
 t4:=Tryz.underlying4
 a4:=Tryz.isAgg4
 z4:=Tryz.sizeOf4
 v4:=Tryz.zeroValue4
 t5:=Tryz.underlying5
 a5:=Tryz.isAgg5
 z5:=Tryz.sizeOf5
 v5:=Tryz.zeroValue5
 t9:=Tryz.underlying9
 a9:=Tryz.isAgg9
 z9:=Tryz.sizeOf9
 v9:=Tryz.zeroValue9
 t20:=Tryz.underlying20
 a20:=Tryz.isAgg20
 z20:=Tryz.sizeOf20
 v20:=Tryz.zeroValue20
 t37:=Tryz.underlying110
 a37:=Tryz.isAgg110
 z37:=Tryz.sizeOf110
 v37:=Tryz.zeroValue110
 t46:=Tryz.underlying139
 a46:=Tryz.isAgg139
 z46:=Tryz.sizeOf139
 v46:=Tryz.zeroValue139
 t51:=Tryz.underlying24
 a51:=Tryz.isAgg24
 z51:=Tryz.sizeOf24
 v51:=Tryz.zeroValue24
 t53:=Tryz.underlying168
 a53:=Tryz.isAgg168
 z53:=Tryz.sizeOf168
 v53:=Tryz.zeroValue168
 t171:=Tryz.underlying212
 a171:=Tryz.isAgg212
 z171:=Tryz.sizeOf212
 v171:=Tryz.zeroValue212
 t173:=Tryz.underlying214
 a173:=Tryz.isAgg214
 z173:=Tryz.sizeOf214
 v173:=Tryz.zeroValue214
 t212:=Tryz.underlying217
 a212:=Tryz.isAgg217
 z212:=Tryz.sizeOf217
 v212:=Tryz.zeroValue217
 t213:=Tryz.underlying218
 a213:=Tryz.isAgg218
 z213:=Tryz.sizeOf218
 t232:=Tryz.underlying219
 a232:=Tryz.isAgg219
 z232:=Tryz.sizeOf219
 v232:=Tryz.zeroValue219
 t233:=Tryz.underlying220
 a233:=Tryz.isAgg220
 z233:=Tryz.sizeOf220
 v233:=Tryz.zeroValue220
 g17:=by kernel_rfl
 g18:=by kernel_rfl
 g19:=by kernel_rfl
 i0:=by kernel_rfl
 i2:=by kernel_rfl
 i3:=by kernel_rfl
 i4:=by kernel_rfl
 i5:=by kernel_rfl
 i9:=by kernel_rfl
 i20:=by kernel_rfl
 i37:=by kernel_rfl
 i46:=by kernel_rfl
 i51:=by kernel_rfl
 i53:=by kernel_rfl
 i171:=by kernel_rfl
 i173:=by kernel_rfl
 i212:=by kernel_rfl
 i232:=by kernel_rfl
 i233:=by kernel_rfl
 m17:=by kernel_rfl
 m18:=by kernel_rfl
 m19:=by kernel_rfl }
def Tryz.lays143_ren:Go.Shelf.Ren:=⟨fun | 143=>108 | 219=>109 | 217=>150 | 225=>151 | 224=>152 | 267=>153 | 266=>177 | 314=>178 | n=>n,fun | 9=>9 | 3=>3 | 4=>4 | 5=>5 | 46=>139 | 146=>192 | 51=>24 | n=>n,fun | 1=>0 | n=>n⟩
theorem Tryz.lays143:Go.Proofs.Lays.n143 Tryz.prog Tryz.lays143_ren:={
 mixed:=by kernel_rfl
 f143:=Tryz.func108.trans (congrArg some (by kernel_rfl))
 f217:=Tryz.func150.trans (congrArg some (by kernel_rfl))
 f219:=Tryz.func109.trans (congrArg some (by kernel_rfl))
 f224:=Tryz.func152.trans (congrArg some (by kernel_rfl))
 f225:=Tryz.func151.trans (congrArg some (by kernel_rfl))
 f266:=Tryz.func177.trans (congrArg some (by kernel_rfl))
 f267:=Tryz.func153.trans (congrArg some (by kernel_rfl))
 f314:=Tryz.func178.trans (congrArg some (by kernel_rfl))
 t3:=Tryz.underlying3
 a3:=Tryz.isAgg3
 z3:=Tryz.sizeOf3
 v3:=Tryz.zeroValue3
 t4:=Tryz.underlying4
 a4:=Tryz.isAgg4
 z4:=Tryz.sizeOf4
 v4:=Tryz.zeroValue4
 t5:=Tryz.underlying5
 a5:=Tryz.isAgg5
 z5:=Tryz.sizeOf5
 v5:=Tryz.zeroValue5
 t9:=Tryz.underlying9
 a9:=Tryz.isAgg9
 z9:=Tryz.sizeOf9
 v9:=Tryz.zeroValue9
 t46:=Tryz.underlying139
 a46:=Tryz.isAgg139
 z46:=Tryz.sizeOf139
 v46:=Tryz.zeroValue139
 t51:=Tryz.underlying24
 a51:=Tryz.isAgg24
 z51:=Tryz.sizeOf24
 v51:=Tryz.zeroValue24
 t146:=Tryz.underlying192
 a146:=Tryz.isAgg192
 z146:=Tryz.sizeOf192
 v146:=Tryz.zeroValue192
 g1:=by kernel_rfl }
def Tryz.lays145_ren:Go.Shelf.Ren:=⟨fun | 145=>50 | 220=>82 | 219=>109 | 217=>150 | 225=>151 | 224=>152 | 267=>153 | 266=>177 | 314=>178 | n=>n,fun | 9=>9 | 4=>4 | 59=>91 | 3=>3 | 5=>5 | 46=>139 | 146=>192 | 51=>24 | n=>n,fun | 1=>0 | n=>n⟩
theorem Tryz.lays145:Go.Proofs.Lays.n145 Tryz.prog Tryz.lays145_ren:={
 mixed:=by kernel_rfl
 f145:=Tryz.func50.trans (congrArg some (by kernel_rfl))
 f217:=Tryz.func150.trans (congrArg some (by kernel_rfl))
 f219:=Tryz.func109.trans (congrArg some (by kernel_rfl))
 f220:=Tryz.func82.trans (congrArg some (by kernel_rfl))
 f224:=Tryz.func152.trans (congrArg some (by kernel_rfl))
 f225:=Tryz.func151.trans (congrArg some (by kernel_rfl))
 f266:=Tryz.func177.trans (congrArg some (by kernel_rfl))
 f267:=Tryz.func153.trans (congrArg some (by kernel_rfl))
 f314:=Tryz.func178.trans (congrArg some (by kernel_rfl))
 t3:=Tryz.underlying3
 a3:=Tryz.isAgg3
 z3:=Tryz.sizeOf3
 v3:=Tryz.zeroValue3
 t4:=Tryz.underlying4
 a4:=Tryz.isAgg4
 z4:=Tryz.sizeOf4
 v4:=Tryz.zeroValue4
 t5:=Tryz.underlying5
 a5:=Tryz.isAgg5
 z5:=Tryz.sizeOf5
 v5:=Tryz.zeroValue5
 t9:=Tryz.underlying9
 a9:=Tryz.isAgg9
 z9:=Tryz.sizeOf9
 v9:=Tryz.zeroValue9
 t46:=Tryz.underlying139
 a46:=Tryz.isAgg139
 z46:=Tryz.sizeOf139
 v46:=Tryz.zeroValue139
 t51:=Tryz.underlying24
 a51:=Tryz.isAgg24
 z51:=Tryz.sizeOf24
 v51:=Tryz.zeroValue24
 t59:=Tryz.underlying91
 a59:=Tryz.isAgg91
 z59:=Tryz.sizeOf91
 v59:=Tryz.zeroValue91
 t146:=Tryz.underlying192
 a146:=Tryz.isAgg192
 z146:=Tryz.sizeOf192
 v146:=Tryz.zeroValue192
 g1:=by kernel_rfl }
def Tryz.lays138_ren:Go.Shelf.Ren:=⟨fun | 138=>182 | 195=>160 | 218=>193 | 143=>108 | 219=>109 | 217=>150 | 225=>151 | 224=>152 | 267=>153 | 266=>177 | 314=>178 | n=>n,fun | 9=>9 | 3=>3 | 4=>4 | 5=>5 | 0=>0 | 46=>139 | 146=>192 | 51=>24 | n=>n,fun | 1=>0 | n=>n⟩
theorem Tryz.lays138:Go.Proofs.Lays.n138 Tryz.prog Tryz.lays138_ren:={
 mixed:=by kernel_rfl
 f138:=Tryz.func182.trans (congrArg some (by kernel_rfl))
 f143:=Tryz.func108.trans (congrArg some (by kernel_rfl))
 f195:=Tryz.func160.trans (congrArg some (by kernel_rfl))
 f217:=Tryz.func150.trans (congrArg some (by kernel_rfl))
 f218:=Tryz.func193.trans (congrArg some (by kernel_rfl))
 f219:=Tryz.func109.trans (congrArg some (by kernel_rfl))
 f224:=Tryz.func152.trans (congrArg some (by kernel_rfl))
 f225:=Tryz.func151.trans (congrArg some (by kernel_rfl))
 f266:=Tryz.func177.trans (congrArg some (by kernel_rfl))
 f267:=Tryz.func153.trans (congrArg some (by kernel_rfl))
 f314:=Tryz.func178.trans (congrArg some (by kernel_rfl))
 t0:=Tryz.underlying0
 a0:=Tryz.isAgg0
 z0:=Tryz.sizeOf0
 v0:=Tryz.zeroValue0
 t3:=Tryz.underlying3
 a3:=Tryz.isAgg3
 z3:=Tryz.sizeOf3
 v3:=Tryz.zeroValue3
 t4:=Tryz.underlying4
 a4:=Tryz.isAgg4
 z4:=Tryz.sizeOf4
 v4:=Tryz.zeroValue4
 t5:=Tryz.underlying5
 a5:=Tryz.isAgg5
 z5:=Tryz.sizeOf5
 v5:=Tryz.zeroValue5
 t9:=Tryz.underlying9
 a9:=Tryz.isAgg9
 z9:=Tryz.sizeOf9
 v9:=Tryz.zeroValue9
 t46:=Tryz.underlying139
 a46:=Tryz.isAgg139
 z46:=Tryz.sizeOf139
 v46:=Tryz.zeroValue139
 t51:=Tryz.underlying24
 a51:=Tryz.isAgg24
 z51:=Tryz.sizeOf24
 v51:=Tryz.zeroValue24
 t146:=Tryz.underlying192
 a146:=Tryz.isAgg192
 z146:=Tryz.sizeOf192
 v146:=Tryz.zeroValue192
 g1:=by kernel_rfl }
def Tryz.lays196_ren:Go.Shelf.Ren:=⟨fun | 196=>159 | 259=>183 | n=>n,fun | 9=>9 | 4=>4 | 3=>3 | 5=>5 | 12=>12 | 119=>188 | 0=>0 | 46=>139 | 139=>191 | 138=>190 | 53=>168 | n=>n,fun | 3=>1 | 4=>2 | n=>n⟩
theorem Tryz.lays196:Go.Proofs.Lays.n196 Tryz.prog Tryz.lays196_ren:={
 mixed:=by kernel_rfl
 f196:=Tryz.func159.trans (congrArg some (by kernel_rfl))
 f259:=Tryz.func183.trans (congrArg some (by kernel_rfl))
 t0:=Tryz.underlying0
 a0:=Tryz.isAgg0
 z0:=Tryz.sizeOf0
 v0:=Tryz.zeroValue0
 t3:=Tryz.underlying3
 a3:=Tryz.isAgg3
 z3:=Tryz.sizeOf3
 v3:=Tryz.zeroValue3
 t4:=Tryz.underlying4
 a4:=Tryz.isAgg4
 z4:=Tryz.sizeOf4
 v4:=Tryz.zeroValue4
 t5:=Tryz.underlying5
 a5:=Tryz.isAgg5
 z5:=Tryz.sizeOf5
 v5:=Tryz.zeroValue5
 t9:=Tryz.underlying9
 a9:=Tryz.isAgg9
 z9:=Tryz.sizeOf9
 v9:=Tryz.zeroValue9
 t12:=Tryz.underlying12
 a12:=Tryz.isAgg12
 z12:=Tryz.sizeOf12
 v12:=Tryz.zeroValue12
 t46:=Tryz.underlying139
 a46:=Tryz.isAgg139
 z46:=Tryz.sizeOf139
 v46:=Tryz.zeroValue139
 t53:=Tryz.underlying168
 a53:=Tryz.isAgg168
 z53:=Tryz.sizeOf168
 v53:=Tryz.zeroValue168
 t119:=Tryz.underlying188
 a119:=Tryz.isAgg188
 z119:=Tryz.sizeOf188
 t138:=Tryz.underlying190
 a138:=Tryz.isAgg190
 z138:=Tryz.sizeOf190
 v138:=Tryz.zeroValue190
 t139:=Tryz.underlying191
 a139:=Tryz.isAgg191
 z139:=Tryz.sizeOf191
 v139:=Tryz.zeroValue191
 g3:=by kernel_rfl
 g4:=by kernel_rfl }
def Tryz.lays2_21_ren:Go.Shelf.Ren:=⟨fun | 21=>199 | 27=>203 | 28=>204 | 35=>206 | 39=>208 | n=>n,fun | 22=>153 | 3=>3 | 4=>4 | 0=>0 | n=>n,fun | n=>n⟩
theorem Tryz.lays2_21:Go.Proofs.Lays2.n21 Tryz.prog Tryz.lays2_21_ren:={
 mixed:=by kernel_rfl
 f21:=Tryz.func199.trans (congrArg some (by kernel_rfl))
 f27:=Tryz.func203.trans (congrArg some (by kernel_rfl))
 f28:=Tryz.func204.trans (congrArg some (by kernel_rfl))
 f35:=Tryz.func206.trans (congrArg some (by kernel_rfl))
 f39:=Tryz.func208.trans (congrArg some (by kernel_rfl))
 t0:=Tryz.underlying0
 a0:=Tryz.isAgg0
 z0:=Tryz.sizeOf0
 v0:=Tryz.zeroValue0
 t3:=Tryz.underlying3
 a3:=Tryz.isAgg3
 z3:=Tryz.sizeOf3
 v3:=Tryz.zeroValue3
 t4:=Tryz.underlying4
 a4:=Tryz.isAgg4
 z4:=Tryz.sizeOf4
 v4:=Tryz.zeroValue4
 t22:=Tryz.underlying153
 a22:=Tryz.isAgg153
 z22:=Tryz.sizeOf153
 v22:=Tryz.zeroValue153
 i3:=by kernel_rfl }
def Tryz.lays149_ren:Go.Shelf.Ren:=⟨fun | 149=>97 | 222=>142 | n=>n,fun | 9=>9 | 5=>5 | 3=>3 | 4=>4 | n=>n,fun | n=>n⟩
theorem Tryz.lays149:Go.Proofs.Lays.n149 Tryz.prog Tryz.lays149_ren:={
 mixed:=by kernel_rfl
 f149:=Tryz.func97.trans (congrArg some (by kernel_rfl))
 f222:=Tryz.func142.trans (congrArg some (by kernel_rfl))
 t3:=Tryz.underlying3
 a3:=Tryz.isAgg3
 z3:=Tryz.sizeOf3
 v3:=Tryz.zeroValue3
 t4:=Tryz.underlying4
 a4:=Tryz.isAgg4
 z4:=Tryz.sizeOf4
 v4:=Tryz.zeroValue4
 t5:=Tryz.underlying5
 a5:=Tryz.isAgg5
 z5:=Tryz.sizeOf5
 v5:=Tryz.zeroValue5
 t9:=Tryz.underlying9
 a9:=Tryz.isAgg9
 z9:=Tryz.sizeOf9
 v9:=Tryz.zeroValue9 }
end Go.Proofs
namespace Go.Proofs.YtelhbgonncceeaaGreatDoor.E
set_option linter.all false
section
open Go Go.Proofs Go.Sort
set_option maxRecDepth 100000
theorem XV {C:Cfg} {St:Nat->Prop} {w:World} {g:Nat} {k:IntKind} {zs:List Int} (hG:GOK C St w) (hc:C.G=GX) (h:GX.tab g=some (k,zs)):∃ e x,w.heap[g]? = some (.cells (zs.map λz=>Value.int k z).toArray e x):=(hG.1 g k zs (by rw [hc];exact h)).2
theorem Bd8 {C:Cfg} {St:Nat->Prop} {w:World} (hG:GOK C St w) (hc:C.G=GX):∃ m,w.cell? ⟨0,0,none⟩=some (.int .i64 m):=(hG.2 _ (by rw [hc];rfl)).2
theorem LZ {w:World} {g:Nat} {zs:List Int} {k:IntKind} {e:TypeId} {x} (h:w.heap[g]? = some (.cells (zs.map λz=>Value.int k z).toArray e x)) (i:Nat) (hi:i<zs.length):w.cell? ⟨g,i,none⟩=some (.int k (zs.getD i 0)):=by
 simp [World.cell?,h,List.getD_eq_getElem?_getD,List.getElem?_eq_getElem hi]
theorem Bt0 {C:Cfg} {St:Nat->Prop} {w:World} (hG:GOK C St w) (hc:C.G=GX):Lib.Utf8Tabs 1 2 w:=by
 obtain ⟨e1,x1,h1⟩:=XV (g:=1) (k:=.u8) (zs:=Lib.firstTab) hG hc rfl
 obtain ⟨e2,x2,h2⟩:=XV (g:=2) (k:=.u8) (zs:=Eo) hG hc rfl
 refine ⟨λc hc=>?_,λi hi=>⟨?_,?_⟩⟩
 ·rw [LZ h1 c (by simp [Lib.firstTab];omega)]
  simp [Lib.firstTab,List.getD_eq_getElem?_getD,List.getElem?_eq_getElem,hc]
 ·rw [LZ h2 (2*i) (by simp [Eo];omega)]
  have:2*i<32:=by omega
  simp [Eo,List.getD_eq_getElem?_getD,this]
 ·rw [LZ h2 (2*i+1) (by simp [Eo];omega)]
  have:2*i+1<32:=by omega
  have e:(2*i+1) / 2=i:=by omega
  have e2:¬ (2*i+1) % 2=0:=by omega
  simp [Eo,List.getD_eq_getElem?_getD,this,e,e2]
theorem Ca7 {C:Cfg} {St:Nat->Prop} {w:World} (hG:GOK C St w) (hc:C.G=GX):Lib.TabIs Tryz.prog w "internal/strconv.uint64pow10" .u64 Lib.pow10Tab:=by
 obtain ⟨e1,x1,h1⟩:=XV (g:=3) (k:=.u64) (zs:=Lib.pow10Tab) hG hc rfl
 unfold Lib.TabIs World.var?
 rw [show Tryz.prog.globalNamed "internal/strconv.uint64pow10" = some 3 by kernel_rfl]
 simp only [Option.bind_some,h1]
theorem Al4:C0 Tryz.prog GX 108 Zs:=by
 refine C0.fix (pf:=KI) _ (P8 (fn:=Tryz.f108) (by kernel_rfl) (by kernel_rfl) (by kernel_rfl) ?_)
 intro args ret Hc h
 unfold KI at h
 split at h
 ·rename_i s p
  obtain ⟨h0,h⟩:=F3 h
  obtain ⟨rfl,rfl⟩:=L7 h
  refine ⟨rfl,rfl,λC hP hCG Γ w Vs hG hlt hc=>?_⟩
  obtain ⟨U,V,rfl,hu,hv⟩:=hc.arr2
  obtain ⟨s',rfl,rfl⟩:=hu.inv_str
  obtain ⟨p',rfl,rfl⟩:=hv.inv_str
  obtain ⟨m,hm⟩:=Bd8 hG hCG
  have hs:=K8 h0
  refine (Any.strings_Index Tryz.lays143 s' p' m w (by simp at hs;omega) hm).mono ?_
  rintro e w' ⟨rfl,rfl⟩
  exact ⟨_,rfl,RowKit.Below.refl _ _,VP.mk_int _ _⟩
 ·cases h
theorem OF:C0 Tryz.prog GX 50 Oo:=by
 refine C0.fix (pf:=KH) _ (P8 (fn:=Tryz.f50) (by kernel_rfl) (by kernel_rfl) (by kernel_rfl) ?_)
 intro args ret Hc h
 unfold KH at h
 split at h
 ·rename_i s p
  obtain ⟨h0,h⟩:=F3 h
  obtain ⟨rfl,rfl⟩:=L7 h
  refine ⟨rfl,rfl,λC hP hCG Γ w Vs hG hlt hc=>?_⟩
  obtain ⟨U,V,rfl,hu,hv⟩:=hc.arr2
  obtain ⟨s',rfl,rfl⟩:=hu.inv_str
  obtain ⟨p',rfl,rfl⟩:=hv.inv_str
  obtain ⟨m,hm⟩:=Bd8 hG hCG
  have hs:=K8 h0
  refine (Any.strings_Cut Tryz.lays145 s' p' m w (by simp at hs;omega) hm).mono ?_
  rintro e w' ⟨rfl,n,rfl⟩
  exact ⟨_,rfl,Wm _ _,VP.mk_tup3 (VP.mk_str _) (VP.mk_str _) (VP.mk_bool _)⟩
 ·cases h
theorem Bp5:C0 Tryz.prog GX 182 VV:=by
 refine C0.fix (pf:=KG) _ (P8 (fn:=Tryz.f182) (by kernel_rfl) (by kernel_rfl) (by kernel_rfl) ?_)
 intro args ret Hc h
 unfold KG at h
 split at h
 ·rename_i s p
  obtain ⟨h0,h⟩:=F3 h
  obtain ⟨rfl,rfl⟩:=L7 h
  refine ⟨rfl,rfl,λC hP hCG Γ w Vs hG hlt hc=>?_⟩
  obtain ⟨U,V,rfl,hu,hv⟩:=hc.arr2
  obtain ⟨s',rfl,rfl⟩:=hu.inv_str
  obtain ⟨p',rfl,hp⟩:=hv.inv_str
  obtain ⟨c,rfl⟩:∃ c,p=[c]:=by
   match p,h0 with
   | [c],_=>exact ⟨c,rfl⟩
  have hp':p'=⟨#[c]⟩:=by
   cases p' with
   | mk d=>congr 1;exact Array.toList_inj.1 hp
  subst hp'
  refine (Any.strings_Count_one Tryz.lays138 s' c w).mono ?_
  rintro e w' ⟨rfl,rfl⟩
  exact ⟨_,rfl,RowKit.Below.refl _ _,VP.mk_int _ _⟩
 ·cases h
theorem Cf4:C0 Tryz.prog GX 200 A76:=by
 refine C0.fix (pf:=IQ) _ (P8 (fn:=Tryz.f200) (by kernel_rfl) (by kernel_rfl) (by kernel_rfl) ?_)
 intro args ret Hc h
 unfold IQ at h
 split at h
 ·rename_i n
  obtain ⟨h0,h⟩:=F3 h
  obtain ⟨rfl,rfl⟩:=L7 h
  refine ⟨rfl,rfl,λC hP hCG Γ w Vs hG hlt hc=>?_⟩
  obtain ⟨U,rfl,hu⟩:=hc.arr1
  obtain rfl:=hu.inv_int
  obtain ⟨hb0,hb1⟩:=L8.1 h0
  refine (Any.strconv_Itoa Tryz.laysM171 n (by omega) (by omega) w (Ca7 hG hCG)).mono ?_
  rintro e w' ⟨rfl,k,os,rfl⟩
  refine ⟨_,rfl,(Wm w k).trans (show RowKit.Below w.heap.size _ _ from WE (w.drewN k) os),?_⟩
  have:Lib.itoa n=Lib.decDigits n.toNat:=by unfold Lib.itoa;rw [I8]
  rw [this]
  exact VP.mk_str _
 ·cases h
theorem At2 {l:LL} (h:l.all isS=true):l=C6 (l.map elS):=by
 unfold C6
 rw [List.map_map]
 symm
 rw [List.map_congr_left (g:=id)]
 ·simp
 ·intro x hx
  have:=List.all_eq_true.1 h x hx
  unfold isS at this
  split at this
  ·rfl
  grind
theorem Au3:C0 Tryz.prog GX 119 KK:=by
 refine C0.fix (pf:=Zt) _ (P8 (fn:=Tryz.f119) (by kernel_rfl) (by kernel_rfl) (by kernel_rfl) ?_)
 intro args ret Hc h
 unfold Zt at h
 split at h
 ·rename_i z t l p
  obtain ⟨h0,h⟩:=F3 h
  obtain ⟨h1,h⟩:=F3 h
  obtain ⟨h2,h⟩:=F3 h
  obtain ⟨rfl,rfl⟩:=L7 h
  refine ⟨rfl,rfl,λC hP hCG Γ w Vs hG hlt hc=>?_⟩
  obtain ⟨U,V,rfl,hu,hv⟩:=hc.arr2
  obtain ⟨p',rfl,rfl⟩:=hv.inv_str
  have hlen:=K8 h1
  have hn:=K8 h2
  have hs:=hu.inv_s
  have none':∀ (a:Option Addr) (cap:Nat),l=[]->Calls Tryz.prog 119 #[.slice a 0 cap,.string p'] w λe w'=>∃ V,e = .returned V/\RowKit.Below w.heap.size w w'/\VP Γ (A2 []) w' (.s (.str (Lib.join (l.map elS) p'.data.toList))) V:=by
   intro a cap hl
   subst hl
   refine (Any.strings_Join_none Tryz.lays156 Tryz.Builder_Extra_156 a cap p' w).mono ?_
   rintro e w' ⟨rfl,rfl⟩
   exact ⟨_,rfl,RowKit.Below.refl _ _,VP.mk_str _⟩
  cases hs with
  | nil=>exact none' _ _ rfl
  | emp=>exact none' _ _ rfl
  | sl _ _ g off n cap sz Vc hn' hcap hm ht hg hl' hcl hvl=>
   subst hn'
   have hrow:=At2 h0
   have hsz:∀ i (h:i<l.length),∃ b:ByteArray,(l[i])=[SV.str b.data.toList]/\w.cell? ⟨g,off+i,none⟩=some (.string b):=by
    intro i hi
    have hx:=List.all_eq_true.1 h0 (l[i]) (List.getElem_mem hi)
    unfold isS at hx
    split at hx
    ·rename_i x he
     have hc1:=hcl i hi 0 (by rw [he];simp)
     have hv1:=hvl i hi 0 (by rw [he];simp)
     simp only [he,List.getElem_cons_zero] at hv1
     obtain ⟨b,hb,rfl⟩:=hv1.inv_str
     rw [hb] at hc1
     exact ⟨b,he,by simpa using hc1⟩
    ·cases hx
   obtain ⟨xs,hxs,hcx⟩:∃ xs:List ByteArray,xs.map (·.data.toList)=l.map elS/\∀ (j:Nat) x,xs[j]? = some x->w.cell? ⟨g,off+j,none⟩=some (.string x):=by
    refine ⟨(l.map elS).map λs=>⟨s.toArray⟩,by simp [Function.comp_def],?_⟩
    intro j x hx
    simp only [List.getElem?_map] at hx
    cases hj:l[j]? with
    | none=>simp [hj] at hx
    | some el=>
     obtain ⟨hj1,rfl⟩:=List.getElem?_eq_some_iff.1 hj
     obtain ⟨b,hb,hc2⟩:=hsz j hj1
     simp only [hj,Option.map_some,Option.some.injEq] at hx
     rw [hb] at hx
     simp [elS,SV.gS] at hx
     rw [<-hx]
     exact hc2
   have hll:xs.length=l.length:=by
    have:=congrArg List.length hxs
    simpa using this
   rw [<-hxs] at hlen ⊢
   have hb:g<w.heap.size:=hlt g hg
   have hmx:l.length<=140737488355328:=by omega
   refine (hll ▸ Any.strings_Join Tryz.lays156 Tryz.Builder_Extra_156 g off cap xs p' w hcx hb (by omega) (by omega) (by omega)).mono ?_
   rintro e w' ⟨rfl,hw⟩
   exact ⟨_,rfl,hw,VP.mk_str _⟩
 ·cases h
theorem Al0 (b:Nat) (hb:b<=9223372036854775808):C0 Tryz.prog GX 197 (Iu b):=by
 induction b with
 | zero=>
  intro args ret Hc h
  exfalso
  unfold Iu Ge at h
  split at h
  ·rename_i n hh
   obtain ⟨h0,h⟩:=F3 h
   have:=L8.1 h0
   omega
  ·cases h
 | succ b ih=>
  refine C0.fix (pf:=Ge (b+1)) _ (R3 [] (C₀:=Up b) (N6.ok (l:=[(197,Iu b)]) rfl ⟨ih (by omega),trivial⟩) (J0 rfl (by kernel_rfl)) follows ?_)
  intro args ret Hc h
  unfold Ge at h
  split at h
  ·rename_i n
   obtain ⟨h0,h⟩:=F3 h
   obtain ⟨rfl,rfl⟩:=L7 h
   have e:=(XS b noY () 0 n).trans (LX b (by omega) n h0)
   exact ⟨rfl,rfl,rfl,1,_,_,e,rfl⟩
  ·cases h
theorem A64:C0 Tryz.prog GX 197 ES:=Al0 4294967296 (by omega)
end
section
open Go Go.Proofs
def v6V (s:By):PV:=.tup [.agg [.s (.int .u16 (v6c 0 s)),.s (.int .u16 (v6c 1 s)),.s (.int .u16 (v6c 2 s)),.s (.int .u16 (v6c 3 s)),.s (.int .u16 (v6c 4 s)),.s (.int .u16 (v6c 5 s)),.s (.int .u16 (v6c 6 s)),.s (.int .u16 (v6c 7 s))],.s (.bool (v6B s).isSome)]
theorem Ce3 (s:By) (h0:A3 s.length=true):∃ r H,v6p LF s (λr0 r1 r2 r3 r4 r5 r6 r7 r8 l9 l10=>rv (.tup [.agg [.s (.int .u16 r0),.s (.int .u16 r1),.s (.int .u16 r2),.s (.int .u16 r3),.s (.int .u16 r4),.s (.int .u16 r5),.s (.int .u16 r6),.s (.int .u16 r7)],.s (.bool r8)]) [.arr false 26 1 l9,.arr false 26 1 l10])=rv r H/\r.stab [0,0] H=v6V s:=by
 obtain ⟨l,l',e⟩:=Bn2 (k0:=(λr0 r1 r2 r3 r4 r5 r6 r7 r8 l9 l10=>rv (.tup [.agg [.s (.int .u16 r0),.s (.int .u16 r1),.s (.int .u16 r2),.s (.int .u16 r3),.s (.int .u16 r4),.s (.int .u16 r5),.s (.int .u16 r6),.s (.int .u16 r7)],.s (.bool r8)]) [.arr false 26 1 l9,.arr false 26 1 l10])) s h0
 exact ⟨_,_,e,rfl⟩
theorem B30 (s:By) (h0:A3 s.length=true):∃ r H,Bk6 LF s (λr0 r1 r2 r3 r4 r5 r6 r7 r8 l9 l10=>rv (.tup [.agg [.s (.int .u16 r0),.s (.int .u16 r1),.s (.int .u16 r2),.s (.int .u16 r3),.s (.int .u16 r4),.s (.int .u16 r5),.s (.int .u16 r6),.s (.int .u16 r7)],.s (.bool r8)]) [.arr false 26 1 l9,.arr false 26 1 l10])=rv r H/\r.stab [0,0] H=v6V s:=by
 obtain ⟨l,l',e⟩:=A48 (k0:=(λr0 r1 r2 r3 r4 r5 r6 r7 r8 l9 l10=>rv (.tup [.agg [.s (.int .u16 r0),.s (.int .u16 r1),.s (.int .u16 r2),.s (.int .u16 r3),.s (.int .u16 r4),.s (.int .u16 r5),.s (.int .u16 r6),.s (.int .u16 r7)],.s (.bool r8)]) [.arr false 26 1 l9,.arr false 26 1 l10])) s h0
 exact ⟨_,_,e,rfl⟩
set_option maxRecDepth 100000
section
variable {σ R : Type} (lf : Nat) (cl : G2) (yh : Yh σ) (s : σ) (k : Out -> St σ -> Option R)
noncomputable abbrev PA:Code:=D8 Tryz.f85
noncomputable def Er (lf:Nat):Cfg:=C8 lf [85] (A4 [(16,[2,0,4,41,0,0])]) [(112,IL),(113,Am1),(114,VA),(115,KM),(93,Hr),(116,A88),(117,Uc),(118,VD),(119,KK)] (A4 [(28,[2,0]),(25,[2,0]),(27,[2,0]),(26,[2,10,64]),(24,[2,10,59]),(23,[2,10]),(22,[2,5,41,0,0]),(21,[2,5,41,0,0]),(20,[2,0]),(19,[2,5,0,1,0,37,0,0,10]),(18,[2,5,0,1,0,37,0,0]),(17,[2,5,0,0,39,0,0]),(16,[2,5,41,0,0,0]),(15,[2,5,41,0,0]),(14,[2,5]),(13,[2,0]),(12,[2,0]),(11,[2,3,37]),(10,[2,3,0]),(9,[2,1,32]),(8,[2,1]),(7,[2,0]),(6,[2,1,27]),(5,[2,1,0]),(2,[2,0]),(4,[2,0]),(3,[0,1,16]),(1,[0,1,11]),(0,[0,1])]) [112,114,115,93,116,118,119] (A4 [(3,[2,10]),(1,[2,5]),(2,[2,5,41,0,0]),(0,[0,1])]) (some [2,0]) [] [] []
noncomputable def R9 {R:Type} (lf n:Nat) (l_m0:Nat) (n1 n2:Int) (l3:LL) (k0:Int->LL->Option R) (k1:Nat->LL->Option R):Option R:=match n with | 0=>none | n+1=>cond (ltI n2 n1) (cond (inR n2 l_m0) (cond (okE Gc l3 (0+(Int.toNat n2)) 0) (vl (gX l3 (0+(Int.toNat n2)) 0) λs'33=>cond (A3 s'33.length) (vl (↑((I5 s'33)).2:Int) λn'35=>cond (n'35 != 0) (k0 n'35 l3) (cond (inR n2 l_m0) (cond (decide ((0+(Int.toNat n2))<l3.length)) (vl (List.set l3 (0+(Int.toNat n2)) (G3 (List.getD l3 (0+(Int.toNat n2)) []) 0 [(SV.str ((I5 s'33)).1)])) λl'36=>R9 lf n l_m0 n1 (A1 (n2+1)) l'36 k0 k1) none) none)) none) none) none) (k1 l_m0 l3)
theorem MA (n:Nat) (l_m0:Nat) (n1 n2:Int) (l3:LL):E5 2 ((Er lf).keep 16) (bd (Er lf) cl yh (cd [1,1,1,1,1,1,1,0,1,0,0] PA)) n ⟨gp [(2,.ptr 0 0 0),(5,.vw 1 0 l_m0),(41,.vw 1 0 l_m0),(0,pI n1),(0,pI n2)] 31,[.box [pI (0:Int),pS ([]:List UInt8),p32 (0:Int),p16 (0:Int),p16 (0:Int),p16 (0:Int),p16 (0:Int),p16 (0:Int),p16 (0:Int),p16 (0:Int),p16 (0:Int)],.arr false 9 1 l3],s⟩ k =
 R9 lf n l_m0 n1 n2 l3 (λn0 l1=>k .ret ⟨gp [(2,.ptr 0 0 0),(0,pI n0)] 80,[.box [pI (0:Int),pS ([]:List UInt8),p32 (0:Int),p16 (0:Int),p16 (0:Int),p16 (0:Int),p16 (0:Int),p16 (0:Int),p16 (0:Int),p16 (0:Int),p16 (0:Int)],.arr false 9 1 l1],s⟩) (λl_m0 l1=>k (.exit 1) ⟨gp [(2,.ptr 0 0 0),(5,.vw 1 0 l_m0)] 75,[.box [pI (0:Int),pS ([]:List UInt8),p32 (0:Int),p16 (0:Int),p16 (0:Int),p16 (0:Int),p16 (0:Int),p16 (0:Int),p16 (0:Int),p16 (0:Int),p16 (0:Int)],.arr false 9 1 l1],s⟩):=by
 induction n generalizing l_m0 n1 n2 l3 with
 | zero=>rfl
 | succ n ih=>rw [R9];simp only [<-ih];kernel_rfl
noncomputable def Vh {R:Type} (lf:Nat) (raw0:By) (k0:Int->By->Int->Int->Int->Int->Int->Int->Int->Int->Int->Int->Int->By->Int->Int->Int->Int->Int->Int->Int->Int->Int->Option R) (k1:Int->By->Int->Int->By->LL->Option R):Option R:=cond (ltI 1024 (raw0.length:Int)) (k0 0 ([]:List UInt8) 0 0 0 0 0 0 0 0 0 3 0 ([]:List UInt8) 0 0 0 0 0 0 0 0 0) (cond (A3 raw0.length) (cond (List.isPrefixOf ([91]:List UInt8) raw0) (cond (A3 raw0.length) (cond (Be9 raw0) (vl (↑(E6.kind ((O8 raw0)).1):Int) λn'12=>vl (E6.name ((O8 raw0)).1) λs'13=>vl (↑(E6.v4 ((O8 raw0)).1):Int) λn'14=>vl (↑(List.getD (E6.v6 ((O8 raw0)).1) 0 0):Int) λn'15=>vl (↑(List.getD (E6.v6 ((O8 raw0)).1) 1 0):Int) λn'16=>vl (↑(List.getD (E6.v6 ((O8 raw0)).1) 2 0):Int) λn'17=>vl (↑(List.getD (E6.v6 ((O8 raw0)).1) 3 0):Int) λn'18=>vl (↑(List.getD (E6.v6 ((O8 raw0)).1) 4 0):Int) λn'19=>vl (↑(List.getD (E6.v6 ((O8 raw0)).1) 5 0):Int) λn'20=>vl (↑(List.getD (E6.v6 ((O8 raw0)).1) 6 0):Int) λn'21=>vl (↑(List.getD (E6.v6 ((O8 raw0)).1) 7 0):Int) λn'22=>vl (↑((O8 raw0)).2:Int) λn'23=>k0 n'12 s'13 n'14 n'15 n'16 n'17 n'18 n'19 n'20 n'21 n'22 n'23 n'12 s'13 n'14 n'15 n'16 n'17 n'18 n'19 n'20 n'21 n'22) none) none) (cond (A3 raw0.length) (cond (not (Option.isSome (R4 raw0))) (k0 0 ([]:List UInt8) 0 0 0 0 0 0 0 0 0 14 0 ([]:List UInt8) 0 0 0 0 0 0 0 0 0) (cond (A3 (List.length (Dp raw0))) (vl (OB (Dp raw0) ([46]:List UInt8)) λs'25=>cond (A3 s'25.length) (cond (F6 s'25) (cond (A3 s'25.length) (vl (↑(M5 (pnB s'25)):Int) λn'29=>cond (not (Option.isSome (pnB s'25))) (k0 0 ([]:List UInt8) 0 0 0 0 0 0 0 0 0 14 0 ([]:List UInt8) 0 0 0 0 0 0 0 0 0) (k0 2 ([]:List UInt8) n'29 0 0 0 0 0 0 0 0 0 2 ([]:List UInt8) n'29 0 0 0 0 0 0 0 0)) none) (cond (A3 s'25.length) (cond (1==1) (vl (C6 (pcs (List.getD ([46]:List UInt8) 0 0) s'25)) λl'31=>R9 lf lf (List.length (pcs (List.getD ([46]:List UInt8) 0 0) s'25)) (↑(List.length (pcs (List.getD ([46]:List UInt8) 0 0) s'25)):Int) 0 l'31 (λn'37 l'38=>k1 0 ([]:List UInt8) n'37 0 ([]:List UInt8) l'38) (λl_m'39 l'40=>cond (List.all (List.take l_m'39 (List.drop 0 l'40)) isS) (cond (A3 (List.length (Lib.join (List.map elS (List.take l_m'39 (List.drop 0 l'40))) ([46]:List UInt8)))) (cond (A3 (List.length (List.take l_m'39 (List.drop 0 l'40)))) (vl (Lib.join (List.map elS (List.take l_m'39 (List.drop 0 l'40))) ([46]:List UInt8)) λs'42=>cond (ltI 253 (s'42.length:Int)) (k1 0 ([]:List UInt8) 3 0 ([]:List UInt8) l'40) (cond (A3 s'42.length) (cond (F6 s'42) (k1 0 ([]:List UInt8) 14 0 ([]:List UInt8) l'40) (k1 1 s'42 0 1 s'42 l'40)) none)) none) none) none)) none) none)) none) none)) none)) none)
theorem Ax0 (d:Nat) (raw0):evC (Er lf) (d+1) σ yh 85 [pS raw0] [] s=Vh lf raw0 (λr0 r1 r2 r3 r4 r5 r6 r7 r8 r9 r10 r11 n12 s13 n14 n15 n16 n17 n18 n19 n20 n21 n22=>some (.tup [.agg [pI r0,pS r1,p32 r2,p16 r3,p16 r4,p16 r5,p16 r6,p16 r7,p16 r8,p16 r9,p16 r10],pI r11],[.box [pI n12,pS s13,p32 n14,p16 n15,p16 n16,p16 n17,p16 n18,p16 n19,p16 n20,p16 n21,p16 n22]],s)) (λr0 r1 r2 n3 s4 l5=>some (.tup [.agg [pI r0,pS r1,p32 (0:Int),p16 (0:Int),p16 (0:Int),p16 (0:Int),p16 (0:Int),p16 (0:Int),p16 (0:Int),p16 (0:Int),p16 (0:Int)],pI r2],[.box [pI n3,pS s4,p32 (0:Int),p16 (0:Int),p16 (0:Int),p16 (0:Int),p16 (0:Int),p16 (0:Int),p16 (0:Int),p16 (0:Int),p16 (0:Int)],.arr false 9 1 l5],s)):=by
 refine (evE (fn:=Tryz.f85) (by kernel_rfl)).trans ?_
 generalize evC (Er lf) d=cl
 unfold Vh;exact (Eq.trans (by kernel_rfl) (A0 rfl (A0 (A0 (A0 (A0 (A6 λn'12=>(A6 λs'13=>(A6 λn'14=>(A6 λn'15=>(A6 λn'16=>(A6 λn'17=>(A6 λn'18=>(A6 λn'19=>(A6 λn'20=>(A6 λn'21=>(A6 λn'22=>(A6 λn'23=>rfl)))))))))))) rfl) rfl) (A0 (A0 rfl (A0 (A6 λs'25=>(A0 (A0 (A0 (A6 λn'29=>(A0 rfl rfl)) rfl) (A0 (A0 (A6 λl'31=>((MA lf cl yh s (F9 1 (G1 (Er lf) cl yh (cd [1,1,1,1,1,1,1,1] PA) (G5 (Er lf) Tryz.f85))) lf (List.length (pcs (List.getD ([46]:List UInt8) 0 0) s'25)) (↑(List.length (pcs (List.getD ([46]:List UInt8) 0 0) s'25)):Int) 0 l'31).trans (by kernel_rfl))) rfl) rfl)) rfl)) rfl)) rfl)) rfl)))
noncomputable abbrev Ao0:Code:=D8 Tryz.f131
noncomputable def Jd (lf:Nat):Cfg:=C8 lf [131] (A4 [(6,[0,1,0,1,10,0,0])]) [(170,A87),(161,VI)] (A4 [(13,[2]),(12,[0,3,0,2]),(11,[0,2,1,10,0,0]),(10,[0,2,1,10,0,0]),(9,[2]),(8,[0,2,1,1,8,0,0,8]),(7,[0,2,1,1,8,0,0]),(6,[0,2,1,10,0,0,0]),(5,[0,2,1,10,0,0]),(4,[0,2,1]),(3,[2]),(2,[0,2,11]),(1,[0,2,0]),(0,[0])]) [161] (A4 [(0,[0,2,1]),(1,[0,2,1,10,0,0])]) (some [2]) [] [] []
noncomputable def V8 {R:Type} (lf n:Nat) (s0:By) (points_z1:Bool) (points2:LL) (basic3:Bool) (n4 n5:Int) (k0:Unit->Option R) (k1:By->Bool->LL->Bool->Option R):Option R:=match n with | 0=>none | n+1=>cond (ltI n5 n4) (cond (inR n5 points2.length) (cond (okE Il points2 (Int.toNat n5) 0) (vl (gE points2 (Int.toNat n5) 0) λn'1=>cond (not (ltI n'1 65)) (cond (not (ltI 90 n'1)) (k0 ()) (cond basic3 (V8 lf n s0 points_z1 points2 (ltI n'1 128) n4 (A1 (n5+1)) k0 k1) (V8 lf n s0 points_z1 points2 false n4 (A1 (n5+1)) k0 k1))) (cond basic3 (V8 lf n s0 points_z1 points2 (ltI n'1 128) n4 (A1 (n5+1)) k0 k1) (V8 lf n s0 points_z1 points2 false n4 (A1 (n5+1)) k0 k1))) none) none) (k1 s0 points_z1 points2 basic3)
theorem RG (n s0 points_z1 points2 basic3 n4 n5):E5 0 ((Jd lf).keep 6) (bd (Jd lf) cl yh (cd [1,1,1,1,0,1,0,0] Ao0)) n ⟨gp [(0,pS s0),(2,.s (.sl points_z1 points_z1 1 points2)),(1,pB basic3),(10,.s (.sl points_z1 points_z1 1 points2)),(0,pI n4),(0,pI n5)] 31,[],s⟩ k =
 V8 lf n s0 points_z1 points2 basic3 n4 n5 (λ_=>k .ret ⟨gp [(2,pB false)] 47,[],s⟩) (λs0 points_z1 points2 basic3=>k (.exit 0) ⟨gp [(0,pS s0),(2,.s (.sl points_z1 points_z1 1 points2)),(1,pB basic3)] 44,[],s⟩):=by
 induction n generalizing s0 points_z1 points2 basic3 n4 n5 with
 | zero=>rfl
 | succ n ih=>rw [V8];simp only [<-ih];kernel_rfl
noncomputable def Aq3 {R:Type} (lf:Nat) (s0:By) (k0:Bool->Option R):Option R:=cond (A3 s0.length) (cond ((↑((M8 s0)).2:Int) != 0) (k0 false) (V8 lf lf s0 (List.isEmpty ((M8 s0)).1) (Jr ((M8 s0)).1) true (↑(List.length (Jr ((M8 s0)).1)):Int) 0 (λ_=>k0 false) (λs'2 points_z'3 points'4 basic'5=>cond (List.all points'4 Kv) (vl ((U4 (List.map elI points'4))).1 λs'8=>vl (↑((U4 (List.map elI points'4))).2:Int) λn'9=>cond (not basic'5) (cond (n'9==0) (k0 (s'8==s'2)) (k0 false)) (k0 false)) none))) none
theorem Bf8 (d:Nat) (s0):evC (Jd lf) (d+1) σ yh 131 [pS s0] [] s=Aq3 lf s0 (λr0=>some (pB r0,[],s)):=by
 refine (evE (fn:=Tryz.f131) (by kernel_rfl)).trans ?_
 generalize evC (Jd lf) d=cl
 unfold Aq3;exact (Eq.trans (by kernel_rfl) (A0 (A0 rfl ((RG lf cl yh s (F9 0 (G1 (Jd lf) cl yh (cd [1,1,1,1,1] Ao0) (G5 (Jd lf) Tryz.f131))) lf s0 (List.isEmpty ((M8 s0)).1) (Jr ((M8 s0)).1) true (↑(List.length (Jr ((M8 s0)).1)):Int) 0).trans (by kernel_rfl))) rfl))
noncomputable abbrev Ba4:Code:=D8 Tryz.f94
noncomputable def Ph (lf:Nat):Cfg:=C8 lf [94] (A4 [(4,[0,1,26,0])]) [(130,A71),(131,Am5)] (A4 [(11,[2]),(10,[5,0]),(9,[0,28,0]),(8,[2]),(7,[0,28,0,28]),(6,[0,3,24,0]),(5,[0,2,25,0]),(4,[0,28,0,0]),(3,[0,28,0]),(2,[2]),(1,[0,26]),(0,[0])]) [130,131] (A4 [(0,[0]),(1,[0,28,0])]) (some [2]) [] [] []
noncomputable def R0 {R:Type} (lf n:Nat) (s0:By) (n1 n2:Int) (k0:Unit->Option R) (k1:By->Option R):Option R:=match n with | 0=>none | n+1=>cond (ltI n2 n1) (cond (inR n2 s0.length) (cond (not (ltI (bAt s0 n2) (97:Int))) (cond (not (not (ltI 122 (bAt s0 n2)))) (cond (not (ltI (bAt s0 n2) (48:Int))) (cond (not (not (ltI 57 (bAt s0 n2)))) (cond ((bAt s0 n2) != 45) (cond ((bAt s0 n2) != 95) (k0 ()) (R0 lf n s0 n1 (A1 (n2+1)) k0 k1)) (R0 lf n s0 n1 (A1 (n2+1)) k0 k1)) (R0 lf n s0 n1 (A1 (n2+1)) k0 k1)) (cond ((bAt s0 n2) != 45) (cond ((bAt s0 n2) != 95) (k0 ()) (R0 lf n s0 n1 (A1 (n2+1)) k0 k1)) (R0 lf n s0 n1 (A1 (n2+1)) k0 k1))) (R0 lf n s0 n1 (A1 (n2+1)) k0 k1)) (cond (not (ltI (bAt s0 n2) (48:Int))) (cond (not (not (ltI 57 (bAt s0 n2)))) (cond ((bAt s0 n2) != 45) (cond ((bAt s0 n2) != 95) (k0 ()) (R0 lf n s0 n1 (A1 (n2+1)) k0 k1)) (R0 lf n s0 n1 (A1 (n2+1)) k0 k1)) (R0 lf n s0 n1 (A1 (n2+1)) k0 k1)) (cond ((bAt s0 n2) != 45) (cond ((bAt s0 n2) != 95) (k0 ()) (R0 lf n s0 n1 (A1 (n2+1)) k0 k1)) (R0 lf n s0 n1 (A1 (n2+1)) k0 k1)))) none) (k1 s0)
theorem ZE (n s0 n1 n2):E5 0 ((Ph lf).keep 4) (bd (Ph lf) cl yh (cd [1,1,0,1,0,0] Ba4)) n ⟨gp [(0,pS s0),(28,pI n1),(0,pI n2)] 41,[],s⟩ k =
 R0 lf n s0 n1 n2 (λ_=>k .ret ⟨gp [(2,pB false)] 69,[],s⟩) (λs0=>k (.exit 0) ⟨gp [(0,pS s0)] 71,[],s⟩):=by
 induction n generalizing s0 n1 n2 with
 | zero=>rfl
 | succ n ih=>rw [R0];simp only [<-ih];kernel_rfl
noncomputable def Bw7 {R:Type} (lf:Nat) (s0:By) (k0:Bool->Option R):Option R:=cond (ltI (s0.length:Int) (1:Int)) (k0 false) (cond (ltI 63 (s0.length:Int)) (k0 false) (cond (inR 0 s0.length) (cond ((bAt s0 (0:Int))==45) (k0 false) (vl (A1 ((s0.length:Int)-1)) λn'1=>cond (inR n'1 s0.length) (cond ((bAt s0 n'1)==45) (k0 false) (R0 lf lf s0 (s0.length:Int) 0 (λ_=>k0 false) (λs'2=>cond (A3 s'2.length) (vl (AQ s'2 ([120,110,45,45]:List UInt8)) λs'3=>cond (not (List.isPrefixOf ([120,110,45,45]:List UInt8) s'2)) (k0 true) (cond (A3 s'3.length) (k0 (Ce s'3)) none)) none))) none)) none))
theorem Bw8 (d:Nat) (s0):evC (Ph lf) (d+1) σ yh 94 [pS s0] [] s=Bw7 lf s0 (λr0=>some (pB r0,[],s)):=by
 refine (evE (fn:=Tryz.f94) (by kernel_rfl)).trans ?_
 generalize evC (Ph lf) d=cl
 unfold Bw7;exact (Eq.trans (by kernel_rfl) (A0 rfl (A0 rfl (A0 (A0 rfl (A6 λn'1=>(A0 (A0 rfl ((ZE lf cl yh s (F9 0 (G1 (Ph lf) cl yh (cd [1,1,1] Ba4) (G5 (Ph lf) Tryz.f94))) lf s0 (s0.length:Int) 0).trans (by kernel_rfl))) rfl))) rfl))))
noncomputable abbrev WC:Code:=D8 Tryz.f118
noncomputable def Ln (lf:Nat):Cfg:=C8 lf [118] (A4 [(9,[2,0,1,20])]) [(159,OU),(160,OT),(111,IY),(161,VI),(94,JE)] (A4 [(18,[2,0]),(17,[2,0]),(16,[4,41]),(15,[4]),(14,[2,0]),(13,[8,32]),(12,[8,0]),(11,[5,20]),(10,[5,1,18]),(9,[5,20,0,0]),(8,[5,20]),(7,[4,0]),(6,[4,19]),(5,[0,3]),(2,[2,0]),(4,[2,0]),(3,[0,13]),(1,[0,9]),(0,[0])]) [159,160,111,161,94] (A4 [(1,[5]),(2,[5,20]),(0,[0])]) (some [2,0]) [] [] []
noncomputable def Dl {R:Type} (lf n:Nat) (l0:LL) (s1:By) (m2:Nat) (k0:LL->By->Nat->Option R):Option R:=match n with | 0=>none | n+1=>cond (decide (m2<s1.length)) (vl ((Utf8.decode ⟨List.toArray s1⟩ m2)).1 λn'4=>cond (F1 (l0.length+1)) (Dl lf n (l0++[[(SV.int .i64 (A1 n'4))]]) s1 (m2+((Utf8.decode ⟨List.toArray s1⟩ m2)).2) k0) none) (k0 l0 s1 m2)
theorem YO (n:Nat) (l0:LL) (s1:By) (m2:Nat):E5 2 ((Ln lf).keep 9) (bd (Ln lf) cl yh (cd [1,1,1,0,1,0,1,0,1,0,0] WC)) n ⟨gp [(5,.fl 0),(20,.it 1)] 21,[.arr true 3 1 l0,.iter s1 m2],s⟩ k =
 Dl lf n l0 s1 m2 (λl0 s1 m2=>k (.exit 1) ⟨gp [(5,.fl 0)] 42,[.arr true 3 1 l0,.iter s1 m2],s⟩):=by
 induction n generalizing l0 s1 m2 with
 | zero=>rfl
 | succ n ih=>rw [Dl];simp only [<-ih];kernel_rfl
noncomputable def RA {R:Type} (lf:Nat) (s0:By) (k0:By->Int->Option R) (k1:By->Int->LL->By->Nat->Option R):Option R:=cond (A3 s0.length) (cond (not (Option.isSome (Bx s0))) (k0 ([]:List UInt8) 4) (cond (A3 s0.length) (vl (↑(Lib.runeCountL s0):Int) λn'1=>cond (ltI 256 n'1) (k0 ([]:List UInt8) 3) (cond (A3 s0.length) (cond (A3 s0.length) (vl (↑(Lib.runeCountL s0):Int) λn'3=>cond (ltI n'3 (s0.length:Int)) (Dl lf lf [] (C7 s0) 0 (λl'5 s'6 m'7=>cond (List.all l'5 Kv) (vl ((U4 (List.map elI l'5))).1 λs'8=>vl (↑((U4 (List.map elI l'5))).2:Int) λn'9=>cond (n'9 != 0) (k1 ([]:List UInt8) 14 l'5 s'6 m'7) (cond (Kr 4 s'8.length) (vl (([120,110,45,45]:List UInt8)++s'8) λs'10=>cond (A3 s'10.length) (cond (not (K4 s'10)) (k1 ([]:List UInt8) 14 l'5 s'6 m'7) (k1 s'10 0 l'5 s'6 m'7)) none) none)) none)) (cond (A3 (List.length (C7 s0))) (cond (not (K4 (C7 s0))) (k0 ([]:List UInt8) 14) (k0 (C7 s0) 0)) none)) none) none)) none)) none
theorem Bu5 (d:Nat) (s0):evC (Ln lf) (d+1) σ yh 118 [pS s0] [] s=RA lf s0 (λr0 r1=>some (.tup [pS r0,pI r1],[],s)) (λr0 r1 l2 s3 m4=>some (.tup [pS r0,pI r1],[.arr true 3 1 l2,.iter s3 m4],s)):=by
 refine (evE (fn:=Tryz.f118) (by kernel_rfl)).trans ?_
 generalize evC (Ln lf) d=cl
 unfold RA;exact (Eq.trans (by kernel_rfl) (A0 (A0 rfl (A0 (A6 λn'1=>(A0 rfl (A0 (A0 (A6 λn'3=>(A0 ((YO lf cl yh s (F9 1 (G1 (Ln lf) cl yh (cd [1,1,1,0,1,0,1,1] WC) (G1 (Ln lf) cl yh (cd [1,1,1,1] WC) (G5 (Ln lf) Tryz.f118)))) lf [] (C7 s0) 0).trans (by kernel_rfl)) (A0 (A0 rfl rfl) rfl))) rfl) rfl))) rfl)) rfl))
noncomputable abbrev Ov:Code:=D8 Tryz.f156
noncomputable def Ha (lf:Nat):Cfg:=C8 lf [156] (A4 []) [] (A4 [(7,[2]),(2,[2]),(4,[2]),(6,[2]),(5,[0,23]),(3,[0,12]),(1,[0,2]),(0,[0])]) [] (A4 [(0,[])]) (some [2]) [] [] []
noncomputable def Re {R:Type} (b0:Int) (b1:Bool) (k0:Int->Option R) (k1:Int->Bool->Option R):Option R:=cond b1 (vl (A1 (wu8 (b0-97))) λn'1=>vl (A1 (n'1+10)) λn'2=>k0 n'2) (cond (not (ltI b0 65)) (cond (not (ltI 70 b0)) (vl (A1 (wu8 (b0-65))) λn'3=>vl (A1 (n'3+10)) λn'4=>k0 n'4) (k1 b0 (not (ltI 70 b0)))) (k1 b0 false))
abbrev FZ (b:Code):Prop:=∀ (k:Out->St σ->Option R) b0 b1,A9 (Ha lf) cl yh b ⟨gp [(0,p8 b0),(12,pB b1)] 21,[],s⟩ k=Re b0 b1 (λn0=>k .ret ⟨gp [(2,pI n0)] 32,[],s⟩) (λb0 b1=>k .normal ⟨gp [(0,p8 b0),(23,pB b1)] 10,[],s⟩)
theorem YG:FZ (R:=R) lf cl yh s (cd [1,0,0,1,1,1] Ov):=by
 intro k b0 b1;unfold Re;kernel_rfl
noncomputable def Rf {R:Type} (b0:Int) (b1:Bool) (k0:Int->Option R) (k1:Int->Bool->Option R):Option R:=cond b1 (vl (A1 (wu8 (b0-48))) λn'0=>k0 n'0) (cond (not (ltI b0 97)) (Re b0 (not (ltI 102 b0)) (λn'5=>k0 n'5) (λb'6 b'7=>k1 b'6 b'7)) (Re b0 false (λn'8=>k0 n'8) (λb'9 b'10=>k1 b'9 b'10)))
abbrev Vg (b:Code):Prop:=∀ (k:Out->St σ->Option R) b0 b1,A9 (Ha lf) cl yh b ⟨gp [(0,p8 b0),(2,pB b1)] 31,[],s⟩ k=Rf b0 b1 (λn0=>k .ret ⟨gp [(2,pI n0)] 32,[],s⟩) (λb0 b1=>k .normal ⟨gp [(0,p8 b0),(23,pB b1)] 10,[],s⟩)
theorem YH (b_100111:Code) (h_hdig_j0:FZ (R:=R) lf cl yh s b_100111):Vg (R:=R) lf cl yh s (cd [1,0,0,1] (J3 [1,0,0,1,1,1] b_100111 Ov)):=by
 intro k b0 b1;unfold Rf;simp only [<-h_hdig_j0 k];kernel_rfl
theorem YI:Vg (R:=R) lf cl yh s (cd [1,0,0,1] Ov):=by
 intro k b0 b1;exact Eq.trans (by kernel_rfl) (YH lf cl yh s (cd [1,0,0,1,1,1] Ov) (YG lf cl yh s) k b0 b1)
noncomputable def Be6 {R:Type} (lf:Nat) (b0:Int) (k0:Int->Option R):Option R:=cond (not (ltI b0 48)) (Rf b0 (not (ltI 57 b0)) (λn'11=>k0 n'11) (λb'12 b'13=>k0 (-1))) (Rf b0 false (λn'14=>k0 n'14) (λb'15 b'16=>k0 (-1)))
theorem Bt5 (b_1001:Code) (h_hdig_j1:Vg (R:=PV × List Blk × σ) lf cl yh s b_1001) (b0:Int):A9 (Ha lf) cl yh (cd [] (J3 [1,0,0,1] b_1001 Ov)) ⟨[p8 b0]++tps 34,[],s⟩ (G5 (Ha lf) Tryz.f156)=Be6 lf b0 (λr0=>some (pI r0,[],s)):=by
 unfold Be6;exact let K0:=(F9 0 (G1 (Ha lf) cl yh (cd [1,1] Ov) (G5 (Ha lf) Tryz.f156)));(Eq.trans (by kernel_rfl) (A0 ((h_hdig_j1 K0 b0 (not (ltI 57 b0))).trans (by kernel_rfl)) ((h_hdig_j1 K0 b0 false).trans (by kernel_rfl))))
theorem Bt6 (d:Nat) (b0):evC (Ha lf) (d+1) σ yh 156 [p8 b0] [] s=Be6 lf b0 (λr0=>some (pI r0,[],s)):=
 (evE (fn:=Tryz.f156) (by kernel_rfl)).trans (Eq.trans (by kernel_rfl) (Bt5 lf (evC (Ha lf) d) yh s (cd [1,0,0,1] Ov) (YI lf (evC (Ha lf) d) yh s) b0))
noncomputable abbrev Ba0:Code:=D8 Tryz.f114
noncomputable def Pc (lf:Nat):Cfg:=C8 lf [114] (A4 [(3,[0,1,0,0,0])]) [(156,A73)] (A4 [(14,[2,0]),(4,[0,3,0]),(13,[0,3,0]),(12,[0,3,0]),(11,[2,0]),(10,[0,3,0,0,0,39]),(9,[0,3,0,0,0]),(8,[2,0]),(7,[0,3,0,25]),(6,[0,3,0]),(5,[0,3,0,14]),(3,[0,3,0,8]),(2,[0,3,0]),(1,[0,3]),(0,[0])]) [156] (A4 [(0,[4]),(1,[0,3,0])]) (some [2,0]) [] [] []
noncomputable def R6 {R:Type} (lf n:Nat) (s0:By) (i1:Int) (l2:LL) (k0:LL->Option R) (k1:LL->Option R):Option R:=match n with | 0=>none | n+1=>cond (ltI i1 (s0.length:Int)) (cond (inR i1 s0.length) (cond ((bAt s0 i1) != 37) (cond (inR i1 s0.length) (cond (F1 (l2.length+1)) (R6 lf n s0 (A1 (i1+1)) (l2++[[(SV.int .u8 (bAt s0 i1))]]) k0 k1) none) none) (cond (not (ltI (A1 (i1+2)) (s0.length:Int))) (k0 l2) (cond (inR (A1 (i1+1)) s0.length) (vl (bAt s0 (A1 (i1+1))) λn'2=>cond (inR n'2 256) (cond (inR (A1 (i1+2)) s0.length) (vl (bAt s0 (A1 (i1+2))) λn'3=>cond (inR n'3 256) (cond (ltI (Di (u8n n'2)) (0:Int)) (k0 l2) (cond (ltI (Di (u8n n'3)) (0:Int)) (k0 l2) (vl (A1 ((16:Int)*(Di (u8n n'2)))) λn'4=>vl (A1 (n'4+(Di (u8n n'3)))) λn'5=>cond (F1 (l2.length+1)) (vl (A1 ((A1 (i1+2))+1)) λn'6=>R6 lf n s0 n'6 (l2++[[(SV.int .u8 (wu8 n'5))]]) k0 k1) none))) none) none) none) none))) none) (k1 l2)
theorem YF (n s0 i1 l2):E5 1 ((Pc lf).keep 3) (bd (Pc lf) cl yh (cd [1,0,1,1,0,1,0,0] Ba0)) n ⟨gp [(0,pS s0),(3,.fl 0),(0,pI i1)] 54,[.arr false 5 1 l2],s⟩ k =
 R6 lf n s0 i1 l2 (λl0=>k .ret ⟨gp [(2,pS ([]:List UInt8)),(0,pB false)] 56,[.arr false 5 1 l0],s⟩) (λl0=>k (.exit 0) ⟨gp [(4,.fl 0)] 55,[.arr false 5 1 l0],s⟩):=by
 induction n generalizing s0 i1 l2 with
 | zero=>rfl
 | succ n ih=>rw [R6];simp only [<-ih];kernel_rfl
noncomputable def Be5 {R:Type} (lf:Nat) (s0:By) (k0:By->Bool->LL->Option R):Option R:=cond ((decide ((0:Int)<=(s0.length:Int)))&&(F1 (Int.toNat (s0.length:Int)))) (R6 lf lf s0 0 [] (λl'7=>k0 ([]:List UInt8) false l'7) (λl'8=>cond (List.all l'8 Lt) (k0 (List.map Lc l'8) true l'8) none)) none
theorem Bt3 (d:Nat) (s0):evC (Pc lf) (d+1) σ yh 114 [pS s0] [] s=Be5 lf s0 (λr0 r1 l2=>some (.tup [pS r0,pB r1],[.arr false 5 1 l2],s)):=by
 refine (evE (fn:=Tryz.f114) (by kernel_rfl)).trans ?_
 generalize evC (Pc lf) d=cl
 unfold Be5;exact (Eq.trans (by kernel_rfl) (A0 ((YF lf cl yh s (F9 0 (G1 (Pc lf) cl yh (cd [1,0,1,1,1] Ba0) (G5 (Pc lf) Tryz.f114))) lf s0 0 []).trans (by kernel_rfl)) rfl))
noncomputable def KY (lf:Nat):Cfg:=C8 lf [113] (A4 []) [(155,B74)] (A4 [(6,[2,0]),(5,[2,0]),(4,[2,2,15]),(3,[2,2,0]),(2,[0,1,1,8]),(1,[0,1,1]),(0,[0,1])]) [] (A4 []) (some [2,0]) [] [] []
noncomputable def Ap2 {R:Type} (lf:Nat) (s0:By) (k0:Int->Int->Int->Int->Int->Int->Int->Int->Int->Int->Int->LL->Option R) (k1:Unit->Option R):Option R:=vl (A1 ((s0.length:Int)-1)) λn'1=>cond (inR n'1 s0.length) (cond ((bAt s0 n'1)==93) (cond (P0 1 n'1 s0.length) (cond (A3 (List.length (cut s0 1 n'1))) (vl (↑(v6c 0 (cut s0 1 n'1)):Int) λn'2=>vl (↑(v6c 1 (cut s0 1 n'1)):Int) λn'3=>vl (↑(v6c 2 (cut s0 1 n'1)):Int) λn'4=>vl (↑(v6c 3 (cut s0 1 n'1)):Int) λn'5=>vl (↑(v6c 4 (cut s0 1 n'1)):Int) λn'6=>vl (↑(v6c 5 (cut s0 1 n'1)):Int) λn'7=>vl (↑(v6c 6 (cut s0 1 n'1)):Int) λn'8=>vl (↑(v6c 7 (cut s0 1 n'1)):Int) λn'9=>cond (Option.isSome (v6B (cut s0 1 n'1))) (k0 3 n'2 n'3 n'4 n'5 n'6 n'7 n'8 n'9 0 3 [[(SV.int .u16 n'2)],[(SV.int .u16 n'3)],[(SV.int .u16 n'4)],[(SV.int .u16 n'5)],[(SV.int .u16 n'6)],[(SV.int .u16 n'7)],[(SV.int .u16 n'8)],[(SV.int .u16 n'9)]]) (k0 0 0 0 0 0 0 0 0 0 14 0 [[(SV.int .u16 n'2)],[(SV.int .u16 n'3)],[(SV.int .u16 n'4)],[(SV.int .u16 n'5)],[(SV.int .u16 n'6)],[(SV.int .u16 n'7)],[(SV.int .u16 n'8)],[(SV.int .u16 n'9)]])) none) none) (k1 ())) none
theorem Be3 (d:Nat) (s0):evC (KY lf) (d+1) σ yh 113 [pS s0] [] s=Ap2 lf s0 (λr0 r1 r2 r3 r4 r5 r6 r7 r8 r9 n10 l11=>some (.tup [.agg [pI r0,pS ([]:List UInt8),p32 (0:Int),p16 r1,p16 r2,p16 r3,p16 r4,p16 r5,p16 r6,p16 r7,p16 r8],pI r9],[.box [pI n10,pS ([]:List UInt8),p32 (0:Int),p16 r1,p16 r2,p16 r3,p16 r4,p16 r5,p16 r6,p16 r7,p16 r8],.arr false 26 1 l11],s)) (λ_=>some (.tup [.agg [pI (0:Int),pS ([]:List UInt8),p32 (0:Int),p16 (0:Int),p16 (0:Int),p16 (0:Int),p16 (0:Int),p16 (0:Int),p16 (0:Int),p16 (0:Int),p16 (0:Int)],pI (14:Int)],[.box [pI (0:Int),pS ([]:List UInt8),p32 (0:Int),p16 (0:Int),p16 (0:Int),p16 (0:Int),p16 (0:Int),p16 (0:Int),p16 (0:Int),p16 (0:Int),p16 (0:Int)]],s)):=by
 refine (evE (fn:=Tryz.f113) (by kernel_rfl)).trans ?_
 generalize evC (KY lf) d=cl
 unfold Ap2;kernel_rfl
noncomputable def Rg {R:Type} (lf:Nat) (h0:Int) (h1:By) (h2 h3 h4 h5 h6 h7 h8 h9 h10:Int) (k0:Bool->Int->By->Int->Int->Int->Int->Int->Int->Int->Int->Int->LL->Option R):Option R:=cond (h0==1) (cond (A3 h1.length) (cond (P7 h1) (cond (h2==0) (k0 ((h3==0)&&((h4==0)&&((h5==0)&&((h6==0)&&((h7==0)&&((h8==0)&&((h9==0)&&((h10==0)&&true)))))))) h0 h1 h2 h3 h4 h5 h6 h7 h8 h9 h10 (List.replicate 8 [(SV.int .u16 (0:Int))])) (k0 false h0 h1 h2 h3 h4 h5 h6 h7 h8 h9 h10 (List.replicate 8 [(SV.int .u16 (0:Int))]))) (k0 false h0 h1 h2 h3 h4 h5 h6 h7 h8 h9 h10 (List.replicate 8 [(SV.int .u16 (0:Int))]))) none) (cond (h0==2) (cond (h1==[]) (k0 ((h3==0)&&((h4==0)&&((h5==0)&&((h6==0)&&((h7==0)&&((h8==0)&&((h9==0)&&((h10==0)&&true)))))))) h0 h1 h2 h3 h4 h5 h6 h7 h8 h9 h10 (List.replicate 8 [(SV.int .u16 (0:Int))])) (k0 false h0 h1 h2 h3 h4 h5 h6 h7 h8 h9 h10 (List.replicate 8 [(SV.int .u16 (0:Int))]))) (cond (h0==3) (cond (h1==[]) (k0 (h2==0) h0 h1 h2 h3 h4 h5 h6 h7 h8 h9 h10 (List.replicate 8 [(SV.int .u16 (0:Int))])) (k0 false h0 h1 h2 h3 h4 h5 h6 h7 h8 h9 h10 (List.replicate 8 [(SV.int .u16 (0:Int))]))) (k0 false h0 h1 h2 h3 h4 h5 h6 h7 h8 h9 h10 (List.replicate 8 [(SV.int .u16 (0:Int))]))))
end
section
variable {σ R : Type} (lf : Nat) (cl : G2) (yh : Yh σ) (s : σ) (k : Out -> St σ -> Option R)
noncomputable def WY (lf:Nat):Cfg:=C8 lf [194] (A4 []) [] (A4 [(2,[2]),(1,[1,1]),(0,[1])]) [] (A4 []) (some [2]) [] [] []
noncomputable def Cc6 {R:Type} (lf:Nat) (b:Int) (k0:Int->Option R):Option R:=k0 b
theorem Bz6 (d:Nat) (b):evC (WY lf) (d+1) σ yh 194 [pI b] [] s=Cc6 lf b (λn0=>some (.fnr (Fn.func 201) [] [.ptr 1 0 0,.ptr 0 0 0],[.box [pI n0],.box [pI (0:Int)]],s)):=by
 refine (evE (fn:=Tryz.f194) (by kernel_rfl)).trans ?_
 generalize evC (WY lf) d=cl
 unfold Cc6;kernel_rfl
noncomputable def LG (lf:Nat):Cfg:=C8 lf [201] (A4 []) [] (A4 [(2,[2]),(1,[0,0]),(0,[0,0])]) [] (A4 []) (some [2]) [] [] []
noncomputable def Ar8 {R:Type} (lf:Nat) (k b:Int) (k0:Int->Int->Int->Option R):Option R:=vl (A1 ((A1 (k+36))-b)) λn'0=>vl (if ((26:Int)<(if ((1:Int) > n'0) then (1:Int) else n'0)) then (26:Int) else (if ((1:Int) > n'0) then (1:Int) else n'0)) λn'1=>k0 n'1 (A1 (k+36)) b
theorem Bh6 (d:Nat) (k b):evC (LG lf) (d+1) σ yh 201 [.ptr 0 0 0,.ptr 1 0 0] [.box [pI k],.box [pI b]] s=Ar8 lf k b (λr0 n1 n2=>some (pI r0,[.box [pI n1],.box [pI n2]],s)):=by
 refine (evE (fn:=Tryz.f201) (by kernel_rfl)).trans ?_
 generalize evC (LG lf) d=cl
 unfold Ar8;kernel_rfl
noncomputable abbrev B93:Code:=D8 Tryz.f185
noncomputable def Ur (lf:Nat):Cfg:=C8 lf [185] (A4 [(2,[0,0,4,0])]) [(194,Ze),(195,VH)] (A4 [(6,[0,0,5]),(5,[0,0,5,0]),(4,[6]),(3,[0,0,5,0,6]),(2,[0,0,5,0]),(1,[0,0,5]),(0,[0,0,0])]) [195] (A4 [(0,[6]),(1,[0,0,5])]) (some [6]) [(201,Mr)] [] [201]
noncomputable def Gn {R:Type} (lf n:Nat) (q0:Int) (z1:Bool) (l2:LL) (n3 n4:Int) (k0:Bool->LL->Int->Int->Option R):Option R:=match n with | 0=>none | n+1=>cond (ltN n4 1000000000000) (cond (ltN n3 1000000) (cond (ltI q0 (K9 n4 n3)) (cond (ltN q0 36) (vl (↑(UInt8.toNat (Y8 (Int.toNat q0))):Int) λn'1=>cond (F1 (l2.length+1)) (k0 z1 (l2++[[(SV.int .u8 n'1)]]) n3 (Int.add n4 (36:Int))) none) none) (vl (A1 (q0-(K9 n4 n3))) λn'2=>vl (A1 ((36:Int)-(K9 n4 n3))) λn'3=>cond (n'3 != 0) (vl (A1 ((K9 n4 n3)+(Int.tmod n'2 n'3))) λn'4=>cond (ltN n'4 36) (vl (↑(UInt8.toNat (Y8 (Int.toNat n'4))):Int) λn'5=>cond (F1 (l2.length+1)) (vl (A1 (q0-(K9 n4 n3))) λn'6=>vl (A1 ((36:Int)-(K9 n4 n3))) λn'7=>cond (n'7 != 0) (vl (A1 (Int.tdiv n'6 n'7)) λn'8=>Gn lf n n'8 z1 (l2++[[(SV.int .u8 n'5)]]) n3 (Int.add n4 (36:Int)) k0) none) none) none) none)) none) none
theorem ZP (n q0 z1 l2 n3 n4):E5 3 ((Ur lf).keep 2) (bd (Ur lf) cl yh (cd [1,1,0,0] B93)) n ⟨gp [(0,.fl 0),(0,pI q0),(5,.fnr (Fn.func 201) [] [.ptr 2 0 0,.ptr 1 0 0])] 31,[.arr z1 5 1 l2,.box [pI n3],.box [pI n4]],s⟩ k =
 Gn lf n q0 z1 l2 n3 n4 (λz0 l1 n2 n3=>k .ret ⟨gp [(6,.fl 0)] 32,[.arr z0 5 1 l1,.box [pI n2],.box [pI n3]],s⟩):=by
 induction n generalizing q0 z1 l2 n3 n4 with
 | zero=>rfl
 | succ n ih=>rw [Gn];simp only [<-ih];kernel_rfl
noncomputable def Cc4 {R:Type} (lf:Nat) (q b:Int) (z:Bool) (l:LL) (k0:Bool->LL->Int->Int->Option R):Option R:=Gn lf lf q z l b 0 (λz'9 l'10 n'11 n'12=>k0 z'9 l'10 n'11 n'12)
theorem Bx7 (d:Nat) (q b z l):evC (Ur lf) (d+1) σ yh 185 [.fl 0,pI q,pI b] [.arr z 5 1 l] s=Cc4 lf q b z l (λz0 l1 n2 n3=>some (.fl 0,[.arr z0 5 1 l1,.box [pI n2],.box [pI n3]],s)):=by
 refine (evE (fn:=Tryz.f185) (by kernel_rfl)).trans ?_
 generalize evC (Ur lf) d=cl
 unfold Cc4;exact (Eq.trans (by kernel_rfl) ((ZP lf cl yh s (F9 0 (G5 (Ur lf) Tryz.f185)) lf q z l b 0).trans (by kernel_rfl)))
noncomputable abbrev Da:Code:=D8 Tryz.f161
noncomputable def P3 (lf:Nat):Cfg:=C8 lf [161] (A4 [(29,[0,1,0,0,2,0,0,0,0,61,0,0]),(21,[0,1,0,0,2,0,0,0,0,0,38,0,0]),(17,[0,1,0,0,2,0,0,0,0]),(5,[0,1,0,0,15,0,0])]) [(184,Lh),(186,Lg)] (A4 [(40,[2,0]),(18,[0,3,2,0,0,0,0]),(39,[0,3,2,0,0,0,0]),(38,[0,3,2,0,0,0,0,61,0,0]),(32,[0,3,2,0,0,0,0,61,0,0]),(37,[0,3,2,0,0,0,0,61,0,0]),(36,[0,3,2,0,0,0,0,61,0,0]),(35,[0,3,2,0,1,0,61,0,0]),(34,[0,3,2,0,0,1,61,0,0]),(33,[0,3,2,0,0,0,0,61,0,0,9]),(31,[0,3,2,0,0,0,0,4,56,0,0,3]),(30,[0,3,2,0,0,0,0,4,56,0,0]),(29,[0,3,2,0,0,0,0,61,0,0,0]),(28,[0,3,2,0,0,0,0,61,0,0]),(27,[0,3,2,0,0,0,0]),(26,[0,3,2,1,0,0,0]),(25,[0,3,2,0,0,0,0,0,38,0,0]),(24,[0,3,2,0,0,0,0,0,38,0,0]),(23,[0,3,2,0,0,0,0,0,1,36,0,0,5]),(22,[0,3,2,0,0,0,0,0,1,36,0,0]),(21,[0,3,2,0,0,0,0,0,38,0,0,0]),(20,[0,3,2,0,0,0,0,0,38,0,0]),(19,[0,3,2,0,0,0,0,0]),(17,[0,3,2,0,0,0,0,36]),(16,[0,3,2,0,0,0,0]),(15,[0,3,2,0,0,0]),(14,[0,3,2]),(13,[0,3,2,32]),(12,[0,3,2]),(11,[0,3,15,0,0]),(10,[0,3,15,0,0]),(9,[0,3,1,13,0,0,7]),(8,[2,0]),(7,[0,3,1,13,0,0,5]),(6,[0,3,1,13,0,0]),(5,[0,3,15,0,0,0]),(4,[0,3,15,0,0]),(3,[0,3]),(2,[2,0]),(1,[0,18]),(0,[0])]) [184,186] (A4 [(2,[4]),(3,[0,3,2,0,0,0,0]),(6,[0,3,2,0,0,0,0]),(7,[0,3,2,0,0,0,0,61,0,0]),(8,[0,3,2,0,0,0,0,61,0,0]),(4,[0,3,2,0,0,0,0,0]),(5,[0,3,2,0,0,0,0,0,38,0,0]),(0,[0,3]),(1,[0,3,15,0,0])]) (some [2,0]) [(185,JI)] [] [185]
noncomputable def T0 {R:Type} (lf n:Nat) (points_z0 points_t1:Bool) (points2:LL) (n3 n4:Int) (l5:LL) (k0:LL->Option R) (k1:Bool->Bool->LL->LL->Option R):Option R:=match n with | 0=>none | n+1=>cond (ltI n4 n3) (cond (inR n4 points2.length) (cond (okE Il points2 (Int.toNat n4) 0) (vl (gE points2 (Int.toNat n4) 0) λn'1=>cond (not (ptI n'1)) (k0 l5) (cond (ltI n'1 128) (cond (F1 (l5.length+1)) (T0 lf n points_z0 points_t1 points2 n3 (A1 (n4+1)) (l5++[[(SV.int .u8 (wu8 n'1))]]) k0 k1) none) (T0 lf n points_z0 points_t1 points2 n3 (A1 (n4+1)) l5 k0 k1))) none) none) (k1 points_z0 points_t1 points2 l5)
theorem ZY (n points_z0 points_t1 points2 n3 n4 l5):E5 1 ((P3 lf).keep 5) (bd (P3 lf) cl yh (cd [1,1,1,0,1,0,0] Da)) n ⟨gp [(0,.s (.sl points_z0 points_t1 1 points2)),(3,.fl 0),(15,.s (.sl points_z0 points_t1 1 points2)),(0,pI n3),(0,pI n4)] 84,[.arr true 5 1 l5],s⟩ k =
 T0 lf n points_z0 points_t1 points2 n3 n4 l5 (λl0=>k .ret ⟨gp [(2,pS ([]:List UInt8)),(0,pI (2:Int))] 103,[.arr true 5 1 l0],s⟩) (λpoints_z0 points_t1 points2 l3=>k (.exit 0) ⟨gp [(0,.s (.sl points_z0 points_t1 1 points2)),(3,.fl 0)] 102,[.arr true 5 1 l3],s⟩):=by
 induction n generalizing points_z0 points_t1 points2 n3 n4 l5 with
 | zero=>rfl
 | succ n ih=>rw [T0];simp only [<-ih];kernel_rfl
noncomputable def Gq {R:Type} (lf n:Nat) (points_z0 points_t1:Bool) (points2:LL) (basic3 n4 delta5 bias6 done7 m8 n9 n10:Int) (l11:LL) (k0:Bool->Bool->LL->Int->Int->Int->Int->Int->Int->LL->Option R):Option R:=match n with | 0=>none | n+1=>cond (ltI n10 n9) (cond (inR n10 points2.length) (cond (okE Il points2 (Int.toNat n10) 0) (vl (gE points2 (Int.toNat n10) 0) λn'9=>cond (not (ltI n'9 n4)) (vl (if (n'9<m8) then n'9 else m8) λn'10=>Gq lf n points_z0 points_t1 points2 basic3 n4 delta5 bias6 done7 n'10 n9 (A1 (n10+1)) l11 k0) (Gq lf n points_z0 points_t1 points2 basic3 n4 delta5 bias6 done7 m8 n9 (A1 (n10+1)) l11 k0)) none) none) (k0 points_z0 points_t1 points2 basic3 n4 delta5 bias6 done7 m8 l11)
theorem ZZ (n points_z0 points_t1 points2 basic3 n4 delta5 bias6 done7 m8 n9 n10 l11):E5 1 ((P3 lf).keep 21) (bd (P3 lf) cl yh (cd [1,1,1,1,1,1,1,0,1,0,0,1,0,0,1,0,1,0,0] Da)) n ⟨gp [(0,.s (.sl points_z0 points_t1 1 points2)),(3,.fl 0),(2,pI basic3),(0,pI n4),(0,pI delta5),(0,pI bias6),(0,pI done7),(0,pI m8),(38,.s (.sl points_z0 points_t1 1 points2)),(0,pI n9),(0,pI n10)] 53,[.arr true 5 1 l11],s⟩ k =
 Gq lf n points_z0 points_t1 points2 basic3 n4 delta5 bias6 done7 m8 n9 n10 l11 (λpoints_z0 points_t1 points2 basic3 n4 delta5 bias6 done7 m8 l9=>k (.exit 4) ⟨gp [(0,.s (.sl points_z0 points_t1 1 points2)),(3,.fl 0),(2,pI basic3),(0,pI n4),(0,pI delta5),(0,pI bias6),(0,pI done7),(0,pI m8)] 94,[.arr true 5 1 l9],s⟩):=by
 induction n generalizing points_z0 points_t1 points2 basic3 n4 delta5 bias6 done7 m8 n9 n10 l11 with
 | zero=>rfl
 | succ n ih=>rw [Gq];simp only [<-ih];kernel_rfl
noncomputable def Au {R:Type} (lf n:Nat) (points_z0 points_t1:Bool) (points2:LL) (basic3 n4 delta5 bias6 done7 n8v n9:Int) (l10:LL) (k0:Bool->Bool->LL->Int->Int->Int->Int->Int->LL->Option R):Option R:=match n with | 0=>none | n+1=>cond (ltI n9 n8v) (cond (inR n9 points2.length) (cond (okE Il points2 (Int.toNat n9) 0) (vl (gE points2 (Int.toNat n9) 0) λn'26=>cond (ltI n'26 n4) (vl (A1 (delta5+1)) λn'27=>Au lf n points_z0 points_t1 points2 basic3 n4 n'27 bias6 done7 n8v (A1 (n9+1)) l10 k0) (cond (n'26==n4) (cond (ltN delta5 1152921504606846976) (cond (ltN bias6 1000000) (cond (Nat.ble l10.length 100000) (vl (List.append l10 (List.map E3 (O6 (Int.toNat delta5) 0 (Int.toNat bias6)))) λl'29=>vl (A1 (done7+1)) λn'30=>cond (ltN delta5 1152921504606846976) (cond (ltN n'30 1000000) (cond (ltI 0 n'30) (vl (↑(P2 (Int.toNat delta5) (Int.toNat n'30) (done7==basic3)):Int) λn'31=>vl (A1 (done7+1)) λn'32=>Au lf n points_z0 points_t1 points2 basic3 n4 0 n'31 n'32 n8v (A1 (n9+1)) l'29 k0) none) none) none) none) none) none) (Au lf n points_z0 points_t1 points2 basic3 n4 delta5 bias6 done7 n8v (A1 (n9+1)) l10 k0))) none) none) (k0 points_z0 points_t1 points2 basic3 n4 delta5 bias6 done7 l10)
theorem Aa0 (n points_z0 points_t1 points2 basic3 n4 delta5 bias6 done7 n8v n9 l10):E5 1 ((P3 lf).keep 29) (bd (P3 lf) cl yh (cd [1,1,1,1,1,1,1,0,1,0,0,1,0,0,1,1,1,1,0,1,0,0] Da)) n ⟨gp [(0,.s (.sl points_z0 points_t1 1 points2)),(3,.fl 0),(2,pI basic3),(0,pI n4),(0,pI delta5),(0,pI bias6),(0,pI done7),(61,.s (.sl points_z0 points_t1 1 points2)),(0,pI n8v),(0,pI n9)] 31,[.arr true 5 1 l10],s⟩ k =
 Au lf n points_z0 points_t1 points2 basic3 n4 delta5 bias6 done7 n8v n9 l10 (λpoints_z0 points_t1 points2 basic3 n4 delta5 bias6 done7 l8=>k (.exit 6) ⟨gp [(0,.s (.sl points_z0 points_t1 1 points2)),(3,.fl 0),(2,pI basic3),(0,pI n4),(0,pI delta5),(0,pI bias6),(0,pI done7)] 95,[.arr true 5 1 l8],s⟩):=by
 induction n generalizing points_z0 points_t1 points2 basic3 n4 delta5 bias6 done7 n8v n9 l10 with
 | zero=>rfl
 | succ n ih=>rw [Au];simp only [<-ih];kernel_rfl
noncomputable def Dq {R:Type} (lf n:Nat) (points_z0 points_t1:Bool) (points2:LL) (basic3 n4 delta5 bias6 done7:Int) (l8:LL) (k0:LL->Option R):Option R:=match n with | 0=>none | n+1=>cond (ltI done7 (points2.length:Int)) (Gq lf lf points_z0 points_t1 points2 basic3 n4 delta5 bias6 done7 1114112 (points2.length:Int) 0 l8 (λpoints_z'11 points_t'12 points'13 basic'14 n'15 delta'16 bias'17 done'18 m'19 l'20=>vl (A1 (done'18+1)) λn'23=>vl (A1 ((A1 (m'19-n'15))*n'23)) λn'24=>Au lf lf points_z'11 points_t'12 points'13 basic'14 m'19 (A1 (delta'16+n'24)) bias'17 done'18 (points'13.length:Int) 0 l'20 (λpoints_z'33 points_t'34 points'35 basic'36 n'37 delta'38 bias'39 done'40 l'41=>vl (A1 (delta'38+1)) λn'42=>vl (A1 (n'37+1)) λn'43=>Dq lf n points_z'33 points_t'34 points'35 basic'36 n'43 n'42 bias'39 done'40 l'41 k0))) (k0 l8)
theorem CN (n points_z0 points_t1 points2 basic3 n4 delta5 bias6 done7 l8):E5 1 ((P3 lf).keep 17) (bd (P3 lf) cl yh (cd [1,1,1,1,1,1,1,0,1,0,0] Da)) n ⟨gp [(0,.s (.sl points_z0 points_t1 1 points2)),(3,.fl 0),(2,pI basic3),(0,pI n4),(0,pI delta5),(0,pI bias6),(0,pI done7)] 95,[.arr true 5 1 l8],s⟩ k =
 Dq lf n points_z0 points_t1 points2 basic3 n4 delta5 bias6 done7 l8 (λl0=>k (.exit 2) ⟨gp [(4,.fl 0)] 102,[.arr true 5 1 l0],s⟩):=by
 induction n generalizing points_z0 points_t1 points2 basic3 n4 delta5 bias6 done7 l8 with
 | zero=>rfl
 | succ n ih=>rw [Dq];exact (Eq.trans (by kernel_rfl) (A0 ((ZZ lf cl yh s (F9 4 (G1 (P3 lf) cl yh (cd [1,1,1,1,1,1,1,0,1,0,0,1,0,0,1,1] Da) (F9 3 (G1 (P3 lf) cl yh (cd [1,1,1,1,1,1,1,0,1,0,0,1,1] Da) (lpK 1 ((P3 lf).keep 17) (bd (P3 lf) cl yh (cd [1,1,1,1,1,1,1,0,1,0,0] Da)) n k))))) lf points_z0 points_t1 points2 basic3 n4 delta5 bias6 done7 1114112 (points2.length:Int) 0 l8).trans (congr rfl (Bs9 λpoints_z'11 points_t'12 points'13 basic'14 n'15 delta'16 bias'17 done'18 m'19 l'20=>(Eq.trans (by kernel_rfl) (A6 λn'23=>(A6 λn'24=>((Aa0 lf cl yh s (F9 6 (G1 (P3 lf) cl yh (cd [1,1,1,1,1,1,1,0,1,0,0,1,0,0,1,1,1,1,1] Da) (F9 3 (G1 (P3 lf) cl yh (cd [1,1,1,1,1,1,1,0,1,0,0,1,1] Da) (lpK 1 ((P3 lf).keep 17) (bd (P3 lf) cl yh (cd [1,1,1,1,1,1,1,0,1,0,0] Da)) n k))))) lf points_z'11 points_t'12 points'13 basic'14 m'19 (A1 (delta'16+n'24)) bias'17 done'18 (points'13.length:Int) 0 l'20).trans (congr rfl (fx9 λpoints_z'33 points_t'34 points'35 basic'36 n'37 delta'38 bias'39 done'40 l'41=>(Eq.trans (by kernel_rfl) (A6 λn'42=>(A6 λn'43=>(ih points_z'33 points_t'34 points'35 basic'36 n'43 n'42 bias'39 done'40 l'41))))))))))))) rfl))
noncomputable def RT {R:Type} (lf:Nat) (p_z p_t:Bool) (p:LL) (k0:Unit->Option R) (k1:By->Int->LL->Option R):Option R:=cond (ltI 256 (p.length:Int)) (k0 ()) (T0 lf lf p_z p_t p (p.length:Int) 0 [] (λl'2=>k1 ([]:List UInt8) 2 l'2) (λpoints_z'3 points_t'4 points'5 l'6=>vl (l'6.length:Int) λn'8=>cond (ltI 0 n'8) (cond (F1 (l'6.length+1)) (Dq lf lf points_z'3 points_t'4 points'5 n'8 128 0 72 n'8 (l'6++[[(SV.int .u8 (45:Int))]]) (λl'44=>cond (List.all l'44 Lt) (k1 (List.map Lc l'44) 0 l'44) none)) none) (Dq lf lf points_z'3 points_t'4 points'5 n'8 128 0 72 n'8 l'6 (λl'45=>cond (List.all l'45 Lt) (k1 (List.map Lc l'45) 0 l'45) none))))
theorem By5 (d:Nat) (p_z p_t p):evC (P3 lf) (d+1) σ yh 161 [.s (.sl p_z p_t 1 p)] [] s=RT lf p_z p_t p (λ_=>some (.tup [pS ([]:List UInt8),pI (3:Int)],[],s)) (λr0 r1 l2=>some (.tup [pS r0,pI r1],[.arr true 5 1 l2],s)):=by
 refine (evE (fn:=Tryz.f161) (by kernel_rfl)).trans ?_
 generalize evC (P3 lf) d=cl
 unfold RT;exact let K0:=(F9 2 (G1 (P3 lf) cl yh (cd [1,1,1,1,1,1,1,1] Da) (G5 (P3 lf) Tryz.f161)));(Eq.trans (by kernel_rfl) (A0 rfl ((ZY lf cl yh s (F9 0 (G1 (P3 lf) cl yh (cd [1,1,1,1] Da) (G5 (P3 lf) Tryz.f161))) lf p_z p_t p (p.length:Int) 0 []).trans (congr (congr rfl (by kernel_rfl)) (fx4 λpoints_z'3 points_t'4 points'5 l'6=>(Eq.trans (by kernel_rfl) (A6 λn'8=>(A0 (A0 ((CN lf cl yh s K0 lf points_z'3 points_t'4 points'5 n'8 128 0 72 n'8 (l'6++[[(SV.int .u8 (45:Int))]])).trans (by kernel_rfl)) rfl) ((CN lf cl yh s K0 lf points_z'3 points_t'4 points'5 n'8 128 0 72 n'8 l'6).trans (by kernel_rfl))))))))))
end
theorem Tc (k b:Nat):K9 ((36*k:Nat):Int) (b:Int)=(thr k b:Int):=by
 unfold K9 thr
 omega
theorem A14 {R:Type} {k0:Int->Option R} (b:Int):Cc6 LF b k0=k0 b:=rfl
theorem Aa5 {R:Type} {k0:Int->Int->Int->Option R} (k b:Int) (h0:ltN k 1000000000000=true) (h1:ltN b 1000000=true):Ar8 LF k b k0=k0 (K9 k b) (Int.add k 36) b:=by
 obtain ⟨a0,a1⟩:=L8.1 h0
 obtain ⟨b0,b1⟩:=L8.1 h1
 unfold Ar8
 have e1:A1 (k+36)=k+36:=A5
 have e2:A1 (k+36-b)=k+36-b:=A5
 simp only [vl,e1,e2]
 have:(if (26:Int)<(if (1:Int) > k+36-b then (1:Int) else k+36-b) then (26:Int) else (if (1:Int) > k+36-b then (1:Int) else k+36-b))=K9 k b:=by
  unfold K9
  omega
 grind
theorem Na {q k b:Nat} (h:q<thr k b):O6 q k b=[Y8 q]:=by rw [O6,dif_pos h]
theorem Ux {q k b:Nat} (h:¬ q<thr k b):O6 q k b=Y8 (thr k b+(q-thr k b) % (36-thr k b))::O6 ((q-thr k b) / (36-thr k b)) (k+1) b:=by rw [O6,dif_neg h]
theorem LT {x y m:Nat} (hy:10<=y) (h:x<10*m):x / y<m:=by
 have h1:x / y<=x / 10:=Nat.div_le_div_left hy (by omega)
 omega
theorem XP (b:Nat):∀ (r q k:Nat),q<10 ^ r->(O6 q k b).length<=r+1:=by
 intro r
 induction r with
 | zero=>
  intro q k h
  have ht:=U1 k b
  rw [Na (by simp at h;omega)]
  simp
 | succ r ih=>
  intro q k h
  have ht:=U1 k b
  by_cases hq:q<thr k b
  ·rw [Na hq];simp
  ·rw [Ux hq,List.length_cons]
   have:=ih ((q-thr k b) / (36-thr k b)) (k+1) (LT (by omega) (by rw [Nat.pow_succ] at h;omega))
   omega
theorem A02 (z:Bool) (b:Nat) (hb:b<1000000):∀ (r q k n:Nat) (l:LL),q<10 ^ r->q<1152921504606846976->k+r<=1000->r<n->l.length+r<=200000->
  ∃ (n2 n3:Int),∀ (R:Type) (k0:Bool->LL->Int->Int->Option R),Gn LF n (q:Int) z l (b:Int) ((36*k:Nat):Int) k0=k0 z (l++(O6 q k b).map E3) n2 n3:=by
 have fin:∀ (q k n:Nat) (l:LL),q<thr k b->k<=1000->l.length<=200000->∃ (n2 n3:Int),∀ (R:Type) (k0:Bool->LL->Int->Int->Option R),Gn LF (n+1) (q:Int) z l (b:Int) ((36*k:Nat):Int) k0=k0 z (l++(O6 q k b).map E3) n2 n3:=by
  intro q k n l hq hk hl
  have ht:=U1 k b
  refine ⟨(b:Int),Int.add ((36*k:Nat):Int) 36,λR k0=>?_⟩
  rw [Gn]
  rw [N4,N4,Tc,A8,N4,Na hq]
  simp only [vl,cond_true,Int.toNat_natCast]
  rw [E0 (by omega)]
  rfl
 intro r
 induction r with
 | zero=>
  intro q k n l h _ hk hn hl
  have ht:=U1 k b
  obtain ⟨n,rfl⟩:∃ m,n=m+1:=⟨n-1,by omega⟩
  exact fin q k n l (by simp at h;omega) (by omega) (by omega)
 | succ r ih=>
  intro q k n l h hq60 hk hn hl
  have ht:=U1 k b
  obtain ⟨n,rfl⟩:∃ m,n=m+1:=⟨n-1,by omega⟩
  by_cases hq:q<thr k b
  ·exact fin q k n l hq (by omega) (by omega)
  ·have hd:(q-thr k b) / (36-thr k b)<10 ^ r:=LT (by omega) (by rw [Nat.pow_succ] at h;omega)
   have hd2:(q-thr k b) / (36-thr k b)<=q:=Nat.le_trans (Nat.div_le_self _ _) (by omega)
   have hm2:(q-thr k b) % (36-thr k b)<36-thr k b:=Nat.mod_lt _ (by omega)
   obtain ⟨n2,n3,e⟩:=ih ((q-thr k b) / (36-thr k b)) (k+1) n (l++[E3 (Y8 (thr k b+(q-thr k b) % (36-thr k b)))]) hd (by omega) (by omega) (by omega) (by rw [List.length_append,List.length_singleton];omega)
   refine ⟨n2,n3,λR k0=>?_⟩
   rw [Gn]
   have c1:A1 ((q:Int)-(thr k b:Int))=((q-thr k b:Nat):Int):=by rw [A5];omega
   have c2:A1 ((36:Int)-(thr k b:Int))=((36-thr k b:Nat):Int):=by rw [A5];omega
   have c3:Int.tmod ((q-thr k b:Nat):Int) ((36-thr k b:Nat):Int)=(((q-thr k b) % (36-thr k b):Nat):Int):=Fx _ _
   have c4:Int.tdiv ((q-thr k b:Nat):Int) ((36-thr k b:Nat):Int)=(((q-thr k b) / (36-thr k b):Nat):Int):=L9 _ _
   have c7:((((36-thr k b:Nat):Int)) != 0)=true:=by rw [bne_iff_ne];omega
   rw [N4,N4,Tc,A7]
   simp only [vl,c1,c2,c3,c4,c7,cond_true,cond_false]
   rw [Ux hq]
   generalize hA:(q-thr k b) / (36-thr k b)=A at *
   generalize hB:(q-thr k b) % (36-thr k b)=B at *
   have c5:A1 ((thr k b:Int)+(B:Int))=((thr k b+B:Nat):Int):=by rw [A5];rfl
   have c6:A1 (A:Int)=(A:Int):=A5
   rw [c5,c6,N4,E0 (by omega),Int.toNat_natCast,show Int.add ((36*k:Nat):Int) 36=((36*(k+1):Nat):Int) from (by show ((36*k:Nat):Int)+36=_;omega)]
   refine Eq.trans (e R k0) ?_
   simp [List.append_assoc]
theorem A03 (q b:Int) (z:Bool) (l:LL) (h0:ltN q 1152921504606846976=true) (h1:ltN b 1000000=true) (h2:Nat.ble l.length 100000=true) :
  ∃ (n2 n3:Int),∀ (R:Type) (k0:Bool->LL->Int->Int->Option R),Cc4 LF q b z l k0=k0 z (List.append l ((O6 q.toNat 0 b.toNat).map E3)) n2 n3:=by
 obtain ⟨a0,a1⟩:=L8.1 h0
 obtain ⟨b0,b1⟩:=L8.1 h1
 obtain ⟨q,rfl⟩:=Int.eq_ofNat_of_zero_le a0
 obtain ⟨b,rfl⟩:=Int.eq_ofNat_of_zero_le b0
 have hl:=Nat.le_of_ble_eq_true h2
 have hLF:=D7
 obtain ⟨n2,n3,e⟩:=A02 z b (by omega) 19 q 0 LF l (by omega) (by omega) (by omega) (by omega) (by omega)
 exact ⟨n2,n3,λR k0=>e R _⟩
def Z4 (l:List Int):LL:=l.map λx=>[SV.int .i64 x]
def C1 (l:List Nat):LL:=l.map λx:Nat=>[SV.int .i64 (x:Int)]
theorem Nd (l:List Nat):Z4 (l.map λn:Nat=>(n:Int))=C1 l:=by simp [Z4,C1,Function.comp_def]
theorem T5 (l:List Int):(Z4 l).length=l.length:=by simp [Z4]
theorem D2 (l:List Nat):(C1 l).length=l.length:=by simp [C1]
theorem Ig (a b:List Nat):C1 (a++b)=C1 a++C1 b:=by simp [C1]
theorem MO {l:List Int} {i:Nat} (h:i<l.length):okE Il (Z4 l) i 0=true:=by
 unfold okE Z4 Il
 simp [List.getD_eq_getElem?_getD,h,okS,SV.has]
theorem XT (l:List Int) (i:Nat) (h:i<l.length):gE (Z4 l) i 0=l.getD i 0:=by
 unfold gE gC Z4
 simp [List.getD_eq_getElem?_getD,List.getElem?_eq_getElem h,SV.gI]
theorem Nf {l:List Nat} {i:Nat} (h:i<l.length):okE Il (C1 l) i 0=true:=by
 rw [<-Nd];exact MO (by simpa using h)
theorem Vd (l:List Nat) (i:Nat) (h:i<l.length):gE (C1 l) i 0=(l.getD i 0:Int):=by
 rw [<-Nd,XT _ _ (by simpa using h)]
 grind
theorem Ap3 {l:LL} (h:l.all Kv=true):∃ P:List Int,l=Z4 P:=by
 induction l with
 | nil=>exact ⟨[],rfl⟩
 | cons x r ih=>
  simp only [List.all_cons,Bool.and_eq_true] at h
  obtain ⟨P,rfl⟩:=ih h.2
  have hx:=h.1
  unfold Kv at hx
  split at hx
  ·rename_i n
   exact ⟨n::P,rfl⟩
  ·cases hx
theorem PX (P:List Int):(Z4 P).map elI=P:=by
 unfold Z4
 rw [List.map_map]
 conv=>rhs;rw [<-List.map_id P]
 apply List.map_congr_left
 intro x _
 simp [elI,SV.gI]
theorem PW (l:List Int) (i:Nat) (h:i<l.length):l.drop i=l.getD i 0::l.drop (i+1):=by simp_all
theorem Qq (l:List Nat) (i:Nat) (h:i<l.length):l.drop i=l.getD i 0::l.drop (i+1):=by simp_all
theorem Bq5:∀ (r d k:Nat),d<456*35 ^ r->Ug d k<=k+36*r+36:=by
 intro r
 induction r with
 | zero=>
  intro d k h
  rw [Ot (by simp at h;omega)]
  have:36*d / (d+38)<=36:=by
   apply Nat.div_le_of_le_mul
   omega
  omega
 | succ r ih=>
  intro d k h
  by_cases hd:455<d
  ·rw [Zx hd]
   grind
  grind
theorem Lj (d c:Nat) (f:Bool) (h:d<1152921504606846976):P2 d c f<=500:=by
 unfold P2
 have hx:∀ x:Nat,x<=d->Ug (x+x / c) 0<=500:=by
  intro x hx
  have:=Nat.div_le_self x c
  have:=Bq5 11 (x+x / c) 0 (by omega)
  omega
 grind
theorem FR {q k b:Nat} (h:q<1152921504606846976):(O6 q k b).length<=20:=XP b 19 q k (by omega)
theorem Ar6 (z t:Bool) (pts:List Nat) (basic m:Nat) (hm:m<=1114112) (hl:pts.length<=256):∀ (r i n:Nat) (s:IC),i+r=pts.length->r<n->s.delta+r<=1000000000000->s.bias<=500->s.out.length+20*r<=90000->s.done+r<=1000->basic<=256->
  (∀ (R:Type) (k0:Bool->Bool->LL->Int->Int->Int->Int->Int->LL->Option R),Au LF n z t (C1 pts) (basic:Int) (m:Int) (s.delta:Int) (s.bias:Int) (s.done:Int) (pts.length:Int) (i:Int) (s.out.map E3) k0 =
   k0 z t (C1 pts) (basic:Int) (m:Int) ((I1 m basic (pts.drop i) s).delta:Int) ((I1 m basic (pts.drop i) s).bias:Int) ((I1 m basic (pts.drop i) s).done:Int) ((I1 m basic (pts.drop i) s).out.map E3))/\
  (I1 m basic (pts.drop i) s).bias<=500/\(I1 m basic (pts.drop i) s).out.length<=s.out.length+20*(pts.drop i).countP (· == m)/\(I1 m basic (pts.drop i) s).done=s.done+(pts.drop i).countP (· == m)/\
  (I1 m basic (pts.drop i) s).delta<=(if 0<(pts.drop i).countP (· == m) then r else s.delta+r):=by
 intro r
 induction r with
 | zero=>
  intro i n s hi hn h1 h2 h3 h4 hb
  obtain ⟨n,rfl⟩:∃ m,n=m+1:=⟨n-1,by omega⟩
  rw [List.drop_of_length_le (by omega)]
  refine ⟨λR k0=>?_,h2,by simp [I1],by simp [I1],by simp [I1]⟩
  rw [Au]
  rw [A7]
  rfl
 | succ r ih=>
  intro i n s hi hn h1 h2 h3 h4 hb
  obtain ⟨n,rfl⟩:∃ m,n=m+1:=⟨n-1,by omega⟩
  rw [Qq pts i (by omega)]
  have hg:=Vd pts i (by omega)
  have ok:=Nf (l:=pts) (i:=i) (by omega)
  generalize pts.getD i 0=p at *
  have e1:A1 ((i:Int)+1)=((i+1:Nat):Int):=by rw [A5];rfl
  have e2:A1 ((s.delta:Int)+1)=((s.delta+1:Nat):Int):=by rw [A5];rfl
  have e3:A1 ((s.done:Int)+1)=((s.done+1:Nat):Int):=by rw [A5];rfl
  by_cases hp:p<m
  ·have hne:(p==m)=false:=by rw [beq_eq_false_iff_ne];omega
   have hs:I1 m basic (p::pts.drop (i+1)) s=I1 m basic (pts.drop (i+1)) { s with delta:=s.delta+1 }:=by rw [I1,if_pos hp]
   obtain ⟨q1,q2,q3,q4,q5⟩:=ih (i+1) n { s with delta:=s.delta+1 } (by omega) (by omega) (by simp only;omega) h2 (by simp only;omega) (by simp only;omega) hb
   rw [hs,List.countP_cons_of_neg (by rw [hne];simp)]
   refine ⟨λR k0=>?_,q2,q3,q4,?_⟩
   ·rw [Au]
    rw [A8,D2,I6,Int.toNat_natCast,ok]
    simp only [cond_true,vl,hg,e1,e2]
    rw [A8,cond_true]
    exact q1 R k0
   ·simp only at q5
    split at q5<;>split<;>omega
  ·by_cases hq:p=m
   ·subst hq
    have hn20:=FR (q:=s.delta) (k:=0) (b:=s.bias) (by omega)
    have had:=Lj s.delta (s.done+1) (s.done==basic) (by omega)
    have hs:I1 p basic (p::pts.drop (i+1)) s=I1 p basic (pts.drop (i+1)) { delta:=0,bias:=P2 s.delta (s.done+1) (s.done==basic),done:=s.done+1,out:=s.out++O6 s.delta 0 s.bias }:=by rw [I1,if_neg hp,if_pos rfl]
    obtain ⟨q1,q2,q3,q4,q5⟩:=ih (i+1) n { delta:=0,bias:=P2 s.delta (s.done+1) (s.done==basic),done:=s.done+1,out:=s.out++O6 s.delta 0 s.bias } (by omega) (by omega) (by simp only;omega) had (by simp only [List.length_append];omega) (by simp only;omega) hb
    rw [hs,List.countP_cons_of_pos (by simp)]
    refine ⟨λR k0=>?_,q2,?_,?_,?_⟩
    ·rw [Au]
     have hbeq:((s.done:Int)==(basic:Int))=(s.done==basic):=by grind
     rw [A8,D2,I6,Int.toNat_natCast,ok]
     simp only [cond_true,vl,hg,e1,e3]
     rw [A7,cond_false,beq_self_eq_true,cond_true,N4,N4,List.length_map,Nat.ble_eq_true_of_le (show s.out.length<=100000 by omega),N4,A8,hbeq]
     simp only [cond_true,Int.toNat_natCast]
     have hrow:List.append (s.out.map E3) ((O6 s.delta 0 s.bias).map E3)=(s.out++O6 s.delta 0 s.bias).map E3:=by rw [List.map_append];rfl
     rw [hrow]
     exact q1 R k0
    ·simp only [List.length_append] at q3;omega
    ·simp only at q4;omega
    ·simp only at q5
     rw [V7]
     split at q5<;>omega
   ·have hne:(p==m)=false:=by rw [beq_eq_false_iff_ne];omega
    have hs:I1 m basic (p::pts.drop (i+1)) s=I1 m basic (pts.drop (i+1)) s:=by rw [I1,if_neg hp,if_neg hq]
    obtain ⟨q1,q2,q3,q4,q5⟩:=ih (i+1) n s (by omega) (by omega) (by omega) h2 (by omega) (by omega) hb
    rw [hs,List.countP_cons_of_neg (by rw [hne];simp)]
    refine ⟨λR k0=>?_,q2,q3,q4,?_⟩
    ·rw [Au]
     rw [A8,D2,I6,Int.toNat_natCast,ok]
     simp only [cond_true,vl,hg,e1]
     rw [A7,cond_false,show ((p:Int)==(m:Int))=false by rw [beq_eq_false_iff_ne];omega,cond_false]
     exact q1 R k0
    ·split at q5<;>split<;>omega
theorem Aa1 {R:Type} {k0:Bool->Bool->LL->Int->Int->Int->Int->Int->Int->LL->Option R} (z t:Bool) (pts:List Nat) (hl:pts.length<=256) (n0:Nat) (basic delta bias done:Int) (l:LL):∀ (r i n m:Nat),i+r=pts.length->r<n->
  Gq LF n z t (C1 pts) basic (n0:Int) delta bias done (m:Int) (pts.length:Int) (i:Int) l k0=k0 z t (C1 pts) basic (n0:Int) delta bias done ((H9 n0 (pts.drop i) m:Nat):Int) l:=by
 intro r
 induction r with
 | zero=>
  intro i n m hi hn
  obtain ⟨n,rfl⟩:∃ m,n=m+1:=⟨n-1,by omega⟩
  rw [Gq]
  rw [A7,List.drop_of_length_le (by omega)]
  rfl
 | succ r ih=>
  intro i n m hi hn
  obtain ⟨n,rfl⟩:∃ m,n=m+1:=⟨n-1,by omega⟩
  have hg:=Vd pts i (by omega)
  have ok:=Nf (l:=pts) (i:=i) (by omega)
  rw [Gq,Qq pts i (by omega)]
  generalize pts.getD i 0=p at *
  have e1:A1 ((i:Int)+1)=((i+1:Nat):Int):=by rw [A5];rfl
  rw [A8,D2,I6,Int.toNat_natCast,ok]
  simp only [cond_true,vl,hg,e1,H9]
  by_cases h:n0<=p
  ·rw [if_pos h,A7,Bool.not_false,cond_true]
   have:(if (p:Int)<(m:Int) then (p:Int) else (m:Int))=((min m p:Nat):Int):=by split<;>omega
   rw [this]
   exact ih (i+1) n (min m p) (by omega) (by omega)
  ·rw [if_neg h,A8,Bool.not_true,cond_false]
   exact ih (i+1) n m (by omega) (by omega)
theorem Ct (n:Nat):∀ (l:List Nat) (m:Nat),(H9 n l m=m\/(H9 n l m∈l/\n<=H9 n l m))/\H9 n l m<=m/\∀ p∈l,n<=p->H9 n l m<=p
 | [],m=>⟨.inl rfl,Nat.le_refl _,λp h=>by cases h⟩
 | q::r,m=>by
  obtain ⟨h1,h2,h3⟩:=Ct n r (if n<=q then min m q else m)
  simp only [H9]
  grind
theorem Qj {n m:Nat} (hnm:n<=m):∀ l:List Nat,(∀ p∈l,n<=p->m<=p)->l.countP (λp=>decide (p<m+1))=l.countP (λp=>decide (p<n))+l.countP (· == m)
 | [],_=>rfl
 | p::l,h=>by
  have ih:=Qj hnm l (λq hq=>h q (List.mem_cons_of_mem _ hq))
  have hp:=h p List.mem_cons_self
  grind
theorem XD {n:Nat} {l:List Nat} (h:l.countP (λp=>decide (p<n))<l.length):∃ p∈l,n<=p:=by
 apply Classical.byContradiction
 intro hc
 have:l.countP (λp=>decide (p<n))=l.length:=by simp_all
 omega
theorem Bh1 (z t:Bool) (pts:List Nat) (basic:Nat) (hl:pts.length<=256) (hb:basic<=256) (hall:∀ p∈pts,p<=1114111):∀ (f n n':Nat) (s:IC),s.done=pts.countP (λp=>decide (p<n))->pts.length<=s.done+f->f<n'->s.delta<=300->s.bias<=500->s.out.length+20*(pts.length-s.done)<=80000->n<=1114112->
  ∀ (R:Type) (k0:LL->Option R),Dq LF n' z t (C1 pts) (basic:Int) (n:Int) (s.delta:Int) (s.bias:Int) (s.done:Int) (s.out.map E3) k0=k0 ((Q1 pts basic f n s).out.map E3):=by
 intro f
 have hLF:=D7
 induction f with
 | zero=>
  intro n n' s hd hf hn h1 h2 h3 h4 R k0
  obtain ⟨n',rfl⟩:∃ m,n'=m+1:=⟨n'-1,by omega⟩
  rw [Dq]
  rw [D2,A7]
  rfl
 | succ f ih=>
  intro n n' s hd hf hn h1 h2 h3 h4 R k0
  obtain ⟨n',rfl⟩:∃ m,n'=m+1:=⟨n'-1,by omega⟩
  rw [Dq]
  rw [D2]
  have hcl:pts.countP (λp=>decide (p<n))<=pts.length:=List.countP_le_length
  by_cases hlt:s.done<pts.length
  ·obtain ⟨p0,hp0,hp1⟩:=XD (n:=n) (l:=pts) (by omega)
   obtain ⟨g1,g2,g3⟩:=Ct n pts 1114112
   have g4:=g3 p0 hp0 hp1
   have g5:=hall p0 hp0
   have hmem:H9 n pts 1114112∈pts/\n<=H9 n pts 1114112:=by grind
   have he:Q1 pts basic (f+1) n s=Q1 pts basic f (H9 n pts 1114112+1) { I1 (H9 n pts 1114112) basic pts { s with delta:=s.delta+(H9 n pts 1114112-n)*(s.done+1) } with delta:=(I1 (H9 n pts 1114112) basic pts { s with delta:=s.delta+(H9 n pts 1114112-n)*(s.done+1) }).delta+1 }:=by
    rw [Q1,if_pos hlt]
   rw [he,A8,cond_true]
   have hleast:=λ(K:Bool->Bool->LL->Int->Int->Int->Int->Int->Int->LL->Option R)=>Aa1 (k0:=K) z t pts hl n (basic:Int) (s.delta:Int) (s.bias:Int) (s.done:Int) (s.out.map E3) pts.length 0 LF 1114112 (by omega) (by omega)
   rw [List.drop_zero] at hleast
   refine Eq.trans (hleast _) ?_
   generalize H9 n pts 1114112=m at *
   have hmul:(m-n)*(s.done+1)<=1114112*256:=Nat.mul_le_mul (by omega) (by omega)
   have e1:A1 ((s.done:Int)+1)=((s.done+1:Nat):Int):=by rw [A5];rfl
   have e2:A1 ((m:Int)-(n:Int))=((m-n:Nat):Int):=by rw [A5];omega
   have e3:A1 (((m-n:Nat):Int)*((s.done+1:Nat):Int))=(((m-n)*(s.done+1):Nat):Int):=by
    rw [<-Int.natCast_mul]
    exact A5
   have e4:A1 ((s.delta:Int)+(((m-n)*(s.done+1):Nat):Int))=((s.delta+(m-n)*(s.done+1):Nat):Int):=by
    rw [A5];rfl
   simp only [vl,e1,e2,e3,e4]
   have hin:=Ar6 z t pts basic m (by omega) hl pts.length 0 LF { s with delta:=s.delta+(m-n)*(s.done+1) } (by omega) (by omega) (by simp only;omega) h2 (by simp only;omega) (by simp only;omega) hb
   rw [List.drop_zero] at hin
   obtain ⟨q1,q2,q3,q4,q5⟩:=hin
   rw [D2]
   refine Eq.trans (q1 R _) ?_
   have hcnt:0<pts.countP (· == m):=List.countP_pos_iff.2 ⟨m,hmem.1,by simp⟩
   rw [if_pos hcnt] at q5
   have hstep:=Qj hmem.2 pts g3
   generalize I1 m basic pts { s with delta:=s.delta+(m-n)*(s.done+1) } = s' at *
   simp only at q3 q4
   have e5:A1 ((s'.delta:Int)+1)=((s'.delta+1:Nat):Int):=by rw [A5];rfl
   have e6:A1 ((m:Int)+1)=((m+1:Nat):Int):=by rw [A5];rfl
   have hcl2:pts.countP (λp=>decide (p<m+1))<=pts.length:=List.countP_le_length
   simp only [e5,e6]
   exact ih (m+1) n' { s' with delta:=s'.delta+1 } (by simp only;omega) (by simp only;omega) (by omega) (by simp only;omega) q2 (by simp only;omega) (by omega) R k0
  ·rw [A7]
   rw [Q1,if_neg hlt]
   rfl
def U2 (l:List Int):By:=(l.filter λx=>decide (x<128)).map λx=>UInt8.ofNat x.toNat
theorem Bm6 (x:Int) (h0:0<=x) (h:x<128):[SV.int .u8 (wu8 x)]=E3 (UInt8.ofNat x.toNat):=by
 unfold E3
 have e:wu8 x=x:=by unfold wu8;exact Int.emod_eq_of_lt h0 (show x<256 by omega)
 rw [e]
 have:((UInt8.ofNat x.toNat).toNat:Int)=x:=by simp;omega
 rw [this]
theorem Pr {x:Int} (h:ptI x=true):0<=x/\x<=1114111:=by
 cases x with
 | negSucc m=>cases h
 | ofNat m=>
  have:T7 m=true:=h
  unfold T7 at this
  simp only [Bool.and_eq_true,Nat.ble_eq] at this
  grind
theorem ZW (z t:Bool) (P:List Int) (hl:P.length<=256):∀ (r i n:Nat) (out:By),i+r=P.length->r<n->out.length+r<=1000->
  ((P.drop i).all ptI=true->∀ (R:Type) (k0:LL->Option R) (k1:Bool->Bool->LL->LL->Option R),T0 LF n z t (Z4 P) (P.length:Int) (i:Int) (out.map E3) k0 k1=k1 z t (Z4 P) ((out++U2 (P.drop i)).map E3))/\
  ((P.drop i).all ptI=false->∃ l,∀ (R:Type) (k0:LL->Option R) (k1:Bool->Bool->LL->LL->Option R),T0 LF n z t (Z4 P) (P.length:Int) (i:Int) (out.map E3) k0 k1=k0 l):=by
 intro r
 induction r with
 | zero=>
  intro i n out hi hn ho
  obtain ⟨n,rfl⟩:∃ m,n=m+1:=⟨n-1,by omega⟩
  rw [List.drop_of_length_le (by omega)]
  refine ⟨λ_ R k0 k1=>?_,λh=>(by cases h)⟩
  rw [T0]
  rw [A7]
  simp [U2]
 | succ r ih=>
  intro i n out hi hn ho
  obtain ⟨n,rfl⟩:∃ m,n=m+1:=⟨n-1,by omega⟩
  have hg:=XT P i (by omega)
  have ok:=MO (l:=P) (i:=i) (by omega)
  rw [PW P i (by omega)]
  generalize P.getD i 0=x at *
  have e1:A1 ((i:Int)+1)=((i+1:Nat):Int):=by rw [A5];rfl
  cases hx:ptI x with
  | false=>
   refine ⟨λh=>?_,λ_=>⟨out.map E3,λR k0 k1=>?_⟩⟩
   ·rw [List.all_cons,hx] at h;cases h
   ·rw [T0]
    rw [A8,T5,I6,Int.toNat_natCast,ok]
    simp only [cond_true,vl,hg,hx,Bool.not_false]
  | true=>
   obtain ⟨p0,p1⟩:=Pr hx
   rw [List.all_cons,hx,Bool.true_and]
   by_cases h128:x<128
   ·have hbs:U2 (x::P.drop (i+1))=UInt8.ofNat x.toNat::U2 (P.drop (i+1)):=by
     unfold U2;rw [List.filter_cons_of_pos (by simpa using h128)];rfl
    have hrow:out.map E3++[[SV.int .u8 (wu8 x)]]=(out++[UInt8.ofNat x.toNat]).map E3:=by rw [Bm6 x p0 h128];simp
    obtain ⟨q1,q2⟩:=ih (i+1) n (out++[UInt8.ofNat x.toNat]) (by omega) (by omega) (by simp;omega)
    have step:∀ (R:Type) (k0:LL->Option R) (k1:Bool->Bool->LL->LL->Option R),T0 LF (n+1) z t (Z4 P) (P.length:Int) (i:Int) (out.map E3) k0 k1=T0 LF n z t (Z4 P) (P.length:Int) ((i+1:Nat):Int) ((out++[UInt8.ofNat x.toNat]).map E3) k0 k1:=by
     intro R k0 k1
     rw [T0]
     rw [A8,T5,I6,Int.toNat_natCast,ok]
     simp only [cond_true,vl,hg,hx,Bool.not_true,cond_false,e1]
     rw [C2 h128,List.length_map,E0 (by omega),hrow]
     rfl
    refine ⟨λh R k0 k1=>?_,λh=>?_⟩
    ·rw [step,q1 h,hbs];simp
    ·obtain ⟨l,e⟩:=q2 h
     exact ⟨l,λR k0 k1=>by rw [step];exact e R k0 k1⟩
   ·have hbs:U2 (x::P.drop (i+1))=U2 (P.drop (i+1)):=by
     unfold U2;rw [List.filter_cons_of_neg (by simpa using h128)]
    obtain ⟨q1,q2⟩:=ih (i+1) n out (by omega) (by omega) (by omega)
    have step:∀ (R:Type) (k0:LL->Option R) (k1:Bool->Bool->LL->LL->Option R),T0 LF (n+1) z t (Z4 P) (P.length:Int) (i:Int) (out.map E3) k0 k1=T0 LF n z t (Z4 P) (P.length:Int) ((i+1:Nat):Int) (out.map E3) k0 k1:=by
     intro R k0 k1
     rw [T0]
     rw [A8,T5,I6,Int.toNat_natCast,ok]
     simp only [cond_true,vl,hg,hx,Bool.not_true,cond_false,e1]
     rw [A7]
     rfl
    refine ⟨λh R k0 k1=>?_,λh=>?_⟩
    ·rw [step,q1 h,hbs]
    ·obtain ⟨l,e⟩:=q2 h
     exact ⟨l,λR k0 k1=>by rw [step];exact e R k0 k1⟩
theorem Ar9 {P:List Int} (h:P.all ptI=true):∃ pts:List Nat,P=pts.map (λn:Nat=>(n:Int))/\pts.all T7=true/\∀ p∈pts,p<=1114111:=by
 induction P with
 | nil=>exact ⟨[],rfl,rfl,by simp⟩
 | cons x P ih=>
  rw [List.all_cons,Bool.and_eq_true] at h
  obtain ⟨pts,rfl,h1,h2⟩:=ih h.2
  obtain ⟨p0,p1⟩:=Pr h.1
  obtain ⟨m,rfl⟩:=Int.eq_ofNat_of_zero_le p0
  refine ⟨m::pts,rfl,?_,?_⟩
  ·rw [List.all_cons,h1,Bool.and_true];exact h.1
  grind
theorem AC (pts:List Nat):U2 (pts.map λn:Nat=>(n:Int))=I4 pts:=by
 unfold U2 I4
 induction pts with
 | nil=>rfl
 | cons p r ih=>
  grind
theorem Pb (pts:List Nat):(I4 pts).length=pts.countP (λp=>decide (p<128)):=by
 unfold I4
 grind
theorem ZX (z t:Bool) (P:List Int):(U4 P=([],3)/\∀ (R:Type) (k0:Unit->Option R) (k1:By->Int->LL->Option R),RT LF z t (Z4 P) k0 k1=k0 ())\/
  (∃ l,∀ (R:Type) (k0:Unit->Option R) (k1:By->Int->LL->Option R),RT LF z t (Z4 P) k0 k1=k1 (U4 P).1 ((U4 P).2:Nat) l):=by
 have hLF:=D7
 by_cases hl:256<P.length
 ·refine .inl ⟨by unfold U4;rw [if_pos hl],λR k0 k1=>?_⟩
  unfold RT
  rw [T5,A8]
  rfl
 ·right
  obtain ⟨q1,q2⟩:=ZW z t P (by omega) P.length 0 LF [] (by omega) (by omega) (by simp;omega)
  rw [List.drop_zero] at q1 q2
  cases ha:P.all ptI with
  | false=>
   obtain ⟨l,e⟩:=q2 ha
   refine ⟨l,λR k0 k1=>?_⟩
   unfold RT
   rw [T5,A7,cond_false]
   refine Eq.trans (e R _ _) ?_
   unfold U4
   rw [if_neg hl,ha]
   rfl
  | true=>
   obtain ⟨pts,rfl,hp1,hp2⟩:=Ar9 ha
   rw [List.length_map] at hl
   have hen:U4 (pts.map λn:Nat=>(n:Int))=Bj pts:=by
    unfold U4
    rw [List.length_map,if_neg hl,ha]
    simp [Function.comp_def]
   have hbl:=Pb pts
   have hbc:pts.countP (λp=>decide (p<128))<=pts.length:=List.countP_le_length
   have main:∀ (o:By),o.length<=300->∀ (R:Type) (k0:LL->Option R),Dq LF LF z t (C1 pts) ((I4 pts).length:Int) 128 0 72 ((I4 pts).length:Int) (o.map E3) k0=k0 ((Q1 pts (I4 pts).length 256 128 { delta:=0,bias:=72,done:=(I4 pts).length,out:=o }).out.map E3):=by
    intro o ho R k0
    exact Bh1 z t pts (I4 pts).length (by omega) (by omega) hp2 256 128 LF { delta:=0,bias:=72,done:=(I4 pts).length,out:=o } hbl (by simp only;omega) (by omega) (by simp) (by simp) (by simp only;omega) (by omega) R k0
   have he2:Bj pts=((Q1 pts (I4 pts).length 256 128 { delta:=0,bias:=72,done:=(I4 pts).length,out:=if (I4 pts).isEmpty then [] else I4 pts++[45] }).out,0):=by
    unfold Bj
    grind
   refine ⟨(Bj pts).1.map E3,λR k0 k1=>?_⟩
   unfold RT
   rw [T5,List.length_map,A7,cond_false,hen]
   have q1':=q1 ha R
   rw [List.length_map] at q1'
   refine Eq.trans (q1' _ _) ?_
   rw [List.nil_append,AC,Nd]
   simp only [vl,List.length_map]
   by_cases hbe:I4 pts=[]
   ·rw [hbe,List.length_nil,A7,cond_false]
    have mm:=main [] (by simp) R
    rw [hbe,List.length_nil] at mm
    rw [List.map_nil] at mm
    refine Eq.trans (mm _) ?_
    rw [hbe] at he2
    rw [he2]
    simp only [List.isEmpty_nil,if_true,List.length_nil]
    rw [Y5,Y9]
    rfl
   ·have hpos:0<(I4 pts).length:=List.length_pos_iff.2 hbe
    rw [A8,cond_true,E0 (by omega),cond_true]
    have hrow:(I4 pts).map E3++[[SV.int .u8 (45:Int)]]=(I4 pts++[45]).map E3:=by rw [List.map_append];rfl
    rw [hrow]
    refine Eq.trans (main (I4 pts++[45]) (by simp;omega) R _) ?_
    rw [he2,if_neg (by simpa using hbe)]
    rw [Y5,Y9]
    rfl
theorem By6 (z t:Bool) (p:LL) (h0:p.all Kv=true):∃ r H,RT LF z t p (λ_=>rv (.tup [.s (.str []),.s (.int .i64 3)]) []) (λr0 r1 l=>rv (.tup [.s (.str r0),.s (.int .i64 r1)]) [.arr true 5 1 l])=rv r H/\
  r.stab [0,0] H = .tup [.s (.str (U4 (p.map elI)).1),.s (.int .i64 ((U4 (p.map elI)).2:Nat))]:=by
 obtain ⟨P,rfl⟩:=Ap3 h0
 rw [PX]
 rcases ZX z t P with ⟨h1,h2⟩ | ⟨l,h2⟩
 ·exact ⟨_,_,h2 _ _ _,by rw [h1];rfl⟩
 ·exact ⟨_,_,h2 _ _ _,rfl⟩
section
variable {σ R : Type} (lf : Nat) (cl : G2) (yh : Yh σ) (s : σ) (k : Out -> St σ -> Option R)
noncomputable abbrev B92:Code:=D8 Tryz.f198
noncomputable def Uo (lf:Nat):Cfg:=C8 lf [198] (A4 [(3,[0,1,0,0])]) [(194,Ze),(202,VM)] (A4 [(17,[2]),(16,[0,2,0,53]),(15,[0,2,0]),(14,[2]),(13,[0,2,0,1,45]),(12,[0,2,0,0,0]),(11,[2]),(10,[0,2,0,0,41]),(9,[0,2,0,0]),(8,[0,2,0,0]),(7,[2]),(6,[0,2,0,0,18]),(5,[0,2,0,0]),(4,[2]),(3,[0,2,0,11]),(2,[0,2,0]),(1,[0,2]),(0,[0])]) [202] (A4 [(0,[2]),(1,[0,2,0])]) (some [2]) [(201,Mr)] [] [201]
noncomputable def Dj {R:Type} (lf n:Nat) (w0:Int) (s1:By) (n2 n3 n4:Int) (b5 z6:Bool) (l7:LL) (n8v:Int) (k0:Int->By->Int->Int->Int->Bool->Bool->LL->Int->Option R):Option R:=match n with | 0=>none | n+1=>cond (s1==[]) (k0 4 s1 n2 n3 n4 b5 z6 l7 n8v) (cond (inR 0 s1.length) (cond (inR (bAt s1 (0:Int)) 256) (vl (E1 (u8n (bAt s1 (0:Int)))) λn'1=>cond (ltI n'1 0) (k0 4 s1 n2 n3 n4 b5 z6 l7 n8v) (cond (P0 1 (s1.length:Int) s1.length) (vl (cut s1 1 (s1.length:Int)) λs'3=>vl (A1 (n3+(A1 (n'1*w0)))) λn'5=>cond (ltI 1099511627776 n'5) (k0 19 s'3 n2 n'5 n4 b5 z6 l7 n8v) (cond (ltN n8v 1000000000000) (cond (ltN n4 1000000) (cond (ltI n'1 (K9 n8v n4)) (k0 0 s'3 n2 n'5 n4 b5 z6 l7 (Int.add n8v (36:Int))) (vl (A1 ((36:Int)-(K9 n8v n4))) λn'6=>cond (ltI 1099511627776 (A1 (w0*n'6))) (k0 19 s'3 n2 n'5 n4 b5 z6 l7 (Int.add n8v (36:Int))) (Dj lf n (A1 (w0*n'6)) s'3 n2 n'5 n4 b5 z6 l7 (Int.add n8v (36:Int)) k0))) none) none)) none)) none) none)
theorem XN (n w0 s1 n2 n3 n4 b5 z6 l7 n8v):E5 4 ((Uo lf).keep 3) (bd (Uo lf) cl yh (cd [1,1,1,0,0] B92)) n ⟨gp [(0,.ptr 0 0 0),(2,.fnr (Fn.func 201) [] [.ptr 3 0 0,.ptr 2 0 0]),(0,pI w0)] 54,[.box [pS s1,.fl 1,pI n2,pI n3,pI n4,pB b5],.arr z6 3 1 l7,.box [pI n4],.box [pI n8v]],s⟩ k =
 Dj lf n w0 s1 n2 n3 n4 b5 z6 l7 n8v (λn0 s1 n2 n3 n4 b5 z6 l7 n8v=>k .ret ⟨gp [(2,pI n0)] 56,[.box [pS s1,.fl 1,pI n2,pI n3,pI n4,pB b5],.arr z6 3 1 l7,.box [pI n4],.box [pI n8v]],s⟩):=by
 induction n generalizing w0 s1 n2 n3 n4 b5 z6 l7 n8v with
 | zero=>rfl
 | succ n ih=>rw [Dj];simp only [<-ih];kernel_rfl
noncomputable def Ca2 {R:Type} (lf:Nat) (rest:By) (n i b:Int) (st z:Bool) (l:LL) (k0:Int->By->Int->Int->Int->Bool->Bool->LL->Int->Option R):Option R:=Dj lf lf 1 rest n i b st z l 0 (λn'7 s'8 n'9 n'10 n'11 b'12 z'13 l'14 n'15=>k0 n'7 s'8 n'9 n'10 n'11 b'12 z'13 l'14 n'15)
theorem Bs3 (d:Nat) (rest n i b st z l):evC (Uo lf) (d+1) σ yh 198 [.ptr 0 0 0] [.box [pS rest,.fl 1,pI n,pI i,pI b,pB st],.arr z 3 1 l] s=Ca2 lf rest n i b st z l (λr0 s1 n2 n3 n4 b5 z6 l7 n8v=>some (pI r0,[.box [pS s1,.fl 1,pI n2,pI n3,pI n4,pB b5],.arr z6 3 1 l7,.box [pI n4],.box [pI n8v]],s)):=by
 refine (evE (fn:=Tryz.f198) (by kernel_rfl)).trans ?_
 generalize evC (Uo lf) d=cl
 unfold Ca2;exact (Eq.trans (by kernel_rfl) ((XN lf cl yh s (F9 0 (G5 (Uo lf) Tryz.f198)) lf 1 rest n i b st z l 0).trans (by kernel_rfl)))
noncomputable def KX (lf:Nat):Cfg:=C8 lf [189] (A4 []) [(186,Lg),(184,Lh)] (A4 [(16,[2]),(15,[]),(14,[0]),(13,[2]),(12,[0,67]),(11,[2]),(10,[0,4,60]),(9,[0,4]),(8,[0,4]),(7,[0,4]),(6,[0,4]),(5,[0,2,1]),(4,[2]),(3,[0,2,0,8]),(2,[0,2,0]),(1,[0,2]),(0,[0])]) [186,184] (A4 []) (some [2]) [(198,IG),(199,KJ)] [] [198,199]
noncomputable def Ao7 {R:Type} (lf:Nat) (rest:By) (n i b:Int) (st z:Bool) (l:LL) (k0:Int->By->Int->Int->Int->Bool->Bool->LL->Option R):Option R:=cond (A3 rest.length) (cond (ltN b 1000000) (cond (ltN i 1099511627777) (cond ((CC b rest i) != 0) (k0 (CC b rest i) (CD b rest i) n (Pq b rest i) b st z l) (vl (A1 ((l.length:Int)+1)) λn'1=>vl (A1 ((Pq b rest i)-i)) λn'4=>cond (ltN n'4 1152921504606846976) (cond (ltN n'1 1000000) (cond (ltI 0 n'1) (vl (↑(P2 (Int.toNat n'4) (Int.toNat n'1) (not st)):Int) λn'5=>cond (n'1 != 0) (vl (A1 (Int.tdiv (Pq b rest i) n'1)) λn'7=>cond (n'1 != 0) (vl (Int.tmod (Pq b rest i) n'1) λn'9=>cond (not (ptI (A1 (n+n'7)))) (k0 2 (CD b rest i) (A1 (n+n'7)) n'9 n'5 true z l) (cond (ltI 256 n'1) (k0 3 (CD b rest i) (A1 (n+n'7)) n'9 n'5 true z l) (cond (ltN n'9 (Nat.add l.length 1)) (cond (Nat.ble l.length 100000) (vl (Jl l (Int.toNat n'9) (A1 (n+n'7))) λl'11=>k0 0 (CD b rest i) (A1 (n+n'7)) (A1 (n'9+1)) n'5 true z l'11) none) none))) none) none) none) none) none)) none) none) none
theorem Bc9 (d:Nat) (rest n i b st z l):evC (KX lf) (d+1) σ yh 189 [.ptr 0 0 0] [.box [pS rest,.fl 1,pI n,pI i,pI b,pB st],.arr z 3 1 l] s=Ao7 lf rest n i b st z l (λr0 s1 n2 n3 n4 b5 z6 l7=>some (pI r0,[.box [pS s1,.fl 1,pI n2,pI n3,pI n4,pB b5],.arr z6 3 1 l7],s)):=by
 refine (evE (fn:=Tryz.f189) (by kernel_rfl)).trans ?_
 generalize evC (KX lf) d=cl
 unfold Ao7;kernel_rfl
noncomputable abbrev Ow:Code:=D8 Tryz.f170
noncomputable def X9 (lf:Nat):Cfg:=C8 lf [170] (A4 [(20,[2,0,1]),(13,[0,1,0,1,0,22,0]),(4,[0,1,0,9,0])]) [(97,Xy)] (A4 [(24,[2,0]),(23,[2,0]),(22,[5,2,59]),(21,[5,2]),(20,[5,58]),(19,[2,0]),(18,[5,53]),(17,[5]),(16,[0,4,0,22,0]),(15,[0,4,0,22,0]),(14,[0,4,0,0,21,0]),(13,[0,4,0,22,0,0]),(12,[0,4,0,22,0]),(11,[0,4,0,21]),(10,[0,4,0]),(9,[0,4]),(8,[0,12,0]),(7,[2,0]),(6,[0,12,0,5]),(5,[0,3,8,0]),(4,[0,12,0,0]),(3,[0,12,0]),(2,[2,0]),(1,[0,10]),(0,[0])]) [97] (A4 [(4,[5]),(5,[5]),(2,[0,4,0]),(3,[0,4,0,22,0]),(0,[0]),(1,[0,12,0])]) (some [2,0]) [(189,Xx)] [] [189] (nt:=[(199,1,3,1)])
noncomputable def Ju {R:Type} (lf n:Nat) (s0:By) (n1 n2:Int) (k0:Unit->Option R) (k1:By->Option R):Option R:=match n with | 0=>none | n+1=>cond (ltI n2 n1) (cond (inR n2 s0.length) (cond (not (ltI (bAt s0 n2) (128:Int))) (k0 ()) (Ju lf n s0 n1 (A1 (n2+1)) k0 k1)) none) (k1 s0)
theorem ZU (n s0 n1 n2):E5 0 ((X9 lf).keep 4) (bd (X9 lf) cl yh (cd [1,1,0,1,0,0] Ow)) n ⟨gp [(0,pS s0),(12,pI n1),(0,pI n2)] 59,[],s⟩ k =
 Ju lf n s0 n1 n2 (λ_=>k .ret ⟨gp [(2,.fl 0),(0,pI (4:Int))] 70,[.arr true 3 1 []],s⟩) (λs0=>k (.exit 0) ⟨gp [(0,pS s0)] 73,[],s⟩):=by
 induction n generalizing s0 n1 n2 with
 | zero=>rfl
 | succ n ih=>rw [Ju];simp only [<-ih];kernel_rfl
noncomputable def Gp {R:Type} (lf n:Nat) (s0:By) (kk1 n2:Int) (l3:LL) (k0:By->Int->LL->Option R):Option R:=match n with | 0=>none | n+1=>cond (ltI n2 kk1) (cond (inR n2 s0.length) (cond (F1 (l3.length+1)) (Gp lf n s0 kk1 (A1 (n2+1)) (l3++[[(SV.int .i64 (A1 (bAt s0 n2)))]]) k0) none) none) (k0 s0 kk1 l3)
theorem ZV (n s0 kk1 n2 l3):E5 2 ((X9 lf).keep 13) (bd (X9 lf) cl yh (cd [1,1,1,1,0,1,1,0,0,1,0,0] Ow)) n ⟨gp [(0,pS s0),(4,.ptr 1 0 0),(0,pI kk1),(22,pI kk1),(0,pI n2)] 43,[.arr true 3 1 l3,.box [pS s0,.fl 0,pI (128:Int),pI (0:Int),pI (72:Int),pB false]],s⟩ k =
 Gp lf n s0 kk1 n2 l3 (λs0 kk1 l2=>k (.exit 2) ⟨gp [(0,pS s0),(4,.ptr 1 0 0),(0,pI kk1)] 67,[.arr true 3 1 l2,.box [pS s0,.fl 0,pI (128:Int),pI (0:Int),pI (72:Int),pB false]],s⟩):=by
 induction n generalizing s0 kk1 n2 l3 with
 | zero=>rfl
 | succ n ih=>rw [Gp];simp only [<-ih];kernel_rfl
noncomputable def R7 {R:Type} (lf n:Nat) (l0:LL) (s1:By) (n2 n3 n4:Int) (b5:Bool) (k0:Int->LL->By->Int->Int->Int->Bool->Option R) (k1:LL->By->Int->Int->Int->Bool->Option R):Option R:=match n with | 0=>none | n+1=>cond (not (s1==[])) (cond (A3 s1.length) (cond (ltN n4 1000000) (cond (ltN n3 1099511627777) (cond (ltN n2 1152921504606846976) (cond (Nat.ble l0.length 100000) (vl ((F0 (DS.mk s1 n2 n3 n4 b5 l0))).1 λn'10=>vl (DS.l ((F0 (DS.mk s1 n2 n3 n4 b5 l0))).2) λl'11=>cond (n'10 != 0) (k0 n'10 l'11 (DS.rest ((F0 (DS.mk s1 n2 n3 n4 b5 l0))).2) (DS.n ((F0 (DS.mk s1 n2 n3 n4 b5 l0))).2) (DS.i ((F0 (DS.mk s1 n2 n3 n4 b5 l0))).2) (DS.b ((F0 (DS.mk s1 n2 n3 n4 b5 l0))).2) (DS.st ((F0 (DS.mk s1 n2 n3 n4 b5 l0))).2)) (R7 lf n l'11 (DS.rest ((F0 (DS.mk s1 n2 n3 n4 b5 l0))).2) (DS.n ((F0 (DS.mk s1 n2 n3 n4 b5 l0))).2) (DS.i ((F0 (DS.mk s1 n2 n3 n4 b5 l0))).2) (DS.b ((F0 (DS.mk s1 n2 n3 n4 b5 l0))).2) (DS.st ((F0 (DS.mk s1 n2 n3 n4 b5 l0))).2) k0 k1)) none) none) none) none) none) (k1 l0 s1 n2 n3 n4 b5)
theorem CM (n l0 s1 n2 n3 n4 b5):E5 2 ((X9 lf).keep 20) (bd (X9 lf) cl yh (cd [1,1,1,1,1,1,0,0,0] Ow)) n ⟨gp [(5,.ptr 1 0 0)] 68,[.arr true 3 1 l0,.box [pS s1,.fl 0,pI n2,pI n3,pI n4,pB b5]],s⟩ k =
 R7 lf n l0 s1 n2 n3 n4 b5 (λn0 l1 s2 n3 n4 n5 b6=>k .ret ⟨gp [(2,.fl 2),(0,pI n0)] 70,[.arr true 3 1 l1,.box [pS s2,.fl 0,pI n3,pI n4,pI n5,pB b6],.arr true 3 1 []],s⟩) (λl0 s1 n2 n3 n4 b5=>k (.exit 4) ⟨gp [(5,.ptr 1 0 0)] 68,[.arr true 3 1 l0,.box [pS s1,.fl 0,pI n2,pI n3,pI n4,pB b5]],s⟩):=by
 induction n generalizing l0 s1 n2 n3 n4 b5 with
 | zero=>rfl
 | succ n ih=>rw [R7];simp only [<-ih];kernel_rfl
noncomputable def Rx {R:Type} (lf:Nat) (s0:By) (k0:Int->Option R) (k1:Int->LL->By->Int->Int->Int->Bool->Option R) (k2:LL->By->Int->Int->Int->Bool->Option R):Option R:=cond (ltI 1024 (s0.length:Int)) (k0 3) (Ju lf lf s0 (s0.length:Int) 0 (λ_=>k0 4) (λs'0=>cond (A3 s'0.length) (vl (J4 (u8n (45:Int)) s'0) λn'4=>cond (ltI 0 n'4) (Gp lf lf s'0 n'4 0 [] (λs'5 kk'6 l'7=>vl (A1 (kk'6+1)) λn'8=>cond (P0 n'8 (s'5.length:Int) s'5.length) (vl (cut s'5 n'8 (s'5.length:Int)) λs'9=>cond (ltI 256 (l'7.length:Int)) (k1 3 l'7 s'9 128 0 72 false) (R7 lf lf l'7 s'9 128 0 72 false (λn'12 l'13 s'14 n'15 n'16 n'17 b'18=>k1 n'12 l'13 s'14 n'15 n'16 n'17 b'18) (λl'19 s'20 n'21 n'22 n'23 b'24=>k2 l'19 s'20 n'21 n'22 n'23 b'24))) none)) (R7 lf lf [] s'0 128 0 72 false (λn'25 l'26 s'27 n'28 n'29 n'30 b'31=>k1 n'25 l'26 s'27 n'28 n'29 n'30 b'31) (λl'32 s'33 n'34 n'35 n'36 b'37=>k2 l'32 s'33 n'34 n'35 n'36 b'37))) none))
theorem By1 (d:Nat) (s0):evC (X9 lf) (d+1) σ yh 170 [pS s0] [] s=Rx lf s0 (λr0=>some (.tup [.fl 0,pI r0],[.arr true 3 1 []],s)) (λr0 l1 s2 n3 n4 n5 b6=>some (.tup [.fl 2,pI r0],[.arr true 3 1 l1,.box [pS s2,.fl 0,pI n3,pI n4,pI n5,pB b6],.arr true 3 1 []],s)) (λl0 s1 n2 n3 n4 b5=>some (.tup [.fl 0,pI (0:Int)],[.arr true 3 1 l0,.box [pS s1,.fl 0,pI n2,pI n3,pI n4,pB b5]],s)):=by
 refine (evE (fn:=Tryz.f170) (by kernel_rfl)).trans ?_
 generalize evC (X9 lf) d=cl
 unfold Rx;exact let K0:=(F9 4 (G1 (X9 lf) cl yh (cd [1,1,1,1,1,1,1] Ow) (G5 (X9 lf) Tryz.f170)));(Eq.trans (by kernel_rfl) (A0 rfl ((ZU lf cl yh s (F9 0 (G1 (X9 lf) cl yh (cd [1,1,1] Ow) (G5 (X9 lf) Tryz.f170))) lf s0 (s0.length:Int) 0).trans (congr (congr rfl (by kernel_rfl)) (fx1 λs'0=>(Eq.trans (by kernel_rfl) (A0 (A6 λn'4=>(A0 ((ZV lf cl yh s (F9 2 (G1 (X9 lf) cl yh (cd [1,1,1,1,0,1,1,0,1] Ow) (G1 (X9 lf) cl yh (cd [1,1,1,1,1] Ow) (G5 (X9 lf) Tryz.f170)))) lf s'0 n'4 0 []).trans (congr rfl (fx3 λs'5 kk'6 l'7=>(Eq.trans (by kernel_rfl) (A6 λn'8=>(A0 (A6 λs'9=>(A0 rfl ((CM lf cl yh s K0 lf l'7 s'9 128 0 72 false).trans (by kernel_rfl)))) rfl)))))) ((CM lf cl yh s K0 lf [] s'0 128 0 72 false).trans (by kernel_rfl)))) rfl)))))))
noncomputable abbrev PB:Code:=D8 Tryz.f142
noncomputable def Es (lf:Nat):Cfg:=C8 lf [142] (A4 [(2,[0,0,2,0])]) [] (A4 [(6,[4]),(3,[0,0,3]),(5,[4]),(4,[0,0,3,11]),(2,[0,0,3,4]),(1,[0,0,3]),(0,[0,0])]) [] (A4 [(0,[]),(1,[0,0,3])]) (some [4]) [] [] []
noncomputable def Bl {R:Type} (lf n:Nat) (s0:By) (c1 i2:Int) (k0:Int->Option R) (k1:Unit->Option R):Option R:=match n with | 0=>none | n+1=>cond (not (ltI i2 0)) (cond (inR i2 s0.length) (cond ((bAt s0 i2)==c1) (k0 i2) (Bl lf n s0 c1 (A1 (i2-1)) k0 k1)) none) (k1 ())
theorem MD (n s0 c1 i2):E5 0 ((Es lf).keep 2) (bd (Es lf) cl yh (cd [1,0,1,0,0] PB)) n ⟨gp [(0,pS s0),(0,p8 c1),(3,pI i2)] 13,[],s⟩ k =
 Bl lf n s0 c1 i2 (λn0=>k .ret ⟨gp [(4,pI n0)] 14,[],s⟩) (λ_=>k (.exit 0) ⟨gp [] 19,[],s⟩):=by
 induction n generalizing s0 c1 i2 with
 | zero=>rfl
 | succ n ih=>rw [Bl];simp only [<-ih];kernel_rfl
noncomputable def MC {R:Type} (lf:Nat) (s0:By) (c1:Int) (k0:Int->Option R):Option R:=vl (A1 ((s0.length:Int)-1)) λn'1=>Bl lf lf s0 c1 n'1 (λn'2=>k0 n'2) (λ_=>k0 (-1))
theorem Ax7 (d:Nat) (s0 c1):evC (Es lf) (d+1) σ yh 142 [pS s0,p8 c1] [] s=MC lf s0 c1 (λr0=>some (pI r0,[],s)):=by
 refine (evE (fn:=Tryz.f142) (by kernel_rfl)).trans ?_
 generalize evC (Es lf) d=cl
 unfold MC;exact (Eq.trans (by kernel_rfl) (A6 λn'1=>((MD lf cl yh s (F9 0 (G1 (Es lf) cl yh (cd [1,1] PB) (G5 (Es lf) Tryz.f142))) lf s0 c1 n'1).trans (by kernel_rfl))))
noncomputable def LA (lf:Nat):Cfg:=C8 lf [97] (A4 []) [(142,OQ)] (A4 [(1,[4]),(0,[0,0])]) [142] (A4 []) (some [4]) [] [] []
noncomputable def Ap8 {R:Type} (lf:Nat) (s0:By) (c1:Int) (k0:Int->Option R):Option R:=cond (A3 s0.length) (cond (inR c1 256) (k0 (J4 (u8n c1) s0)) none) none
theorem Bf5 (d:Nat) (s0 c1):evC (LA lf) (d+1) σ yh 97 [pS s0,p8 c1] [] s=Ap8 lf s0 c1 (λr0=>some (pI r0,[],s)):=by
 refine (evE (fn:=Tryz.f97) (by kernel_rfl)).trans ?_
 generalize evC (LA lf) d=cl
 unfold Ap8;kernel_rfl
end
theorem Eb (c:UInt8):-1<=E1 c/\E1 c<=35:=by
 unfold E1 Lb
 grind
theorem Kl (k b:Int):1<=K9 k b/\K9 k b<=26:=by unfold K9;omega
theorem Br {x w:Int} (h0:0<=x) (h1:x<=35) (w0:0<=w) (w1:w<=1099511627776):0<=x*w/\x*w<=38482906972160:=by
 refine ⟨Int.mul_nonneg h0 w0,?_⟩
 have:=Int.mul_le_mul h1 w1 w0 (show (0:Int)<=35 by omega)
 omega
theorem Qo (b:Int):∀ (s:By) (i w k:Int),0<=i->0<=w->w<=1099511627776->(S8 b s i w k).1=0->i<=(S8 b s i w k).2.2/\(S8 b s i w k).2.2<=1099511627776/\(S8 b s i w k).2.1.length<s.length
 | [],i,w,k,_,_,_,h=>by simp [S8] at h
 | c::r,i,w,k,hi,hw,hw1,h=>by
  have hv:=Eb c
  have ht:=Kl k b
  unfold S8 at h ⊢
  split at h
  ·simp at h
  ·rename_i h1
   rw [if_neg h1]
   have hm:=Br (by omega) hv.2 hw hw1
   split at h
   ·simp at h
   ·rename_i h2
    rw [if_neg h2]
    split at h
    ·grind
    ·rename_i h3
     rw [if_neg h3]
     split at h
     ·omega
     ·rename_i h4
      rw [if_neg h4]
      obtain ⟨q1,q2,q3⟩:=Qo b r (i+E1 c*w) (w*(36-K9 k b)) (k+36) (by omega) (Int.mul_nonneg hw (by omega)) (by omega) h
      grind
theorem Av9 (n2:Int) (b:Int) (st z:Bool) (l:LL) (hb0:0<=b) (hb1:b<1000000):∀ (s:By) (n:Nat) (i w k:Int),s.length<n->s.length<=1000000000->0<=i->i<=1099511627776->0<=w->w<=1099511627776->0<=k->k+36*s.length<=100000000000->
  ∃ k',∀ (R:Type) (k0:Int->By->Int->Int->Int->Bool->Bool->LL->Int->Option R),Dj LF n w s n2 i b st z l k k0=k0 (S8 b s i w k).1 (S8 b s i w k).2.1 n2 (S8 b s i w k).2.2 b st z l k':=by
 intro s
 induction s with
 | nil=>
  intro n i w k hn hs hi hi1 hw hw1 hk hk1
  obtain ⟨n,rfl⟩:∃ m,n=m+1:=⟨n-1,by omega⟩
  refine ⟨k,λR k0=>?_⟩
  rw [Dj]
  rfl
 | cons c r ih=>
  intro n i w k hn hs hi hi1 hw hw1 hk hk1
  obtain ⟨n,rfl⟩:∃ m,n=m+1:=⟨n-1,by omega⟩
  rw [List.length_cons] at hn hs hk1
  have hv:=Eb c
  have ht:=Kl k b
  have hu:u8n (bAt (c::r) 0)=c:=by unfold u8n bAt;simp
  have hin:inR (bAt (c::r) 0) 256=true:=by rw [Hu];have:=c.toNat_lt;exact K2 (by omega) (by simp;omega)
  have hcut:cut (c::r) 1 ((c::r).length:Int)=r:=by
   have:=Gg (c::r) 1 (c::r).length
   grind
  have hne:((c::r)==([]:By))=false:=rfl
  have start:∀ (R:Type) (k0:Int->By->Int->Int->Int->Bool->Bool->LL->Int->Option R),Dj LF (n+1) w (c::r) n2 i b st z l k k0 =
    cond (ltI (E1 c) 0) (k0 4 (c::r) n2 i b st z l k)
     (vl (A1 (i+(A1 (E1 c*w)))) λn'5=>cond (ltI 1099511627776 n'5) (k0 19 r n2 n'5 b st z l k)
      (cond (ltI (E1 c) (K9 k b)) (k0 0 r n2 n'5 b st z l (Int.add k 36))
       (vl (A1 (36-(K9 k b))) λn'6=>cond (ltI 1099511627776 (A1 (w*n'6))) (k0 19 r n2 n'5 b st z l (Int.add k 36)) (Dj LF n (A1 (w*n'6)) r n2 n'5 b st z l (Int.add k 36) k0)))):=by
   intro R k0
   rw [Dj]
   rw [hne,hin,K2 (by omega) (by rw [List.length_cons];omega),T3 (by omega) (by rw [List.length_cons];omega) (by omega),hcut,hu,N4,N4]
   rfl
  unfold S8
  by_cases h1:E1 c<0
  ·rw [if_pos h1]
   refine ⟨k,λR k0=>?_⟩
   rw [start,C2 h1]
   rfl
  ·rw [if_neg h1]
   have hm:=Br (by omega) hv.2 hw hw1
   have e1:A1 (E1 c*w)=E1 c*w:=A5
   have e2:A1 (i+E1 c*w)=i+E1 c*w:=A5
   by_cases h2:1099511627776<i+E1 c*w
   ·rw [if_pos h2]
    refine ⟨k,λR k0=>?_⟩
    rw [start,A7,e1,e2]
    simp only [vl,cond_false]
    rw [C2 h2]
    rfl
   ·rw [if_neg h2]
    by_cases h3:E1 c<K9 k b
    ·rw [if_pos h3]
     refine ⟨Int.add k 36,λR k0=>?_⟩
     rw [start,A7,e1,e2]
     simp only [vl,cond_false]
     rw [A7,C2 h3]
     rfl
    ·rw [if_neg h3]
     have e3:A1 (36-K9 k b)=36-K9 k b:=A5
     have hm2:=Br (x:=36-K9 k b) (by omega) (by omega) hw hw1
     rw [Int.mul_comm] at hm2
     have e4:A1 (w*(36-K9 k b))=w*(36-K9 k b):=A5
     by_cases h4:1099511627776<w*(36-K9 k b)
     ·rw [if_pos h4]
      refine ⟨Int.add k 36,λR k0=>?_⟩
      rw [start,A7,e1,e2]
      simp only [vl,cond_false]
      rw [A7,A7,e3,e4,C2 h4]
      rfl
     ·rw [if_neg h4]
      obtain ⟨k',e⟩:=ih n (i+E1 c*w) (w*(36-K9 k b)) (k+36) (by omega) (by omega) (by omega) (by omega) (by omega) (by omega) (by omega) (by omega)
      refine ⟨k',λR k0=>?_⟩
      rw [start,A7,e1,e2]
      simp only [vl,cond_false]
      rw [A7,A7,e3,e4,A7]
      exact e R k0
theorem Aw0 (rest:By) (n i b:Int) (st z:Bool) (l:LL) (h0:A3 rest.length=true) (h1:ltN b 1000000=true) (h2:ltN i 1099511627777=true) :
  ∃ k',∀ (R:Type) (k0:Int->By->Int->Int->Int->Bool->Bool->LL->Int->Option R),Ca2 LF rest n i b st z l k0=k0 (CC b rest i) (CD b rest i) n (Pq b rest i) b st z l k':=by
 have hs:=K8 h0
 obtain ⟨b0,b1⟩:=L8.1 h1
 obtain ⟨i0,i1⟩:=L8.1 h2
 have hLF:=D7
 obtain ⟨k',e⟩:=Av9 n b st z l b0 (by omega) rest LF i 1 0 (by omega) (by omega) i0 (by omega) (by omega) (by omega) (by omega) (by omega)
 exact ⟨k',λR k0=>e R _⟩
theorem XO {R:Type} {k0:Int->By->Int->Int->Int->Bool->Bool->LL->Option R} (rest:By) (n i b:Int) (st z:Bool) (l:LL) (h0:A3 rest.length=true) (h1:ltN b 1000000=true) (h2:ltN i 1099511627777=true) (h3:ltN n 1152921504606846976=true) (h4:Nat.ble l.length 100000=true) :
  Ao7 LF rest n i b st z l k0=k0 (F0 ⟨rest,n,i,b,st,l⟩).1 (F0 ⟨rest,n,i,b,st,l⟩).2.rest (F0 ⟨rest,n,i,b,st,l⟩).2.n (F0 ⟨rest,n,i,b,st,l⟩).2.i (F0 ⟨rest,n,i,b,st,l⟩).2.b (F0 ⟨rest,n,i,b,st,l⟩).2.st z (F0 ⟨rest,n,i,b,st,l⟩).2.l:=by
 obtain ⟨i0,i1⟩:=L8.1 h2
 obtain ⟨n0,n1⟩:=L8.1 h3
 have hl:=Nat.le_of_ble_eq_true h4
 unfold Ao7 F0
 rw [h0,h1,h2]
 simp only [cond_true]
 by_cases he:CC b rest i=0
 ·rw [if_pos he,he]
  obtain ⟨q1,q2,q3⟩:=Qo b rest i 1 0 i0 (by omega) (by omega) he
  have q1':i<=Pq b rest i:=q1
  have q2':Pq b rest i<=1099511627776:=q2
  have e1:A1 ((l.length:Int)+1)=(l.length:Int)+1:=A5
  simp only [vl]
  rw [e1]
  generalize Pq b rest i=x at *
  have hx0:0<=x:=by omega
  obtain ⟨X,rfl⟩:=Int.eq_ofNat_of_zero_le hx0
  have e2:A1 ((X:Int)-i)=(X:Int)-i:=A5
  have ec:((l.length:Int)+1)=((l.length+1:Nat):Int):=rfl
  have ed:Int.tdiv (X:Int) ((l.length+1:Nat):Int)=((X / (l.length+1):Nat):Int):=L9 _ _
  have em:Int.tmod (X:Int) ((l.length+1:Nat):Int)=((X % (l.length+1):Nat):Int):=Fx _ _
  have hd:=Nat.div_le_self X (l.length+1)
  have hm:=Nat.mod_lt X (show 0<l.length+1 by omega)
  rw [e2,ec,ed,em]
  generalize hA:X / (l.length+1)=A at *
  generalize hB:X % (l.length+1)=B at *
  have e3:A1 (A:Int)=(A:Int):=A5
  have e4:A1 (n+(A:Int))=n+(A:Int):=A5
  have e5:A1 ((B:Int)+1)=(B:Int)+1:=A5
  have c0:((0:Int) != 0)=false:=rfl
  have c1:((((l.length+1:Nat):Int)) != 0)=true:=by rw [bne_iff_ne];omega
  rw [e3,e4,e5,c0,N4,N4,A8,c1]
  simp only [cond_true,cond_false]
  cases hp:ptI (n+(A:Int)) with
  | false=>simp
  | true=>
   simp only [Bool.not_true,cond_false,if_true]
   by_cases h256:(256:Int)<((l.length+1:Nat):Int)
   ·rw [if_pos h256,C2 h256]
    rfl
   ·rw [if_neg h256,A7,cond_false,Xd (by omega) (by show (B:Int)<((l.length+1:Nat):Int);omega),h4]
    rfl
 ·rw [if_neg he,show (CC b rest i != 0)=true from bne_iff_ne.2 he]
  rfl
theorem RC (c:UInt8):∀ l:By,-1<=J4 c l
 | []=>by simp [J4]
 | b::r=>by
  have:=RC c r
  unfold J4
  omega
theorem BP (c b:UInt8):∀ l:By,J4 c (l++[b])=if b=c then (l.length:Int) else J4 c l
 | []=>by
  by_cases h:b=c<;>simp [J4,h]
 | a::l=>by
  have ih:=BP c b l
  rw [List.cons_append,J4,ih]
  by_cases h:b=c
  ·grind
  ·rw [if_neg h,if_neg h]
   rfl
theorem QS {R:Type} {k0:Int->Option R} {k1:Unit->Option R} (s:By) (c:UInt8) (hs:s.length<=1000000000):∀ (m n:Nat),m<=s.length->m<n->
  Bl LF n s (c.toNat:Int) ((m:Int)-1) k0 k1=if J4 c (s.take m)<0 then k1 () else k0 (J4 c (s.take m)):=by
 intro m
 induction m with
 | zero=>
  intro n hm hn
  obtain ⟨n,rfl⟩:∃ m,n=m+1:=⟨n-1,by omega⟩
  rw [Bl]
  rw [A8]
  rfl
 | succ m ih=>
  intro n hm hn
  obtain ⟨n,rfl⟩:∃ m,n=m+1:=⟨n-1,by omega⟩
  rw [Bl]
  have e0:(((m+1:Nat):Int)-1)=(m:Int):=by omega
  have e1:A1 ((m:Int)-1)=(m:Int)-1:=A5
  have ht:s.take (m+1)=s.take m++[s.getD m 0]:=by
   rw [List.take_add_one,List.getD_eq_getElem?_getD,List.getElem?_eq_getElem (by omega)]
   rfl
  rw [e0,e1,A7,I6,F4,ht,BP]
  simp only [Bool.not_false,cond_true]
  by_cases h:s.getD m 0=c
  ·rw [if_pos h,h,beq_self_eq_true,cond_true,List.length_take,Nat.min_eq_left (by omega),I8]
  ·have hne:(((s.getD m 0).toNat:Int)==(c.toNat:Int))=false:=by
    rw [beq_eq_false_iff_ne]
    intro he
    exact h (UInt8.toNat.inj (Int.ofNat.inj he))
   rw [if_neg h,hne,cond_false]
   exact ih n (by omega) (by omega)
theorem Bm8 {c:Int} (h:inR c 256=true):c=((u8n c).toNat:Int):=by
 simp only [inR,Bool.and_eq_true,decide_eq_true_eq] at h
 unfold u8n
 simp
 omega
theorem QT {R:Type} {k0:Int->Option R} (s:By) (c:Int) (h0:A3 s.length=true) (h1:inR c 256=true):MC LF s c k0=k0 (J4 (u8n c) s):=by
 have hs:=K8 h0
 have hLF:=D7
 have hc:=Bm8 h1
 generalize u8n c=d at *
 subst hc
 unfold MC
 have e1:A1 ((s.length:Int)-1)=(s.length:Int)-1:=A5
 simp only [vl]
 rw [e1]
 refine Eq.trans (QS s d (by omega) s.length LF (by omega) (by omega)) ?_
 rw [List.take_length]
 have:=RC d s
 by_cases h:J4 d s<0
 ·rw [if_pos h,show J4 d s = -1 by omega]
 ·rw [if_neg h]
theorem YP {R:Type} {k0:Int->Option R} (s:By) (c:Int) (h0:A3 s.length=true) (h1:inR c 256=true):Ap8 LF s c k0=k0 (J4 (u8n c) s):=by
 unfold Ap8
 grind
theorem Lv:∀ s:By,(45∈s->J4 45 s=(G7 s:Int))/\(45∉s->J4 45 s = -1/\G7 s=0)
 | []=>⟨λh=>(by cases h),λ_=>⟨rfl,rfl⟩⟩
 | b::r=>by
  obtain ⟨h1,h2⟩:=Lv r
  unfold J4 G7
  grind
theorem UI {c:UInt8} (h:Lb c=none):E1 c = -1:=by unfold E1;rw [h]
theorem UJ {c:UInt8} {x:Nat} (h:Lb c=some x):E1 c=x:=by unfold E1;rw [h]
theorem Qp (b:Nat):∀ (s:By) (i w k:Nat),S8 (b:Int) s (i:Int) (w:Int) ((36*k:Nat):Int)=((((D9 b s i w k).2.2:Nat):Int),(S8 (b:Int) s (i:Int) (w:Int) ((36*k:Nat):Int)).2)/\
  ((D9 b s i w k).2.2=0->(S8 (b:Int) s (i:Int) (w:Int) ((36*k:Nat):Int)).2=((D9 b s i w k).2.1,((D9 b s i w k).1:Int)))
 | [],i,w,k=>⟨rfl,λh=>by simp [D9] at h⟩
 | c::r,i,w,k=>by
  unfold S8 D9
  cases hv:Lb c with
  | none=>
   rw [UI hv,V7]
   grind
  | some x=>
   rw [UJ hv,I8,Tc]
   have e1:(i:Int)+(x:Int)*(w:Int)=((i+x*w:Nat):Int):=by push_cast;rfl
   have ht:=U1 k b
   have e2:(w:Int)*(36-(thr k b:Int))=((w*(36-thr k b):Nat):Int):=by grind
   have e3:((36*k:Nat):Int)+36=((36*(k+1):Nat):Int):=by omega
   have hsat:Ba=1099511627776:=by decide
   rw [e1,e2,e3,hsat]
   simp only
   generalize i+x*w=I
   generalize w*(36-thr k b)=W
   by_cases h2:1099511627776<I
   ·grind
   ·rw [I8,if_neg h2]
    by_cases h3:x<thr k b
    ·grind
    ·rw [I8,if_neg h3]
     by_cases h4:1099511627776<W
     ·grind
     ·rw [I8,if_neg h4]
      exact Qp b r I W (k+1)
theorem Be8 (l:List Nat) (i n:Nat):Jl (C1 l) i (n:Int)=C1 (T6 l i n):=by
 unfold Jl T6 C1
 simp_all
theorem MM (b:Nat) (s:By) (i:Nat):CC (b:Int) s (i:Int)=((D9 b s i 1 0).2.2:Int)/\((D9 b s i 1 0).2.2=0->CD (b:Int) s (i:Int)=(D9 b s i 1 0).2.1/\Pq (b:Int) s (i:Int)=((D9 b s i 1 0).1:Int)):=by
 obtain ⟨h1,h2⟩:=Qp b s i 1 0
 have e:S8 (b:Int) s (i:Int) 1 0=S8 (b:Int) s (i:Int) ((1:Nat):Int) ((36*0:Nat):Int):=rfl
 unfold CC CD Pq
 rw [e]
 refine ⟨by rw [h1],λh=>?_⟩
 have:=h2 h
 rw [this]
 exact ⟨rfl,rfl⟩
theorem Cj1 (s:By) (pts:List Nat) (n i b:Nat) (st:Bool) (h:(D9 b s i 1 0).2.2=0) (hi:i<=(D9 b s i 1 0).1) (hp:T7 (n+(D9 b s i 1 0).1 / (pts.length+1))=true) (hc:¬ 256<pts.length+1) :
  F0 ⟨s,(n:Int),(i:Int),(b:Int),st,C1 pts⟩=(0,⟨(D9 b s i 1 0).2.1,((n+(D9 b s i 1 0).1 / (pts.length+1):Nat):Int),(((D9 b s i 1 0).1 % (pts.length+1)+1:Nat):Int),((P2 ((D9 b s i 1 0).1-i) (pts.length+1) (!st):Nat):Int),true,C1 (T6 pts ((D9 b s i 1 0).1 % (pts.length+1)) (n+(D9 b s i 1 0).1 / (pts.length+1)))⟩):=by
 obtain ⟨h1,h2⟩:=MM b s i
 obtain ⟨h3,h4⟩:=h2 h
 unfold F0
 simp only
 rw [h1,h,if_pos (show ((0:Nat):Int)=0 from rfl),h3,h4,D2]
 generalize (D9 b s i 1 0).1=X at *
 have ec:((pts.length:Int)+1)=((pts.length+1:Nat):Int):=rfl
 have ed:Int.tdiv (X:Int) ((pts.length+1:Nat):Int)=((X / (pts.length+1):Nat):Int):=L9 _ _
 have em:Int.tmod (X:Int) ((pts.length+1:Nat):Int)=((X % (pts.length+1):Nat):Int):=Fx _ _
 have en:(n:Int)+((X / (pts.length+1):Nat):Int)=((n+X / (pts.length+1):Nat):Int):=rfl
 rw [ec,ed,em,en,Jw,hp,if_pos rfl,I8,Int.toNat_natCast,Be8,Int.toNat_natCast,show ((X:Int)-(i:Int)).toNat=X-i by omega]
 rfl
theorem Ca3 (s:By) (pts:List Nat) (n i b:Nat) (st:Bool):((D9 b s i 1 0).2.2≠0->(F0 ⟨s,(n:Int),(i:Int),(b:Int),st,C1 pts⟩).1=((D9 b s i 1 0).2.2:Int))/\
  ((D9 b s i 1 0).2.2=0->T7 (n+(D9 b s i 1 0).1 / (pts.length+1))=false->(F0 ⟨s,(n:Int),(i:Int),(b:Int),st,C1 pts⟩).1=2)/\
  ((D9 b s i 1 0).2.2=0->T7 (n+(D9 b s i 1 0).1 / (pts.length+1))=true->256<pts.length+1->(F0 ⟨s,(n:Int),(i:Int),(b:Int),st,C1 pts⟩).1=3):=by
 obtain ⟨h1,h2⟩:=MM b s i
 have ec:(((C1 pts).length:Int)+1)=((pts.length+1:Nat):Int):=by rw [D2];rfl
 have ed:∀ X:Nat,Int.tdiv (X:Int) ((pts.length+1:Nat):Int)=((X / (pts.length+1):Nat):Int):=λX=>L9 _ _
 have en:∀ A:Nat,(n:Int)+(A:Int)=((n+A:Nat):Int):=λA=>rfl
 refine ⟨λh=>?_,λh hp=>?_,λh hp hc=>?_⟩
 ·unfold F0
  simp only
  rw [h1,I8]
 ·obtain ⟨h3,h4⟩:=h2 h
  unfold F0
  simp only
  rw [h1,h,if_pos (show ((0:Nat):Int)=0 from rfl),h4,ec,ed,en,Jw,hp,if_neg (by simp)]
 ·obtain ⟨h3,h4⟩:=h2 h
  unfold F0
  simp only
  rw [h1,h,if_pos (show ((0:Nat):Int)=0 from rfl),h4,ec,ed,en,Jw,hp,if_pos rfl,V7]
theorem Bh (pts:List Nat) (n i b:Nat) (f:Bool):H7 [] pts n i b f=(pts,0):=by rw [H7];rfl
theorem Ey {s:By} (hs:s≠[]) (pts:List Nat) (n i b:Nat) (f:Bool) (h:(D9 b s i 1 0).2.2≠0):H7 s pts n i b f=([],(D9 b s i 1 0).2.2):=by
 rw [H7,dif_neg hs]
 grind
theorem Cn {s:By} (hs:s≠[]) (pts:List Nat) (n i b:Nat) (f:Bool) (h:(D9 b s i 1 0).2.2=0):H7 s pts n i b f =
  if T7 (n+(D9 b s i 1 0).1 / (pts.length+1)) then (if 256<pts.length+1 then ([],3) else H7 (D9 b s i 1 0).2.1 (T6 pts ((D9 b s i 1 0).1 % (pts.length+1)) (n+(D9 b s i 1 0).1 / (pts.length+1))) (n+(D9 b s i 1 0).1 / (pts.length+1)) ((D9 b s i 1 0).1 % (pts.length+1)+1) (P2 ((D9 b s i 1 0).1-i) (pts.length+1) f) false) else ([],2):=by
 rw [H7,dif_neg hs]
 simp only
 rw [dif_pos h]
theorem Ac (l:List Nat) (i n:Nat):(T6 l i n).length=l.length+1:=by
 unfold T6
 grind
theorem A09:∀ (r:Nat) (s:By) (pts:List Nat) (n i b f:Nat) (st:Bool),s.length<=r->r<f->s.length<=1000000->pts.length<=256->n<=1114111->i<=1000->b<=500->
  ((H7 s pts n i b (!st)).2=0->∃ s' n' i' b' st',∀ (R:Type) (k0:Int->LL->By->Int->Int->Int->Bool->Option R) (k1:LL->By->Int->Int->Int->Bool->Option R),R7 LF f (C1 pts) s (n:Int) (i:Int) (b:Int) st k0 k1=k1 (C1 (H7 s pts n i b (!st)).1) s' n' i' b' st')/\
  ((H7 s pts n i b (!st)).2≠0->(H7 s pts n i b (!st)).1=[]/\∃ l s' n' i' b' st',∀ (R:Type) (k0:Int->LL->By->Int->Int->Int->Bool->Option R) (k1:LL->By->Int->Int->Int->Bool->Option R),R7 LF f (C1 pts) s (n:Int) (i:Int) (b:Int) st k0 k1=k0 ((H7 s pts n i b (!st)).2:Nat) l s' n' i' b' st'):=by
 intro r
 induction r with
 | zero=>
  intro s pts n i b f st h hf _ _ _ _ _
  obtain ⟨f,rfl⟩:∃ m,f=m+1:=⟨f-1,by omega⟩
  have hs:s=[]:=List.length_eq_zero_iff.1 (by omega)
  subst hs
  rw [Bh]
  refine ⟨λ_=>⟨[],n,i,b,st,λR k0 k1=>?_⟩,λh=>absurd rfl h⟩
  rw [R7]
  rfl
 | succ r ih=>
  intro s pts n i b f st h hf h1 h2 h3 h4 h5
  obtain ⟨f,rfl⟩:∃ m,f=m+1:=⟨f-1,by omega⟩
  by_cases hs:s=[]
  ·subst hs
   rw [Bh]
   refine ⟨λ_=>⟨[],n,i,b,st,λR k0 k1=>?_⟩,λh=>absurd rfl h⟩
   rw [R7]
   rfl
  ·have start:∀ (R:Type) (k0:Int->LL->By->Int->Int->Int->Bool->Option R) (k1:LL->By->Int->Int->Int->Bool->Option R),R7 LF (f+1) (C1 pts) s (n:Int) (i:Int) (b:Int) st k0 k1 =
     cond ((F0 ⟨s,n,i,b,st,C1 pts⟩).1 != 0) (k0 (F0 ⟨s,n,i,b,st,C1 pts⟩).1 (F0 ⟨s,n,i,b,st,C1 pts⟩).2.l (F0 ⟨s,n,i,b,st,C1 pts⟩).2.rest (F0 ⟨s,n,i,b,st,C1 pts⟩).2.n (F0 ⟨s,n,i,b,st,C1 pts⟩).2.i (F0 ⟨s,n,i,b,st,C1 pts⟩).2.b (F0 ⟨s,n,i,b,st,C1 pts⟩).2.st)
      (R7 LF f (F0 ⟨s,n,i,b,st,C1 pts⟩).2.l (F0 ⟨s,n,i,b,st,C1 pts⟩).2.rest (F0 ⟨s,n,i,b,st,C1 pts⟩).2.n (F0 ⟨s,n,i,b,st,C1 pts⟩).2.i (F0 ⟨s,n,i,b,st,C1 pts⟩).2.b (F0 ⟨s,n,i,b,st,C1 pts⟩).2.st k0 k1):=by
    intro R k0 k1
    rw [R7]
    rw [show (s==([]:By))=false from beq_eq_false_iff_ne.2 hs,Ch,N4,N4,N4,D2,Nat.ble_eq_true_of_le (show pts.length<=100000 by omega)]
    rfl
   obtain ⟨d1,d2,d3⟩:=Ca3 s pts n i b st
   have hok:=Cj1 s pts n i b st
   generalize F0 ⟨s,n,i,b,st,C1 pts⟩=D at *
   by_cases he:(D9 b s i 1 0).2.2=0
   ·rw [Cn hs pts n i b (!st) he]
    obtain ⟨m1,m2⟩:=MM b s i
    obtain ⟨m3,m4⟩:=m2 he
    have hE:CC (b:Int) s (i:Int)=0:=by rw [m1,he];rfl
    obtain ⟨q1,q2,q3⟩:=Qo b s i 1 0 (by omega) (by omega) (by omega) hE
    have q1':(i:Int)<=Pq (b:Int) s (i:Int):=q1
    have q2':Pq (b:Int) s (i:Int)<=1099511627776:=q2
    have q3':(CD (b:Int) s (i:Int)).length<s.length:=q3
    rw [m4] at q1' q2'
    rw [m3] at q3'
    cases hp:T7 (n+(D9 b s i 1 0).1 / (pts.length+1)) with
    | false=>
     rw [if_neg (by simp)]
     refine ⟨λh=>by simp at h,λ_=>⟨rfl,D.2.l,D.2.rest,D.2.n,D.2.i,D.2.b,D.2.st,λR k0 k1=>?_⟩⟩
     ·rw [start,d2 he hp]
      rfl
    | true=>
     rw [if_pos rfl]
     by_cases hc:256<pts.length+1
     ·rw [if_pos hc]
      refine ⟨λh=>by simp at h,λ_=>⟨rfl,D.2.l,D.2.rest,D.2.n,D.2.i,D.2.b,D.2.st,λR k0 k1=>?_⟩⟩
      rw [start,d3 he hp hc]
      rfl
     ·rw [if_neg hc]
      have hok:=hok he (by omega) hp hc
      have hn':n+(D9 b s i 1 0).1 / (pts.length+1)<=1114111:=by
       unfold T7 at hp
       simp_all
      have hmod:=Nat.mod_lt (D9 b s i 1 0).1 (show 0<pts.length+1 by omega)
      have had:=Lj ((D9 b s i 1 0).1-i) (pts.length+1) (!st) (by omega)
      have:=ih (D9 b s i 1 0).2.1 (T6 pts ((D9 b s i 1 0).1 % (pts.length+1)) (n+(D9 b s i 1 0).1 / (pts.length+1))) (n+(D9 b s i 1 0).1 / (pts.length+1)) ((D9 b s i 1 0).1 % (pts.length+1)+1) (P2 ((D9 b s i 1 0).1-i) (pts.length+1) (!st)) f true (by omega) (by omega) (by omega) (by rw [Ac];omega) hn' (by omega) had
      obtain ⟨p1,p2⟩:=this
      refine ⟨λh=>?_,λh=>?_⟩
      ·obtain ⟨s',n',i',b',st',e⟩:=p1 h
       refine ⟨s',n',i',b',st',λR k0 k1=>?_⟩
       rw [start,hok]
       exact e R k0 k1
      ·obtain ⟨pe,l,s',n',i',b',st',e⟩:=p2 h
       refine ⟨pe,l,s',n',i',b',st',λR k0 k1=>?_⟩
       rw [start,hok]
       exact e R k0 k1
   ·rw [Ey hs pts n i b (!st) he]
    refine ⟨λh=>absurd h he,λ_=>⟨rfl,D.2.l,D.2.rest,D.2.n,D.2.i,D.2.b,D.2.st,λR k0 k1=>?_⟩⟩
    rw [start,d1 he,show (((D9 b s i 1 0).2.2:Int) != 0)=true by rw [bne_iff_ne];omega]
    rfl
theorem Bt (l:List Nat):Jr l=C1 l:=rfl
theorem ZS {R:Type} {k0:Unit->Option R} {k1:By->Option R} (s:By) (hs:s.length<=1000000):∀ (r i n:Nat),i+r=s.length->r<n->
  Ju LF n s (s.length:Int) (i:Int) k0 k1=if (s.drop i).any (λb=>Nat.ble 128 b.toNat) then k0 () else k1 s:=by
 intro r
 induction r with
 | zero=>
  intro i n hi hn
  obtain ⟨n,rfl⟩:∃ m,n=m+1:=⟨n-1,by omega⟩
  rw [Ju]
  rw [A7,List.drop_of_length_le (by omega)]
  rfl
 | succ r ih=>
  intro i n hi hn
  obtain ⟨n,rfl⟩:∃ m,n=m+1:=⟨n-1,by omega⟩
  rw [Ju]
  have e1:A1 ((i:Int)+1)=((i+1:Nat):Int):=by rw [A5];rfl
  rw [A8,I6,F4,F7 s i (by omega),e1,List.any_cons]
  simp only [cond_true]
  generalize s.getD i 0=b
  by_cases h:128<=b.toNat
  ·rw [A7,Nat.ble_eq_true_of_le h]
   rfl
  ·have:Nat.ble 128 b.toNat=false:=by rw [Bool.eq_false_iff,ne_eq,Nat.ble_eq];exact h
   rw [A8,this,Bool.false_or]
   exact ih (i+1) n (by omega) (by omega)
theorem A08 {R:Type} {k0:By->Int->LL->Option R} (s:By) (hs:s.length<=1000000) (k:Nat) (hk:k<=s.length):∀ (r i n:Nat) (l:List Nat),i+r=k->r<n->l.length=i->
  Gp LF n s (k:Int) (i:Int) (C1 l) k0=k0 s (k:Int) (C1 (l++((s.take k).drop i).map (·.toNat))):=by
 intro r
 induction r with
 | zero=>
  intro i n l hi hn hl
  obtain ⟨n,rfl⟩:∃ m,n=m+1:=⟨n-1,by omega⟩
  rw [Gp]
  rw [A7,List.drop_of_length_le (by rw [List.length_take];omega)]
  simp
 | succ r ih=>
  intro i n l hi hn hl
  obtain ⟨n,rfl⟩:∃ m,n=m+1:=⟨n-1,by omega⟩
  rw [Gp]
  have e1:A1 ((i:Int)+1)=((i+1:Nat):Int):=by rw [A5];rfl
  have hd:(s.take k).drop i=s.getD i 0::(s.take k).drop (i+1):=by
   rw [F7 (s.take k) i (by rw [List.length_take];omega)]
   congr 1
   rw [List.getD_eq_getElem?_getD,List.getD_eq_getElem?_getD,List.getElem?_take_of_lt (by omega)]
  rw [A8,I6,F4,hd,D2,E0 (by omega),e1]
  simp only [cond_true]
  generalize s.getD i 0=b
  have hb:=b.toNat_lt
  have e2:A1 (b.toNat:Int)=(b.toNat:Int):=A5
  have hrow:C1 l++[[SV.int .i64 (A1 (b.toNat:Int))]]=C1 (l++[b.toNat]):=by rw [e2,Ig];rfl
  rw [hrow,ih (i+1) n _ (by omega) (by omega) (by simp;omega)]
  simp
theorem Lw:∀ s:By,G7 s<=s.length-1
 | []=>by simp [G7]
 | b::r=>by
  have:=Lw r
  unfold G7
  grind
theorem ZT (s:By) (h0:A3 s.length=true):(∃ e,M8 s=([],e)/\∀ (R:Type) (k0:Int->Option R) (k1:Int->LL->By->Int->Int->Int->Bool->Option R) (k2:LL->By->Int->Int->Int->Bool->Option R),Rx LF s k0 k1 k2=k0 (e:Nat))\/
  (∃ e l s' n' i' b' st',M8 s=([],e)/\∀ (R:Type) (k0:Int->Option R) (k1:Int->LL->By->Int->Int->Int->Bool->Option R) (k2:LL->By->Int->Int->Int->Bool->Option R),Rx LF s k0 k1 k2=k1 (e:Nat) l s' n' i' b' st')\/
  ((M8 s).2=0/\∃ s' n' i' b' st',∀ (R:Type) (k0:Int->Option R) (k1:Int->LL->By->Int->Int->Int->Bool->Option R) (k2:LL->By->Int->Int->Int->Bool->Option R),Rx LF s k0 k1 k2=k2 (C1 (M8 s).1) s' n' i' b' st'):=by
 have hLF:=D7
 unfold M8
 by_cases hl:1024<s.length
 ·rw [if_pos hl]
  refine .inl ⟨3,rfl,λR k0 k1 k2=>?_⟩
  unfold Rx
  rw [A8]
  rfl
 ·rw [if_neg hl]
  have asc:=λ(R:Type) (K0:Unit->Option R) (K1:By->Option R)=>ZS (k0:=K0) (k1:=K1) s (by omega) s.length 0 LF (by omega) (by omega)
  rw [List.drop_zero] at asc
  cases ha:s.any (λb=>Nat.ble 128 b.toNat) with
  | true=>
   rw [if_pos rfl]
   refine .inl ⟨4,rfl,λR k0 k1 k2=>?_⟩
   unfold Rx
   rw [A7,cond_false]
   refine Eq.trans (asc R _ _) ?_
   rw [ha,if_pos rfl]
   rfl
  | false=>
   rw [if_neg (by simp)]
   obtain ⟨d1,d2⟩:=Lv s
   have hlt:=Lw s
   have key:∀ (pts:List Nat) (t:By),pts.length<=256->t.length<=1024->(∀ (R:Type) (k0:Int->Option R) (k1:Int->LL->By->Int->Int->Int->Bool->Option R) (k2:LL->By->Int->Int->Int->Bool->Option R),Rx LF s k0 k1 k2=R7 LF LF (C1 pts) t 128 0 72 false k1 k2)->
     (∃ e l s' n' i' b' st',H7 t pts 128 0 72 true=([],e)/\∀ (R:Type) (k0:Int->Option R) (k1:Int->LL->By->Int->Int->Int->Bool->Option R) (k2:LL->By->Int->Int->Int->Bool->Option R),Rx LF s k0 k1 k2=k1 (e:Nat) l s' n' i' b' st')\/
     ((H7 t pts 128 0 72 true).2=0/\∃ s' n' i' b' st',∀ (R:Type) (k0:Int->Option R) (k1:Int->LL->By->Int->Int->Int->Bool->Option R) (k2:LL->By->Int->Int->Int->Bool->Option R),Rx LF s k0 k1 k2=k2 (C1 (H7 t pts 128 0 72 true).1) s' n' i' b' st'):=by
    intro pts t hp ht he
    obtain ⟨p1,p2⟩:=A09 t.length t pts 128 0 72 LF false (Nat.le_refl _) (by omega) (by omega) hp (by omega) (by omega) (by omega)
    rw [Bool.not_false] at p1 p2
    by_cases hz:(H7 t pts 128 0 72 true).2=0
    ·obtain ⟨s',n',i',b',st',e⟩:=p1 hz
     exact .inr ⟨hz,s',n',i',b',st',λR k0 k1 k2=>by rw [he];exact e R k1 k2⟩
    ·obtain ⟨pe,l,s',n',i',b',st',e⟩:=p2 hz
     exact .inl ⟨_,l,s',n',i',b',st',Prod.ext pe rfl,λR k0 k1 k2=>by rw [he];exact e R k1 k2⟩
   have hu:u8n 45=45:=rfl
   have top:∀ (R:Type) (k0:Int->Option R) (k1:Int->LL->By->Int->Int->Int->Bool->Option R) (k2:LL->By->Int->Int->Int->Bool->Option R),Rx LF s k0 k1 k2 =
     cond (ltI 0 (J4 45 s)) (Gp LF LF s (J4 45 s) 0 [] (λs'5 k'6 l'7=>cond (P0 (A1 (k'6+1)) (s'5.length:Int) s'5.length)
      (vl (cut s'5 (A1 (k'6+1)) (s'5.length:Int)) λs'8=>cond (ltI 256 (l'7.length:Int)) (k1 3 l'7 s'8 128 0 72 false) (R7 LF LF l'7 s'8 128 0 72 false k1 k2)) none))
      (R7 LF LF [] s 128 0 72 false k1 k2):=by
    intro R k0 k1 k2
    unfold Rx
    rw [A7,cond_false]
    refine Eq.trans (asc R _ _) ?_
    rw [ha,if_neg (by simp),h0,hu]
    rfl
   by_cases hd:0<G7 s
   ·have hmem:45∈s:=by
     apply Classical.byContradiction
     intro h
     have:=(d2 h).2
     omega
    have hI:=d1 hmem
    generalize G7 s=m at *
    have hcopy:=λ(R:Type) (K:By->Int->LL->Option R)=>A08 (k0:=K) s (by omega) m (by omega) m 0 LF [] (by omega) (by omega) rfl
    rw [List.drop_zero] at hcopy
    have e1:A1 ((m:Int)+1)=((m+1:Nat):Int):=by rw [A5];rfl
    have hlen:((s.take m).map (·.toNat)).length=m:=by rw [List.length_map,List.length_take];omega
    have top2:∀ (R:Type) (k0:Int->Option R) (k1:Int->LL->By->Int->Int->Int->Bool->Option R) (k2:LL->By->Int->Int->Int->Bool->Option R),Rx LF s k0 k1 k2 =
      cond (ltI 256 (m:Int)) (k1 3 (C1 ((s.take m).map (·.toNat))) (s.drop (m+1)) 128 0 72 false) (R7 LF LF (C1 ((s.take m).map (·.toNat))) (s.drop (m+1)) 128 0 72 false k1 k2):=by
     intro R k0 k1 k2
     rw [top,hI,A8,cond_true]
     refine Eq.trans (hcopy R _) ?_
     rw [e1,P5,Gg,List.take_length,List.nil_append,D2,hlen]
     rfl
    by_cases h256:256<m
    ·rw [if_pos h256]
     refine .inr (.inl ⟨3,C1 ((s.take m).map (·.toNat)),s.drop (m+1),128,0,72,false,rfl,λR k0 k1 k2=>?_⟩)
     rw [top2,A8]
     rfl
    ·rw [if_neg h256,if_neg (show ¬ m=0 by omega)]
     exact .inr (key _ (s.drop (m+1)) (by rw [hlen];omega) (by rw [List.length_drop];omega) (λR k0 k1 k2=>by rw [top2,A7];rfl))
   ·have hz:G7 s=0:=by omega
    have hI:¬ 0<J4 45 s:=by
     by_cases hm:45∈s
     all_goals grind
    rw [hz,I8,if_pos rfl]
    refine .inr (key [] s (by simp) (by omega) (λR k0 k1 k2=>?_))
    rw [top,A7]
    rfl
theorem Rp (l:List Nat):(C1 l).isEmpty=l.isEmpty:=by cases l<;>rfl
theorem By2 (s:By) (h0:A3 s.length=true):∃ r H,Rx LF s (λr0=>rv (.tup [.fl 0,.s (.int .i64 r0)]) [.arr true 3 1 []]) (λr0 l1 s2 n3 n4 n5 b6=>rv (.tup [.fl 2,.s (.int .i64 r0)]) [.arr true 3 1 l1,.box [.s (.str s2),.fl 0,.s (.int .i64 n3),.s (.int .i64 n4),.s (.int .i64 n5),.s (.bool b6)],.arr true 3 1 []]) (λl0 s1 n2 n3 n4 b5=>rv (.tup [.fl 0,.s (.int .i64 (0:Int))]) [.arr true 3 1 l0,.box [.s (.str s1),.fl 0,.s (.int .i64 n2),.s (.int .i64 n3),.s (.int .i64 n4),.s (.bool b5)]])=rv r H/\
  r.stab [1,0] H = .tup [.s (.sl (M8 s).1.isEmpty (M8 s).1.isEmpty 1 (Jr (M8 s).1)),.s (.int .i64 ((M8 s).2:Nat))]:=by
 rcases ZT s h0 with ⟨e,h1,h2⟩ | ⟨e,l,s',n',i',b',st',h1,h2⟩ | ⟨h1,s',n',i',b',st',h2⟩
 ·refine ⟨_,_,h2 _ _ _ _,?_⟩
  rw [h1]
  rfl
 ·refine ⟨_,_,h2 _ _ _ _,?_⟩
  rw [h1]
  rfl
 ·refine ⟨_,_,h2 _ _ _ _,?_⟩
  rw [h1,Bt]
  simp [PV.stab,Ls,Ld,PV.snap,L5,Rp]
end
section
open Go
theorem Xh:∀ (f:Nat) (l:By),Lib.validGoD f l=(X6 f l).isSome
 | 0,_=>rfl
 | f+1,l=>by
  unfold Lib.validGoD X6
  split
  ·rfl
  ·split
   ·rfl
   ·rw [Xh f,Option.isSome_map]
theorem Ak4 (l:By):Lib.validD l=(Bx l).isSome:=Xh _ l
theorem CO:∀ (n m:Nat) (l:By),l.length<=n->l.length<=m->X6 n l=X6 m l
 | 0,m,l,hn,_=>by
  have:l=[]:=List.length_eq_zero_iff.1 (by omega)
  subst this;cases m<;>simp [X6]
 | n+1,0,l,_,hm=>by
  have:l=[]:=List.length_eq_zero_iff.1 (by omega)
  subst this;simp [X6]
 | n+1,m+1,l,hn,hm=>by
  unfold X6
  split
  ·rfl
  ·rename_i hne
   have hw:=Lib.decodeL_width l
   have hl:0<l.length:=List.length_pos_iff.2 hne
   rw [CO n m (l.drop (Lib.decodeL l).2) (by rw [List.length_drop];omega) (by rw [List.length_drop];omega)]
theorem A15 (l:By) (hne:l≠[]):Bx l=if (Lib.decodeL l).1=65533/\(Lib.decodeL l).2=1 then none else (Bx (l.drop (Lib.decodeL l).2)).map ((Lib.decodeL l).1::·):=by
 have hl:0<l.length:=List.length_pos_iff.2 hne
 have hw:=Lib.decodeL_width l
 obtain ⟨n,hn⟩:∃ n,l.length=n+1:=⟨l.length-1,by omega⟩
 unfold Bx
 rw [hn]
 conv=>lhs;unfold X6
 rw [if_neg hne,CO n (l.drop (Lib.decodeL l).2).length _ (by rw [List.length_drop];omega) (Nat.le_refl _)]
theorem HN:∀ (f:Nat) (s:ByteArray) (pos:Nat) (p:List Nat),pos<=s.size->X6 f (s.data.toList.drop pos)=some p->s.size-pos<=f->Lib.runeCountFrom s f pos=p.length
 | 0,s,pos,p,hp,h,hf=>by
  simp only [X6,Option.some.injEq] at h
  subst h;rfl
 | f+1,s,pos,p,hp,h,hf=>by
  have hsz:s.data.toList.length=s.size:=by rw [Array.length_toList];rfl
  unfold X6 at h
  rw [Lib.decodeL_drop] at h
  by_cases hps:pos<s.size
  ·rw [if_neg (by rw [<-List.length_eq_zero_iff,List.length_drop];omega)] at h
   split at h
   ·cases h
   ·cases hq:X6 f (List.drop (Utf8.decode s pos).2 (List.drop pos s.data.toList)) with
    | none=>rw [hq] at h;cases h
    | some q=>
     rw [hq] at h
     simp only [Option.map_some,Option.some.injEq] at h
     subst h
     have hw:=Lib.decode_width_pos s pos hps
     have hwl:pos+(Utf8.decode s pos).2<=s.size:=by
      have:=Lib.decodeL_le (s.data.toList.drop pos) (by rw [ne_eq,<-List.length_eq_zero_iff,List.length_drop];omega)
      rw [Lib.decodeL_drop,List.length_drop] at this
      omega
     rw [List.drop_drop] at hq
     unfold Lib.runeCountFrom
     rw [if_pos hps,HN f s _ q hwl hq (by omega)]
     grind
  ·rw [if_pos (by rw [<-List.length_eq_zero_iff,List.length_drop];omega)] at h
   simp only [Option.some.injEq] at h
   subst h
   rw [Lib.runeCountFrom_end s _ _ hps];rfl
theorem DG {l:By} {p:List Nat} (h:Bx l=some p):Lib.runeCountL l=p.length:=by
 unfold Lib.runeCountL Lib.runeCount
 have hs:(ByteArray.mk l.toArray).size=l.length:=by simp [ByteArray.size]
 refine HN _ _ 0 p (Nat.zero_le _) ?_ (by omega)
 rw [hs,List.drop_zero]
 simpa [Bx] using h
open Lib in theorem Cm2 (n b0 b1 b2 b3:Nat) (hb:194<=b0/\b0<224) (h1:b1<256):decodeN n b0 b1 b2 b3=if 2<=n/\128<=b1/\b1<=191 then ((b0-192)*64+b1-128,2) else (65533,1):=by
 unfold decodeN
 rw [I8]
 by_cases hc:2<=n/\128<=b1/\b1<=191
 ·rw [if_pos hc,V7,V7]
  exact Prod.ext (by show b0 % 32*64+b1 % 64=(b0-192)*64+b1-128;omega) rfl
 ·rw [if_neg hc,I8,I8,I8]
open Lib in theorem Cm3 (n b0 b1 b2 b3:Nat) (hb:224<=b0/\b0<240) (h1:b1<256) (h2:b2<256):decodeN n b0 b1 b2 b3=if 3<=n/\(128<=b1/\b1<=191)/\(128<=b2/\b2<=191) then
  (if 2048<=((b0-224)*64+b1-128)*64+b2-128/\T7 (((b0-224)*64+b1-128)*64+b2-128)=true then (((b0-224)*64+b1-128)*64+b2-128,3) else (65533,1)) else (65533,1):=by
 unfold decodeN
 rw [I8,I8]
 by_cases hc:3<=n/\(128<=b1/\b1<=191)/\(128<=b2/\b2<=191)
 ·rw [if_pos hc,V7]
  have e:b0 % 16*4096+b1 % 64*64+b2 % 64=((b0-224)*64+b1-128)*64+b2-128:=by omega
  rw [e]
  generalize ((b0-224)*64+b1-128)*64+b2-128=v
  congr 1
  simp only [T7,Bool.and_eq_true,Bool.or_eq_true,Nat.ble_eq,Nat.blt_eq]
  apply propext;omega
 ·rw [if_neg hc,I8,I8]
open Lib in theorem Cm4 (n b0 b1 b2 b3:Nat) (hb:240<=b0/\b0<245) (h1:b1<256) (h2:b2<256) (h3:b3<256):decodeN n b0 b1 b2 b3=if 4<=n/\(128<=b1/\b1<=191)/\(128<=b2/\b2<=191)/\(128<=b3/\b3<=191) then
  (if 65536<=(((b0-240)*64+b1-128)*64+b2-128)*64+b3-128/\T7 ((((b0-240)*64+b1-128)*64+b2-128)*64+b3-128)=true then ((((b0-240)*64+b1-128)*64+b2-128)*64+b3-128,4) else (65533,1)) else (65533,1):=by
 unfold decodeN
 rw [I8,I8,I8]
 by_cases hc:4<=n/\(128<=b1/\b1<=191)/\(128<=b2/\b2<=191)/\(128<=b3/\b3<=191)
 ·rw [if_pos hc,V7]
  have e:b0 % 8*262144+b1 % 64*4096+b2 % 64*64+b3 % 64=(((b0-240)*64+b1-128)*64+b2-128)*64+b3-128:=by omega
  rw [e]
  generalize (((b0-240)*64+b1-128)*64+b2-128)*64+b3-128=v
  congr 1
  simp only [T7,Bool.and_eq_true,Bool.or_eq_true,Nat.ble_eq,Nat.blt_eq]
  apply propext;omega
 ·rw [if_neg hc,I8]
end
section
open Go Go.Proofs
theorem Qt (l:List Nat):U4 (l.map λn:Nat=>(n:Int))=Bj l:=by
 have h1:(l.map λn:Nat=>(n:Int)).all ptI=l.all T7:=by
  rw [List.all_map]
  congr 1
 have h2:(l.map λn:Nat=>(n:Int)).map Int.toNat=l:=by
  rw [List.map_map]
  exact (List.map_congr_left λa _=>by simp).trans (List.map_id l)
 unfold U4
 rw [List.length_map,h1,h2]
 by_cases h:256<l.length
 ·rw [if_pos h];unfold Bj;rw [if_pos h]
 ·rw [if_neg h]
  cases hp:l.all T7 with
  | true=>rw [if_pos rfl]
  | false=>
   rw [if_neg (by simp)]
   unfold Bj
   grind
theorem Qr (l:List Nat):(C1 l).map elI=l.map λn:Nat=>(n:Int):=by
 unfold C1
 rw [List.map_map]
 exact List.map_congr_left λa _=>rfl
theorem Cc (l:List Nat):(C1 l).all Kv=true:=by
 unfold C1
 rw [List.all_map,List.all_eq_true]
 intro x _
 rfl
theorem ZA {R:Type} {k0:Unit->Option R} {k1:By->Bool->LL->Bool->Option R} (s:By) (z:Bool) (p:List Nat) (hp:p.length<=1000000000):∀ (r i n:Nat) (b:Bool),i+r=p.length->r<n->
  V8 LF n s z (C1 p) b (p.length:Int) (i:Int) k0 k1=if (p.drop i).any (λp=>Nat.ble 65 p&&Nat.ble p 90) then k0 () else k1 s z (C1 p) (b && !((p.drop i).any λp=>Nat.ble 128 p)):=by
 intro r
 induction r with
 | zero=>
  intro i n b hi hn
  obtain ⟨n,rfl⟩:∃ m,n=m+1:=⟨n-1,by omega⟩
  rw [V8]
  rw [A7,List.drop_of_length_le (by omega)]
  simp
 | succ r ih=>
  intro i n b hi hn
  obtain ⟨n,rfl⟩:∃ m,n=m+1:=⟨n-1,by omega⟩
  rw [V8]
  have e1:A1 ((i:Int)+1)=((i+1:Nat):Int):=by rw [A5];rfl
  have hd:p.drop i=p.getD i 0::p.drop (i+1):=by
   rw [List.getD_eq_getElem?_getD,List.getElem?_eq_getElem (by omega),Option.getD_some,List.getElem_cons_drop]
  rw [A8,D2,I6,Int.toNat_natCast,Nf (by omega),Vd _ _ (by omega),hd,List.any_cons,List.any_cons,e1]
  simp only [cond_true,vl]
  generalize p.getD i 0=q
  have go:∀ c:Bool,V8 LF n s z (C1 p) c (p.length:Int) ((i+1:Nat):Int) k0 k1=_:=λc=>ih (i+1) n c (by omega) (by omega)
  by_cases h1:q<65
  ·rw [A8,show Nat.ble 65 q=false by rw [Bool.eq_false_iff,ne_eq,Nat.ble_eq];omega]
   have h2:Nat.ble 128 q=false:=by rw [Bool.eq_false_iff,ne_eq,Nat.ble_eq];omega
   rw [show ltI (q:Int) (128:Int)=true from A8,h2]
   simp only [Bool.not_true,cond_false,Bool.false_and,Bool.false_or]
   cases b<;>simp only [cond_true,cond_false]<;>rw [go]
  ·rw [A7,show Nat.ble 65 q=true by rw [Nat.ble_eq];omega]
   simp only [Bool.not_false,cond_true,Bool.true_and]
   by_cases h2:90<q
   ·rw [A8,show Nat.ble q 90=false by rw [Bool.eq_false_iff,ne_eq,Nat.ble_eq];omega]
    simp only [Bool.not_true,cond_false,Bool.false_or]
    by_cases h3:q<128
    ·rw [show ltI (q:Int) (128:Int)=true from A8,show Nat.ble 128 q=false by rw [Bool.eq_false_iff,ne_eq,Nat.ble_eq];omega]
     cases b<;>simp only [cond_true,cond_false,Bool.false_or]<;>rw [go]
    ·rw [show ltI (q:Int) (128:Int)=false from A7,show Nat.ble 128 q=true by rw [Nat.ble_eq];omega]
     cases b<;>simp only [cond_true,cond_false,Bool.true_or,Bool.not_true,Bool.and_false]<;>rw [go]<;>simp
   ·rw [A7,show Nat.ble q 90=true by rw [Nat.ble_eq];omega]
    simp
theorem XH:∀ (m:Nat) (s:By) (pts:List Nat) (n i b:Nat) (f:Bool),s.length<=m->pts.length<=256->(H7 s pts n i b f).1.length<=256:=by
 intro m
 induction m with
 | zero=>
  intro s pts n i b f hs hp
  obtain rfl:=List.length_eq_zero_iff.1 (Nat.le_zero.1 hs)
  rw [Bh]
  exact hp
 | succ m ih=>
  intro s pts n i b f hs hp
  by_cases h:s=[]
  ·grind
  ·by_cases hq:(D9 b s i 1 0).2.2=0
   ·rw [Cn h _ _ _ _ _ hq]
    have hlt:=My b s i 1 0 hq
    split
    ·split
     ·grind
     ·rename_i h2
      exact ih _ _ _ _ _ _ (by omega) (by rw [Ac];omega)
    grind
   ·rw [Ey h _ _ _ _ _ hq]
    grind
theorem PS (s:By):(M8 s).1.length<=256:=by
 unfold M8
 split
 ·grind
 ·split
  ·grind
  ·split
   ·grind
   ·rename_i h
    exact XH _ _ _ _ _ _ _ (Nat.le_refl _) (by rw [List.length_map,List.length_take];omega)
theorem ZB {R:Type} {k0:Bool->Option R} (s:By) (h0:A3 s.length=true):Aq3 LF s k0=k0 (Ce s):=by
 have hLF:=D7
 unfold Aq3 Ce
 rw [h0,cond_true]
 by_cases h:(M8 s).2=0
 ·have e:(((M8 s).2:Int) != (0:Int))=false:=by rw [h];rfl
  rw [e,cond_false,Bt,D2,h]
  have hl:=PS s
  refine Eq.trans (ZA s _ (M8 s).1 (by omega) (M8 s).1.length 0 LF true (by omega) (by omega)) ?_
  rw [List.drop_zero]
  cases h1:(M8 s).1.any (λp=>Nat.ble 65 p&&Nat.ble p 90) with
  | true=>simp
  | false=>
   rw [if_neg (by simp),Cc,Qr,Qt]
   simp only [cond_true,vl,Bool.true_and,Bool.not_false]
   cases h2:(M8 s).1.any (λp=>Nat.ble 128 p) with
   | false=>simp
   | true=>
    simp only [Bool.not_true,Bool.not_false,cond_true,Bool.and_true,beq_self_eq_true,Bool.true_and]
    by_cases h3:(Bj (M8 s).1).2=0
    all_goals grind
 grind
theorem Az5 {R:Type} {k0:Unit->Option R} {k1:By->Option R} (s:By) (hs:s.length<=1000000000):∀ (r i n:Nat),i+r=s.length->r<n->
  R0 LF n s (s.length:Int) (i:Int) k0 k1=if (s.drop i).all V0 then k1 s else k0 ():=by
 intro r
 induction r with
 | zero=>
  intro i n hi hn
  obtain ⟨n,rfl⟩:∃ m,n=m+1:=⟨n-1,by omega⟩
  rw [R0]
  rw [A7,List.drop_of_length_le (by omega)]
  rfl
 | succ r ih=>
  intro i n hi hn
  obtain ⟨n,rfl⟩:∃ m,n=m+1:=⟨n-1,by omega⟩
  rw [R0]
  have e1:A1 ((i:Int)+1)=((i+1:Nat):Int):=by rw [A5];rfl
  rw [A8,I6,F4,F7 s i (by omega),e1,List.all_cons]
  simp only [cond_true]
  rw [ih (i+1) n (by omega) (by omega)]
  generalize s.getD i 0=b
  have hb:=Xb b
  have q1:((b.toNat:Int) != 45) = !(b==45):=congrArg _ (P6 b 45 (by omega))
  have q2:((b.toNat:Int) != 95) = !(b==95):=congrArg _ (P6 b 95 (by omega))
  rw [q1,q2]
  have t:∀ {x:Bool},V0 b=x->(if (V0 b&&(s.drop (i+1)).all V0)=true then k1 s else k0 ())=if (x&&(s.drop (i+1)).all V0)=true then k1 s else k0 ():=λh=>by rw [h]
  cases hl:V0 b with
  | true=>
   rw [hb] at hl
   simp only [Bool.true_and]
   by_cases h1:b=45
   ·subst h1
    simp (disch:=decide) [ltI]
   ·by_cases h2:b=95
    ·subst h2
     simp (disch:=decide) [ltI]
    ·rcases hl with hl | hl | hl | hl
     ·rw [show ltI (b.toNat:Int) 97=false from A7,show ltI (122:Int) b.toNat=false from A7];rfl
     ·rw [show ltI (b.toNat:Int) 97=true from A8,show ltI (b.toNat:Int) 48=false from A7,show ltI (57:Int) b.toNat=false from A7];rfl
     ·exact absurd hl h1
     ·exact absurd hl h2
  | false=>
   have hn:¬ ((97<=b.toNat/\b.toNat<=122)\/(48<=b.toNat/\b.toNat<=57)\/b=45\/b=95):=λh=>by rw [hb.2 h] at hl;cases hl
   have n1:(b==45)=false:=by simpa using λh=>hn (.inr (.inr (.inl h)))
   have n2:(b==95)=false:=by simpa using λh=>hn (.inr (.inr (.inr h)))
   rw [n1,n2]
   simp only [Bool.not_false,cond_true,Bool.false_and,Bool.false_eq_true,if_false]
   by_cases h1:b.toNat<48
   ·rw [show ltI (b.toNat:Int) 97=true from A8,show ltI (b.toNat:Int) 48=true from A8];rfl
   ·by_cases h2:b.toNat<97
    ·rw [show ltI (b.toNat:Int) 97=true from A8,show ltI (b.toNat:Int) 48=false from A7,show ltI (57:Int) b.toNat=true from A8];rfl
    ·rw [show ltI (b.toNat:Int) 97=false from A7,show ltI (122:Int) b.toNat=true from A8,show ltI (b.toNat:Int) 48=false from A7,show ltI (57:Int) b.toNat=true from A8];rfl
theorem Az6 {R:Type} {k0:Bool->Option R} (s:By) (h0:A3 s.length=true):Bw7 LF s k0=k0 (K4 s):=by
 have hs:=K8 h0
 have hLF:=D7
 unfold Bw7 K4
 by_cases h1:s=[]
 ·simp_all
 ·have hl:0<s.length:=List.length_pos_iff.2 h1
  have he:s.isEmpty=false:=by simpa using h1
  rw [A7,cond_false,he]
  by_cases h2:63<s.length
  ·rw [A8,show Nat.ble s.length 63=false by rw [Bool.eq_false_iff,ne_eq,Nat.ble_eq];omega]
   rfl
  ·rw [A7,cond_false,show Nat.ble s.length 63=true by rw [Nat.ble_eq];omega,I6]
   have q1:(bAt s 0==(45:Int))=(s.getD 0 0==45):=by rw [Hu];exact P6 _ 45 (by omega)
   have e1:A1 ((s.length:Int)-1)=((s.length-1:Nat):Int):=by rw [A5];omega
   rw [q1,e1]
   simp only [cond_true,vl]
   rw [I6,F4,show ((((s.getD (s.length-1) 0).toNat:Nat):Int)==45)=(s.getD (s.length-1) 0==45) from P6 _ 45 (by omega)]
   cases h3:(s.getD 0 0==45) with
   | true=>
    grind
   | false=>
    rw [show (s.getD 0 0 != 45)=true by unfold bne;rw [h3];rfl]
    simp only [cond_true,cond_false]
    cases h4:(s.getD (s.length-1) 0==45) with
    | true=>
     grind
    | false=>
     rw [show (s.getD (s.length-1) 0 != 45)=true by unfold bne;rw [h4];rfl]
     simp only [cond_false]
     refine Eq.trans (Az5 s hs s.length 0 LF (by omega) (by omega)) ?_
     rw [List.drop_zero]
     cases h5:s.all V0 with
     | false=>simp
     | true=>
      rw [if_pos rfl,h0,cond_true]
      simp only [Bool.not_false,Bool.true_and,Bool.and_true]
      show cond (!(xnB.isPrefixOf s)) _ _=_
      cases h6:xnB.isPrefixOf s with
      | false=>rfl
      | true=>
       have hc:AQ s xnB=s.drop 4:=by unfold AQ;rw [h6];rfl
       show cond (A3 (AQ s xnB).length) (k0 (Ce (AQ s xnB))) none=_
       rw [hc,F5 (by rw [List.length_drop];omega)]
       rfl
theorem XQ (pts:List Nat) (basic:Nat) (hl:pts.length<=256) (hb:basic<=256) (hall:∀ p∈pts,p<=1114111):∀ (f n:Nat) (s:IC),s.done=pts.countP (λp=>decide (p<n))->s.delta<=300->s.bias<=500->s.out.length+20*(pts.length-s.done)<=80000->n<=1114112->
  (Q1 pts basic f n s).out.length<=80000:=by
 intro f
 have hLF:=D7
 induction f with
 | zero=>intro n s hd h1 h2 h3 h4;unfold Q1;omega
 | succ f ih=>
  intro n s hd h1 h2 h3 h4
  have hcl:pts.countP (λp=>decide (p<n))<=pts.length:=List.countP_le_length
  by_cases hlt:s.done<pts.length
  ·obtain ⟨p0,hp0,hp1⟩:=XD (n:=n) (l:=pts) (by omega)
   obtain ⟨g1,g2,g3⟩:=Ct n pts 1114112
   have g4:=g3 p0 hp0 hp1
   have g5:=hall p0 hp0
   have hmem:H9 n pts 1114112∈pts/\n<=H9 n pts 1114112:=by grind
   have he:Q1 pts basic (f+1) n s=Q1 pts basic f (H9 n pts 1114112+1) { I1 (H9 n pts 1114112) basic pts { s with delta:=s.delta+(H9 n pts 1114112-n)*(s.done+1) } with delta:=(I1 (H9 n pts 1114112) basic pts { s with delta:=s.delta+(H9 n pts 1114112-n)*(s.done+1) }).delta+1 }:=by
    rw [Q1,if_pos hlt]
   rw [he]
   generalize H9 n pts 1114112=m at *
   have hmul:(m-n)*(s.done+1)<=1114112*256:=Nat.mul_le_mul (by omega) (by omega)
   have hin:=Ar6 false false pts basic m (by omega) hl pts.length 0 LF { s with delta:=s.delta+(m-n)*(s.done+1) } (by omega) (by omega) (by simp only;omega) h2 (by simp only;omega) (by simp only;omega) hb
   rw [List.drop_zero] at hin
   obtain ⟨_,q2,q3,q4,q5⟩:=hin
   have hcnt:0<pts.countP (· == m):=List.countP_pos_iff.2 ⟨m,hmem.1,by simp⟩
   rw [if_pos hcnt] at q5
   have hstep:=Qj hmem.2 pts g3
   generalize I1 m basic pts { s with delta:=s.delta+(m-n)*(s.done+1) } = s' at *
   simp only at q3 q4
   have hcl2:pts.countP (λp=>decide (p<m+1))<=pts.length:=List.countP_le_length
   exact ih (m+1) { s' with delta:=s'.delta+1 } (by simp only;omega) (by simp only;omega) q2 (by simp only;omega) (by omega)
  ·rw [Q1,if_neg hlt];omega
theorem PY (p:List Nat):(Bj p).1.length<=80000:=by
 unfold Bj
 split
 ·grind
 ·rename_i h
  split
  ·grind
  ·rename_i h2
   have hp:∀ q∈p,q<=1114111:=λq hq=>by
    have h2:p.all T7=true:=by simpa using h2
    have:=List.all_eq_true.1 h2 q hq
    simp only [T7,Bool.and_eq_true,Nat.ble_eq] at this
    omega
   have hbl:=Pb p
   have hbc:p.countP (λq=>decide (q<128))<=p.length:=List.countP_le_length
   refine XQ p _ (by omega) (by omega) hp 256 128 _ hbl (by simp) (by simp) ?_ (by omega)
   grind
theorem MI {b:UInt8} (h:128<=b.toNat):Gb b=b:=by
 rcases Fg b with ⟨_,e⟩ | ⟨_,e⟩ | ⟨_,h2,_⟩
 all_goals omega
theorem MJ {b:UInt8} (h:b.toNat<128):(Gb b).toNat<128:=by
 rcases Fg b with ⟨_,e⟩ | ⟨_,e⟩ | ⟨_,h2,e⟩
 all_goals grind
theorem Av5 (n:Nat) (b0 b1 b2 b3:UInt8) (h:128<=b0.toNat):Lib.decodeN n b0.toNat (Gb b1).toNat (Gb b2).toNat (Gb b3).toNat=Lib.decodeN n b0.toNat b1.toNat b2.toNat b3.toNat:=by
 have k1:∀ b:UInt8,b.toNat / 64=2->Gb b=b:=λb hb=>MI (by omega)
 have k2:∀ b:UInt8,¬ b.toNat / 64=2->¬ (Gb b).toNat / 64=2:=λb hb h=>by
  by_cases h2:128<=b.toNat
  ·rw [MI h2] at h;exact hb h
  ·have:=MJ (b:=b) (by omega)
   omega
 unfold Lib.decodeN
 grind
theorem Br8 (l:By) (hne:l≠[]):(Lib.decodeL (C7 l)).2=(Lib.decodeL l).2/\(¬ ((Lib.decodeL l).1=65533/\(Lib.decodeL l).2=1)->¬ ((Lib.decodeL (C7 l)).1=65533/\(Lib.decodeL (C7 l)).2=1)):=by
 cases l with
 | nil=>exact absurd rfl hne
 | cons b t=>
  by_cases hb:b.toNat<128
  ·have e1:=Lib.decodeL_ascii b t hb
   have e2:Lib.decodeL (C7 (b::t))=((Gb b).toNat,1):=Lib.decodeL_ascii (Gb b) (C7 t) (MJ hb)
   rw [e1,e2]
   refine ⟨rfl,λ_ h=>?_⟩
   have:=MJ hb
   omega
  ·have e:Lib.decodeL (C7 (b::t))=Lib.decodeL (b::t):=by
    rw [Lib.decodeL_N,Lib.decodeL_N,Ie,Jp,Jp,Jp,Jp]
    have e0:Gb ((b::t).getD 0 0)=b:=MI (b:=b) (show 128<=b.toNat by omega)
    rw [e0]
    exact Av5 (b::t).length b ((b::t).getD 1 0) ((b::t).getD 2 0) ((b::t).getD 3 0) (show 128<=b.toNat by omega)
   grind
theorem GS:∀ (f:Nat) (l:By),(X6 f l).isSome=true->(X6 f (C7 l)).isSome=true
 | 0,_,_=>rfl
 | f+1,l,h=>by
  unfold X6 at h ⊢
  by_cases hl:l=[]
  ·subst hl;rfl
  ·rw [if_neg hl] at h
   rw [if_neg (by rw [GH];exact hl)]
   obtain ⟨d1,d2⟩:=Br8 l hl
   split at h
   ·cases h
   ·rename_i hv
    rw [if_neg (d2 hv),Option.isSome_map,d1,YY]
    rw [Option.isSome_map] at h
    exact GS f _ h
theorem RV {l:By} (h:(Bx l).isSome=true):(Bx (C7 l)).isSome=true:=by
 unfold Bx at h ⊢
 rw [Ie]
 exact GS _ _ h
theorem Ay0 (t:By) (ht:t.length<=1000000000):∀ (f pos:Nat) (P q:List Nat) (n:Nat),pos<=t.length->t.length-pos<=f->f<n->P.length<=pos->X6 f (t.drop pos)=some q->
  ∃ m,∀ (R:Type) (k0:LL->By->Nat->Option R),Dl LF n (C1 P) t pos k0=k0 (C1 (P++q)) t m:=by
 intro f
 induction f with
 | zero=>
  intro pos P q n h1 h2 h3 h4 h5
  obtain ⟨n,rfl⟩:∃ m,n=m+1:=⟨n-1,by omega⟩
  simp only [X6,Option.some.injEq] at h5
  subst h5
  refine ⟨pos,λR k0=>?_⟩
  rw [Dl]
  rw [decide_eq_false (by omega),cond_false,List.append_nil]
 | succ f ih=>
  intro pos P q n h1 h2 h3 h4 h5
  obtain ⟨n,rfl⟩:∃ m,n=m+1:=⟨n-1,by omega⟩
  by_cases hp:pos<t.length
  ·have hne:t.drop pos≠[]:=by rw [ne_eq,<-List.length_eq_zero_iff,List.length_drop];omega
   have hd:=Lib.decodeL_drop ⟨t.toArray⟩ pos
   have hd':Utf8.decode ⟨List.toArray t⟩ pos=Lib.decodeL (t.drop pos):=by rw [<-hd]
   unfold X6 at h5
   rw [if_neg hne] at h5
   split at h5
   ·cases h5
   ·have hw:=Lib.decodeL_width (t.drop pos)
    have hle:=Lib.decodeL_le (t.drop pos) hne
    have hr:=Lib.decodeL_rune (t.drop pos)
    rw [List.length_drop] at hle
    rw [List.drop_drop] at h5
    generalize Lib.decodeL (t.drop pos)=dd at *
    obtain ⟨c,wd⟩:=dd
    simp only at *
    cases hq:X6 f (t.drop (pos+wd)) with
    | none=>rw [hq] at h5;cases h5
    | some q'=>
     rw [hq] at h5
     simp only [Option.map_some,Option.some.injEq] at h5
     subst h5
     obtain ⟨m,e⟩:=ih (pos+wd) (P++[c]) q' n (by omega) (by omega) (by omega) (by simp;omega) hq
     refine ⟨m,λR k0=>?_⟩
     rw [Dl]
     rw [decide_eq_true hp,cond_true,hd',D2,E0 (by omega)]
     simp only [vl,cond_true]
     have e1:A1 (c:Int)=(c:Int):=A5
     have hrow:C1 P++[[SV.int .i64 (A1 (c:Int))]]=C1 (P++[c]):=by rw [e1,Ig];rfl
     rw [hrow,e,List.append_assoc]
     rfl
  ·have hnil:t.drop pos=[]:=by rw [<-List.length_eq_zero_iff,List.length_drop];omega
   unfold X6 at h5
   rw [hnil,if_pos rfl] at h5
   simp only [Option.some.injEq] at h5
   subst h5
   refine ⟨pos,λR k0=>?_⟩
   rw [Dl]
   rw [decide_eq_false hp,cond_false,List.append_nil]
theorem YN (s:By) (h0:A3 s.length=true):(∀ (R:Type) (k0:By->Int->Option R) (k1:By->Int->LL->By->Nat->Option R),RA LF s k0 k1=k0 (I5 s).1 ((I5 s).2:Nat))\/
  (∃ l t m,∀ (R:Type) (k0:By->Int->Option R) (k1:By->Int->LL->By->Nat->Option R),RA LF s k0 k1=k1 (I5 s).1 ((I5 s).2:Nat) l t m):=by
 have hs:=K8 h0
 have hLF:=D7
 unfold I5
 cases hp:Bx s with
 | none=>
  refine .inl λR k0 k1=>?_
  unfold RA
  rw [h0,hp]
  rfl
 | some p=>
  have hrc:=DG hp
  have top:∀ (R:Type) (k0:By->Int->Option R) (k1:By->Int->LL->By->Nat->Option R),RA LF s k0 k1=cond (ltI 256 (p.length:Int)) (k0 [] 3) (cond (ltI (p.length:Int) (s.length:Int)) (Dl LF LF [] (C7 s) 0 (λl'5 s'6 m'7=>cond (List.all l'5 Kv)
      (cond (((U4 (List.map elI l'5)).2:Int) != (0:Int))
       (k1 ([]:List UInt8) 14 l'5 s'6 m'7)
       (cond (Kr 4 (List.length ((U4 (List.map elI l'5))).1))
        (cond (A3 (List.length (xnB++((U4 (List.map elI l'5))).1)))
         (cond (not (K4 (xnB++((U4 (List.map elI l'5))).1)))
         (k1 ([]:List UInt8) 14 l'5 s'6 m'7)
         (k1 (xnB++((U4 (List.map elI l'5))).1) 0 l'5 s'6 m'7))
         (none))
        (none)))
      (none)))
     (cond (A3 (List.length (C7 s)))
      (cond (not (K4 (C7 s)))
      (k0 ([]:List UInt8) 14)
      (k0 (C7 s) 0))
      (none))):=by
   intro R k0 k1
   unfold RA
   rw [h0,hp,hrc]
   rfl
  simp only
  by_cases h1:256<p.length
  ·rw [if_pos h1]
   refine .inl λR k0 k1=>?_
   rw [top,A8]
   rfl
  ·rw [if_neg h1]
   by_cases h2:p.length<s.length
   ·rw [if_pos h2]
    have hlow:=RV (l:=s) (by rw [hp];rfl)
    cases hq:Bx (C7 s) with
    | none=>rw [hq] at hlow;cases hlow
    | some q=>
     have hll:=Ie s
     obtain ⟨m,e⟩:=Ay0 (C7 s) (by omega) (C7 s).length 0 [] q LF (by omega) (by omega) (by omega) (by simp) (by rw [List.drop_zero];exact hq)
     refine .inr ⟨C1 q,C7 s,m,λR k0 k1=>?_⟩
     rw [top,A7,cond_false,A8,cond_true]
     refine Eq.trans (e R _) ?_
     have hel:=PY q
     rw [List.nil_append,Cc,Qr,Qt,cond_true,Mx (by omega),cond_true,F5 (by rw [List.length_append];simp only [xnB,List.length_cons,List.length_nil];omega),cond_true]
     simp only
     by_cases h3:(Bj q).2=0
     ·rw [h3,if_pos rfl]
      cases h4:K4 (xnB++(Bj q).1) with
      | true=>rfl
      | false=>rfl
     ·rw [if_neg h3]
      have:(((Bj q).2:Int) != (0:Int))=true:=by simpa using h3
      rw [this]
      rfl
   ·rw [if_neg h2]
    refine .inl λR k0 k1=>?_
    rw [top,A7,cond_false,A7,cond_false,F5 (by rw [Ie];exact hs),cond_true]
    cases K4 (C7 s)<;>rfl
theorem Bu6 (s:By) (h0:A3 s.length=true):∃ r H,RA LF s (λr0 r1=>rv (.tup [.s (.str r0),.s (.int .i64 r1)]) []) (λr0 r1 l2 s3 m4=>rv (.tup [.s (.str r0),.s (.int .i64 r1)]) [.arr true 3 1 l2,.iter s3 m4])=rv r H/\
  r.stab [0,0] H = .tup [.s (.str (I5 s).1),.s (.int .i64 ((I5 s).2:Nat))]:=by
 rcases YN s h0 with h | ⟨l,t,m,h⟩
 ·exact ⟨_,_,h _ _ _,rfl⟩
 ·exact ⟨_,_,h _ _ _,rfl⟩
theorem Aw8 {R:Type} {k0:Int->Option R} (b:Int) (h0:inR b 256=true):Be6 LF b k0=k0 (Di (u8n b)):=by
 simp only [inR,Bool.and_eq_true,decide_eq_true_eq] at h0
 have hc:b=((u8n b).toNat:Int):=by
  unfold u8n
  simp
  omega
 generalize u8n b=c at *
 subst hc
 have hbt:=c.toNat_lt
 unfold Be6
 simp only [Rf,Re,vl,Di]
 rcases Bi c with ⟨h1,h2,e⟩ | ⟨h1,h2,e⟩ | ⟨h1,h2,e⟩ | ⟨h1,h2,h3,e⟩
 ·have e2:A1 (wu8 ((c.toNat:Int)-48))=((dig c:Nat):Int):=by
   rw [N2,A5];omega
  rw [V7]
  simp (disch:=omega) only [C2,D1,Bool.not_true,Bool.not_false,cond_false,cond_true,e2]
 ·have e2:A1 (A1 (wu8 ((c.toNat:Int)-97))+10)=((dig c:Nat):Int):=by
   rw [N2,D3 (n:=(c.toNat:Int)-97) (by omega) (by omega),A5];omega
  rw [V7]
  simp (disch:=omega) only [C2,D1,Bool.not_true,Bool.not_false,cond_false,cond_true,e2]
 ·have e2:A1 (A1 (wu8 ((c.toNat:Int)-65))+10)=((dig c:Nat):Int):=by
   rw [N2,D3 (n:=(c.toNat:Int)-65) (by omega) (by omega),A5];omega
  rw [V7]
  simp (disch:=omega) only [C2,D1,Bool.not_true,Bool.not_false,cond_false,cond_true,e2]
 ·rw [e,if_neg (by decide)]
  by_cases c1:c.toNat<48
  ·simp (disch:=omega) only [C2,D1,Bool.not_true,Bool.not_false,cond_false,cond_true]
  ·by_cases c2:c.toNat<65
   ·simp (disch:=omega) only [C2,D1,Bool.not_true,Bool.not_false,cond_false,cond_true]
   ·by_cases c3:c.toNat<97
    ·simp (disch:=omega) only [C2,D1,Bool.not_true,Bool.not_false,cond_false,cond_true]
    ·simp (disch:=omega) only [C2,D1,Bool.not_true,Bool.not_false,cond_false,cond_true]
theorem MU {b:UInt8} (r:By) (h:b≠37):R4 (b::r)=(R4 r).map (b::·):=by
 conv=>lhs;unfold R4
 grind
theorem CL (x y:UInt8) (r:By):R4 (37::x::y::r)=if dig x<16/\dig y<16 then (R4 r).map (UInt8.ofNat (16*dig x+dig y)::·) else none:=by
 conv=>lhs;unfold R4
 grind
theorem PU (x:UInt8):ltI (Di x) 0 = !(decide (dig x<16)):=by
 unfold Di
 by_cases h:dig x<16
 ·simp_all
 ·rw [if_neg h,A8,decide_eq_false h];rfl
theorem Yi:∀ (s t:By),R4 s=some t->t.length<=s.length
 | [],t,h=>by simp only [R4,Option.some.injEq] at h;subst h;exact Nat.le_refl _
 | b::r,t,h=>by
  by_cases hb:b=37
  ·subst hb
   match r,h with
   | [],h=>cases h
   | [x],h=>cases h
   | x::y::r',h=>
    rw [CL] at h
    split at h
    ·cases hq:R4 r' with
     | none=>rw [hq] at h;cases h
     | some q=>
      rw [hq] at h
      simp only [Option.map_some,Option.some.injEq] at h
      subst h
      have:=Yi r' q hq
      simp only [List.length_cons]
      omega
    ·cases h
  ·rw [MU _ hb] at h
   cases hq:R4 r with
   | none=>rw [hq] at h;cases h
   | some q=>
    rw [hq] at h
    simp only [Option.map_some,Option.some.injEq] at h
    subst h
    have:=Yi r q hq
    grind
theorem Aw7 (s:By) (hs:s.length<=1000000000):∀ (m i n:Nat) (acc:By),i<=s.length->s.length-i<=m->m<n->acc.length<=i->
  (∀ t,R4 (s.drop i)=some t->∀ (R:Type) (k0:LL->Option R) (k1:LL->Option R),R6 LF n s (i:Int) (acc.map E3) k0 k1=k1 ((acc++t).map E3))/\
  (R4 (s.drop i)=none->∃ l,∀ (R:Type) (k0:LL->Option R) (k1:LL->Option R),R6 LF n s (i:Int) (acc.map E3) k0 k1=k0 l):=by
 intro m
 induction m with
 | zero=>
  intro i n acc hi hm hn ha
  obtain ⟨n,rfl⟩:∃ m,n=m+1:=⟨n-1,by omega⟩
  rw [List.drop_of_length_le (by omega)]
  refine ⟨λt ht R k0 k1=>?_,λh=>(by cases h)⟩
  simp only [R4,Option.some.injEq] at ht
  subst ht
  rw [R6]
  rw [A7,List.append_nil]
  rfl
 | succ m ih=>
  intro i n acc hi hm hn ha
  obtain ⟨n,rfl⟩:∃ m,n=m+1:=⟨n-1,by omega⟩
  by_cases hlt:i<s.length
  ·have e1:A1 ((i:Int)+1)=((i+1:Nat):Int):=by rw [A5];rfl
   have e2:A1 ((i:Int)+2)=((i+2:Nat):Int):=by rw [A5];rfl
   have e3:A1 (((i+2:Nat):Int)+1)=((i+3:Nat):Int):=by rw [A5];omega
   have hal:(acc.map E3).length=acc.length:=List.length_map _
   have hrow:∀ b:UInt8,acc.map E3++[[SV.int .u8 (b.toNat:Int)]]=(acc++[b]).map E3:=λb=>by rw [List.map_append];rfl
   have q1:(((s.getD i 0).toNat:Int) != 37) = !(s.getD i 0==37):=congrArg _ (P6 _ 37 (by omega))
   rw [F7 s i hlt]
   by_cases h37:s.getD i 0=37
   ·by_cases h3:i+2<s.length
    ·rw [F7 s (i+1) (by omega),F7 s (i+1+1) (by omega),h37,CL]
     obtain ⟨i1,i2⟩:=ih (i+3) n (acc++[UInt8.ofNat (16*dig (s.getD (i+1) 0)+dig (s.getD (i+2) 0))]) (by omega) (by omega) (by omega) (by simp;omega)
     have top:∀ (R:Type) (k0:LL->Option R) (k1:LL->Option R),R6 LF (n+1) s (i:Int) (acc.map E3) k0 k1=cond (decide (dig (s.getD (i+1) 0)<16)&&decide (dig (s.getD (i+2) 0)<16)) (R6 LF n s ((i+3:Nat):Int) ((acc++[UInt8.ofNat (16*dig (s.getD (i+1) 0)+dig (s.getD (i+2) 0))]).map E3) k0 k1) (k0 (acc.map E3)):=by
      intro R k0 k1
      rw [R6]
      rw [A8,I6,F4,q1,h37,hal,e2,A8,e1,I6,I6,F4,F4]
      simp only [cond_true,vl,Bool.not_true,cond_false,beq_self_eq_true,OC,Nu,PU,E0 (show acc.length+1<=68719476736 by omega),e3]
      generalize s.getD (i+1) 0=x at *
      generalize s.getD (i+2) 0=y at *
      by_cases hx:dig x<16
      ·by_cases hy:dig y<16
       ·have w1:Di x=(dig x:Int):=by unfold Di;rw [if_pos hx]
        have w2:Di y=(dig y:Int):=by unfold Di;rw [if_pos hy]
        have w3:A1 ((16:Int)*(dig x:Int))=((16*dig x:Nat):Int):=by rw [A5];omega
        have w4:A1 (((16*dig x:Nat):Int)+(dig y:Int))=((16*dig x+dig y:Nat):Int):=by rw [A5];omega
        have w5:wu8 ((16*dig x+dig y:Nat):Int)=((UInt8.ofNat (16*dig x+dig y)).toNat:Int):=by
         rw [N2]
         simp
         omega
        grind
       grind
      grind
     by_cases hd:dig (s.getD (i+1) 0)<16/\dig (s.getD (i+2) 0)<16
     ·rw [if_pos hd]
      have hc:(decide (dig (s.getD (i+1) 0)<16)&&decide (dig (s.getD (i+2) 0)<16))=true:=by rw [decide_eq_true hd.1,decide_eq_true hd.2];rfl
      refine ⟨λt ht R k0 k1=>?_,λh=>?_⟩
      ·cases hq:R4 (s.drop (i+3)) with
       | none=>rw [show i+1+1+1=i+3 from rfl,hq] at ht;cases ht
       | some q=>
        rw [show i+1+1+1=i+3 from rfl,hq] at ht
        simp only [Option.map_some,Option.some.injEq] at ht
        subst ht
        rw [top,hc,cond_true,i1 q hq,List.append_assoc]
        rfl
      ·cases hq:R4 (s.drop (i+3)) with
       | some q=>rw [show i+1+1+1=i+3 from rfl,hq] at h;cases h
       | none=>
        obtain ⟨l,e⟩:=i2 hq
        exact ⟨l,λR k0 k1=>by rw [top,hc,cond_true,e]⟩
     ·rw [if_neg hd]
      have hc:(decide (dig (s.getD (i+1) 0)<16)&&decide (dig (s.getD (i+2) 0)<16))=false:=by grind
      exact ⟨λt h=>(by cases h),λ_=>⟨_,λR k0 k1=>by rw [top,hc,cond_false]⟩⟩
    ·have hnone:R4 (s.getD i 0::s.drop (i+1))=none:=by
      rw [h37]
      cases hd:s.drop (i+1) with
      | nil=>rfl
      | cons x r=>
       cases r with
       | nil=>rfl
       | cons y r'=>
        exfalso
        have:=congrArg List.length hd
        rw [List.length_drop,List.length_cons,List.length_cons] at this
        omega
     rw [hnone]
     refine ⟨λt h=>(by cases h),λ_=>⟨acc.map E3,λR k0 k1=>?_⟩⟩
     rw [R6]
     rw [A8,I6,F4,q1,h37,e2,A7]
     rfl
   ·rw [MU _ h37]
    obtain ⟨i1,i2⟩:=ih (i+1) n (acc++[s.getD i 0]) (by omega) (by omega) (by omega) (by simp;omega)
    have hb37:(s.getD i 0==37)=false:=by simpa using h37
    have top:∀ (R:Type) (k0:LL->Option R) (k1:LL->Option R),R6 LF (n+1) s (i:Int) (acc.map E3) k0 k1=R6 LF n s ((i+1:Nat):Int) ((acc++[s.getD i 0]).map E3) k0 k1:=by
     intro R k0 k1
     rw [R6]
     rw [A8,I6,F4,q1,hb37,hal,E0 (by omega),e1,hrow]
     rfl
    refine ⟨λt ht R k0 k1=>?_,λh=>?_⟩
    ·cases hq:R4 (s.drop (i+1)) with
     | none=>rw [hq] at ht;cases ht
     | some q=>
      rw [hq] at ht
      simp only [Option.map_some,Option.some.injEq] at ht
      subst ht
      rw [top,i1 q hq,List.append_assoc]
      rfl
    ·cases hq:R4 (s.drop (i+1)) with
     | some q=>rw [hq] at h;cases h
     | none=>
      obtain ⟨l,e⟩:=i2 hq
      exact ⟨l,λR k0 k1=>by rw [top,e]⟩
  ·rw [List.drop_of_length_le (by omega)]
   refine ⟨λt ht R k0 k1=>?_,λh=>(by cases h)⟩
   simp only [R4,Option.some.injEq] at ht
   subst ht
   rw [R6]
   rw [A7,List.append_nil]
   rfl
theorem Bt4 (s:By) (h0:A3 s.length=true):∃ r H,Be5 LF s (λr0 r1 l2=>rv (.tup [.s (.str r0),.s (.bool r1)]) [.arr false 5 1 l2])=rv r H/\
  r.stab [0,0] H = .tup [.s (.str (Dp s)),.s (.bool (R4 s).isSome)]:=by
 have hs:=K8 h0
 have hLF:=D7
 have hroom:((decide ((0:Int)<=(s.length:Int)))&&(F1 (Int.toNat (s.length:Int))))=true:=by
  rw [Int.toNat_natCast,E0 (by omega),decide_eq_true (by omega)];rfl
 obtain ⟨p1,p2⟩:=Aw7 s hs s.length 0 LF [] (by omega) (by omega) (by omega) (by simp)
 rw [List.drop_zero] at p1 p2
 unfold Dp
 cases hp:R4 s with
 | none=>
  obtain ⟨l,e⟩:=p2 hp
  refine ⟨.tup [.s (.str []),.s (.bool false)],[.arr false 5 1 l],?_,rfl⟩
  unfold Be5
  rw [hroom,cond_true]
  exact e _ _ _
 | some t=>
  refine ⟨.tup [.s (.str t),.s (.bool true)],[.arr false 5 1 (t.map E3)],?_,rfl⟩
  unfold Be5
  rw [hroom,cond_true]
  refine Eq.trans (p1 t hp _ _ _) ?_
  rw [List.nil_append,Y5,Y9]
  rfl
abbrev Xt (kd:Int) (nm:By) (v4 a0 a1 a2 a3 a4 a5 a6 a7:Int):List PV:=[.s (.int .i64 kd),.s (.str nm),.s (.int .u32 v4),.s (.int .u16 a0),.s (.int .u16 a1),.s (.int .u16 a2),.s (.int .u16 a3),.s (.int .u16 a4),.s (.int .u16 a5),.s (.int .u16 a6),.s (.int .u16 a7)]
def Wz (h:E6):PV:=.agg [.s (.int .i64 (h.kind:Nat)),.s (.str h.name),.s (.int .u32 (h.v4:Nat)),.s (.int .u16 (h.v6.getD 0 0:Nat)),.s (.int .u16 (h.v6.getD 1 0:Nat)),.s (.int .u16 (h.v6.getD 2 0:Nat)),.s (.int .u16 (h.v6.getD 3 0:Nat)),.s (.int .u16 (h.v6.getD 4 0:Nat)),.s (.int .u16 (h.v6.getD 5 0:Nat)),.s (.int .u16 (h.v6.getD 6 0:Nat)),.s (.int .u16 (h.v6.getD 7 0:Nat))]
abbrev Cm5:Int->Int->Int->Int->Int->Int->Int->Int->Int->Int->Int->LL->Option (PV × List Blk × Unit):=λr0 r1 r2 r3 r4 r5 r6 r7 r8 r9 n10 l11=>rv (.tup [.agg (Xt r0 [] 0 r1 r2 r3 r4 r5 r6 r7 r8),.s (.int .i64 r9)]) [.box (Xt n10 [] 0 r1 r2 r3 r4 r5 r6 r7 r8),.arr false 26 1 l11]
abbrev Cj2:Unit->Option (PV × List Blk × Unit):=λ_=>rv (.tup [.agg (Xt 0 [] 0 0 0 0 0 0 0 0 0),.s (.int .i64 14)]) [.box (Xt 0 [] 0 0 0 0 0 0 0 0 0)]
theorem Yc (s:By) (c:UInt8) (h:s≠[]):(s.getLast? = some c)↔s.getD (s.length-1) 0=c:=by
 have:0<s.length:=List.length_pos_iff.2 h
 grind
theorem Be4 (s:By) (h0:A3 s.length=true) (h1:Be9 s=true):∃ r H,Ap2 LF s Cm5 Cj2=rv r H/\r.stab [0,0] H = .tup [Wz (O8 s).1,.s (.int .i64 ((O8 s).2:Nat))]:=by
 have hs:=K8 h0
 have hne:s≠[]:=by rintro rfl;cases h1
 have hl:0<s.length:=List.length_pos_iff.2 hne
 have hb0:s.getD 0 0=91:=by
  cases s with
  | nil=>exact absurd rfl hne
  | cons b t=>
   simp only [Be9,List.isPrefixOf,Bool.and_true,beq_iff_eq] at h1
   grind
 have e1:A1 ((s.length:Int)-1)=((s.length-1:Nat):Int):=by rw [A5];omega
 have q1:(((s.getD (s.length-1) 0).toNat:Int)==93)=(s.getD (s.length-1) 0==93):=P6 _ 93 (by omega)
 have bad:∃ r H,Cj2 ()=rv r H/\r.stab [0,0] H = .tup [Wz N8,.s (.int .i64 14)]:=⟨_,_,rfl,rfl⟩
 unfold Ap2 O8
 simp only [vl,e1]
 rw [I6,F4,q1,cond_true]
 by_cases h93:s.getD (s.length-1) 0=93
 ·have h2:2<=s.length:=by grind
  rw [if_pos ⟨(Yc s 93 hne).2 h93,h2⟩,h93,beq_self_eq_true,cond_true,show (1:Int)=((1:Nat):Int) from rfl,P5,cond_true,Gg]
  have hlt:((s.take (s.length-1)).drop 1).length<=s.length:=by rw [List.length_drop,List.length_take];omega
  rw [Ch,cond_true]
  unfold v6c
  cases hv:v6B ((s.take (s.length-1)).drop 1) with
  | none=>exact ⟨_,_,rfl,rfl⟩
  | some a=>exact ⟨_,_,rfl,rfl⟩
 grind
theorem Bl3 (l:List By) (i:Nat) (y:By) (h:i<l.length):List.set (C6 l) i (G3 ((C6 l).getD i []) 0 [SV.str y])=C6 (l.set i y):=by
 have e:(C6 l).getD i []=[SV.str (l.getD i [])]:=by
  unfold C6
  grind
 rw [e]
 unfold C6
 rw [List.map_set]
 rfl
theorem QL (N:Nat) (hN:N<=1000000001):∀ (rest:List By) (done:List By) (n:Nat),done.length+rest.length=N->rest.length<n->(∀ x∈rest,x.length<=1000000000)->
  ((F8 rest).2=0->∀ (R:Type) (k0:Int->LL->Option R) (k1:Nat->LL->Option R),R9 LF n N (N:Int) (done.length:Int) (C6 (done++rest)) k0 k1=k1 N (C6 (done++(F8 rest).1)))/\
  ((F8 rest).2≠0->∃ l,∀ (R:Type) (k0:Int->LL->Option R) (k1:Nat->LL->Option R),R9 LF n N (N:Int) (done.length:Int) (C6 (done++rest)) k0 k1=k0 ((F8 rest).2:Nat) l):=by
 intro rest
 induction rest with
 | nil=>
  intro done n hd hn hx
  obtain ⟨n,rfl⟩:∃ m,n=m+1:=⟨n-1,by simp at hn;omega⟩
  simp only [List.length_nil] at hd
  refine ⟨λ_ R k0 k1=>?_,λh=>absurd rfl h⟩
  rw [R9]
  rw [A7]
  rfl
 | cons x r ih=>
  intro done n hd hn hx
  simp only [List.length_cons] at hd hn
  obtain ⟨n,rfl⟩:∃ m,n=m+1:=⟨n-1,by omega⟩
  have e1:A1 ((done.length:Int)+1)=((done.length+1:Nat):Int):=by rw [A5];rfl
  have hlen:(done++x::r).length=N:=by rw [List.length_append,List.length_cons];omega
  have hgx:(done++x::r).getD done.length []=x:=by grind
  have hset:∀ y,(done++x::r).set done.length y=(done++[y])++r:=λy=>by grind
  have top:∀ (R:Type) (k0:Int->LL->Option R) (k1:Nat->LL->Option R),R9 LF (n+1) N (N:Int) (done.length:Int) (C6 (done++x::r)) k0 k1=cond (((I5 x).2:Int) != 0) (k0 ((I5 x).2:Nat) (C6 (done++x::r))) (R9 LF n N (N:Int) ((done.length+1:Nat):Int) (C6 ((done++[(I5 x).1])++r)) k0 k1):=by
   intro R k0 k1
   rw [R9]
   rw [A8,I6,Int.toNat_natCast,Nat.zero_add,L2 (by omega),O7,hgx]
   simp only [vl,cond_true]
   rw [F5 (hx x (by simp)),D4,decide_eq_true (show done.length<(done++x::r).length by omega),Bl3 _ _ _ (by omega),hset,e1]
   rfl
  unfold F8
  obtain ⟨i1,i2⟩:=ih (done++[(I5 x).1]) n (by simp;omega) (by omega) (λy hy=>hx y (by simp [hy]))
  have hdl:(done++[(I5 x).1]).length=done.length+1:=by simp
  rw [hdl] at i1 i2
  by_cases h:(I5 x).2=0
  ·rw [if_pos h]
   have hb:(((I5 x).2:Int) != 0)=false:=by rw [h];rfl
   refine ⟨λh2 R k0 k1=>?_,λh2=>?_⟩
   ·rw [top,hb,cond_false,i1 h2,List.append_assoc]
    rfl
   ·obtain ⟨l,e⟩:=i2 h2
    exact ⟨l,λR k0 k1=>by rw [top,hb,cond_false,e]⟩
  ·rw [if_neg h]
   have hb:(((I5 x).2:Int) != 0)=true:=by simpa using h
   exact ⟨λh2=>absurd h2 h,λ_=>⟨_,λR k0 k1=>by rw [top,hb,cond_true]⟩⟩
theorem MG (p:By) (m:Nat):∀ l:List By,(∀ x∈l,x.length<=m)->(Lib.join l p).length<=(m+p.length)*l.length
 | [],_=>by simp [Lib.join]
 | [x],h=>by
  have:=h x (by simp)
  rw [show Lib.join [x] p=x by simp [Lib.join,Lib.joinTail]]
  grind
 | x::y::r,h=>by
  have h1:=h x (by simp)
  have h2:=MG p m (y::r) (λz hz=>h z (by simp [hz]))
  rw [Jm,List.length_append,List.length_append,List.length_cons,Nat.mul_add,Nat.mul_one]
  omega
theorem KR (l:List By):(C6 l).all isS=true:=by
 unfold C6
 rw [List.all_map,List.all_eq_true]
 intro x _
 rfl
theorem Bm3 (s:By):OB s [46]=J7 s:=by
 unfold OB J7
 by_cases h:s.getLast? = some 46
 ·obtain ⟨t,rfl⟩:=List.getLast?_eq_some_iff.1 h
  grind
 ·rw [if_neg h,if_neg]
  rw [List.isSuffixOf_iff_suffix]
  rintro ⟨t,ht⟩
  grind
abbrev Cj4:Int->By->Int->Int->Int->Int->Int->Int->Int->Int->Int->Int->Int->By->Int->Int->Int->Int->Int->Int->Int->Int->Int->Option (PV × List Blk × Unit):=λr0 r1 r2 r3 r4 r5 r6 r7 r8 r9 r10 r11 n12 s13 n14 n15 n16 n17 n18 n19 n20 n21 n22=>rv (.tup [.agg (Xt r0 r1 r2 r3 r4 r5 r6 r7 r8 r9 r10),.s (.int .i64 r11)]) [.box (Xt n12 s13 n14 n15 n16 n17 n18 n19 n20 n21 n22)]
abbrev Cj5:Int->By->Int->Int->By->LL->Option (PV × List Blk × Unit):=λr0 r1 r2 n3 s4 l5=>rv (.tup [.agg (Xt r0 r1 0 0 0 0 0 0 0 0 0),.s (.int .i64 r2)]) [.box (Xt n3 s4 0 0 0 0 0 0 0 0 0),.arr false 9 1 l5]
theorem Ax1 (s:By) (h0:A3 s.length=true):∃ r H,Vh LF s Cj4 Cj5=rv r H/\r.stab [0,0] H = .tup [Wz (C4 s).1,.s (.int .i64 ((C4 s).2:Nat))]:=by
 have hs:=K8 h0
 have hLF:=D7
 have bad:∀ e:Nat,∃ r H,Cj4 0 [] 0 0 0 0 0 0 0 0 0 (e:Int) 0 [] 0 0 0 0 0 0 0 0 0=rv r H/\r.stab [0,0] H = .tup [Wz N8,.s (.int .i64 (e:Nat))]:=λe=>⟨_,_,rfl,rfl⟩
 have bad2:∀ (e:Nat) (l:LL),∃ r H,Cj5 0 [] (e:Int) 0 [] l=rv r H/\r.stab [0,0] H = .tup [Wz N8,.s (.int .i64 (e:Nat))]:=λe l=>⟨_,_,rfl,rfl⟩
 by_cases h1:1024<s.length
 ·have e:C4 s=(N8,3):=by unfold C4;rw [if_pos h1]
  rw [e]
  unfold Vh
  rw [A8,cond_true]
  exact bad 3
 ·have hbr:([91]:By).isPrefixOf s=decide (s.head? = some 91):=by
   cases s with
   | nil=>rfl
   | cons b t=>
    grind
  by_cases h2:s.head? = some 91
  ·have hb:([91]:By).isPrefixOf s=true:=by rw [hbr,decide_eq_true h2]
   have e:C4 s=O8 s:=by unfold C4 O8;rw [if_neg h1,if_pos h2]<;>rfl
   rw [e]
   unfold Vh
   rw [A7,cond_false,h0,cond_true,hb,cond_true,cond_true,show Be9 s=true from hb,cond_true]
   exact ⟨_,_,rfl,rfl⟩
  ·have hb:([91]:By).isPrefixOf s=false:=by rw [hbr,decide_eq_false h2]
   unfold Vh
   rw [A7,cond_false,h0,cond_true,hb,cond_false,cond_true]
   cases hp:R4 s with
   | none=>
    have e:C4 s=(N8,14):=by unfold C4;rw [if_neg h1,if_neg h2,hp]
    rw [e]
    exact bad 14
   | some t=>
    have htl:t.length<=s.length:=Yi s t hp
    have hv:Dp s=t:=by unfold Dp;rw [hp];rfl
    rw [hv,Ch]
    simp only [Option.isSome_some,Bool.not_true,cond_false,cond_true,vl]
    rw [Bm3]
    have htd:(J7 t).length<=t.length:=by unfold J7;split<;>simp
    have hP:C4 s=if F6 (J7 t) then (match pnB (J7 t) with
      | some v=>(⟨2,[],v,z8⟩,0)
      | none=>(N8,14))
     else if (F8 (pcs 46 (J7 t))).2=0 then (
      let name:=Lib.join (F8 (pcs 46 (J7 t))).1 [46]
      if 253<name.length then (N8,3) else if F6 name then (N8,14) else (⟨1,name,0,z8⟩,0))
     else (N8,(F8 (pcs 46 (J7 t))).2):=by
     unfold C4
     rw [if_neg h1,if_neg h2,hp]
     rfl
    rw [hP]
    generalize J7 t=u at *
    rw [Ch,cond_true]
    cases hn:F6 u with
    | true=>
     rw [if_pos rfl,cond_true,cond_true]
     cases hq:pnB u with
     | none=>exact bad 14
     | some v=>exact ⟨_,_,rfl,rfl⟩
    | false=>
     rw [if_neg (by simp),cond_false,cond_true,show ((1:Nat)==1)=true from rfl,cond_true]
     have hc:([46]:By).getD 0 0=46:=rfl
     rw [hc]
     have hpl:=Ar 46 u
     have hcl:=Cm 46 u
     obtain ⟨i1,i2⟩:=QL (pcs 46 u).length (by omega) (pcs 46 u) [] LF (by simp) (by omega) (λx hx=>by have:=(X1 hx).2;omega)
     rw [List.nil_append,List.length_nil] at i1 i2
     by_cases hz:(F8 (pcs 46 u)).2=0
     ·rw [if_pos hz]
      obtain ⟨a1,a2⟩:=Mt _ hz
      have hjl:=MG [46] 63 (F8 (pcs 46 u)).1 (λx hx=>(Iq (a1 x hx)).le)
      have he:∀ {R:Type} (K0:Int->LL->Option R) (K1:Nat->LL->Option R),R9 LF LF (pcs 46 u).length ((pcs 46 u).length:Int) 0 (C6 (pcs 46 u)) K0 K1=K1 (pcs 46 u).length (C6 (F8 (pcs 46 u)).1):=λK0 K1=>i1 hz _ K0 K1
      rw [he]
      have hA:(F8 (pcs 46 u)).1.length<=1025:=by omega
      have htk:List.take (pcs 46 u).length (List.drop 0 (C6 (F8 (pcs 46 u)).1))=C6 (F8 (pcs 46 u)).1:=by
       rw [List.drop_zero,List.take_of_length_le (by rw [D4];omega)]
      have hmul:(63+([46]:By).length)*(F8 (pcs 46 u)).1.length<=64*1025:=Nat.mul_le_mul (by simp) hA
      rw [htk,KR,Bd0,D4,Ch,Ch]
      simp only [cond_true]
      generalize Lib.join (F8 (pcs 46 u)).1 [46]=name at *
      by_cases h253:253<name.length
      ·rw [if_pos h253,A8,cond_true]
       exact bad2 3 _
      ·rw [if_neg h253,A7,cond_false]
       cases hnn:F6 name with
       | true=>exact bad2 14 _
       | false=>exact ⟨_,_,rfl,rfl⟩
     ·rw [if_neg hz]
      obtain ⟨l,e⟩:=i2 hz
      simp_all
theorem QR {R:Type} {k0 k1:Unit->Option R}:∀ l:List By,(∀ x∈l,x.length<=1000000000)->BI LF l k0 k1=if l.all K4 then k0 () else k1 ()
 | [],_=>rfl
 | x::r,h=>by
  rw [QQ]
  unfold Yb
  rw [F5 (h x (by simp)),cond_true,List.all_cons]
  have ih:=QR (k0:=k0) (k1:=k1) r (λy hy=>h y (by simp [hy]))
  grind
theorem Cb3 (s:By) (h0:A3 s.length=true):∃ r H,hvn LF s (λ_=>rv (.s (.bool false)) [.box [.s (.bool false)]]) (λr0 b1=>rv (.s (.bool r0)) [.box [.s (.bool b1)],.box [.bad],.box [.bad],.box [.bad]])=rv r H/\r.stab [] H = .s (.bool (P7 s)):=by
 have hs:=K8 h0
 unfold hvn MB P7
 by_cases h1:253<s.length
 ·rw [A8,show Nat.ble s.length 253=false by rw [Bool.eq_false_iff,ne_eq,Nat.ble_eq];omega]
  exact ⟨_,_,rfl,rfl⟩
 ·rw [A7,cond_false,h0,cond_true,show Nat.ble s.length 253=true by rw [Nat.ble_eq];omega]
  cases h2:F6 s with
  | true=>exact ⟨_,_,rfl,rfl⟩
  | false=>
   rw [cond_false,show ((1:Nat)==1&&(0:Int)==(0:Int))=true from rfl,show ([46]:By).getD 0 0=46 from rfl,Bool.and_true,cond_true,QR _ (λx hx=>by have:=(X1 hx).2;omega)]
   cases h3:(pcs 46 s).all K4 with
   | true=>exact ⟨_,_,rfl,rfl⟩
   | false=>exact ⟨_,_,rfl,rfl⟩
theorem ZC {R:Type} {k0:By->By->Int->Option R} (t p:By) (n:Int):Bf9 LF t p n k0=k0 t p n:=rfl
theorem A54 {R:Type} {k0:By->By->Option R} (t p:By):Cd6 LF t p k0=k0 t p:=rfl
theorem Ax3 {R:Type} {k0:By->Option R} (t:By):Cb0 LF t k0=k0 t:=rfl
theorem FL {c:UInt8} {s:By} (h:c∉s):Lib.cut s [c]=(s,[],false):=by
 unfold Lib.cut
 rw [Po h,if_neg (by decide)]
theorem PO {c:UInt8} {p r:By} (h:c∉p):Lib.cut (p++c::r) [c]=(p,r,true):=by
 unfold Lib.cut
 rw [Vj h,V7,Int.toNat_natCast,List.take_left,List.length_singleton]
 simp_all
theorem Aj3 {σ R:Type} (yh:Yh σ) (c:UInt8):∀ (m:Nat) (t:By) (n:Nat) (s s':σ),t.length<=m->t.length<=1000000000->m<n->U6 yh ((pcs c t).map λx=>([.s (.str x)]:List PV)) s=some s'->
  ∃ t' , (∃ s0:σ,∃ b:Bool,yh [.s (.str t')] s0=some (b,s')/\∀ (k0 k1:By->By->Int->σ->Option R),S7 yh LF n [c] t 0 s k0 k1=k0 [c] t' 0 s0)\/(∀ (k0 k1:By->By->Int->σ->Option R),S7 yh LF n [c] t 0 s k0 k1=k1 [c] t' 0 s'):=by
 intro m
 induction m with
 | zero=>
  intro t n s s' ht ht2 hn h
  obtain rfl:=List.length_eq_zero_iff.1 (Nat.le_zero.1 ht)
  obtain ⟨n,rfl⟩:∃ m,n=m+1:=⟨n-1,by omega⟩
  rw [Fl (by simp)] at h
  simp only [List.map_cons,List.map_nil,U6] at h
  refine ⟨[],.inl ⟨s,?_⟩⟩
  have e:∀ (k0 k1:By->By->Int->σ->Option R),S7 yh LF (n+1) [c] [] 0 s k0 k1=k0 [c] [] 0 s:=λk0 k1=>by
   rw [S7]
   rw [Po (by simp)]
   rfl
  cases hy:yh [.s (.str [])] s with
  | none=>rw [hy] at h;cases h
  | some q=>
   obtain ⟨b,s1⟩:=q
   rw [hy] at h
   have:s1=s':=by cases b<;>simpa using h
   subst this
   exact ⟨b,rfl,e⟩
 | succ m ih=>
  intro t n s s' ht ht2 hn h
  obtain ⟨n,rfl⟩:∃ m,n=m+1:=⟨n-1,by omega⟩
  rcases Gw c t with hc | ⟨p,r,rfl,hc⟩
  ·rw [Fl hc] at h
   simp only [List.map_cons,List.map_nil,U6] at h
   refine ⟨t,.inl ⟨s,?_⟩⟩
   have e:∀ (k0 k1:By->By->Int->σ->Option R),S7 yh LF (n+1) [c] t 0 s k0 k1=k0 [c] t 0 s:=λk0 k1=>by
    rw [S7]
    rw [Po hc,F5 ht2]
    rfl
   cases hy:yh [.s (.str t)] s with
   | none=>rw [hy] at h;cases h
   | some q=>
    obtain ⟨b,s1⟩:=q
    rw [hy] at h
    have:s1=s':=by cases b<;>simpa using h
    subst this
    exact ⟨b,rfl,e⟩
  ·rw [Rw hc] at h
   simp only [List.map_cons,U6] at h
   have hlen:(p++c::r).length=p.length+r.length+1:=by rw [List.length_append,List.length_cons];omega
   have e1:A1 ((p.length:Int)+0)=((p.length:Nat):Int):=by rw [A5];omega
   have e2:A1 ((p.length:Int)+(([c]:By).length:Int))=((p.length+1:Nat):Int):=by
    rw [D3 (by simp;omega) (by simp;omega)];simp
   have e3:cut (p++c::r) 0 (p.length:Int)=p:=by rw [Y7,Int.toNat_natCast,List.take_left]
   have e4:cut (p++c::r) ((p.length+1:Nat):Int) ((p++c::r).length:Int)=r:=by
    rw [Q8,Int.toNat_natCast,show p++c::r=(p++[c])++r by simp,List.drop_left' (by simp)]
   have top:∀ (k0 k1:By->By->Int->σ->Option R),S7 yh LF (n+1) [c] (p++c::r) 0 s k0 k1=ydK (yh [.s (.str p)] s) λb s1=>cond (not b) (k1 [c] (p++c::r) 0 s1) (S7 yh LF n [c] r 0 s1 k0 k1):=λk0 k1=>by
    rw [S7]
    rw [Vj hc,F5 ht2,cond_true,A7,cond_false]
    simp only [vl,e1,e2,e3,e4]
    rw [P5,cond_true,P5]
    rfl
   cases hy:yh [.s (.str p)] s with
   | none=>rw [hy] at h;cases h
   | some q=>
    obtain ⟨b,s1⟩:=q
    rw [hy] at h top
    cases b with
    | false=>
     have:s1=s':=by simpa using h
     subst this
     exact ⟨p++c::r,.inr λk0 k1=>by rw [top];rfl⟩
    | true=>
     simp only at h
     obtain ⟨t',⟨s0,b,e,f⟩ | f⟩:=ih r n s1 s' (by omega) (by omega) (by omega) h
     ·exact ⟨t',.inl ⟨s0,b,e,λk0 k1=>by rw [top];exact f k0 k1⟩⟩
     ·exact ⟨t',.inr λk0 k1=>by rw [top];exact f k0 k1⟩
theorem Aj4 {σ R:Type} (yh:Yh σ) (p t:By) (n:Int) (s s':σ) (h:(A3 t.length&&(p.length==1&&n==0))=true) (hr:U6 yh ((pcs (p.getD 0 0) t).map λx=>([.s (.str x)]:List PV)) s=some s') :
  ∃ t',∀ (k0:By->By->Int->σ->Option R),TV yh LF p t n s k0=k0 p t' n s':=by
 have hLF:=D7
 simp only [Bool.and_eq_true,beq_iff_eq] at h
 obtain ⟨h1,h2,rfl⟩:=h
 obtain ⟨c,rfl⟩:=List.length_eq_one_iff.1 h2
 have ht:=K8 h1
 obtain ⟨t',⟨s0,b,e,f⟩ | f⟩:=Aj3 (R:=R) yh c t.length t LF s s' (Nat.le_refl _) ht (by omega) hr
 ·refine ⟨t',λk0=>?_⟩
  unfold TV
  rw [show (((([c]:By).length:Nat):Int)==0)=false from rfl,cond_false]
  refine Eq.trans (f _ _) ?_
  rw [e]
  rfl
 ·refine ⟨t',λk0=>?_⟩
  unfold TV
  rw [show (((([c]:By).length:Nat):Int)==0)=false from rfl,cond_false]
  exact f _ _
theorem BH {σ R:Type} (yh:Yh σ):∀ (l:List By) (t:By) (n:Nat) (s s':σ),VN t->pcs 46 t=l->l.length<n->U6 yh ((Mj l).map λx=>([.s (.str x)]:List PV)) s=some s'->
  ∃ t',∀ (k0:By->σ->Option R),An yh LF n t s k0=k0 t' s'
 | [],t,n,s,s',hv,hp,hn,hr=>absurd hp (Vq 46 t)
 | [x],t,n,s,s',hv,hp,hn,hr=>by
  obtain ⟨n,rfl⟩:∃ m,n=m+1:=⟨n-1,by omega⟩
  simp only [Mj,List.map_nil,U6,Option.some.injEq] at hr
  subst hr
  have hno:(46:UInt8)∉t:=by
   intro h
   have h1:=Ar 46 t
   rw [hp] at h1
   have:=List.count_pos_iff.2 h
   simp at h1
   omega
  refine ⟨t,λk0=>?_⟩
  rw [An]
  rw [FL hno,F5 (by have:=hv.le;omega)]
  rfl
 | x::y::r,t,n,s,s',hv,hp,hn,hr=>by
  obtain ⟨n,rfl⟩:∃ m,n=m+1:=⟨n-1,by omega⟩
  obtain ⟨q1,q2,q3⟩:=hv.super hp
  have hx:(46:UInt8)∉x:=(X1 (s:=t) (x:=x) (by rw [hp];simp)).1
  simp only [Mj,List.map_cons,U6] at hr
  have top:∀ (k0:By->σ->Option R),An yh LF (n+1) t s k0=ydK (yh [.s (.str (Lib.join (y::r) [46]))] s) λb s1=>cond (not b) (k0 t s1) (An yh LF n (Lib.join (y::r) [46]) s1 k0):=λk0=>by
   rw [An]
   have:Lib.cut t [46]=(x,Lib.join (y::r) [46],true):=by rw [q1];exact PO hx
   rw [this,F5 (by have:=hv.le;omega)]
   rfl
  cases hy:yh [.s (.str (Lib.join (y::r) [46]))] s with
  | none=>rw [hy] at hr;cases hr
  | some q=>
   obtain ⟨b,s1⟩:=q
   rw [hy] at hr top
   cases b with
   | false=>
    have:s1=s':=by simpa using hr
    subst this
    exact ⟨t,λk0=>by rw [top];rfl⟩
   | true=>
    simp only at hr
    obtain ⟨t',f⟩:=BH yh (y::r) (Lib.join (y::r) [46]) n s1 s' q2 q3 (by simp only [List.length_cons] at hn ⊢;omega) hr
    exact ⟨t',λk0=>by rw [top];exact f k0⟩
theorem YK {σ R:Type} (yh:Yh σ) (t:By) (s s':σ) (h:A3 t.length=true) (hr:U6 yh ((NX t).map λx=>([.s (.str x)]:List PV)) s=some s') :
  ∃ t',∀ (k0:By->σ->Option R),QN yh LF t s k0=k0 t' s':=by
 have hLF:=D7
 have ht:=K8 h
 unfold NX at hr
 cases hv:P7 t with
 | false=>
  rw [hv] at hr
  simp only [Bool.false_eq_true,if_false,List.map_nil,U6,Option.some.injEq] at hr
  subst hr
  refine ⟨t,λk0=>?_⟩
  unfold QN
  rw [h,hv]
  rfl
 | true=>
  rw [hv,if_pos rfl] at hr
  have hpl:=Ar 46 t
  have hcl:=Cm 46 t
  obtain ⟨t',f⟩:=BH (R:=R) yh _ t LF s s' (Ak5.1 hv) rfl (by omega) hr
  refine ⟨t',λk0=>?_⟩
  unfold QN
  rw [h,hv]
  exact f _
end
section
open Go Go.Op
def BL (c:Int):Bool:=c==32 || c==9
def Ic (c:Int):Bool:=BL c || (c==10 || (c==12 || c==13))
def spB (b:UInt8):Bool:=Ic (b.toNat:Int)
def Le (acc:By):By->List By
 | []=>if acc.isEmpty then [] else [acc]
 | c::r=>if spB c then (if acc.isEmpty then Le [] r else acc::Le [] r) else Le (acc++[c]) r
def G4 (s:By):List By:=Le [] s
def QC:By:=[105,110,99,108,117,100,101,45,115,117,98,100,111,109,97,105,110,115]
def V2 (w:List By):Ent × Nat:=
 if (C4 (w.getD 0 [])).2≠0 then (noE,(C4 (w.getD 0 [])).2) else if (C4 (w.getD 0 [])).1.kind≠1 then (noE,14) else (((C4 (w.getD 0 [])).1.name,w.length==2),0)
def Fz (w:List By):Ent × Nat:=if 2<w.length then (noE,4) else if w.length==2 && !(C7 (w.getD 1 [])==C7 QC) then (noE,4) else V2 w
def smL (s:By):Bool:=A3 s.length
def U5:List By->Nat->List Ent->List Ent × Nat × Nat
 | [],_,out=>(out,0,0)
 | s::r,n,out=>if (G4 (Lib.cut s [35]).1).isEmpty then U5 r (n+1) out else if out.length=1000 then ([],n+1,3) else
  if (Fz (G4 (Lib.cut s [35]).1)).2≠0 then ([],n+1,(Fz (G4 (Lib.cut s [35]).1)).2) else U5 r (n+1) (out++[(Fz (G4 (Lib.cut s [35]).1)).1])
def N0 (t:By):List Ent × Nat × Nat:=if 524288<t.length then ([],0,3) else U5 (pcs 10 t) 0 []
theorem Ti:∀ (s acc:By),(∀ x∈Le acc s,x.length<=acc.length+s.length)/\(Le acc s).length<=s.length+(if acc.isEmpty then 0 else 1)
 | [],acc=>by
  unfold Le
  split
  ·exact ⟨λx hx=>(by cases hx),Nat.zero_le _⟩
  ·exact ⟨λx hx=>(by simp at hx;subst hx;simp),by simp [*]⟩
 | c::r,acc=>by
  unfold Le
  split
  ·split
   ·obtain ⟨h1,h2⟩:=Ti r []
    refine ⟨λx hx=>?_,?_⟩
    ·have:=h1 x hx;simp at this ⊢;omega
    ·simp at h2 ⊢;omega
   ·obtain ⟨h1,h2⟩:=Ti r []
    refine ⟨λx hx=>?_,?_⟩
    ·rcases List.mem_cons.1 hx with rfl | hx
     ·omega
     ·have:=h1 x hx;simp at this ⊢;omega
    ·simp at h2 ⊢;omega
  ·obtain ⟨h1,h2⟩:=Ti r (acc++[c])
   refine ⟨λx hx=>?_,?_⟩
   ·have:=h1 x hx;simp at this ⊢;omega
   ·simp at h2 ⊢;omega
theorem UN {s:By} (h:A3 s.length=true):A3 (C6 (G4 s)).length=true/\((C6 (G4 s)).map elS).all smL=true:=by
 have hs:=K8 h
 obtain ⟨h1,h2⟩:=Ti s []
 refine ⟨F5 (by rw [D4];unfold G4;simp at h2;omega),?_⟩
 rw [show (C6 (G4 s)).map elS=G4 s by unfold C6;rw [List.map_map];exact List.map_id'' (λ_=>rfl) _]
 exact List.all_eq_true.2 λx hx=>F5 (by have:=h1 x hx;simp at this;omega)
theorem PP (s:By):(pcs 35 s).getD 0 []=(Lib.cut s [35]).1/\(Lib.cut s [35]).1.length<=s.length:=by
 by_cases h:(35:UInt8)∈s
 ·obtain ⟨p,r,e,hp⟩:=List.eq_append_cons_of_mem h
  rw [e,Rw hp,PO hp]
  exact ⟨rfl,by simp⟩
 ·rw [Fl h,FL h]
  exact ⟨rfl,Nat.le_refl _⟩
end
end Go.Proofs.YtelhbgonncceeaaGreatDoor.E
