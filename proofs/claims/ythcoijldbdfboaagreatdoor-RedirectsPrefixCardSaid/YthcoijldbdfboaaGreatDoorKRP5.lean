/-
  Parts of the proof, merged by a program of the prover's own; no condition.
-/
import Derived.Test.YthcoijldbdfboaaGreatDoorKRP4
import Derived.BigQuiet
import Derived.Deep.QuietTactic
import Derived.Laws.Runes
import Derived.Shelf.Abstract
import Derived.Test.YthcoijldbdfboaaGreatDoorProg
import Derived.WalkKit
import Derived.WideMake
namespace Go.Proofs.YthcoijldbdfboaaGreatDoor.E
set_option linter.all false
section
open Go Go.Proofs
theorem At7 {R:Type} {k0:Int->Option R} (b:Int) (h0:inR b 256=true):Bc2 LF b k0=k0 (Sp (u8n b)):=by
 simp only [inR,Bool.and_eq_true,decide_eq_true_eq] at h0
 have hc:b=((u8n b).toNat:Int):=by
  unfold u8n
  simp
  omega
 generalize u8n b=c at *
 subst hc
 have hbt:=c.toNat_lt
 unfold Bc2
 simp only [Pb,Pa,vl,Sp]
 rcases Sq c with ⟨h1,h2,e⟩ | ⟨h1,h2,e⟩ | ⟨h1,h2,e⟩ | ⟨h1,h2,h3,e⟩
 ·have e2:A4 (wu8 ((c.toNat:Int)-48))=((dig c:Nat):Int):=by
   rw [W8,A8];omega
  rw [Bj]
  simp (disch:=omega) only [D8,I3,Bool.not_true,Bool.not_false,cond_false,cond_true,e2]
 ·have e2:A4 (A4 (wu8 ((c.toNat:Int)-97))+10)=((dig c:Nat):Int):=by
   rw [W8,M4 (n:=(c.toNat:Int)-97) (by omega) (by omega),A8];omega
  rw [Bj]
  simp (disch:=omega) only [D8,I3,Bool.not_true,Bool.not_false,cond_false,cond_true,e2]
 ·have e2:A4 (A4 (wu8 ((c.toNat:Int)-65))+10)=((dig c:Nat):Int):=by
   rw [W8,M4 (n:=(c.toNat:Int)-65) (by omega) (by omega),A8];omega
  rw [Bj]
  simp (disch:=omega) only [D8,I3,Bool.not_true,Bool.not_false,cond_false,cond_true,e2]
 ·rw [e,if_neg (by decide)]
  by_cases c1:c.toNat<48
  ·simp (disch:=omega) only [D8,I3,Bool.not_true,Bool.not_false,cond_false,cond_true]
  ·by_cases c2:c.toNat<65
   ·simp (disch:=omega) only [D8,I3,Bool.not_true,Bool.not_false,cond_false,cond_true]
   ·by_cases c3:c.toNat<97
    ·simp (disch:=omega) only [D8,I3,Bool.not_true,Bool.not_false,cond_false,cond_true]
    ·simp (disch:=omega) only [D8,I3,Bool.not_true,Bool.not_false,cond_false,cond_true]
theorem An6 {b:UInt8} (r:By) (h:b≠37):Y1 (b::r)=(Y1 r).map (b::·):=by
 conv=>lhs;unfold Y1
 grind
theorem SH (x y:UInt8) (r:By):Y1 (37::x::y::r)=if dig x<16/\dig y<16 then (Y1 r).map (UInt8.ofNat (16*dig x+dig y)::·) else none:=by
 conv=>lhs;unfold Y1
 grind
theorem A96 (x:UInt8):ltI (Sp x) 0 = !(decide (dig x<16)):=by
 unfold Sp
 by_cases h:dig x<16
 ·simp_all
 ·rw [if_neg h,B4,decide_eq_false h];rfl
theorem MC:∀ (s t:By),Y1 s=some t->t.length<=s.length
 | [],t,h=>by simp only [Y1,Option.some.injEq] at h;subst h;exact Nat.le_refl _
 | b::r,t,h=>by
  by_cases hb:b=37
  ·subst hb
   match r,h with
   | [],h=>cases h
   | [x],h=>cases h
   | x::y::r',h=>
    rw [SH] at h
    split at h
    ·cases hq:Y1 r' with
     | none=>rw [hq] at h;cases h
     | some q=>
      rw [hq] at h
      simp only [Option.map_some,Option.some.injEq] at h
      subst h
      have:=MC r' q hq
      simp only [List.length_cons]
      omega
    ·cases h
  ·rw [An6 _ hb] at h
   cases hq:Y1 r with
   | none=>rw [hq] at h;cases h
   | some q=>
    rw [hq] at h
    simp only [Option.map_some,Option.some.injEq] at h
    subst h
    have:=MC r q hq
    grind
theorem At6 (s:By) (hs:s.length<=1000000000):∀ (m i n:Nat) (acc:By),i<=s.length->s.length-i<=m->m<n->acc.length<=i->
  (∀ t,Y1 (s.drop i)=some t->∀ (R:Type) (k0:LL->Option R) (k1:LL->Option R),N9 LF n s (i:Int) (acc.map G0) k0 k1=k1 ((acc++t).map G0))/\
  (Y1 (s.drop i)=none->∃ l,∀ (R:Type) (k0:LL->Option R) (k1:LL->Option R),N9 LF n s (i:Int) (acc.map G0) k0 k1=k0 l):=by
 intro m
 induction m with
 | zero=>
  intro i n acc hi hm hn ha
  obtain ⟨n,rfl⟩:∃ m,n=m+1:=⟨n-1,by omega⟩
  rw [List.drop_of_length_le (by omega)]
  refine ⟨λt ht R k0 k1=>?_,λh=>(by cases h)⟩
  simp only [Y1,Option.some.injEq] at ht
  subst ht
  rw [N9]
  rw [A6,List.append_nil]
  rfl
 | succ m ih=>
  intro i n acc hi hm hn ha
  obtain ⟨n,rfl⟩:∃ m,n=m+1:=⟨n-1,by omega⟩
  by_cases hlt:i<s.length
  ·have e1:A4 ((i:Int)+1)=((i+1:Nat):Int):=by rw [A8];rfl
   have e2:A4 ((i:Int)+2)=((i+2:Nat):Int):=by rw [A8];rfl
   have e3:A4 (((i+2:Nat):Int)+1)=((i+3:Nat):Int):=by rw [A8];omega
   have hal:(acc.map G0).length=acc.length:=List.length_map _
   have hrow:∀ b:UInt8,acc.map G0++[[SV.int .u8 (b.toNat:Int)]]=(acc++[b]).map G0:=λb=>by rw [List.map_append];rfl
   have q1:(((s.getD i 0).toNat:Int) != 37) = !(s.getD i 0==37):=congrArg _ (Np _ 37 (by omega))
   rw [M8 s i hlt]
   by_cases h37:s.getD i 0=37
   ·by_cases h3:i+2<s.length
    ·rw [M8 s (i+1) (by omega),M8 s (i+1+1) (by omega),h37,SH]
     obtain ⟨i1,i2⟩:=ih (i+3) n (acc++[UInt8.ofNat (16*dig (s.getD (i+1) 0)+dig (s.getD (i+2) 0))]) (by omega) (by omega) (by omega) (by simp;omega)
     have top:∀ (R:Type) (k0:LL->Option R) (k1:LL->Option R),N9 LF (n+1) s (i:Int) (acc.map G0) k0 k1=cond (decide (dig (s.getD (i+1) 0)<16)&&decide (dig (s.getD (i+2) 0)<16)) (N9 LF n s ((i+3:Nat):Int) ((acc++[UInt8.ofNat (16*dig (s.getD (i+1) 0)+dig (s.getD (i+2) 0))]).map G0) k0 k1) (k0 (acc.map G0)):=by
      intro R k0 k1
      rw [N9]
      rw [B4,J2,K6,q1,h37,hal,e2,B4,e1,J2,J2,K6,K6]
      simp only [cond_true,vl,Bool.not_true,cond_false,beq_self_eq_true,Ce8,NB,A96,I9 (show acc.length+1<=68719476736 by omega),e3]
      generalize s.getD (i+1) 0=x at *
      generalize s.getD (i+2) 0=y at *
      by_cases hx:dig x<16
      ·by_cases hy:dig y<16
       ·have w1:Sp x=(dig x:Int):=by unfold Sp;rw [if_pos hx]
        have w2:Sp y=(dig y:Int):=by unfold Sp;rw [if_pos hy]
        have w3:A4 ((16:Int)*(dig x:Int))=((16*dig x:Nat):Int):=by rw [A8];omega
        have w4:A4 (((16*dig x:Nat):Int)+(dig y:Int))=((16*dig x+dig y:Nat):Int):=by rw [A8];omega
        have w5:wu8 ((16*dig x+dig y:Nat):Int)=((UInt8.ofNat (16*dig x+dig y)).toNat:Int):=by
         rw [W8]
         simp
         omega
        grind
       grind
      grind
     by_cases hd:dig (s.getD (i+1) 0)<16/\dig (s.getD (i+2) 0)<16
     ·rw [if_pos hd]
      have hc:(decide (dig (s.getD (i+1) 0)<16)&&decide (dig (s.getD (i+2) 0)<16))=true:=by rw [decide_eq_true hd.1,decide_eq_true hd.2];rfl
      refine ⟨λt ht R k0 k1=>?_,λh=>?_⟩
      ·cases hq:Y1 (s.drop (i+3)) with
       | none=>rw [show i+1+1+1=i+3 from rfl,hq] at ht;cases ht
       | some q=>
        rw [show i+1+1+1=i+3 from rfl,hq] at ht
        simp only [Option.map_some,Option.some.injEq] at ht
        subst ht
        rw [top,hc,cond_true,i1 q hq,List.append_assoc]
        rfl
      ·cases hq:Y1 (s.drop (i+3)) with
       | some q=>rw [show i+1+1+1=i+3 from rfl,hq] at h;cases h
       | none=>
        obtain ⟨l,e⟩:=i2 hq
        exact ⟨l,λR k0 k1=>by rw [top,hc,cond_true,e]⟩
     ·rw [if_neg hd]
      have hc:(decide (dig (s.getD (i+1) 0)<16)&&decide (dig (s.getD (i+2) 0)<16))=false:=by grind
      exact ⟨λt h=>(by cases h),λ_=>⟨_,λR k0 k1=>by rw [top,hc,cond_false]⟩⟩
    ·have hnone:Y1 (s.getD i 0::s.drop (i+1))=none:=by
      rw [h37]
      cases hd:s.drop (i+1) with
      | nil=>rfl
      | cons x r=>
       cases r with
       | nil=>rfl
       | cons y r'=>
        exfalso
        have:=congrArg List.length hd
        rw [List.length_drop,List.length_cons,List.length_cons] at this
        omega
     rw [hnone]
     refine ⟨λt h=>(by cases h),λ_=>⟨acc.map G0,λR k0 k1=>?_⟩⟩
     rw [N9]
     rw [B4,J2,K6,q1,h37,e2,A6]
     rfl
   ·rw [An6 _ h37]
    obtain ⟨i1,i2⟩:=ih (i+1) n (acc++[s.getD i 0]) (by omega) (by omega) (by omega) (by simp;omega)
    have hb37:(s.getD i 0==37)=false:=by simpa using h37
    have top:∀ (R:Type) (k0:LL->Option R) (k1:LL->Option R),N9 LF (n+1) s (i:Int) (acc.map G0) k0 k1=N9 LF n s ((i+1:Nat):Int) ((acc++[s.getD i 0]).map G0) k0 k1:=by
     intro R k0 k1
     rw [N9]
     rw [B4,J2,K6,q1,hb37,hal,I9 (by omega),e1,hrow]
     rfl
    refine ⟨λt ht R k0 k1=>?_,λh=>?_⟩
    ·cases hq:Y1 (s.drop (i+1)) with
     | none=>rw [hq] at ht;cases ht
     | some q=>
      rw [hq] at ht
      simp only [Option.map_some,Option.some.injEq] at ht
      subst ht
      rw [top,i1 q hq,List.append_assoc]
      rfl
    ·cases hq:Y1 (s.drop (i+1)) with
     | some q=>rw [hq] at h;cases h
     | none=>
      obtain ⟨l,e⟩:=i2 hq
      exact ⟨l,λR k0 k1=>by rw [top,e]⟩
  ·rw [List.drop_of_length_le (by omega)]
   refine ⟨λt ht R k0 k1=>?_,λh=>(by cases h)⟩
   simp only [Y1,Option.some.injEq] at ht
   subst ht
   rw [N9]
   rw [A6,List.append_nil]
   rfl
theorem Bu5 (s:By) (h0:A2 s.length=true):∃ r H,Bc1 LF s (λr0 r1 l2=>rv (.tup [.s (.str r0),.s (.bool r1)]) [.arr false 5 1 l2])=rv r H/\
  r.stab [0,0] H = .tup [.s (.str (ZZ s)),.s (.bool (Y1 s).isSome)]:=by
 have hs:=N5 h0
 have hLF:=F6
 have hroom:((decide ((0:Int)<=(s.length:Int)))&&(J9 (Int.toNat (s.length:Int))))=true:=by
  rw [Int.toNat_natCast,I9 (by omega),decide_eq_true (by omega)];rfl
 obtain ⟨p1,p2⟩:=At6 s hs s.length 0 LF [] (by omega) (by omega) (by omega) (by simp)
 rw [List.drop_zero] at p1 p2
 unfold ZZ
 cases hp:Y1 s with
 | none=>
  obtain ⟨l,e⟩:=p2 hp
  refine ⟨.tup [.s (.str []),.s (.bool false)],[.arr false 5 1 l],?_,rfl⟩
  unfold Bc1
  rw [hroom,cond_true]
  exact e _ _ _
 | some t=>
  refine ⟨.tup [.s (.str t),.s (.bool true)],[.arr false 5 1 (t.map G0)],?_,rfl⟩
  unfold Bc1
  rw [hroom,cond_true]
  refine Eq.trans (p1 t hp _ _ _) ?_
  rw [List.nil_append,Iv,Jr]
  rfl
abbrev CV (kd:Int) (nm:By) (v4 a0 a1 a2 a3 a4 a5 a6 a7:Int):List PV:=[.s (.int .i64 kd),.s (.str nm),.s (.int .u32 v4),.s (.int .u16 a0),.s (.int .u16 a1),.s (.int .u16 a2),.s (.int .u16 a3),.s (.int .u16 a4),.s (.int .u16 a5),.s (.int .u16 a6),.s (.int .u16 a7)]
def QM (h:B3):PV:=.agg [.s (.int .i64 (h.kind:Nat)),.s (.str h.name),.s (.int .u32 (h.v4:Nat)),.s (.int .u16 (h.v6.getD 0 0:Nat)),.s (.int .u16 (h.v6.getD 1 0:Nat)),.s (.int .u16 (h.v6.getD 2 0:Nat)),.s (.int .u16 (h.v6.getD 3 0:Nat)),.s (.int .u16 (h.v6.getD 4 0:Nat)),.s (.int .u16 (h.v6.getD 5 0:Nat)),.s (.int .u16 (h.v6.getD 6 0:Nat)),.s (.int .u16 (h.v6.getD 7 0:Nat))]
abbrev Cn9:Int->Int->Int->Int->Int->Int->Int->Int->Int->Int->Int->LL->Option (PV × List Blk × Unit):=λr0 r1 r2 r3 r4 r5 r6 r7 r8 r9 n10 l11=>rv (.tup [.agg (CV r0 [] 0 r1 r2 r3 r4 r5 r6 r7 r8),.s (.int .i64 r9)]) [.box (CV n10 [] 0 r1 r2 r3 r4 r5 r6 r7 r8),.arr false 56 1 l11]
abbrev Cl1:Unit->Option (PV × List Blk × Unit):=λ_=>rv (.tup [.agg (CV 0 [] 0 0 0 0 0 0 0 0 0),.s (.int .i64 14)]) [.box (CV 0 [] 0 0 0 0 0 0 0 0 0)]
theorem Bx1 (s:By) (c:UInt8) (h:s≠[]):(s.getLast? = some c)↔s.getD (s.length-1) 0=c:=by
 have:0<s.length:=List.length_pos_iff.2 h
 grind
theorem Bc0 (s:By) (h0:A2 s.length=true) (h1:Bc9 s=true):∃ r H,Al0 LF s Cn9 Cl1=rv r H/\r.stab [0,0] H = .tup [QM (M9 s).1,.s (.int .i64 ((M9 s).2:Nat))]:=by
 have hs:=N5 h0
 have hne:s≠[]:=by rintro rfl;cases h1
 have hl:0<s.length:=List.length_pos_iff.2 hne
 have hb0:s.getD 0 0=91:=by
  cases s with
  | nil=>exact absurd rfl hne
  | cons b t=>
   simp only [Bc9,List.isPrefixOf,Bool.and_true,beq_iff_eq] at h1
   grind
 have e1:A4 ((s.length:Int)-1)=((s.length-1:Nat):Int):=by rw [A8];omega
 have q1:(((s.getD (s.length-1) 0).toNat:Int)==93)=(s.getD (s.length-1) 0==93):=Np _ 93 (by omega)
 have bad:∃ r H,Cl1 ()=rv r H/\r.stab [0,0] H = .tup [QM K7,.s (.int .i64 14)]:=⟨_,_,rfl,rfl⟩
 unfold Al0 M9
 simp only [vl,e1]
 rw [J2,K6,q1,cond_true]
 by_cases h93:s.getD (s.length-1) 0=93
 ·have h2:2<=s.length:=by grind
  rw [if_pos ⟨(Bx1 s 93 hne).2 h93,h2⟩,h93,beq_self_eq_true,cond_true,show (1:Int)=((1:Nat):Int) from rfl,M7,cond_true,Wq]
  have hlt:((s.take (s.length-1)).drop 1).length<=s.length:=by rw [List.length_drop,List.length_take];omega
  rw [G2,cond_true]
  unfold v6c
  cases hv:v6B ((s.take (s.length-1)).drop 1) with
  | none=>exact ⟨_,_,rfl,rfl⟩
  | some a=>exact ⟨_,_,rfl,rfl⟩
 grind
theorem Bj1 (l:List By) (i:Nat) (y:By) (h:i<l.length):List.set (C5 l) i (E0 ((C5 l).getD i []) 0 [SV.str y])=C5 (l.set i y):=by
 have e:(C5 l).getD i []=[SV.str (l.getD i [])]:=by
  unfold C5
  grind
 rw [e]
 unfold C5
 rw [List.map_set]
 rfl
theorem QN (N:Nat) (hN:N<=1000000001):∀ (rest:List By) (done:List By) (n:Nat),done.length+rest.length=N->rest.length<n->(∀ x∈rest,x.length<=1000000000)->
  ((I7 rest).2=0->∀ (R:Type) (k0:Int->LL->Option R) (k1:Nat->LL->Option R),O4 LF n N (N:Int) (done.length:Int) (C5 (done++rest)) k0 k1=k1 N (C5 (done++(I7 rest).1)))/\
  ((I7 rest).2≠0->∃ l,∀ (R:Type) (k0:Int->LL->Option R) (k1:Nat->LL->Option R),O4 LF n N (N:Int) (done.length:Int) (C5 (done++rest)) k0 k1=k0 ((I7 rest).2:Nat) l):=by
 intro rest
 induction rest with
 | nil=>
  intro done n hd hn hx
  obtain ⟨n,rfl⟩:∃ m,n=m+1:=⟨n-1,by simp at hn;omega⟩
  simp only [List.length_nil] at hd
  refine ⟨λ_ R k0 k1=>?_,λh=>absurd rfl h⟩
  rw [O4]
  rw [A6]
  rfl
 | cons x r ih=>
  intro done n hd hn hx
  simp only [List.length_cons] at hd hn
  obtain ⟨n,rfl⟩:∃ m,n=m+1:=⟨n-1,by omega⟩
  have e1:A4 ((done.length:Int)+1)=((done.length+1:Nat):Int):=by rw [A8];rfl
  have hlen:(done++x::r).length=N:=by rw [List.length_append,List.length_cons];omega
  have hgx:(done++x::r).getD done.length []=x:=by grind
  have hset:∀ y,(done++x::r).set done.length y=(done++[y])++r:=λy=>by grind
  have top:∀ (R:Type) (k0:Int->LL->Option R) (k1:Nat->LL->Option R),O4 LF (n+1) N (N:Int) (done.length:Int) (C5 (done++x::r)) k0 k1=cond (((O7 x).2:Int) != 0) (k0 ((O7 x).2:Nat) (C5 (done++x::r))) (O4 LF n N (N:Int) ((done.length+1:Nat):Int) (C5 ((done++[(O7 x).1])++r)) k0 k1):=by
   intro R k0 k1
   rw [O4]
   rw [B4,J2,Int.toNat_natCast,Nat.zero_add,U2 (by omega),Ak,hgx]
   simp only [vl,cond_true]
   rw [E2 (hx x (by simp)),E1,decide_eq_true (show done.length<(done++x::r).length by omega),Bj1 _ _ _ (by omega),hset,e1]
   rfl
  unfold I7
  obtain ⟨i1,i2⟩:=ih (done++[(O7 x).1]) n (by simp;omega) (by omega) (λy hy=>hx y (by simp [hy]))
  have hdl:(done++[(O7 x).1]).length=done.length+1:=by simp
  rw [hdl] at i1 i2
  by_cases h:(O7 x).2=0
  ·rw [if_pos h]
   have hb:(((O7 x).2:Int) != 0)=false:=by rw [h];rfl
   refine ⟨λh2 R k0 k1=>?_,λh2=>?_⟩
   ·rw [top,hb,cond_false,i1 h2,List.append_assoc]
    rfl
   ·obtain ⟨l,e⟩:=i2 h2
    exact ⟨l,λR k0 k1=>by rw [top,hb,cond_false,e]⟩
  ·rw [if_neg h]
   have hb:(((O7 x).2:Int) != 0)=true:=by simpa using h
   exact ⟨λh2=>absurd h2 h,λ_=>⟨_,λR k0 k1=>by rw [top,hb,cond_true]⟩⟩
theorem Al6 (p:By) (m:Nat):∀ l:List By,(∀ x∈l,x.length<=m)->(Lib.join l p).length<=(m+p.length)*l.length
 | [],_=>by simp [Lib.join]
 | [x],h=>by
  have:=h x (by simp)
  rw [show Lib.join [x] p=x by simp [Lib.join,Lib.joinTail]]
  grind
 | x::y::r,h=>by
  have h1:=h x (by simp)
  have h2:=Al6 p m (y::r) (λz hz=>h z (by simp [hz]))
  rw [Hf,List.length_append,List.length_append,List.length_cons,Nat.mul_add,Nat.mul_one]
  omega
theorem JE (l:List By):(C5 l).all isS=true:=by
 unfold C5
 rw [List.all_map,List.all_eq_true]
 intro x _
 rfl
theorem Bk1 (s:By):MY s [46]=L0 s:=by
 unfold MY L0
 by_cases h:s.getLast? = some 46
 ·obtain ⟨t,rfl⟩:=List.getLast?_eq_some_iff.1 h
  grind
 ·rw [if_neg h,if_neg]
  rw [List.isSuffixOf_iff_suffix]
  rintro ⟨t,ht⟩
  grind
abbrev Cl3:Int->By->Int->Int->Int->Int->Int->Int->Int->Int->Int->Int->Int->By->Int->Int->Int->Int->Int->Int->Int->Int->Int->Option (PV × List Blk × Unit):=λr0 r1 r2 r3 r4 r5 r6 r7 r8 r9 r10 r11 n12 s13 n14 n15 n16 n17 n18 n19 n20 n21 n22=>rv (.tup [.agg (CV r0 r1 r2 r3 r4 r5 r6 r7 r8 r9 r10),.s (.int .i64 r11)]) [.box (CV n12 s13 n14 n15 n16 n17 n18 n19 n20 n21 n22)]
abbrev Cl4:Int->By->Int->Int->By->LL->Option (PV × List Blk × Unit):=λr0 r1 r2 n3 s4 l5=>rv (.tup [.agg (CV r0 r1 0 0 0 0 0 0 0 0 0),.s (.int .i64 r2)]) [.box (CV n3 s4 0 0 0 0 0 0 0 0 0),.arr false 9 1 l5]
theorem Au1 (s:By) (h0:A2 s.length=true):∃ r H,Tb LF s Cl3 Cl4=rv r H/\r.stab [0,0] H = .tup [QM (F9 s).1,.s (.int .i64 ((F9 s).2:Nat))]:=by
 have hs:=N5 h0
 have hLF:=F6
 have bad:∀ e:Nat,∃ r H,Cl3 0 [] 0 0 0 0 0 0 0 0 0 (e:Int) 0 [] 0 0 0 0 0 0 0 0 0=rv r H/\r.stab [0,0] H = .tup [QM K7,.s (.int .i64 (e:Nat))]:=λe=>⟨_,_,rfl,rfl⟩
 have bad2:∀ (e:Nat) (l:LL),∃ r H,Cl4 0 [] (e:Int) 0 [] l=rv r H/\r.stab [0,0] H = .tup [QM K7,.s (.int .i64 (e:Nat))]:=λe l=>⟨_,_,rfl,rfl⟩
 by_cases h1:1024<s.length
 ·have e:F9 s=(K7,3):=by unfold F9;rw [if_pos h1]
  rw [e]
  unfold Tb
  rw [B4,cond_true]
  exact bad 3
 ·have hbr:([91]:By).isPrefixOf s=decide (s.head? = some 91):=by
   cases s with
   | nil=>rfl
   | cons b t=>
    grind
  by_cases h2:s.head? = some 91
  ·have hb:([91]:By).isPrefixOf s=true:=by rw [hbr,decide_eq_true h2]
   have e:F9 s=M9 s:=by unfold F9 M9;rw [if_neg h1,if_pos h2]<;>rfl
   rw [e]
   unfold Tb
   rw [A6,cond_false,h0,cond_true,hb,cond_true,cond_true,show Bc9 s=true from hb,cond_true]
   exact ⟨_,_,rfl,rfl⟩
  ·have hb:([91]:By).isPrefixOf s=false:=by rw [hbr,decide_eq_false h2]
   unfold Tb
   rw [A6,cond_false,h0,cond_true,hb,cond_false,cond_true]
   cases hp:Y1 s with
   | none=>
    have e:F9 s=(K7,14):=by unfold F9;rw [if_neg h1,if_neg h2,hp]
    rw [e]
    exact bad 14
   | some t=>
    have htl:t.length<=s.length:=MC s t hp
    have hv:ZZ s=t:=by unfold ZZ;rw [hp];rfl
    rw [hv,G2]
    simp only [Option.isSome_some,Bool.not_true,cond_false,cond_true,vl]
    rw [Bk1]
    have htd:(L0 t).length<=t.length:=by unfold L0;split<;>simp
    have hP:F9 s=if K5 (L0 t) then (match pnB (L0 t) with
      | some v=>(⟨2,[],v,z8⟩,0)
      | none=>(K7,14))
     else if (I7 (pcs 46 (L0 t))).2=0 then (
      let name:=Lib.join (I7 (pcs 46 (L0 t))).1 [46]
      if 253<name.length then (K7,3) else if K5 name then (K7,14) else (⟨1,name,0,z8⟩,0))
     else (K7,(I7 (pcs 46 (L0 t))).2):=by
     unfold F9
     rw [if_neg h1,if_neg h2,hp]
     rfl
    rw [hP]
    generalize L0 t=u at *
    rw [G2,cond_true]
    cases hn:K5 u with
    | true=>
     rw [if_pos rfl,cond_true,cond_true]
     cases hq:pnB u with
     | none=>exact bad 14
     | some v=>exact ⟨_,_,rfl,rfl⟩
    | false=>
     rw [if_neg (by simp),cond_false,cond_true,show ((1:Nat)==1)=true from rfl,cond_true]
     have hc:([46]:By).getD 0 0=46:=rfl
     rw [hc]
     have hpl:=Hk 46 u
     have hcl:=Je 46 u
     obtain ⟨i1,i2⟩:=QN (pcs 46 u).length (by omega) (pcs 46 u) [] LF (by simp) (by omega) (λx hx=>by have:=(Ep hx).2;omega)
     rw [List.nil_append,List.length_nil] at i1 i2
     by_cases hz:(I7 (pcs 46 u)).2=0
     ·rw [if_pos hz]
      obtain ⟨a1,a2⟩:=Rx _ hz
      have hjl:=Al6 [46] 63 (I7 (pcs 46 u)).1 (λx hx=>(Lp (a1 x hx)).le)
      have he:∀ {R:Type} (K0:Int->LL->Option R) (K1:Nat->LL->Option R),O4 LF LF (pcs 46 u).length ((pcs 46 u).length:Int) 0 (C5 (pcs 46 u)) K0 K1=K1 (pcs 46 u).length (C5 (I7 (pcs 46 u)).1):=λK0 K1=>i1 hz _ K0 K1
      rw [he]
      have hA:(I7 (pcs 46 u)).1.length<=1025:=by omega
      have htk:List.take (pcs 46 u).length (List.drop 0 (C5 (I7 (pcs 46 u)).1))=C5 (I7 (pcs 46 u)).1:=by
       rw [List.drop_zero,List.take_of_length_le (by rw [E1];omega)]
      have hmul:(63+([46]:By).length)*(I7 (pcs 46 u)).1.length<=64*1025:=Nat.mul_le_mul (by simp) hA
      rw [htk,JE,Jg,E1,G2,G2]
      simp only [cond_true]
      generalize Lib.join (I7 (pcs 46 u)).1 [46]=name at *
      by_cases h253:253<name.length
      ·rw [if_pos h253,B4,cond_true]
       exact bad2 3 _
      ·rw [if_neg h253,A6,cond_false]
       cases hnn:K5 name with
       | true=>exact bad2 14 _
       | false=>exact ⟨_,_,rfl,rfl⟩
     ·rw [if_neg hz]
      obtain ⟨l,e⟩:=i2 hz
      simp_all
theorem QS {R:Type} {k0 k1:Unit->Option R}:∀ l:List By,(∀ x∈l,x.length<=1000000000)->AM LF l k0 k1=if l.all N8 then k0 () else k1 ()
 | [],_=>rfl
 | x::r,h=>by
  rw [QR]
  unfold Wu
  rw [E2 (h x (by simp)),cond_true,List.all_cons]
  have ih:=QS (k0:=k0) (k1:=k1) r (λy hy=>h y (by simp [hy]))
  grind
theorem Cc4 (s:By) (h0:A2 s.length=true):∃ r H,hvn LF s (λ_=>rv (.s (.bool false)) [.box [.s (.bool false)]]) (λr0 b1=>rv (.s (.bool r0)) [.box [.s (.bool b1)],.box [.bad],.box [.bad],.box [.bad]])=rv r H/\r.stab [] H = .s (.bool (V5 s)):=by
 have hs:=N5 h0
 unfold hvn KW V5
 by_cases h1:253<s.length
 ·rw [B4,show Nat.ble s.length 253=false by rw [Bool.eq_false_iff,ne_eq,Nat.ble_eq];omega]
  exact ⟨_,_,rfl,rfl⟩
 ·rw [A6,cond_false,h0,cond_true,show Nat.ble s.length 253=true by rw [Nat.ble_eq];omega]
  cases h2:K5 s with
  | true=>exact ⟨_,_,rfl,rfl⟩
  | false=>
   rw [cond_false,show ((1:Nat)==1&&(0:Int)==(0:Int))=true from rfl,show ([46]:By).getD 0 0=46 from rfl,Bool.and_true,cond_true,QS _ (λx hx=>by have:=(Ep hx).2;omega)]
   cases h3:(pcs 46 s).all N8 with
   | true=>exact ⟨_,_,rfl,rfl⟩
   | false=>exact ⟨_,_,rfl,rfl⟩
theorem Cl8 (b0 b1 b2 b3 b4 b5 b6 b7:Nat):(n8 (b0:Int) b1 b2 b3 b4 b5 b6 b7==z8)=(((b0:Int)==0)&&(((b1:Int)==0)&&(((b2:Int)==0)&&(((b3:Int)==0)&&(((b4:Int)==0)&&(((b5:Int)==0)&&(((b6:Int)==0)&&(((b7:Int)==0)&&true)))))))):=by
 have e:n8 (b0:Int) b1 b2 b3 b4 b5 b6 b7=[b0,b1,b2,b3,b4,b5,b6,b7]:=rfl
 have q:∀ b:Nat,((b:Int)==0)=(b==0):=λb=>by grind
 rw [e]
 simp only [q,z8]
 rfl
theorem Bw1 (kd:Int) (nm:By) (v4 a0 a1 a2 a3 a4 a5 a6 a7:Int) (h0:A2 nm.length=true) (h1:ltN v4 4294967296=true) (h2:ok8 a0 a1 a2 a3 a4 a5 a6 a7=true) :
  ∃ r H,Ii LF kd nm v4 a0 a1 a2 a3 a4 a5 a6 a7 (λr0 n1 s2 n3 n4 n5 n6 n7 n8 n9 n10 n11 l12=>rv (.s (.bool r0)) [.box (CV n1 s2 n3 n4 n5 n6 n7 n8 n9 n10 n11),.arr false 56 1 l12])=rv r H/\
   r.stab [] H = .s (.bool (L1 (mkH kd nm v4 (n8 a0 a1 a2 a3 a4 a5 a6 a7)))):=by
 obtain ⟨b0,b1,b2,b3,b4,b5,b6,b7,rfl,rfl,rfl,rfl,rfl,rfl,rfl,rfl,hb⟩:=Pr h2
 obtain ⟨v0,v1⟩:=D2.1 h1
 obtain ⟨v,rfl⟩:=Int.eq_ofNat_of_zero_le v0
 have qv:((v:Int)==0)=(v==0):=by
  rw [Bool.eq_iff_iff,beq_iff_eq,beq_iff_eq];omega
 have qn:(nm==([]:By))=nm.isEmpty:=by cases nm<;>rfl
 have hk:(mkH kd nm (v:Int) (n8 (b0:Int) b1 b2 b3 b4 b5 b6 b7)).kind=if ltN kd 4 then kd.toNat else 0:=rfl
 have hn:(mkH kd nm (v:Int) (n8 (b0:Int) b1 b2 b3 b4 b5 b6 b7)).name=nm:=rfl
 have hv:(mkH kd nm (v:Int) (n8 (b0:Int) b1 b2 b3 b4 b5 b6 b7)).v4=v:=Int.toNat_natCast v
 have h6:(mkH kd nm (v:Int) (n8 (b0:Int) b1 b2 b3 b4 b5 b6 b7)).v6=n8 (b0:Int) b1 b2 b3 b4 b5 b6 b7:=rfl
 unfold Ii L1
 rw [hk,hn,hv,h6,Cl8,qv,qn]
 by_cases k1:kd=1
 ·subst k1
  rw [show ((1:Int)==1)=true from rfl,cond_true,h0,cond_true,if_pos (by decide)]
  cases V5 nm with
  | false=>exact ⟨_,_,rfl,rfl⟩
  | true=>
   cases (v==0) with
   | false=>exact ⟨_,_,rfl,rfl⟩
   | true=>exact ⟨_,_,rfl,rfl⟩
 ·rw [show (kd==(1:Int))=false by simpa using k1,cond_false]
  by_cases k2:kd=2
  ·subst k2
   rw [show ((2:Int)==2)=true from rfl,cond_true,if_neg (by decide),if_pos (by decide)]
   cases nm.isEmpty with
   | false=>exact ⟨_,_,rfl,rfl⟩
   | true=>exact ⟨_,_,rfl,rfl⟩
  ·rw [show (kd==(2:Int))=false by simpa using k2,cond_false]
   by_cases k3:kd=3
   ·subst k3
    rw [show ((3:Int)==3)=true from rfl,cond_true,if_neg (by decide),if_neg (by decide),if_pos (by decide)]
    cases nm.isEmpty with
    | false=>exact ⟨_,_,rfl,rfl⟩
    | true=>exact ⟨_,_,rfl,rfl⟩
   ·rw [show (kd==(3:Int))=false by simpa using k3,cond_false]
    have hkk:(if ltN kd 4 then kd.toNat else 0)=0:=by
     split
     ·rename_i h
      have:=D2.1 h
      omega
     ·rfl
    rw [hkk]
    exact ⟨_,_,rfl,rfl⟩
theorem B94 {a0 a1 a2 a3 a4 a5 a6 a7:Int} (h:ok8 a0 a1 a2 a3 a4 a5 a6 a7=true):(n8 a0 a1 a2 a3 a4 a5 a6 a7).length=8/\∀ x∈n8 a0 a1 a2 a3 a4 a5 a6 a7,x<65536:=by
 obtain ⟨b0,b1,b2,b3,b4,b5,b6,b7,rfl,rfl,rfl,rfl,rfl,rfl,rfl,rfl,hb⟩:=Pr h
 refine ⟨rfl,λx hx=>?_⟩
 simp only [n8,Int.toNat_natCast,List.mem_cons,List.not_mem_nil,or_false] at hx
 omega
theorem Bv2 (kd:Int) (nm:By) (v4 a0 a1 a2 a3 a4 a5 a6 a7:Int) (h0:A2 nm.length=true) (h1:ltN v4 4294967296=true) (h2:ok8 a0 a1 a2 a3 a4 a5 a6 a7=true) :
  ∃ r H,Bv0 LF kd nm v4 a0 a1 a2 a3 a4 a5 a6 a7 (λr0 n1 s2 n3 n4 n5 n6 n7 n8 n9 n10 n11=>rv (.s (.str r0)) [.box (CV n1 s2 n3 n4 n5 n6 n7 n8 n9 n10 n11)])=rv r H/\
   r.stab [] H = .s (.str (Ih (mkH kd nm v4 (n8 a0 a1 a2 a3 a4 a5 a6 a7)))):=by
 obtain ⟨o1,o2⟩:=B94 h2
 have hl6:=Bl5 _ o1 o2
 unfold Bv0 Ih
 rw [h0,h1,h2]
 simp only [cond_true,vl]
 have hk:(mkH kd nm v4 (n8 a0 a1 a2 a3 a4 a5 a6 a7)).kind=if ltN kd 4 then kd.toNat else 0:=rfl
 cases hvd:L1 (mkH kd nm v4 (n8 a0 a1 a2 a3 a4 a5 a6 a7)) with
 | false=>exact ⟨_,_,rfl,rfl⟩
 | true=>
  rw [if_pos rfl,Bool.not_true,cond_false,hk]
  by_cases k1:kd=1
  ·subst k1
   rw [if_pos (by decide)]
   exact ⟨_,_,rfl,rfl⟩
  ·rw [show (kd==(1:Int))=false by simpa using k1,cond_false]
   have n1:¬ (if ltN kd 4 then kd.toNat else 0)=1:=by grind
   rw [if_neg n1]
   by_cases k2:kd=2
   ·subst k2
    rw [if_pos (by decide)]
    exact ⟨_,_,rfl,rfl⟩
   ·rw [show (kd==(2:Int))=false by simpa using k2,cond_false]
    have n2:¬ (if ltN kd 4 then kd.toNat else 0)=2:=by grind
    rw [if_neg n2,O8 (by omega),cond_true,O8 (by rw [List.length_append,List.length_singleton];omega),cond_true]
    exact ⟨_,_,rfl,rfl⟩
theorem At5 {R:Type} {k0:Bool->Option R} (p s:By) (h0:A2 p.length=true) (h1:A2 s.length=true):Bu2 LF p s k0=k0 (Oi p s):=by
 have hp:=N5 h0
 unfold Bu2 Oi
 rw [h0,h1,O8 (by omega)]
 grind
theorem ZH {R:Type} {k0:By->By->Int->Option R} (t p:By) (n:Int):Be1 LF t p n k0=k0 t p n:=rfl
theorem A14 {R:Type} {k0:By->By->Option R} (t p:By):Ce5 LF t p k0=k0 t p:=rfl
theorem Au4 {R:Type} {k0:By->Option R} (t:By):Cc1 LF t k0=k0 t:=rfl
theorem Ar3 {c:UInt8} {s:By} (h:c∉s):Lib.cut s [c]=(s,[],false):=by
 unfold Lib.cut
 rw [Hd h,if_neg (by decide)]
theorem A93 {c:UInt8} {p r:By} (h:c∉p):Lib.cut (p++c::r) [c]=(p,r,true):=by
 unfold Lib.cut
 rw [Ld h,Bj,Int.toNat_natCast,List.take_left,List.length_singleton]
 simp_all
theorem Ad6 {σ R:Type} (yh:Yh σ) (c:UInt8):∀ (m:Nat) (t:By) (n:Nat) (s s':σ),t.length<=m->t.length<=1000000000->m<n->N7 yh ((pcs c t).map λx=>([.s (.str x)]:List PV)) s=some s'->
  ∃ t' , (∃ s0:σ,∃ b:Bool,yh [.s (.str t')] s0=some (b,s')/\∀ (k0 k1:By->By->Int->σ->Option R),O5 yh LF n [c] t 0 s k0 k1=k0 [c] t' 0 s0)\/(∀ (k0 k1:By->By->Int->σ->Option R),O5 yh LF n [c] t 0 s k0 k1=k1 [c] t' 0 s'):=by
 intro m
 induction m with
 | zero=>
  intro t n s s' ht ht2 hn h
  obtain rfl:=List.length_eq_zero_iff.1 (Nat.le_zero.1 ht)
  obtain ⟨n,rfl⟩:∃ m,n=m+1:=⟨n-1,by omega⟩
  rw [Jy (by simp)] at h
  simp only [List.map_cons,List.map_nil,N7] at h
  refine ⟨[],.inl ⟨s,?_⟩⟩
  have e:∀ (k0 k1:By->By->Int->σ->Option R),O5 yh LF (n+1) [c] [] 0 s k0 k1=k0 [c] [] 0 s:=λk0 k1=>by
   rw [O5]
   rw [Hd (by simp)]
   rfl
  cases hy:yh [.s (.str [])] s with
  | none=>rw [hy] at h;cases h
  | some q=>
   obtain ⟨b,s1⟩:=q
   rw [hy] at h
   have:s1=s':=by cases b<;>simpa using h
   subst this
   exact ⟨b,rfl,e⟩
 | succ m ih=>
  intro t n s s' ht ht2 hn h
  obtain ⟨n,rfl⟩:∃ m,n=m+1:=⟨n-1,by omega⟩
  rcases R6 c t with hc | ⟨p,r,rfl,hc⟩
  ·rw [Jy hc] at h
   simp only [List.map_cons,List.map_nil,N7] at h
   refine ⟨t,.inl ⟨s,?_⟩⟩
   have e:∀ (k0 k1:By->By->Int->σ->Option R),O5 yh LF (n+1) [c] t 0 s k0 k1=k0 [c] t 0 s:=λk0 k1=>by
    rw [O5]
    rw [Hd hc,E2 ht2]
    rfl
   cases hy:yh [.s (.str t)] s with
   | none=>rw [hy] at h;cases h
   | some q=>
    obtain ⟨b,s1⟩:=q
    rw [hy] at h
    have:s1=s':=by cases b<;>simpa using h
    subst this
    exact ⟨b,rfl,e⟩
  ·rw [Wy hc] at h
   simp only [List.map_cons,N7] at h
   have hlen:(p++c::r).length=p.length+r.length+1:=by rw [List.length_append,List.length_cons];omega
   have e1:A4 ((p.length:Int)+0)=((p.length:Nat):Int):=by rw [A8];omega
   have e2:A4 ((p.length:Int)+(([c]:By).length:Int))=((p.length+1:Nat):Int):=by
    rw [M4 (by simp;omega) (by simp;omega)];simp
   have e3:cut (p++c::r) 0 (p.length:Int)=p:=by rw [U1,Int.toNat_natCast,List.take_left]
   have e4:cut (p++c::r) ((p.length+1:Nat):Int) ((p++c::r).length:Int)=r:=by
    rw [Aj,Int.toNat_natCast,show p++c::r=(p++[c])++r by simp,List.drop_left' (by simp)]
   have top:∀ (k0 k1:By->By->Int->σ->Option R),O5 yh LF (n+1) [c] (p++c::r) 0 s k0 k1=ydK (yh [.s (.str p)] s) λb s1=>cond (not b) (k1 [c] (p++c::r) 0 s1) (O5 yh LF n [c] r 0 s1 k0 k1):=λk0 k1=>by
    rw [O5]
    rw [Ld hc,E2 ht2,cond_true,A6,cond_false]
    simp only [vl,e1,e2,e3,e4]
    rw [M7,cond_true,M7]
    rfl
   cases hy:yh [.s (.str p)] s with
   | none=>rw [hy] at h;cases h
   | some q=>
    obtain ⟨b,s1⟩:=q
    rw [hy] at h top
    cases b with
    | false=>
     have:s1=s':=by simpa using h
     subst this
     exact ⟨p++c::r,.inr λk0 k1=>by rw [top];rfl⟩
    | true=>
     simp only at h
     obtain ⟨t',⟨s0,b,e,f⟩ | f⟩:=ih r n s1 s' (by omega) (by omega) (by omega) h
     ·exact ⟨t',.inl ⟨s0,b,e,λk0 k1=>by rw [top];exact f k0 k1⟩⟩
     ·exact ⟨t',.inr λk0 k1=>by rw [top];exact f k0 k1⟩
theorem Ad7 {σ R:Type} (yh:Yh σ) (p t:By) (n:Int) (s s':σ) (h:(A2 t.length&&(p.length==1&&n==0))=true) (hr:N7 yh ((pcs (p.getD 0 0) t).map λx=>([.s (.str x)]:List PV)) s=some s') :
  ∃ t',∀ (k0:By->By->Int->σ->Option R),TD yh LF p t n s k0=k0 p t' n s':=by
 have hLF:=F6
 simp only [Bool.and_eq_true,beq_iff_eq] at h
 obtain ⟨h1,h2,rfl⟩:=h
 obtain ⟨c,rfl⟩:=List.length_eq_one_iff.1 h2
 have ht:=N5 h1
 obtain ⟨t',⟨s0,b,e,f⟩ | f⟩:=Ad6 (R:=R) yh c t.length t LF s s' (Nat.le_refl _) ht (by omega) hr
 ·refine ⟨t',λk0=>?_⟩
  unfold TD
  rw [show (((([c]:By).length:Nat):Int)==0)=false from rfl,cond_false]
  refine Eq.trans (f _ _) ?_
  rw [e]
  rfl
 ·refine ⟨t',λk0=>?_⟩
  unfold TD
  rw [show (((([c]:By).length:Nat):Int)==0)=false from rfl,cond_false]
  exact f _ _
theorem AL {σ R:Type} (yh:Yh σ):∀ (l:List By) (t:By) (n:Nat) (s s':σ),VN t->pcs 46 t=l->l.length<n->N7 yh ((Ke l).map λx=>([.s (.str x)]:List PV)) s=some s'->
  ∃ t',∀ (k0:By->σ->Option R),X7 yh LF n t s k0=k0 t' s'
 | [],t,n,s,s',hv,hp,hn,hr=>absurd hp (MB 46 t)
 | [x],t,n,s,s',hv,hp,hn,hr=>by
  obtain ⟨n,rfl⟩:∃ m,n=m+1:=⟨n-1,by omega⟩
  simp only [Ke,List.map_nil,N7,Option.some.injEq] at hr
  subst hr
  have hno:(46:UInt8)∉t:=by
   intro h
   have h1:=Hk 46 t
   rw [hp] at h1
   have:=List.count_pos_iff.2 h
   simp at h1
   omega
  refine ⟨t,λk0=>?_⟩
  rw [X7]
  rw [Ar3 hno,E2 (by have:=hv.le;omega)]
  rfl
 | x::y::r,t,n,s,s',hv,hp,hn,hr=>by
  obtain ⟨n,rfl⟩:∃ m,n=m+1:=⟨n-1,by omega⟩
  obtain ⟨q1,q2,q3⟩:=hv.super hp
  have hx:(46:UInt8)∉x:=(Ep (s:=t) (x:=x) (by rw [hp];simp)).1
  simp only [Ke,List.map_cons,N7] at hr
  have top:∀ (k0:By->σ->Option R),X7 yh LF (n+1) t s k0=ydK (yh [.s (.str (Lib.join (y::r) [46]))] s) λb s1=>cond (not b) (k0 t s1) (X7 yh LF n (Lib.join (y::r) [46]) s1 k0):=λk0=>by
   rw [X7]
   have:Lib.cut t [46]=(x,Lib.join (y::r) [46],true):=by rw [q1];exact A93 hx
   rw [this,E2 (by have:=hv.le;omega)]
   rfl
  cases hy:yh [.s (.str (Lib.join (y::r) [46]))] s with
  | none=>rw [hy] at hr;cases hr
  | some q=>
   obtain ⟨b,s1⟩:=q
   rw [hy] at hr top
   cases b with
   | false=>
    have:s1=s':=by simpa using hr
    subst this
    exact ⟨t,λk0=>by rw [top];rfl⟩
   | true=>
    simp only at hr
    obtain ⟨t',f⟩:=AL yh (y::r) (Lib.join (y::r) [46]) n s1 s' q2 q3 (by simp only [List.length_cons] at hn ⊢;omega) hr
    exact ⟨t',λk0=>by rw [top];exact f k0⟩
theorem YL {σ R:Type} (yh:Yh σ) (t:By) (s s':σ) (h:A2 t.length=true) (hr:N7 yh ((Qp t).map λx=>([.s (.str x)]:List PV)) s=some s') :
  ∃ t',∀ (k0:By->σ->Option R),QO yh LF t s k0=k0 t' s':=by
 have hLF:=F6
 have ht:=N5 h
 unfold Qp at hr
 cases hv:V5 t with
 | false=>
  rw [hv] at hr
  simp only [Bool.false_eq_true,if_false,List.map_nil,N7,Option.some.injEq] at hr
  subst hr
  refine ⟨t,λk0=>?_⟩
  unfold QO
  rw [h,hv]
  rfl
 | true=>
  rw [hv,if_pos rfl] at hr
  have hpl:=Hk 46 t
  have hcl:=Je 46 t
  obtain ⟨t',f⟩:=AL (R:=R) yh _ t LF s s' (Nt.1 hv) rfl (by omega) hr
  refine ⟨t',λk0=>?_⟩
  unfold QO
  rw [h,hv]
  exact f _
set_option maxRecDepth 100000
theorem ZI {R:Type} {k0:By->Option R} (s p:By) (h0:A2 s.length=true):Am5 LF s p k0=k0 (Dd s p):=by
 have:=N5 h0
 unfold Am5 Dd
 rw [h0]
 cases h:p.isPrefixOf s with
 | false=>simp
 | true=>
  have:p.length<=s.length:=by rw [Bg] at h;simp at h;exact h.1
  simp (disch:=omega)
theorem A20 {R:Type} {k0:By->Option R} (s p:By) (h0:A2 s.length=true):B25 LF s p k0=k0 (Dd s p):=by
 unfold B25;rw [h0];rfl
theorem Af5 {R:Type} {k0:Int->Option R} (s:By):Ap0 LF s k0=k0 (Z0 s):=by
 unfold Ap0 Z0 Lv bWs Ez CW
 generalize (s==([104,116,116,112]:List UInt8))=a
 generalize (s==([119,115]:List UInt8))=b
 generalize (s==([104,116,116,112,115]:List UInt8))=c
 generalize (s==([119,115,115]:List UInt8))=d
 cases a<;>cases b<;>cases c<;>cases d<;>rfl
theorem As2 (s:By):((Z0 s)==(80:Int))=P6 s:=by
 unfold Z0 P6
 cases (s==Lv || s==bWs) with
 | true=>rfl
 | false=>cases (s==Ez || s==CW)<;>rfl
theorem Ag0 {R:Type} {k0:Bool->Option R} (s:By):Ap1 LF s k0=k0 (I8 s):=by
 unfold Ap1
 rw [Nf,CZ]
theorem B32 (sc us:By) (kd:Int) (nm:By) (v4 a0 a1 a2 a3 a4 a5 a6 a7 po:Int) (re:By) :
  ∃ r H,Cf0 LF sc us kd nm v4 a0 a1 a2 a3 a4 a5 a6 a7 po re (λr0 H1=>rv (.s (.bool r0)) H1)=rv r H/\r.stab [] H = .s (.bool (P6 sc)):=
 ⟨_,_,rfl,by rw [<-As2];rfl⟩
def LM:By:=[48,49,50,51,52,53,54,55,56,57,43,45,46]
theorem Hb (c:UInt8):∀ l:By,ltI (Lib.indexByte l c) 0 = !l.contains c
 | []=>rfl
 | b::r=>by
  have ih:=Hb c r
  have hg:=Lib.indexByte_ge r c
  unfold Lib.indexByte
  by_cases h:b=c
  ·subst h;simp [I3]
  ·have e:(b==c)=false:=by simpa using h
   have e2:(c==b)=false:=by simpa using Ne.symm h
   rw [List.contains_cons,e2,Bool.false_or,<-ih,e]
   simp only [Bool.false_eq_true,if_false]
   by_cases hm:Lib.indexByte r c = -1
   ·rw [hm];rfl
   ·have:(Lib.indexByte r c == -1)=false:=by simpa using hm
    rw [this,if_neg (by simp),A6,A6]
theorem SP:∀ b:UInt8,U8 b=(Q0 b || LM.contains b):=by
 have:∀ n:Fin 256,U8 (UInt8.ofNat n.val)=(Q0 (UInt8.ofNat n.val) || LM.contains (UInt8.ofNat n.val)):=by decide +kernel
 intro b
 have h:=this ⟨b.toNat,b.toNat_lt⟩
 simpa using h
theorem TT {R:Type} {k0:Unit->Option R} {k1:By->Int->Int->Bool->Option R} (s:By) (i:Nat) (b:UInt8) (l:Bool) (n:Int):Cd s (i:Int) (b.toNat:Int) l n k0 k1=if l then k1 s n i false else if i=0 then k0 () else if LM.contains b then k1 s n i false else k0 ():=by
 unfold Cd
 cases l with
 | true=>rfl
 | false=>
  rw [Bool.not_false,cond_true,if_neg (by simp)]
  by_cases hi:i=0
  ·subst hi;rfl
  ·have hb:=b.toNat_lt
   rw [show ((i:Int)==0)=false by simpa using hi,cond_false,J2,cond_true,if_neg hi]
   simp only [vl]
   rw [NB]
   have e:=Hb b LM
   rw [show ([48,49,50,51,52,53,54,55,56,57,43,45,46]:List UInt8)=LM from rfl,e]
   cases LM.contains b<;>rfl
theorem CN {R:Type} {k0:Unit->Option R} {k1:By->Option R} (s:By) (hs:s.length<=1000000000) (n i:Nat) (hi:i<s.length) :
  J6 LF (n+1) s (s.length:Int) (i:Int) k0 k1=if Q0 (s.getD i 0) then J6 LF n s s.length ((i+1:Nat):Int) k0 k1 else if i=0 then k0 () else if LM.contains (s.getD i 0) then J6 LF n s s.length ((i+1:Nat):Int) k0 k1 else k0 ():=by
 have e1:A4 ((i:Int)+1)=((i+1:Nat):Int):=by rw [A8];rfl
 rw [J6,B4,J2,K6]
 simp only [cond_true]
 generalize s.getD i 0=b
 have go:∀ l,Cd s (i:Int) (b.toNat:Int) l (s.length:Int) (λ_=>k0 ()) (λs'0 n'1 n'2 b'3=>J6 LF n s'0 n'1 (A4 (n'2+(1:Int))) k0 k1)=if l then J6 LF n s s.length ((i+1:Nat):Int) k0 k1 else if i=0 then k0 () else if LM.contains b then J6 LF n s s.length ((i+1:Nat):Int) k0 k1 else k0 ():=λl=>by
  rw [TT,e1]
 have hl:Q0 b=((Nat.ble 97 b.toNat&&Nat.ble b.toNat 122) || (Nat.ble 65 b.toNat&&Nat.ble b.toNat 90)):=rfl
 by_cases h97:97<=b.toNat
 ·rw [A6,Bool.not_false,cond_true]
  by_cases h122:b.toNat<=122
  ·rw [A6,Bool.not_false,cond_true,if_pos (V2.2 (.inl ⟨h97,h122⟩))]
   unfold Xf
   simp only [e1]
  ·rw [B4,Bool.not_true,cond_false,A6,Bool.not_false,cond_true,B4,Bool.not_true]
   have hn:Q0 b=false:=by
    rw [<-Bool.not_eq_true,V2];omega
   rw [hn]
   exact go false
 ·rw [B4,Bool.not_true,cond_false]
  by_cases h65:65<=b.toNat
  ·rw [A6,Bool.not_false,cond_true]
   have hn:Q0 b = !ltI 90 (b.toNat:Int):=by
    rw [Bool.eq_iff_iff,V2,Bool.not_eq_true',Pj];omega
   rw [hn]
   exact go _
  ·rw [B4,Bool.not_true,cond_false]
   have hn:Q0 b=false:=by
    rw [<-Bool.not_eq_true,V2];omega
   rw [hn]
   exact go false
theorem A30 {R:Type} {k0:Unit->Option R} {k1:By->Option R} (s:By) (hs:s.length<=1000000000):∀ (r i n:Nat),i+r=s.length->r<n->0<i->
  J6 LF n s (s.length:Int) (i:Int) k0 k1=if (s.drop i).all U8 then k1 s else k0 ():=by
 intro r
 induction r with
 | zero=>
  intro i n hi hn h0
  obtain ⟨n,rfl⟩:∃ m,n=m+1:=⟨n-1,by omega⟩
  rw [J6]
  rw [A6,List.drop_of_length_le (by omega)]
  rfl
 | succ r ih=>
  intro i n hi hn h0
  obtain ⟨n,rfl⟩:∃ m,n=m+1:=⟨n-1,by omega⟩
  rw [CN s hs n i (by omega),ih (i+1) n (by omega) (by omega) (by omega),M8 s i (by omega),List.all_cons,SP,if_neg (by omega:¬ i=0)]
  cases Q0 (s.getD i 0) with
  | true=>simp
  | false=>
   cases LM.contains (s.getD i 0)<;>simp
theorem A31 {R:Type} {k0:Bool->Option R} (s:By) (h0:A2 s.length=true):Bk7 LF s k0=k0 (Ao s):=by
 have hs:=N5 h0
 have hLF:=F6
 unfold Bk7
 obtain ⟨n,hn⟩:∃ m,LF=m+1:=⟨LF-1,by omega⟩
 cases s with
 | nil=>
  rw [show @J6 R LF LF = @J6 R LF (n+1) by rw [<-hn]]
  rfl
 | cons b t=>
  rw [show @J6 R LF LF = @J6 R LF (n+1) by rw [<-hn]]
  refine Eq.trans (CN (b::t) hs n 0 (by simp)) ?_
  have e2:=A30 (k0:=λ_=>k0 false) (k1:=λs'23=>k0 (not (s'23==([]:List UInt8)))) (b::t) hs t.length 1 n (by simp;omega) (by simp at hs;omega) (by omega)
  rw [List.getD_cons_zero]
  simp only [Nat.zero_add,if_true]
  rw [show (((0+1:Nat):Int))=((1:Nat):Int) from rfl,e2]
  rw [show (b::t).drop 1=t from rfl,show Ao (b::t)=(Q0 b&&t.all U8) from rfl]
  cases Q0 b with
  | false=>rfl
  | true=>cases t.all U8<;>rfl
theorem LP:∀ (s:By) (n:Int),Wc.go n s=(Pp n s).getD 0
 | [],n=>rfl
 | b::r,n=>by
  unfold Wc.go Pp
  split
  ·exact LP r _
  ·rfl
theorem A22 {R:Type} {k0:Unit->Option R} {k1:Int->Option R} (s:By) (hs:s.length<=1000000000):∀ (r i n:Nat) (v:Int),i+r=s.length->r<n->-1<=v->v<=65536->
  Hq LF n s v (s.length:Int) (i:Int) k0 k1=match Pp v (s.drop i) with | some m=>k1 m | none=>k0 ():=by
 intro r
 induction r with
 | zero=>
  intro i n v hi hn h0 h1
  obtain ⟨n,rfl⟩:∃ m,n=m+1:=⟨n-1,by omega⟩
  rw [Hq]
  rw [A6,List.drop_of_length_le (by omega)]
  rfl
 | succ r ih=>
  intro i n v hi hn h0 h1
  obtain ⟨n,rfl⟩:∃ m,n=m+1:=⟨n-1,by omega⟩
  have e1:A4 ((i:Int)+1)=((i+1:Nat):Int):=by rw [A8];rfl
  rw [Hq]
  rw [B4,J2,K6,M8 s i (by omega),e1]
  have hb:=(s.getD i 0).toNat_lt
  generalize s.getD i 0=b at *
  unfold Pp
  simp only [cond_true,vl]
  by_cases h48:b.toNat<48
  ·rw [B4,cond_true,P5]
  ·rw [A6,cond_false]
   by_cases h57:57<b.toNat
   ·rw [B4,cond_true,P5]
   ·rw [A6,cond_false,if_pos (show 48<=b.toNat/\b.toNat<=57 by omega)]
    have m1:(if (0:Int) > v then (0:Int) else v)=max v 0:=by omega
    have e2:A4 (10*max v 0)=10*max v 0:=A8
    have e3:wu8 ((b.toNat:Int)-48)=((b.toNat-48:Nat):Int):=by rw [W8];omega
    have e4:A4 ((b.toNat-48:Nat):Int)=((b.toNat-48:Nat):Int):=A8
    have e5:A4 (10*max v 0+((b.toNat-48:Nat):Int))=10*max v 0+((b.toNat-48:Nat):Int):=A8
    rw [m1,e2,e3,e4,e5]
    have m2:(if (65536:Int)<10*max v 0+((b.toNat-48:Nat):Int) then (65536:Int) else 10*max v 0+((b.toNat-48:Nat):Int))=min (10*max v 0+((b.toNat-48:Nat):Int)) 65536:=by omega
    rw [m2]
    exact ih (i+1) n _ (by omega) (by omega) (by omega) (by omega)
theorem A23 {R:Type} {k0:Int->Bool->Option R} (s:By) (h0:A2 s.length=true):B33 LF s k0=k0 (Wc s) (Pq (-1) s).isSome:=by
 have hs:=N5 h0
 have hLF:=F6
 unfold B33
 refine Eq.trans (A22 s hs s.length 0 LF (-1) (by omega) (by omega) (by omega) (by omega)) ?_
 rw [List.drop_zero,LN,show Wc s=Wc.go (-1) s from rfl,LP]
 cases Pp (-1) s with
 | none=>rfl
 | some m=>
  simp only [Option.getD_some,Option.bind_some]
  rw [Nf]
  by_cases h:m<65536
  ·rw [decide_eq_true h,if_pos h];rfl
  ·rw [decide_eq_false h,if_neg h];rfl
theorem Bf7 {s:By} {p:Int} (h:Pq (-1) s=some p):Wc s=p:=by
 rw [LN] at h
 rw [show Wc s=Wc.go (-1) s from rfl,LP]
 cases hg:Pp (-1) s with
 | none=>rw [hg] at h;cases h
 | some m=>
  rw [hg] at h
  simp only [Option.bind_some] at h
  split at h
  ·exact Option.some.inj h
  ·cases h
def hpT (name tail nm user rest:By):Q7 × Nat:=
 if (F9 name).2≠0 then (X9,(F9 name).2)
 else match Pq (-1) (tail.drop 1) with
  | none=>(X9,16)
  | some p=>(⟨nm,user,(F9 name).1,if p=Z0 nm then -1 else p,rest⟩,0)
def hpC (name tail nm user rest:By):Q7 × Nat:=if tail≠[]/\tail.head?≠some 58 then (X9,4) else hpT name tail nm user rest
theorem KT (nm user rest a:By):L8 nm user rest a=match Jt a with | none=>(X9,4) | some (name,tail)=>hpC name tail nm user rest:=by
 unfold L8
 cases Jt a with
 | none=>rfl
 | some q=>
  obtain ⟨name,tail⟩:=q
  rfl
theorem My {t:By} (h:t=[]\/t.head? = some 58):Dd t [58]=t.drop 1:=by
 rcases h with rfl | h
 ·rfl
 ·cases t with
  | nil=>cases h
  | cons b r=>
   simp only [List.head?_cons,Option.some.injEq] at h
   subst h
   simp [Dd]
theorem Qv (name tail:By) (hn:name.length<=1000000000) (ht:tail.length<=1000000000) (hc:tail=[]\/tail.head? = some 58) (s3 s4:By) (n5:Int) (s6:By) (n7 n8 n9 n10 n11 n12 n13 n14 n15:Int) (s17:By) :
  ∃ B H,∀ (R:Type) (k0:Int->Blk->By->By->Int->By->Int->Int->Int->Int->Int->Int->Int->Int->Int->Int->By->List Blk->Option R),P7 name tail s3 s4 n5 s6 n7 n8 n9 n10 n11 n12 n13 n14 n15 (-1) s17 k0=(λq=>k0 (uE q) B (uS q) (uU q) (uK q) (uN q) (uV q) (uA q 0) (uA q 1) (uA q 2) (uA q 3) (uA q 4) (uA q 5) (uA q 6) (uA q 7) (uP q) (uR q) H) (hpT name tail s3 s4 s17):=by
 have hd:(tail.drop 1).length<=1000000000:=by rw [List.length_drop];omega
 by_cases he:(F9 name).2=0
 ·cases hp:Pq (-1) (tail.drop 1) with
  | none=>
   apply Exists.intro;apply Exists.intro;intro R k0
   unfold P7 hpT
   rw [E2 hn,cond_true,My hc,E2 ht]
   simp only [vl,cond_true]
   rw [he,E2 hd,hp]
   rfl
  | some p=>
   have hv:=Bf7 hp
   by_cases h2:p=Z0 s3
   ·apply Exists.intro;apply Exists.intro;intro R k0
    unfold P7 hpT
    rw [E2 hn,cond_true,My hc,E2 ht]
    simp only [vl,cond_true]
    rw [he,E2 hd,hp,hv,show (p != Z0 s3)=false by simpa using h2]
    simp only [h2,if_true]
    rfl
   ·apply Exists.intro;apply Exists.intro;intro R k0
    unfold P7 hpT
    rw [E2 hn,cond_true,My hc,E2 ht]
    simp only [vl,cond_true]
    rw [he,E2 hd,hp,hv,show (p != Z0 s3)=true by simpa using h2]
    simp only [h2,if_false]
    rfl
 ·apply Exists.intro;apply Exists.intro;intro R k0
  unfold P7 hpT
  rw [E2 hn,cond_true]
  simp only [vl]
  rw [show (((F9 name).2:Int) != 0)=true by simpa using he,cond_true,if_pos he]
  rfl
theorem Hr (name tail:By) (hn:name.length<=1000000000) (ht:tail.length<=1000000000) (s3 s4:By) (n5:Int) (s6:By) (n7 n8 n9 n10 n11 n12 n13 n14 n15:Int) (s17:By) :
  ∃ B H,∀ (R:Type) (k0:Int->Blk->By->By->Int->By->Int->Int->Int->Int->Int->Int->Int->Int->Int->Int->By->List Blk->Option R),L4 name tail s3 s4 n5 s6 n7 n8 n9 n10 n11 n12 n13 n14 n15 (-1) s17 k0=(λq=>k0 (uE q) B (uS q) (uU q) (uK q) (uN q) (uV q) (uA q 0) (uA q 1) (uA q 2) (uA q 3) (uA q 4) (uA q 5) (uA q 6) (uA q 7) (uP q) (uR q) H) (hpC name tail s3 s4 s17):=by
 cases tail with
 | nil=>
  obtain ⟨B,H,e⟩:=Qv name [] hn ht (.inl rfl) s3 s4 n5 s6 n7 n8 n9 n10 n11 n12 n13 n14 n15 s17
  refine ⟨B,H,λR k0=>?_⟩
  unfold L4 hpC
  exact e R k0
 | cons b r=>
  by_cases hb:b=58
  ·subst hb
   obtain ⟨B,H,e⟩:=Qv name (58::r) hn ht (.inr rfl) s3 s4 n5 s6 n7 n8 n9 n10 n11 n12 n13 n14 n15 s17
   refine ⟨B,H,λR k0=>?_⟩
   unfold L4 hpC
   rw [O6 (by omega) (by simp),if_neg (by simp)]
   exact e R k0
  ·apply Exists.intro;apply Exists.intro;intro R k0
   unfold L4 hpC
   have hne:(((b.toNat:Int)) != (58:Int))=true:=by
    rw [bne_iff_ne]
    intro h
    have h2:b.toNat=58:=by omega
    exact hb (UInt8.toNat_inj.1 h2)
   rw [O6 (by omega) (by simp),if_pos (by simpa using hb),Ob,List.getD_cons_zero,hne]
   rfl
theorem Al3 {c:UInt8} {s:By} (h:Nc c s=none):Lib.indexByte s c = -1:=by rw [Fg,h]
theorem Al4 {c:UInt8} {s:By} {k:Nat} (h:Nc c s=some k):Lib.indexByte s c=(k:Int)/\k<s.length:=by
 obtain ⟨p,r,rfl,_,rfl⟩:=EY h
 exact ⟨by rw [Fg,h],by simp⟩
theorem Ce0 (c:UInt8) (s:By):([c]:By).isPrefixOf s=(s.head? == some c):=by
 cases s with
 | nil=>rfl
 | cons b r=>
  grind
abbrev KU (R:Type):=By->By->Int->By->Int->Int->Int->Int->Int->Int->Int->Int->Int->Int->By->Int->List Blk->Option R
abbrev EF {R:Type} (k0:KU R) (q:Q7 × Nat) (H:List Blk):Option R:=k0 (uS q) (uU q) (uK q) (uN q) (uV q) (uA q 0) (uA q 1) (uA q 2) (uA q 3) (uA q 4) (uA q 5) (uA q 6) (uA q 7) (uP q) (uR q) (uE q) H
theorem Af3 (sc:By) (kd:Int) (nm:By) (v4 a0 a1 a2 a3 a4 a5 a6 a7:Int) (re a:By) (h2:A2 a.length=true) :
  ∃ H,∀ (R:Type) (k0:KU R),Nq LF sc [] kd nm v4 a0 a1 a2 a3 a4 a5 a6 a7 (-1) re a k0=EF k0 (E4 sc re a) H:=by
 have ha:=N5 h2
 have ge:=AT 64 a
 have key:∀ (us b:By),b.length<=1000000000->∃ H,∀ (R:Type) (k0:KU R),(cond (A2 (List.length b)) (cond (List.isPrefixOf (([91]:List UInt8)) b)
   (cond (A2 (List.length b))
    (vl (Lib.indexByte b (u8n (93:Int))) λn'34=>
    cond (ltI n'34 (0:Int))
     (k0 ([]:List UInt8) ([]:List UInt8) 0 ([]:List UInt8) 0 0 0 0 0 0 0 0 0 0 ([]:List UInt8) 4 [(bU sc us kd nm v4 a0 a1 a2 a3 a4 a5 a6 a7 (-1) re),bU0])
     (cond (L3 (0:Int) (A4 (n'34+(1:Int))) (List.length b))
      (cond (L3 (A4 (n'34+(1:Int))) (↑(List.length b):Int) (List.length b))
       (L4 (cut b (0:Int) (A4 (n'34+(1:Int)))) (cut b (A4 (n'34+(1:Int))) (↑(List.length b):Int)) sc us kd nm v4 a0 a1 a2 a3 a4 a5 a6 a7 (-1) re (λn0 B1 s2 s3 n4 s5 n6 n7 n8 n9 n10 n11 n12 n13 n14 n15 s16 H17=>k0 s2 s3 n4 s5 n6 n7 n8 n9 n10 n11 n12 n13 n14 n15 s16 n0 (B1::((bU s2 s3 n4 s5 n6 n7 n8 n9 n10 n11 n12 n13 n14 n15 s16)::H17))))
       (none))
      (none)))
    (none))
   (cond (A2 (List.length b))
    (vl (Lib.indexByte b (u8n (58:Int))) λn'40=>
    cond (not (ltI n'40 (0:Int)))
     (cond (L3 (0:Int) n'40 (List.length b))
      (cond (L3 n'40 (↑(List.length b):Int) (List.length b))
       (L4 (cut b (0:Int) n'40) (cut b n'40 (↑(List.length b):Int)) sc us kd nm v4 a0 a1 a2 a3 a4 a5 a6 a7 (-1) re (λn0 B1 s2 s3 n4 s5 n6 n7 n8 n9 n10 n11 n12 n13 n14 n15 s16 H17=>k0 s2 s3 n4 s5 n6 n7 n8 n9 n10 n11 n12 n13 n14 n15 s16 n0 (B1::((bU s2 s3 n4 s5 n6 n7 n8 n9 n10 n11 n12 n13 n14 n15 s16)::H17))))
      (none))
     (none))
     (L4 b ([]:List UInt8) sc us kd nm v4 a0 a1 a2 a3 a4 a5 a6 a7 (-1) re (λn0 B1 s2 s3 n4 s5 n6 n7 n8 n9 n10 n11 n12 n13 n14 n15 s16 H17=>k0 s2 s3 n4 s5 n6 n7 n8 n9 n10 n11 n12 n13 n14 n15 s16 n0 (B1::((bU s2 s3 n4 s5 n6 n7 n8 n9 n10 n11 n12 n13 n14 n15 s16)::H17)))))
    (none))) none)=EF k0 (L8 sc us re b) H:=by
  intro us b hb
  rw [KT]
  unfold Jt
  have hsm:A2 b.length=true:=E2 hb
  have c93:u8n (93:Int)=93:=rfl
  have c58:u8n (58:Int)=58:=rfl
  by_cases h91:b.head? = some 91
  ·rw [if_pos h91]
   have hp:([91]:By).isPrefixOf b=true:=by rw [Ce0,h91];rfl
   cases hi:Nc 93 b with
   | none=>
    apply Exists.intro;intro R k0
    rw [hsm,hp,c93,Al3 hi]
    rfl
   | some k=>
    obtain ⟨e,hk⟩:=Al4 hi
    have e1:A4 ((k:Int)+1)=((k+1:Nat):Int):=by rw [A8];rfl
    obtain ⟨B,H,e2⟩:=Hr (b.take (k+1)) (b.drop (k+1)) (by rw [List.length_take];omega) (by rw [List.length_drop];omega) sc us kd nm v4 a0 a1 a2 a3 a4 a5 a6 a7 re
    apply Exists.intro;intro R k0
    rw [hsm,hp,c93,e]
    simp only [vl,cond_true]
    rw [A6,cond_false,e1,M7,M7,cond_true,cond_true,U1,Aj,Int.toNat_natCast,e2]
  ·rw [if_neg h91]
   have hp:([91]:By).isPrefixOf b=false:=by rw [Ce0];simpa using h91
   cases hi:Nc 58 b with
   | none=>
    obtain ⟨B,H,e2⟩:=Hr b [] hb (by simp) sc us kd nm v4 a0 a1 a2 a3 a4 a5 a6 a7 re
    apply Exists.intro;intro R k0
    rw [hsm,hp,c58,Al3 hi]
    simp only [vl,cond_true,cond_false]
    rw [B4,Bool.not_true,cond_false,e2]
   | some k=>
    obtain ⟨e,hk⟩:=Al4 hi
    obtain ⟨B,H,e2⟩:=Hr (b.take k) (b.drop k) (by rw [List.length_take];omega) (by rw [List.length_drop];omega) sc us kd nm v4 a0 a1 a2 a3 a4 a5 a6 a7 re
    apply Exists.intro;intro R k0
    rw [hsm,hp,c58,e]
    simp only [vl,cond_true,cond_false]
    rw [A6,Bool.not_false,cond_true,M7,M7,cond_true,cond_true,U1,Aj,Int.toNat_natCast,e2]
 have c64:u8n (64:Int)=64:=rfl
 unfold E4
 by_cases h:0<=H9 64 a
 ·obtain ⟨p,r,rfl,_,hl⟩:=YR h
  rw [if_pos h,hl,Int.toNat_natCast]
  rw [List.length_append,List.length_cons] at ha
  obtain ⟨H,e⟩:=key ((p++64::r).take p.length) ((p++64::r).drop (p.length+1)) (by rw [List.length_drop,List.length_append,List.length_cons];omega)
  refine ⟨H,λR k0=>?_⟩
  refine Eq.trans ?_ (e R k0)
  have e1:A4 ((p.length:Int)+1)=((p.length+1:Nat):Int):=by rw [A8];rfl
  have ln:(p++64::r).length=p.length+r.length+1:=by rw [List.length_append,List.length_cons];omega
  unfold Nq
  rw [h2,c64,hl]
  simp only [vl,cond_true]
  rw [A6,Bool.not_false,cond_true,e1,M7,M7,cond_true,cond_true,U1,Aj,Int.toNat_natCast,Int.toNat_natCast]
  rfl
 ·rw [if_neg h]
  obtain ⟨H,e⟩:=key [] a ha
  refine ⟨H,λR k0=>?_⟩
  refine Eq.trans ?_ (e R k0)
  unfold Nq
  rw [h2,c64]
  simp only [vl,cond_true]
  rw [B4,Bool.not_true,cond_false]
  rfl
def Tru (x:Option (PV × List Blk × Unit)):Prop:=∃ H,x=some (.s (.bool true),H,())
theorem eq8 {v6:List Nat} (h:v6.length=8):∃ a b c d e f g i,v6=[a,b,c,d,e,f,g,i]:=by
 match v6,h with
 | [a,b,c,d,e,f,g,i],_=>exact ⟨a,b,c,d,e,f,g,i,rfl⟩
theorem Bz3 {a b c d e f g i:Nat} (h:∀ x∈[a,b,c,d,e,f,g,i],x<65536):ok8 a b c d e f g i=true:=by
 have q:∀ x∈[a,b,c,d,e,f,g,i],ltN (x:Int) 65536=true:=λx hx=>D2.2 ⟨by omega,by have:=h x hx;omega⟩
 simp [ok8,q a,q b,q c,q d,q e,q f,q g,q i]
theorem Vu {h:B3} (hv:L1 h=true):h.name.length<=253:=by
 unfold L1 at hv
 split at hv
 ·simp only [Bool.and_eq_true] at hv
  exact (Nt.1 hv.1.1).le
 ·split at hv
  ·simp only [Bool.and_eq_true,List.isEmpty_iff] at hv
   rw [hv.1];simp
  ·split at hv
   ·simp only [Bool.and_eq_true,List.isEmpty_iff] at hv
    rw [hv.1];simp
   ·cases hv
theorem PZ {h:B3} (ok:Ik h):(Ih h).length<=300:=by
 cases hv:L1 h with
 | false=>rw [AG hv];simp
 | true=>
  have hn:=Vu hv
  have h6:=Bl5 _ ok.v6.1 ok.v6.2
  have h4:=Cf4 _ ok.v4
  unfold Ih
  rw [if_pos hv]
  split
  ·omega
  ·split
   ·omega
   ·simp only [List.length_cons,List.length_append,List.length_nil];omega
theorem Al2 {h0 h2 h3 h4 h5 h6 h7 h8 h9 h10:Int} {h1:By} (k2:ltN h2 4294967296=true) (k8:ok8 h3 h4 h5 h6 h7 h8 h9 h10=true):Ik (mkH h0 h1 h2 (n8 h3 h4 h5 h6 h7 h8 h9 h10)):=by
 have ⟨q1,q2⟩:=D2.1 k2
 refine ⟨by show h2.toNat<_;omega,B94 k8,?_⟩
 show (if ltN h0 4 then h0.toNat else 0)<4
 split
 ·rename_i h
  have:=D2.1 h
  omega
 ·omega
theorem A28 (sc us:By) (kd:Int) (nm:By) (v4 a0 a1 a2 a3 a4 a5 a6 a7 po:Int) (re a:By) (h0:A2 sc.length=true) (h1:A2 re.length=true) (h2:A2 a.length=true) (h3:us.isEmpty=true) (h4:(po == -1)=true) :
  ∃ r H,Nq LF sc us kd nm v4 a0 a1 a2 a3 a4 a5 a6 a7 po re a (λs0 s1 n2 s3 n4 n5 n6 n7 n8 n9 n10 n11 n12 n13 s14 n15 H16=>rv (.tup [gU s0 s1 n2 s3 n4 n5 n6 n7 n8 n9 n10 n11 n12 n13 s14,.s (.int .i64 n15)]) H16)=rv r H/\
   r.stab [0,0] H=(λq=>.tup [gU (uS q) (uU q) (uK q) (uN q) (uV q) (uA q 0) (uA q 1) (uA q 2) (uA q 3) (uA q 4) (uA q 5) (uA q 6) (uA q 7) (uP q) (uR q),.s (.int .i64 (uE q))]) (E4 sc re a):=by
 obtain rfl:=List.isEmpty_iff.1 h3
 obtain rfl:po = -1:=by simpa using h4
 obtain ⟨H,e⟩:=Af3 sc kd nm v4 a0 a1 a2 a3 a4 a5 a6 a7 re a h2
 exact ⟨_,_,e _ _,rfl⟩
theorem Br8 (b:UInt8):ctl b=(!ltI 32 (b.toNat:Int) || ((b.toNat:Int)==127)):=by
 rw [Bool.eq_iff_iff,Br7,Bool.or_eq_true,Bool.not_eq_true',Pj,beq_iff_eq]
 omega
theorem A29 {R:Type} {k0:List Blk->Option R} {k1:By->Option R} (s:By) (hs:s.length<=1000000000):∀ (r i n:Nat),i+r=s.length->r<n->
  Ex LF n s (s.length:Int) (i:Int) k0 k1=if (s.drop i).any ctl then k0 [] else k1 s:=by
 intro r
 induction r with
 | zero=>
  intro i n hi hn
  obtain ⟨n,rfl⟩:∃ m,n=m+1:=⟨n-1,by omega⟩
  rw [Ex]
  rw [A6,List.drop_of_length_le (by omega)]
  rfl
 | succ r ih=>
  intro i n hi hn
  obtain ⟨n,rfl⟩:∃ m,n=m+1:=⟨n-1,by omega⟩
  have e1:A4 ((i:Int)+1)=((i+1:Nat):Int):=by rw [A8];rfl
  rw [Ex]
  rw [B4,J2,K6,M8 s i (by omega),e1,List.any_cons,Br8]
  simp only [cond_true]
  rw [ih (i+1) n (by omega) (by omega)]
  cases ltI 32 ((s.getD i 0).toNat:Int) with
  | false=>rfl
  | true=>cases (((s.getD i 0).toNat:Int)==127)<;>rfl
theorem Bk6 (s:By) (h0:A2 s.length=true):∃ H,∀ (R:Type) (k0:KU R),DM LF s k0=EF k0 (D5 s) H:=by
 have hs:=N5 h0
 have hLF:=F6
 have L:∀ {R:Type} (k0:List Blk->Option R) (k1:By->Option R),Ex LF LF s (s.length:Int) 0 k0 k1=if s.any ctl then k0 [] else k1 s:=λk0 k1=>A29 s hs s.length 0 LF (by omega) (by omega)
 unfold D5
 by_cases hc:s.any ctl=true
 ·rw [if_pos hc]
  apply Exists.intro;intro R k0
  unfold DM
  rw [L,if_pos hc]
  rfl
 rw [if_neg hc]
 rcases R6 58 s with h58 | ⟨p,r,rfl,h58⟩
 ·apply Exists.intro;intro R k0
  unfold DM
  rw [L,if_neg hc,h0,Sn h58]
  rfl
 have ln:(p++58::r).length=p.length+r.length+1:=by rw [List.length_append,List.length_cons];omega
 have sp:A2 p.length=true:=G2
 have sr:A2 r.length=true:=G2
 rw [Dc h58]
 simp only [Bool.not_true,Bool.false_or]
 cases hsch:Ao p with
 | false=>
  apply Exists.intro;intro R k0
  unfold DM
  rw [L,if_neg hc,h0,Dc h58]
  simp only [vl,cond_true,Bool.not_true,cond_false]
  rw [sp,hsch]
  rfl
 | true=>
 rw [if_neg (by simp)]
 cases hspc:I8 (C0 p) with
 | false=>
  apply Exists.intro;intro R k0
  unfold DM
  rw [L,if_neg hc,h0,Dc h58]
  simp only [vl,cond_true,Bool.not_true,cond_false]
  rw [sp,hsch,hspc]
  rfl
 | true=>
 rw [if_neg (by simp)]
 cases Wb:([47,47]:By).isPrefixOf r with
 | false=>
  apply Exists.intro;intro R k0
  unfold DM
  rw [L,if_neg hc,h0,Dc h58]
  simp only [vl,cond_true,Bool.not_true,cond_false]
  rw [sp,hsch,hspc,sr,Wb]
  rfl
 | true=>
 rw [if_neg (by simp)]
 have hcp:Dd r [47,47]=r.drop 2:=by unfold Dd;rw [Wb,if_pos rfl];rfl
 generalize ht:r.drop 2=t
 rw [ht] at hcp
 have lt:t.length<=r.length:=by rw [<-ht,List.length_drop];omega
 have st:A2 t.length=true:=G2
 have hsp:=CD t
 have sl:A2 (C0 p).length=true:=by rw [Aa];exact sp
 have tail:∀ (R:Type) (k0:KU R) (X au:By),X.length<=t.length->au.length<=t.length->
   (cond (A2 (List.length X))
    (cond (not (List.isPrefixOf (([47]:List UInt8)) X))
     (cond (N0 1 (List.length X))
     (cond (A2 (List.length (C0 p)))
      (cond (A2 (List.length (([47]:List UInt8)++X)))
       (cond (A2 (List.length au))
       (cond (((-1):Int)==((-1):Int))
        (EF k0 (E4 (C0 p) (([47]:List UInt8)++X) au) ((λq=>[bU (uS q) (uU q) (uK q) (uN q) (uV q) (uA q 0) (uA q 1) (uA q 2) (uA q 3) (uA q 4) (uA q 5) (uA q 6) (uA q 7) (uP q) (uR q),bU (C0 p) [] 0 [] 0 0 0 0 0 0 0 0 0 (-1) (([47]:List UInt8)++X)]) (E4 (C0 p) (([47]:List UInt8)++X) au)))
        (none))
       (none))
       (none))
      (none))
     (none))
     (cond (A2 (List.length (C0 p)))
     (cond (A2 (List.length X))
      (cond (A2 (List.length au))
      (cond (((-1):Int)==((-1):Int))
       (EF k0 (E4 (C0 p) X au) ((λq=>[bU (uS q) (uU q) (uK q) (uN q) (uV q) (uA q 0) (uA q 1) (uA q 2) (uA q 3) (uA q 4) (uA q 5) (uA q 6) (uA q 7) (uP q) (uR q),bU (C0 p) [] 0 [] 0 0 0 0 0 0 0 0 0 (-1) X]) (E4 (C0 p) X au)))
       (none))
      (none))
      (none))
     (none)))
    none)=EF k0 (E4 (C0 p) (Q5 X) au) ((λq=>[bU (uS q) (uU q) (uK q) (uN q) (uV q) (uA q 0) (uA q 1) (uA q 2) (uA q 3) (uA q 4) (uA q 5) (uA q 6) (uA q 7) (uP q) (uR q),bU (C0 p) [] 0 [] 0 0 0 0 0 0 0 0 0 (-1) (Q5 X)]) (E4 (C0 p) (Q5 X) au)):=by
  intro R k0 X au hX hau
  rw [G2,sl,Ce0,E2 (n:=au.length) (by omega)]
  unfold Q5
  by_cases h47:X.head? = some 47
  ·rw [if_pos h47,h47]
   rfl
  ·have e:(X.head? == some 47)=false:=by simpa using h47
   rw [if_neg h47,e,O8 (by omega),E2 (by simp;omega)]
   rfl
 refine ⟨(λX=>(λq=>[bU (uS q) (uU q) (uK q) (uN q) (uV q) (uA q 0) (uA q 1) (uA q 2) (uA q 3) (uA q 4) (uA q 5) (uA q 6) (uA q 7) (uP q) (uR q),bU (C0 p) [] 0 [] 0 0 0 0 0 0 0 0 0 (-1) (Q5 X)]) (E4 (C0 p) (Q5 X) (t.take (I6 t)))) (t.drop (I6 t)),λR k0=>?_⟩
 refine Eq.trans ?_ (tail R k0 (t.drop (I6 t)) (t.take (I6 t)) (by rw [List.length_drop];omega) (by rw [List.length_take];omega))
 unfold DM
 rw [L,if_neg hc,h0,Dc h58]
 simp only [vl,cond_true,Bool.not_true,cond_false]
 rw [sp,hsch,hspc,sr,Wb,hcp,st]
 rw [show Td ([47,63,35]:List UInt8)=true from rfl,show ([47,63,35]:List UInt8)=isl from rfl,Ff]
 simp only [cond_true,Bool.not_true,cond_false]
 by_cases hlt:I6 t<t.length
 ·rw [if_pos hlt,A6,Bool.not_false,cond_true,U1,Int.toNat_natCast,List.length_take,Nat.min_eq_left (by omega),M7,M7,Aj,Int.toNat_natCast]
  rfl
 ·have he:I6 t=t.length:=by omega
  rw [if_neg hlt,B4,Bool.not_true,cond_false,M7,Aj,Int.toNat_natCast,he,List.take_length,st]
  rfl
abbrev rvU (s0 s1:By) (n2:Int) (s3:By) (n4 n5 n6 n7 n8 n9 n10 n11 n12 n13:Int) (s14:By) (n15:Int) (H16:List Blk):=rv (.tup [gU s0 s1 n2 s3 n4 n5 n6 n7 n8 n9 n10 n11 n12 n13 s14,.s (.int .i64 n15)]) H16
abbrev pvU (q:Q7 × Nat):PV:=.tup [gU (uS q) (uU q) (uK q) (uN q) (uV q) (uA q 0) (uA q 1) (uA q 2) (uA q 3) (uA q 4) (uA q 5) (uA q 6) (uA q 7) (uP q) (uR q),.s (.int .i64 (uE q))]
theorem B36 (s:By) (h0:A2 s.length=true):∃ r H,DM LF s rvU=rv r H/\r.stab [0,0] H=pvU (D5 s):=by
 obtain ⟨H,e⟩:=Bk6 s h0
 exact ⟨_,_,e _ _,rfl⟩
theorem A25 (s:By) (h0:A2 s.length=true):∃ r H,NC LF s rvU=rv r H/\r.stab [0,0] H=pvU (E3 s):=by
 unfold NC E3
 by_cases h:2048<s.length
 ·rw [B4,if_pos h]
  exact ⟨_,_,rfl,rfl⟩
 ·rw [A6,if_neg h,h0]
  exact ⟨_,_,rfl,rfl⟩
theorem FE {p:Int} (h:T7 p=true):(Ia p).length<=20:=by
 obtain ⟨h1,h2⟩:=AN.1 h
 unfold Ia
 split
 ·have:=Ky 19 (-p).toNat (by omega) (by omega)
  rw [List.length_cons]
  omega
 ·have:=Ky 19 p.toNat (by omega) (by omega)
  omega
theorem PY (kd:Int) (nm:By) (v4:Int) (a:List Nat):Ih (mkH kd nm v4 a)=Ih (Be9 kd nm v4 a):=by
 unfold mkH Be9
 cases h:ltN kd 4 with
 | true=>rfl
 | false=>
  rw [if_neg (by simp),if_neg (by simp),AG (by rfl),AG (by rfl)]
theorem Lm {sc us nm re:By} (h:smU sc us nm re=true):sc.length<=100000000/\us.length<=100000000/\nm.length<=100000000/\re.length<=100000000:=by
 simp only [smU,Bool.and_eq_true,Nat.ble_eq,and_assoc] at h
 exact h
theorem A18 {sc us:By} {kd:Int} {nm:By} {v4 a0 a1 a2 a3 a4 a5 a6 a7 po:Int} {re:By} (h0:smU sc us nm re=true) (h1:ltN v4 4294967296=true) (h2:ok8 a0 a1 a2 a3 a4 a5 a6 a7=true) (h3:T7 po=true) :
  (Z3 (mkU sc us kd nm v4 (n8 a0 a1 a2 a3 a4 a5 a6 a7) po re)).length<=400000000:=by
 obtain ⟨l1,l2,l3,l4⟩:=Lm h0
 have hf:=PZ (Al2 (h0:=kd) (h1:=nm) h1 h2)
 rw [PY] at hf
 have hi:=FE h3
 unfold Z3 mkU DZ
 simp only
 split
 ·split<;>split<;>simp only [List.length_append,List.length_cons,List.length_nil]<;>omega
 ·simp only [List.length_append,List.length_cons]
  omega
theorem Bl0 (sc us:By) (kd:Int) (nm:By) (v4 a0 a1 a2 a3 a4 a5 a6 a7 po:Int) (re:By) (h0:smU sc us nm re=true) (h1:ltN v4 4294967296=true) (h2:ok8 a0 a1 a2 a3 a4 a5 a6 a7=true) (h3:T7 po=true) :
  ∃ r H,Me LF sc us kd nm v4 a0 a1 a2 a3 a4 a5 a6 a7 po re (λr0 H1=>rv (.s (.str r0)) H1)=rv r H/\r.stab [] H = .s (.str (Z3 (mkU sc us kd nm v4 (n8 a0 a1 a2 a3 a4 a5 a6 a7) po re))):=by
 obtain ⟨l1,l2,l3,l4⟩:=Lm h0
 have hf:=PZ (Al2 (h0:=kd) (h1:=nm) h1 h2)
 have hi:=FE h3
 have key:∀ T:By,Me LF sc us kd nm v4 a0 a1 a2 a3 a4 a5 a6 a7 po re (λr0 H1=>rv (.s (.str r0)) H1)=rv (.s (.str T)) [bU sc us kd nm v4 a0 a1 a2 a3 a4 a5 a6 a7 po re]->T=Z3 (mkU sc us kd nm v4 (n8 a0 a1 a2 a3 a4 a5 a6 a7) po re)->∃ r H,Me LF sc us kd nm v4 a0 a1 a2 a3 a4 a5 a6 a7 po re (λr0 H1=>rv (.s (.str r0)) H1)=rv r H/\r.stab [] H = .s (.str (Z3 (mkU sc us kd nm v4 (n8 a0 a1 a2 a3 a4 a5 a6 a7) po re))):=λT e1 e2=>⟨_,_,e1,by rw [<-e2];rfl⟩
 have sn:A2 nm.length=true:=G2
 cases hs:I8 sc with
 | false=>
  refine key (sc++[58]++re) ?_ ?_
  ·unfold Me
   rw [hs,O8 (by omega)]
   simp only [vl,cond_true,Bool.not_false]
   rw [O8 (by simp;omega)]
   rfl
  ·unfold Z3 mkU
   simp only [hs]
   simp
 | true=>
  have hF:=hf
  by_cases hu:us=[]
  ·subst hu
   have e0:(([]:By)==([]:List UInt8))=true:=rfl
   by_cases hp:po = -1
   ·subst hp
    refine key (((sc++[58,47,47])++Ih (mkH kd nm v4 (n8 a0 a1 a2 a3 a4 a5 a6 a7)))++re) ?_ ?_
    ·unfold Me
     rw [hs,sn,h1,h2,e0]
     simp only [vl,cond_true,cond_false,Bool.not_true,show ((-1:Int) != -1)=false from rfl]
     repeat rw [O8 (by first | omega | (simp only [List.length_append,List.length_cons,List.length_nil];omega))]
     rfl
    ·unfold Z3 mkU DZ
     simp [hs,PY]
   ·refine key (((sc++[58,47,47])++Ih (mkH kd nm v4 (n8 a0 a1 a2 a3 a4 a5 a6 a7)))++([58]++Ia po)++re) ?_ ?_
    ·unfold Me
     rw [hs,sn,h1,h2,h3,e0]
     simp only [vl,cond_true,cond_false,Bool.not_true,show (po != -1)=true by simpa using hp]
     repeat rw [O8 (by first | omega | (simp only [List.length_append,List.length_cons,List.length_nil];omega))]
     rfl
    ·unfold Z3 mkU DZ
     simp [hs,PY,hp]
  ·have e0:(us==([]:List UInt8))=false:=by simpa using hu
   by_cases hp:po = -1
   ·subst hp
    refine key (((sc++[58,47,47])++(us++[64])++Ih (mkH kd nm v4 (n8 a0 a1 a2 a3 a4 a5 a6 a7)))++re) ?_ ?_
    ·unfold Me
     rw [hs,sn,h1,h2,e0]
     simp only [vl,cond_true,cond_false,Bool.not_true,Bool.not_false,show ((-1:Int) != -1)=false from rfl]
     repeat rw [O8 (by first | omega | (simp only [List.length_append,List.length_cons,List.length_nil];omega))]
     rfl
    ·unfold Z3 mkU DZ
     simp [hs,PY,hu]
   ·refine key (((sc++[58,47,47])++(us++[64])++Ih (mkH kd nm v4 (n8 a0 a1 a2 a3 a4 a5 a6 a7)))++([58]++Ia po)++re) ?_ ?_
    ·unfold Me
     rw [hs,sn,h1,h2,h3,e0]
     simp only [vl,cond_true,cond_false,Bool.not_true,Bool.not_false,show (po != -1)=true by simpa using hp]
     repeat rw [O8 (by first | omega | (simp only [List.length_append,List.length_cons,List.length_nil];omega))]
     rfl
    ·unfold Z3 mkU DZ
     simp [hs,PY,hp,hu]
theorem Bw5 {kd:Int} {k:Nat} (hk:k<4):(kd==(k:Int))=(k==(if ltN kd 4 then kd.toNat else 4)):=by
 rw [Bool.eq_iff_iff,beq_iff_eq,beq_iff_eq]
 cases h:ltN kd 4 with
 | true=>
  obtain ⟨h1,h2⟩:=D2.1 h
  rw [if_pos rfl]
  omega
 | false=>
  rw [if_neg (by simp)]
  have:¬ (0<=kd/\kd<4):=λq=>by
   have:=D2.2 q
   rw [h] at this
   cases this
  omega
theorem JJ (a b:By):(a==b)=(b==a):=by
 rw [Bool.eq_iff_iff,beq_iff_eq,beq_iff_eq]
 exact eq_comm
theorem Bw4 (a b:Int):(a==b)=(b==a):=by
 rw [Bool.eq_iff_iff,beq_iff_eq,beq_iff_eq]
 exact eq_comm
theorem Bz (a b:Nat):((a:Int)==(b:Int))=(b==a):=by
 rw [Bool.eq_iff_iff,beq_iff_eq,beq_iff_eq]
 omega
theorem Ar0 {sc us:By} {kd:Int} {nm:By} {v4 a0 a1 a2 a3 a4 a5 a6 a7 po:Int} {re:By} {p:Q7 × Nat} (h1:ltN v4 4294967296=true) (h2:ok8 a0 a1 a2 a3 a4 a5 a6 a7=true) (hp:NV p.1) :
  ((sc==(uS p))&&((us==(uU p))&&((kd==(uK p))&&((nm==(uN p))&&((v4==(uV p))&&((a0==(uA p 0))&&((a1==(uA p 1))&&((a2==(uA p 2))&&((a3==(uA p 3))&&((a4==(uA p 4))&&((a5==(uA p 5))&&((a6==(uA p 6))&&((a7==(uA p 7))&&((po==(uP p))&&((re==(uR p))&&true)))))))))))))))=eqU p.1 (mkU sc us kd nm v4 (n8 a0 a1 a2 a3 a4 a5 a6 a7) po re):=by
 obtain ⟨⟨s,u,⟨k,n,v,l⟩,q,t⟩,e⟩:=p
 obtain ⟨ho,_⟩:=hp
 obtain ⟨b0,b1,b2,b3,b4,b5,b6,b7,rfl⟩:=eq8 ho.v6.1
 obtain ⟨c0,c1,c2,c3,c4,c5,c6,c7,rfl,rfl,rfl,rfl,rfl,rfl,rfl,rfl,_⟩:=Pr h2
 obtain ⟨w,rfl⟩:=Int.eq_ofNat_of_zero_le (D2.1 h1).1
 have hk:k<4:=ho.kd
 have hl:(([b0,b1,b2,b3,b4,b5,b6,b7]:List Nat)==[c0,c1,c2,c3,c4,c5,c6,c7])=((b0==c0)&&((b1==c1)&&((b2==c2)&&((b3==c3)&&((b4==c4)&&((b5==c5)&&((b6==c6)&&((b7==c7)&&true)))))))):=rfl
 simp only [eqU,eqH,mkU,Be9,n8,Int.toNat_natCast,hl,List.getD_cons_zero,List.getD_cons_succ]
 rw [Bw5 hk,JJ sc,JJ us,JJ nm,JJ re,Bw4 po,Bz w,Bz c0,Bz c1,Bz c2,Bz c3,Bz c4,Bz c5,Bz c6,Bz c7]
 simp only [Bool.and_assoc,Bool.and_true]
 rfl
theorem Ag2 (sc us:By) (kd:Int) (nm:By) (v4 a0 a1 a2 a3 a4 a5 a6 a7 po:Int) (re:By) (h0:smU sc us nm re=true) (h1:ltN v4 4294967296=true) (h2:ok8 a0 a1 a2 a3 a4 a5 a6 a7=true) (h3:T7 po=true) :
  ∃ r H,Xg LF sc us kd nm v4 a0 a1 a2 a3 a4 a5 a6 a7 po re (λr0 H1=>rv (.s (.bool r0)) H1)=rv r H/\r.stab [] H = .s (.bool (Ah (mkU sc us kd nm v4 (n8 a0 a1 a2 a3 a4 a5 a6 a7) po re))):=by
 have hl:=A18 (kd:=kd) h0 h1 h2 h3
 unfold Xg Ah
 rw [h0,h1,h2,h3]
 simp only [vl,cond_true]
 rw [G2,cond_true]
 have hp:=SG (Z3 (mkU sc us kd nm v4 (n8 a0 a1 a2 a3 a4 a5 a6 a7) po re))
 rw [Ar0 h1 h2 hp]
 generalize D5 (Z3 (mkU sc us kd nm v4 (n8 a0 a1 a2 a3 a4 a5 a6 a7) po re))=p
 obtain ⟨p1,e⟩:=p
 by_cases he:e=0
 ·subst he
  exact ⟨_,_,rfl,rfl⟩
 ·rw [show (uE (p1,e)==(0:Int))=false by simpa using he,show (e==0)=false by simpa using he]
  exact ⟨_,_,rfl,rfl⟩
theorem B30 (sc us:By) (kd:Int) (nm:By) (v4 a0 a1 a2 a3 a4 a5 a6 a7 po:Int) (re:By) (h0:smU sc us nm re=true) (h1:ltN v4 4294967296=true) (h2:ok8 a0 a1 a2 a3 a4 a5 a6 a7=true) (h3:T7 po=true) :
  ∃ r H,B28 LF sc us kd nm v4 a0 a1 a2 a3 a4 a5 a6 a7 po re (λr0 H1=>rv (.s (.str r0)) H1)=rv r H/\r.stab [] H = .s (.str (Vz (mkU sc us kd nm v4 (n8 a0 a1 a2 a3 a4 a5 a6 a7) po re))):=by
 unfold B28 Vz
 rw [h0,h1,h2,h3]
 cases Ah (mkU sc us kd nm v4 (n8 a0 a1 a2 a3 a4 a5 a6 a7) po re) with
 | false=>exact ⟨_,_,rfl,rfl⟩
 | true=>exact ⟨_,_,rfl,rfl⟩
end
section
open Go
def ofB (u:Q7):Bool:=I8 u.sch&&Ah u
structure OC where
 s:By
 k:Int
 n:By
 v:Int
 a:List Int
 p:Int
 b:Bool
def ofC (sc us:By) (kd:Int) (nm:By) (v4 a b c d e f g h po:Int) (re:By):OC:=
 cond (ofB (mkU sc us kd nm v4 (n8 a b c d e f g h) po re)) ⟨sc,kd,nm,v4,[a,b,c,d,e,f,g,h],prt sc po,true⟩ ⟨[],0,[],0,[0,0,0,0,0,0,0,0],0,false⟩
abbrev oS (c:OC):By:=c.s
abbrev oK (c:OC):Int:=c.k
abbrev oN (c:OC):By:=c.n
abbrev oV (c:OC):Int:=c.v
abbrev oA (c:OC) (i:Nat):Int:=c.a.getD i 0
abbrev oP (c:OC):Int:=c.p
abbrev oB (c:OC):Bool:=c.b
def Cn7:By:=[108,111,99,97,108,104,111,115,116]
def RG (kd:Int) (nm:By) (v4 a b c d e f g h:Int):Bool:=
 cond (L1 (mkH kd nm v4 (n8 a b c d e f g h))) (cond (kd==2) (DI .u32 v4 24==127) (cond (kd==3) ((a==0)&&((b==0)&&((c==0)&&((d==0)&&((e==0)&&((f==0)&&((g==0)&&((h==1)&&true)))))))) (Oi Cn7 nm))) false
def A74:By:=[102,105,108,101]
def VM:By:=[97,98,111,117,116]
def Tv (sc us:By) (kd:Int) (nm:By) (v4 a b c d e f g h po:Int) (re:By):Bool:=
 cond (Ah (mkU sc us kd nm v4 (n8 a b c d e f g h) po re)) (cond (sc==Ez || (sc==CW || sc==A74)) true (cond (sc==VM) (re==[98,108,97,110,107] || re==[115,114,99,100,111,99]) (cond (I8 sc) (RG kd nm v4 a b c d e f g h) false))) false
def Hw (n:Int):Bool:=!ltI n 1 && !ltI 22 n
def Aq7 (n:Int) (im:Bool):Int:=cond (n==4) 1 (cond (n==2 || (n==20 || (n==9 && !im))) 2 (cond (Hw n) 3 0))
def Au8 (l:List By) (s:By):Int:=match l.findIdx? (· == s) with | some i=>(i:Int) | none=>-1
def At4 (l:List By) (s:By):Bool:=l.any (· == s)
def ZO (l:List By) (h:B3):Bool:=L1 h&&At4 l (Ih h)
structure DV where
 a:Int
 r:Int
 u:By
 e:Int
abbrev dA (d:DV):Int:=d.a
abbrev dR (d:DV):Int:=d.r
abbrev dU (d:DV):By:=d.u
abbrev dE (d:DV):Int:=d.e
abbrev bDQ (d:DV):Blk:=bDx (dA d) (dR d) (dU d)
def A73:By:=[100,97,116,97]
def Qb (sc us:By) (kd:Int) (nm:By) (v4 a b c d e f g h po:Int) (re:By) (de:Int) (im pr up ba:Bool) (l:List By) (so:Int):DV:=
 cond (P6 sc&&so != 0) ⟨2,2,Vz (mkU (upS sc) us kd nm v4 (n8 a b c d e f g h) (upP sc po) re),0⟩
 (cond (Tv sc us kd nm v4 a b c d e f g h po re || sc==A73) ⟨1,1,Vz (mkU sc us kd nm v4 (n8 a b c d e f g h) po re),0⟩
 (cond (P6 sc&&(up&&(de != 4 || ZO l (mkH kd nm v4 (n8 a b c d e f g h))))) ⟨2,3,Vz (mkU (upS sc) us kd nm v4 (n8 a b c d e f g h) (upP sc po) re),0⟩
 (cond (de==4 || !pr) ⟨1,6,Vz (mkU sc us kd nm v4 (n8 a b c d e f g h) po re),0⟩
 (cond (P6 sc&&(Aq7 de im==2&&(kd==1 && !ba))) ⟨2,4,Vz (mkU (upS sc) us kd nm v4 (n8 a b c d e f g h) (upP sc po) re),0⟩
 ⟨3,5,[],0⟩))))
def okD (d:DV):DV:=⟨d.a,d.r,d.u,0⟩
def Zt (sc us:By) (kd:Int) (nm:By) (v4 a b c d e f g h po:Int) (re:By) (de:Int) (im pr up ba:Bool) (l:List By) (so:Int):DV:=
 cond (Ah (mkU sc us kd nm v4 (n8 a b c d e f g h) po re)) (cond (Hw de) (okD (Qb sc us kd nm v4 a b c d e f g h po re de im pr up ba l so)) ⟨0,0,[],2⟩) ⟨0,0,[],1⟩
end
section
open Go Go.Proofs
set_option maxRecDepth 100000
section
def Cn6:List PV->Tr
 | [.agg [.s (.str sc),.s (.str us),.s (.int .i64 kd),.s (.str nm),.s (.int .u32 v4),.s (.int .u16 a0),.s (.int .u16 a1),.s (.int .u16 a2),.s (.int .u16 a3),.s (.int .u16 a4),.s (.int .u16 a5),.s (.int .u16 a6),.s (.int .u16 a7),.s (.int .i64 po),.s (.str re)]]=>.need (smU sc us nm re) (.need (ltN v4 4294967296) (.need (ok8 a0 a1 a2 a3 a4 a5 a6 a7) (.need (T7 po) (.ret (.tup [.agg [.s (.str (oS (ofC sc us kd nm v4 a0 a1 a2 a3 a4 a5 a6 a7 po re))),.s (.int .i64 (oK (ofC sc us kd nm v4 a0 a1 a2 a3 a4 a5 a6 a7 po re))),.s (.str (oN (ofC sc us kd nm v4 a0 a1 a2 a3 a4 a5 a6 a7 po re))),.s (.int .u32 (oV (ofC sc us kd nm v4 a0 a1 a2 a3 a4 a5 a6 a7 po re))),.s (.int .u16 (oA (ofC sc us kd nm v4 a0 a1 a2 a3 a4 a5 a6 a7 po re) 0)),.s (.int .u16 (oA (ofC sc us kd nm v4 a0 a1 a2 a3 a4 a5 a6 a7 po re) 1)),.s (.int .u16 (oA (ofC sc us kd nm v4 a0 a1 a2 a3 a4 a5 a6 a7 po re) 2)),.s (.int .u16 (oA (ofC sc us kd nm v4 a0 a1 a2 a3 a4 a5 a6 a7 po re) 3)),.s (.int .u16 (oA (ofC sc us kd nm v4 a0 a1 a2 a3 a4 a5 a6 a7 po re) 4)),.s (.int .u16 (oA (ofC sc us kd nm v4 a0 a1 a2 a3 a4 a5 a6 a7 po re) 5)),.s (.int .u16 (oA (ofC sc us kd nm v4 a0 a1 a2 a3 a4 a5 a6 a7 po re) 6)),.s (.int .u16 (oA (ofC sc us kd nm v4 a0 a1 a2 a3 a4 a5 a6 a7 po re) 7)),.s (.int .i64 (oP (ofC sc us kd nm v4 a0 a1 a2 a3 a4 a5 a6 a7 po re)))],.s (.bool (oB (ofC sc us kd nm v4 a0 a1 a2 a3 a4 a5 a6 a7 po re)))]) []))))
 | _=>.fail
def Yb:List PV->Tr
 | [.agg [.s (.int .i64 kd),.s (.str nm),.s (.int .u32 v4),.s (.int .u16 a0),.s (.int .u16 a1),.s (.int .u16 a2),.s (.int .u16 a3),.s (.int .u16 a4),.s (.int .u16 a5),.s (.int .u16 a6),.s (.int .u16 a7)]]=>.need (A2 (List.length nm)) (.need (ltN v4 4294967296) (.need (ok8 a0 a1 a2 a3 a4 a5 a6 a7) (.ret (.s (.bool (RG kd nm v4 a0 a1 a2 a3 a4 a5 a6 a7))) [])))
 | _=>.fail
def Ai6 (args:List PV):Tr:=Yb (C1 [[0,0,0,0,0,0,0,0,0,0,0]] args)
def Rj:List PV->Tr
 | [.agg [.s (.str sc),.s (.str us),.s (.int .i64 kd),.s (.str nm),.s (.int .u32 v4),.s (.int .u16 a0),.s (.int .u16 a1),.s (.int .u16 a2),.s (.int .u16 a3),.s (.int .u16 a4),.s (.int .u16 a5),.s (.int .u16 a6),.s (.int .u16 a7),.s (.int .i64 po),.s (.str re)]]=>.need (smU sc us nm re) (.need (ltN v4 4294967296) (.need (ok8 a0 a1 a2 a3 a4 a5 a6 a7) (.need (T7 po) (.ret (.s (.bool (Tv sc us kd nm v4 a0 a1 a2 a3 a4 a5 a6 a7 po re))) []))))
 | _=>.fail
def OD (args:List PV):Tr:=Rj (C1 [[0,0,0,0,0,0,0,0,0,0,0,0,0,0,0]] args)
end
section
def Rc:List PV->Tr
 | [.s (.int .i64 n)]=>.ret (.s (.bool (Hw n))) []
 | _=>.fail
def Xi (args:List PV):Tr:=Rc (C1 [[0]] args)
def GQ:List PV->Tr
 | [.s (.int .i64 n),.s (.bool im)]=>.ret (.s (.int .i64 (Aq7 n im))) []
 | _=>.fail
def A49 (args:List PV):Tr:=GQ (C1 [[0],[0]] args)
def Ym:List PV->Tr
 | [.s (.sl l_z l_t 1 l),.s (.str s)]=>.need (List.all l isS) (.need (A2 (List.length l)) (.ret (.s (.int .i64 (Au8 (List.map elS l) s))) []))
 | _=>.fail
def Ai8 (args:List PV):Tr:=Ym (C1 [[1],[0]] args)
def Yl:List PV->Tr
 | [.s (.sl l_z l_t 1 l),.s (.str s)]=>.need (List.all l isS) (.need (A2 (List.length l)) (.ret (.s (.bool (At4 (List.map elS l) s))) []))
 | _=>.fail
def Ai7 (args:List PV):Tr:=Yl (C1 [[1],[0]] args)
def GO:List PV->Tr
 | [.agg [.s (.bool se),.s (.bool pr),.s (.bool up),.s (.bool ba),.s (.sl l_z l_t 1 l)],.agg [.s (.int .i64 kd),.s (.str nm),.s (.int .u32 v4),.s (.int .u16 a0),.s (.int .u16 a1),.s (.int .u16 a2),.s (.int .u16 a3),.s (.int .u16 a4),.s (.int .u16 a5),.s (.int .u16 a6),.s (.int .u16 a7)]]=>.need (List.all l isS) (.need (A2 (List.length l)) (.need (A2 (List.length nm)) (.need (ltN v4 4294967296) (.need (ok8 a0 a1 a2 a3 a4 a5 a6 a7) (.ret (.s (.bool (ZO (List.map elS l) (mkH kd nm v4 (n8 a0 a1 a2 a3 a4 a5 a6 a7))))) [])))))
 | _=>.fail
def A48 (args:List PV):Tr:=GO (C1 [[0,0,0,0,1],[0,0,0,0,0,0,0,0,0,0,0]] args)
def Ya:List PV->Tr
 | [.agg [.s (.str sc),.s (.str us),.s (.int .i64 kd),.s (.str nm),.s (.int .u32 v4),.s (.int .u16 a0),.s (.int .u16 a1),.s (.int .u16 a2),.s (.int .u16 a3),.s (.int .u16 a4),.s (.int .u16 a5),.s (.int .u16 a6),.s (.int .u16 a7),.s (.int .i64 po),.s (.str re)],.s (.int .i64 de),.s (.bool im),.agg [.s (.bool se),.s (.bool pr),.s (.bool up),.s (.bool ba),.s (.sl l_z l_t 1 l)],.agg [.s (.int .i64 so),.s (.str cn),.s (.bool ex)]]=>.need (smU sc us nm re) (.need (ltN v4 4294967296) (.need (ok8 a0 a1 a2 a3 a4 a5 a6 a7) (.need (T7 po) (.need (List.all l isS) (.need (A2 (List.length l)) (.ret (.agg [.s (.int .i64 (dA (Qb sc us kd nm v4 a0 a1 a2 a3 a4 a5 a6 a7 po re de im pr up ba (List.map elS l) so))),.s (.int .i64 (dR (Qb sc us kd nm v4 a0 a1 a2 a3 a4 a5 a6 a7 po re de im pr up ba (List.map elS l) so))),.s (.str (dU (Qb sc us kd nm v4 a0 a1 a2 a3 a4 a5 a6 a7 po re de im pr up ba (List.map elS l) so)))]) []))))))
 | _=>.fail
def Ai5 (args:List PV):Tr:=Ya (C1 [[0,0,0,0,0,0,0,0,0,0,0,0,0,0,0],[0],[0],[0,0,0,0,1],[0,0,0]] args)
def IB:List PV->Tr
 | [.agg [.s (.str sc),.s (.str us),.s (.int .i64 kd),.s (.str nm),.s (.int .u32 v4),.s (.int .u16 a0),.s (.int .u16 a1),.s (.int .u16 a2),.s (.int .u16 a3),.s (.int .u16 a4),.s (.int .u16 a5),.s (.int .u16 a6),.s (.int .u16 a7),.s (.int .i64 po),.s (.str re)],.s (.int .i64 de),.s (.bool im),.agg [.s (.bool se),.s (.bool pr),.s (.bool up),.s (.bool ba),.s (.sl l_z l_t 1 l)],.agg [.s (.int .i64 so),.s (.str cn),.s (.bool ex)]]=>.need (smU sc us nm re) (.need (ltN v4 4294967296) (.need (ok8 a0 a1 a2 a3 a4 a5 a6 a7) (.need (T7 po) (.need (List.all l isS) (.need (A2 (List.length l)) (.ret (.tup [.agg [.s (.int .i64 (dA (Zt sc us kd nm v4 a0 a1 a2 a3 a4 a5 a6 a7 po re de im pr up ba (List.map elS l) so))),.s (.int .i64 (dR (Zt sc us kd nm v4 a0 a1 a2 a3 a4 a5 a6 a7 po re de im pr up ba (List.map elS l) so))),.s (.str (dU (Zt sc us kd nm v4 a0 a1 a2 a3 a4 a5 a6 a7 po re de im pr up ba (List.map elS l) so)))],.s (.int .i64 (dE (Zt sc us kd nm v4 a0 a1 a2 a3 a4 a5 a6 a7 po re de im pr up ba (List.map elS l) so)))]) []))))))
 | _=>.fail
def A57 (args:List PV):Tr:=IB (C1 [[0,0,0,0,0,0,0,0,0,0,0,0,0,0,0],[0],[0],[0,0,0,0,1],[0,0,0]] args)
end
end
section
open Go
def smP (s:By):Bool:=Nat.ble s.length 10000000
def Qk (el:List SV):Bool:=smP (elS el)
def Ck8 (p:Q7 × Nat) (de:Int) (im pr up ba:Bool) (hs:List By):DV:=
 cond (uE p != 0) ⟨0,0,[],uE p⟩ (Zt (uS p) (uU p) (uK p) (uN p) (uV p) (uA p 0) (uA p 1) (uA p 2) (uA p 3) (uA p 4) (uA p 5) (uA p 6) (uA p 7) (uP p) (uR p) de im pr up ba hs 0)
def W9 (s:By) (de:Int) (im pr up ba:Bool) (hs:List By):DV:=Ck8 (E3 s) de im pr up ba hs
abbrev Q6:=By × DV
def K9 (de:Int) (im pr up ba:Bool) (hs:List By) (us:List By):List Q6:=us.map λu=>(u,W9 u de im pr up ba hs)
def F1:List Q6->List Q6 × Int
 | []=>([],0)
 | x::r=>cond (x.2.e != 0) ([],x.2.e) (cond (x.2.a==3) ([x],0) (cond ((F1 r).2 != 0) ([],(F1 r).2) (x::(F1 r).1,0)))
def Nb (de:Int) (im pr up ba:Bool) (hs:List By) (us:List By):List Q6 × Int:=
 cond (us.isEmpty || Nat.ble 21 us.length) ([],3) (F1 (K9 de im pr up ba hs us))
def Cl2 (x:Q6):List SV:=[.str x.1,.int .i64 (dA x.2),.int .i64 (dR x.2),.str (dU x.2)]
def F2 (l:List Q6):LL:=l.map Cl2
def Em:List SV->Bool | [.str _,.int .i64 _,.int .i64 _,.str _]=>true | _=>false
def Cl0 (el:List SV):By × Bool:=if (el.getD 1 .nilp).gI=3 then ([],false) else ((el.getD 3 .nilp).gS,true)
def Ba8 (l:LL):By × Bool:=if l.isEmpty then ([],false) else Cl0 (l.getD (l.length-1) [])
def Eh (el:List SV):By × Int × Int × By:=((el.getD 0 .nilp).gS,(el.getD 1 .nilp).gI,(el.getD 2 .nilp).gI,(el.getD 3 .nilp).gS)
theorem T9.row {C:Cfg} {Γ:Ctx} {w w':World} {ret:PV} {Hc:List Blk} {V:Value} {b:Nat} {v:Bool} {e sz:Nat} {els:List (List SV)} (h:T9 C I0 Γ [] w noΦ ret Hc () V w') (hb:Hc[b]? = some (.arr v e sz els)) (hr:ret.nms.all (· == b)=true) :
  T9 C I0 Γ [] w noΦ (ret.rn λ_=>0) [.arr v e sz els] () V w':=by
 obtain ⟨Γ1,Φ1,hs,hH1,hv,hvn,hi1,hd1⟩:=h
 have hlt:b<Hc.length:=(List.getElem?_eq_some_iff.1 hb).1
 have hg:Hc[b] = .arr v e sz els:=(List.getElem?_eq_some_iff.1 hb).2
 let Γ2:Ctx:={ Γ1 with nm:=λc=>if c=0 then Γ1.nm b else none }
 have hnm:∀ c g,Γ2.nm c=some g->c=0/\Γ1.nm b=some g:=λc g h=>by
  simp only [Γ2] at h
  split at h
  ·exact ⟨‹_›,h⟩
  ·cases h
 have hsh:A1 [Blk.arr v e sz els] 0=A1 Hc b:=by simp [A1,hb]
 have h0:Γ2.nm 0 = Γ1.nm b:=by simp [Γ2]
 refine ⟨Γ2,Φ1,⟨hs.os,hs.tape,hs.output,hs.size,hs.sub,hs.stnew,λc g h=>?_,hs.foot,hs.frame,hs.yv,Nat.zero_le _,λc hc=>by simp at hc⟩,
  ⟨λc c' g h1 h2=>by rw [(hnm c g h1).1,(hnm c' g h2).1],λc g h=>?_,hH1.stlt,λc hc d hd=>?_,λc hc=>?_⟩,?_,λc hc=>?_,hi1,λc g h=>hd1 b g (hnm c g h).2⟩
 ·rcases hs.own b g (hnm c g h).2 with ⟨q,_⟩ | q
  ·simp at q
  ·exact .inr q
 ·obtain ⟨rfl,q⟩:=hnm c g h
  exact ⟨by simp,(hH1.lt b g q).2⟩
 ·have:c=0:=by simpa using hc
  subst this
  simp [Blk.nms] at hd
 ·have:c=0:=by simpa using hc
  subst this
  have:=hH1.blk b hlt
  rw [hg] at this
  exact BR.rn (f:=λ_=>0) (Γ:=Γ1) (Γ':=Γ2) (sh:=A1 Hc) (sh':=A1 [Blk.arr v e sz els]) (b':=0) rfl this (.inr λ_ h=>h) h0 (λc hc=>by simp [Blk.nms] at hc)
 ·refine VP.rn (Γ:=Γ1) (Γ':=Γ2) rfl hv (.inr λ_ h=>h) λc hc=>?_
  have:c=b:=by simpa using List.all_eq_true.1 hr c hc
  subst this
  exact ⟨h0,hsh⟩
 ·rw [PV.rn_nms] at hc
  obtain ⟨_,_,rfl⟩:=List.mem_map.1 hc
  simp
theorem T9.rowN {C:Cfg} {Γ:Ctx} {w w':World} {r:List PV} {Hc:List Blk} {V:Value} {b e0 s0:Nat} (e sz:Nat) (h:T9 C I0 Γ [] w noΦ (.tup (.fl b::r)) Hc () V w') (hb:Hc[b]? = some (.arr true e0 s0 [])) (hr:B9 r=[]) :
  T9 C I0 Γ [] w noΦ (.tup (.fl 0::r)) [.arr true e sz []] () V w':=by
 obtain ⟨Γ1,Φ1,hs,hH1,hv,hvn,hi1,hd1⟩:=h
 let Γ2:Ctx:={ Γ1 with nm:=λc=>none }
 have hnm:∀ c g,Γ2.nm c=some g->False:=λc g h=>by simp [Γ2] at h
 obtain ⟨A,rfl,hA,hc⟩:=hv.inv_tup
 refine ⟨Γ2,Φ1,⟨hs.os,hs.tape,hs.output,hs.size,hs.sub,hs.stnew,λc g h=>(hnm c g h).elim,hs.foot,hs.frame,hs.yv,Nat.zero_le _,λc hc=>by simp at hc⟩,
  ⟨λc c' g h1 h2=>(hnm c g h1).elim,λc g h=>(hnm c g h).elim,hH1.stlt,λc hc d hd=>?_,λc hc=>?_⟩,VP.mk_tup (by simpa using hA) λj hj=>?_,λc hc=>?_,hi1,λc g h=>(hnm c g h).elim⟩
 ·have:c=0:=by simpa using hc
  subst this
  simp [Blk.nms] at hd
 ·have:c=0:=by simpa using hc
  subst this
  exact .inl ⟨rfl,rfl⟩
 ·obtain ⟨U,e1,k⟩:=hc j (by simpa using hj)
  refine ⟨U,e1,?_⟩
  cases j with
  | zero=>
   simp only [List.getElem_cons_zero] at k ⊢
   cases k with
   | flv _ e' sz' h'=>exact .flv 0 e sz (by simp [A1,Blk.shp])
   | fl _ g v e' sz' n cap h' hv'=>simp [A1,hb,Blk.shp] at h';grind
  | succ j=>
   simp only [List.getElem_cons_succ] at k ⊢
   have hn:(r[j]'(by simpa using hj)).nms=[]:=List.eq_nil_iff_forall_not_mem.2 λc hc=>by
    have:c∈B9 r:=B7.2 ⟨j,_,hc⟩
    rw [hr] at this
    simp at this
   exact VP.mono (Γ:=Γ1) (Γ':=Γ2) (sh:=A1 Hc) (w:=w') (w':=w') (ok:=λ_=>False) ⟨λ_ _=>rfl,λ_ h=>h,λ_ h=>h.elim,λ_ h=>h.elim,λ_ _ h=>h.elim,rfl⟩ k (by rw [hn];simp)
 ·have:c=0:=by
   simp only [PV.nms,B9,hr,List.append_nil] at hc
   simpa using hc
  subst this
  simp
theorem NP {C₀:Cfg} {g:Nat} {pf:List PV->Tr} (hX:XOK C₀) (hO:Fp C₀) (hm:C₀.P.follows .mixedOrders=true)
  (h:∀ args ret Hc,G7 (pf args)=some (ret,Hc)->B9 args=[]/\∃ d r H0 b v e sz els,evC C₀ d Unit noY g args [] ()=some (r,H0,())/\((H0[b]? = some (.arr v e sz els)/\r.nms.all (· == b)=true/\r.rn (λ_=>0)=ret)\/(v=true/\els=[]/\∃ e0 s0 q,H0[b]? = some (.arr true e0 s0 [])/\r = .tup (.fl b::q)/\B9 q=[]/\.tup (.fl 0::q)=ret))/\[.arr v e sz els]=Hc):A7 C₀.P C₀.G g pf:=by
 intro args ret Hc hpf C hP hGe Γ w Vs hnm hH hG hc
 obtain ⟨hna,d,r,H0,b,v,e,sz,els,hev,hor,rfl⟩:=h args ret Hc hpf
 have h0:=Ey (C₀:=C₀) (g:=g) (pf:=λa=>match evC C₀ d Unit noY g a [] () with | some (r,H,_)=>cond (B9 a).isEmpty (.ret r H) .fail | none=>.fail) hX hO hm (λa r H hr=>by
  split at hr
  ·rename_i r' H' _ he
   cases hn:(B9 a).isEmpty with
   | true=>
    rw [hn] at hr
    simp only [cond_true,G7,Bn,Option.some.injEq,Prod.mk.injEq] at hr
    grind
   | false=>rw [hn] at hr;cases hr
  ·cases hr)
 refine (h0 args r H0 (by dsimp only;rw [hev];dsimp only;rw [hna];rfl) C hP hGe Γ w Vs hnm hH hG hc).mono λV w' hR=>?_
 rcases hor with ⟨hb,hr,rfl⟩ | ⟨rfl,rfl,e0,s0,q,hb,rfl,hq,rfl⟩
 ·exact hR.row hb hr
 ·exact hR.rowN e sz hb hq
end
section
open Go Go.Proofs
set_option maxRecDepth 100000
section
def Yn:List PV->Tr
 | [.s (.nilp),.s (.str q)]=>.ret (.tup [.s (.int .i64 (0:Int)),.s (.bool false)]) []
 | _=>.fail
def Ai9 (args:List PV):Tr:=Yn (C1 [[0],[0]] args)
def Yo:List PV->Tr
 | [.s (.nilp),.s (.str q)]=>.ret (.tup [.agg [.s (.str ([]:List UInt8)),.s (.bool false),.s (.int .i64 (0:Int))],.s (.bool false)]) []
 | _=>.fail
def Aj0 (args:List PV):Tr:=Yo (C1 [[0],[0]] args)
def Xu:List PV->Tr
 | [.s (.nilp),.s (.str q)]=>.ret (.tup [.agg [.s (.str ([]:List UInt8)),.s (.bool false)],.s (.bool false)]) []
 | _=>.fail
def Ai1 (args:List PV):Tr:=Xu (C1 [[0],[0]] args)
def GM:List PV->Tr
 | [.s (.int .i64 now),.s (.nilp),.s (.nilp),.s (.str u),.s (.bool ex)]=>.ret (.tup [.agg [.s (.int .i64 (0:Int)),.s (.str ([]:List UInt8)),.s (.bool false)],.s (.bool false)]) []
 | _=>.fail
def UI (args:List PV):Tr:=GM (C1 [[0],[0],[0],[0],[0]] args)
def GN:List PV->Tr
 | [.s (.int .i64 now),.s (.nilp),.s (.nilp),.agg [.s (.int .i64 kd),.s (.str nm),.s (.int .u32 v4),.s (.int .u16 a0),.s (.int .u16 a1),.s (.int .u16 a2),.s (.int .u16 a3),.s (.int .u16 a4),.s (.int .u16 a5),.s (.int .u16 a6),.s (.int .u16 a7)]]=>.need (A2 (List.length nm)) (.need (ltN v4 4294967296) (.need (ok8 a0 a1 a2 a3 a4 a5 a6 a7) (.ret (.agg [.s (.int .i64 (0:Int)),.s (.str ([]:List UInt8)),.s (.bool false)]) [])))
 | _=>.fail
def A47 (args:List PV):Tr:=GN (C1 [[0],[0],[0],[0,0,0,0,0,0,0,0,0,0,0]] args)
def IC:List PV->Tr
 | [.agg [.s (.str q),.s (.int .i64 de),.s (.bool im)],.agg [.s (.bool se),.s (.bool pr),.s (.bool up),.s (.bool ba),.s (.sl l_z l_t 1 l)],.s (.int .i64 now),.s (.nilp),.s (.nilp)]=>.need (smP q) (.need (List.all l isS) (.need (A2 (List.length l)) (.ret (.tup [.agg [.s (.int .i64 (dA (W9 q de im pr up ba (List.map elS l)))),.s (.int .i64 (dR (W9 q de im pr up ba (List.map elS l)))),.s (.str (dU (W9 q de im pr up ba (List.map elS l))))],.s (.int .i64 (dE (W9 q de im pr up ba (List.map elS l))))]) [])))
 | _=>.fail
def US (args:List PV):Tr:=IC (C1 [[0,0,0],[0,0,0,0,1],[0],[0],[0]] args)
def GW:List PV->List Blk->Tr
 | [.s (.str q),.ptr 0 0 0,.ptr 1 0 0,.ptr 2 0 0,.ptr 3 0 0,.ptr 4 0 0,.ptr 5 0 0],[.box [.s (.int .i64 de)],.box [.s (.bool im)],.box [.s (.bool se),.s (.bool pr),.s (.bool up),.s (.bool ba),.s (.sl l_z l_t 1 l)],.box [.s (.int .i64 now)],.box [.s (.nilp)],.box [.s (.nilp)]]=>.need (smP q) (.need (List.all l isS) (.need (A2 (List.length l)) (.ret (.tup [.agg [.s (.int .i64 (dA (W9 q de im pr up ba (List.map elS l)))),.s (.int .i64 (dR (W9 q de im pr up ba (List.map elS l)))),.s (.str (dU (W9 q de im pr up ba (List.map elS l))))],.s (.int .i64 (dE (W9 q de im pr up ba (List.map elS l))))]) [.box [.s (.int .i64 de)],.box [.s (.bool im)],.box [.s (.bool se),.s (.bool pr),.s (.bool up),.s (.bool ba),.s (.sl l_z l_t 1 l)],.box [.s (.int .i64 now)],.box [.s (.nilp)],.box [.s (.nilp)]])))
 | _,_=>.fail
def Wl:List PV->List Blk->Tr
 | [.s (.sl u_z u_t 1 u),.fnr (Fn.func 12) [] [.ptr 0 0 0,.ptr 1 0 0,.ptr 2 0 0,.ptr 3 0 0,.ptr 4 0 0,.ptr 5 0 0]],[.box [.s (.int .i64 de)],.box [.s (.bool im)],.box [.s (.bool se),.s (.bool pr),.s (.bool up),.s (.bool ba),.s (.sl l_z l_t 1 l)],.box [.s (.int .i64 now)],.box [.s (.nilp)],.box [.s (.nilp)]]=>.ret (.fnr (Fn.func 14) [] [.ptr 6 0 0,.ptr 7 0 0]) [.box [.s (.int .i64 de)],.box [.s (.bool im)],.box [.s (.bool se),.s (.bool pr),.s (.bool up),.s (.bool ba),.s (.sl l_z l_t 1 l)],.box [.s (.int .i64 now)],.box [.s (.nilp)],.box [.s (.nilp)],.box [.s (.sl u_z u_t 1 u)],.box [.fnr (Fn.func 12) [] [.ptr 0 0 0,.ptr 1 0 0,.ptr 2 0 0,.ptr 3 0 0,.ptr 4 0 0,.ptr 5 0 0]]]
 | _,_=>.fail
def Wk:List PV->List Blk->Option (Bool × List (List PV))
 | [.yd,.ptr 0 0 0,.ptr 1 0 0],[.box [.s (.sl u_z u_t 1 u)],.box [.fnr (Fn.func 12) [] [.ptr 2 0 0,.ptr 3 0 0,.ptr 4 0 0,.ptr 5 0 0,.ptr 6 0 0,.ptr 7 0 0]],.box [.s (.int .i64 de)],.box [.s (.bool im)],.box [.s (.bool se),.s (.bool pr),.s (.bool up),.s (.bool ba),.s (.sl l_z l_t 1 l)],.box [.s (.int .i64 now)],.box [.s (.nilp)],.box [.s (.nilp)]]=>some (((List.all u isS)&&((List.all u Qk)&&((A2 (List.length u))&&((List.all l isS)&&(A2 (List.length l)))))),List.map (λ(x:Q6)=>([.agg [.s (.str (x).1),.s (.int .i64 (dA (x).2)),.s (.int .i64 (dR (x).2)),.s (.str (dU (x).2)),.s (.int .i64 (dE (x).2))]]:List PV)) (K9 de im pr up ba (List.map elS l) (List.map elS u)))
 | _,_=>none
def IM:List PV->Tr
 | [.s (.sl u_z u_t 1 u),.s (.int .i64 de),.s (.bool im),.agg [.s (.bool se),.s (.bool pr),.s (.bool up),.s (.bool ba),.s (.sl l_z l_t 1 l)],.s (.int .i64 now),.s (.nilp),.s (.nilp)]=>.need (List.all u isS) (.need (List.all u Qk) (.need (A2 (List.length u)) (.need (List.all l isS) (.need (A2 (List.length l)) (.ret (.tup [.fl 0,.s (.int .i64 ((Nb de im pr up ba (List.map elS l) (List.map elS u))).2)]) [.arr true 38 4 (F2 ((Nb de im pr up ba (List.map elS l) (List.map elS u))).1)])))))
 | _=>.fail
def Ye (args:List PV):Tr:=IM (C1 [[1],[0],[0],[0,0,0,0,1],[0],[0],[0]] args)
def IL:List PV->Tr
 | [.s (.sl l_z l_t 4 l)]=>.need (List.all l Em) (.need (A2 (List.length l)) (.ret (.tup [.s (.str ((Ba8 l)).1),.s (.bool ((Ba8 l)).2)]) []))
 | _=>.fail
def UX (args:List PV):Tr:=IL (C1 [[4]] args)
def Xr:List PV->Tr
 | [.s (.sl l_z l_t 4 l),.s (.sl m_z m_t 4 m)]=>.need (List.all l Em) (.need (A2 (List.length l)) (.need (List.all m Em) (.need (A2 (List.length m)) (.ret (.s (.bool ((List.map Eh l)==(List.map Eh m)))) []))))
 | _=>.fail
def HO (args:List PV):Tr:=Xr (C1 [[4],[4]] args)
def Xw:List PV->Tr
 | [.s (.sl u_z u_t 1 u),.agg [.s (.bool se),.s (.bool pr),.s (.bool up),.s (.bool ba),.s (.sl l_z l_t 1 l)]]=>.need (List.all u isS) (.need (List.all l isS) (.ret (.s (.bool (((Nat.ble (List.length u) 30)&&(Q1 (1500:Int) (List.map elS u)))&&((Nat.ble (List.length l) 20)&&(Q1 (400:Int) (List.map elS l)))))) []))
 | _=>.fail
def HW (args:List PV):Tr:=Xw (C1 [[1],[0,0,0,0,1]] args)
def Io:List PV->Tr
 | []=>.ret (.s (.bool true)) []
 | _=>.fail
def Mh (args:List PV):Tr:=Io (C1 [] args)
end
end
section
open Go
abbrev hN (p:B3 × Nat):By:=p.1.name
abbrev hV (p:B3 × Nat):Int:=(p.1.v4:Int)
abbrev hA (p:B3 × Nat) (i:Nat):Int:=(p.1.v6.getD i 0:Int)
abbrev e0:By:=[]
end
section
open Go Go.Proofs
set_option maxRecDepth 100000
section
variable {σ R : Type} (lf : Nat) (cl : D3) (yh : Yh σ) (s : σ) (k : Out -> St σ -> Option R)
noncomputable def Zg (lf:Nat):Cfg:=B8 lf [5] (A3 []) [(6,Ye),(10,UX)]
 (A3 [(4,[0]),(3,[1,0,1,0,0]),(2,[1,0,1]),(1,[1,0]),(0,[])]) [10] (A3 []) (some [0]) [] [] []
noncomputable abbrev EB:Code:=D0 Tryz.f3
noncomputable def Cw (lf:Nat):Cfg:=B8 lf [3] (A3 [(11,[0,4,0,1,0,4])]) [(4,HW),(5,Mh),(6,Ye),(7,UP),(8,HO)]
 (A3 [(18,[8]),(17,[8]),(16,[9,5,0,155]),(15,[9,5,0]),(12,[0,4,0,2,4]),(14,[8]),(13,[0,4,0,2,4,126]),(11,[0,4,0,2,4,98]),(10,[0,4,0,2,4]),(9,[8]),(8,[0,4,0,2,99]),(7,[8]),(6,[0,4,0,2,0,0,0,0,46]),(5,[0,4,0,2,0,0,0,0]),(4,[0,4,0,2,0,0]),(3,[0,2,1,0,2,0]),(2,[8]),(1,[0,2,1,0,23]),(0,[0,2,1,0])]) [4,5,7,8] (A3 [(0,[0,4,0,2]),(1,[0,4,0,2,4])]) (some [8]) [] [] [] (nt:=[(26,4,9,1)]) (rw:=[(15,6)]) (fr:=[(15,[5,7,9,11,12],[2,3])])
noncomputable def Jq {R:Type} (lf n:Nat) (urls_z0 urls_t1:Bool) (urls2:LL) (i3:Int) (s4:By) (n5:Int) (b6 b7 b8 b9 b10 z11 t12:Bool) (l13 l14 l15:LL) (k0:(List Blk)->Option R) (k1:Bool->Bool->LL->By->Int->Bool->Bool->Bool->Bool->Bool->Bool->Bool->LL->LL->LL->Option R):Option R:=match n with
 | 0=>none
 | n+1=>
  cond (ltI i3 (l14.length:Int))
   (cond (inR i3 l14.length)
   (cond (okE Qq l14 (Int.toNat i3) 0)
    (vl (gX l14 (Int.toNat i3) 0) λs'8=>
    cond (inR i3 urls2.length)
     (cond (okE Qq urls2 (Int.toNat i3) 0)
     (vl (gX urls2 (Int.toNat i3) 0) λs'9=>
      cond (not (s'8==s'9))
      (k0 [(Blk.box [(PV.s (SV.str s4)),(PV.s (SV.int .i64 n5)),(PV.s (SV.bool b6))]),(bCx b7 b8 b9 b10 z11 t12 l13),(Blk.arr true 38 4 l14),(Blk.arr true 38 4 l15)])
      (vl (A4 ((l14.length:Int)-1)) λn'10=>
       cond (ltI i3 n'10)
       (cond (inR i3 l14.length)
        (cond (okE DL l14 (Int.toNat i3) 1)
        (vl (gE l14 (Int.toNat i3) 1) λn'11=>
         cond (n'11==3)
         (k0 [(Blk.box [(PV.s (SV.str s4)),(PV.s (SV.int .i64 n5)),(PV.s (SV.bool b6))]),(bCx b7 b8 b9 b10 z11 t12 l13),(Blk.arr true 38 4 l14),(Blk.arr true 38 4 l15)])
         (Jq lf n urls_z0 urls_t1 urls2 (A4 (i3+1)) s4 n5 b6 b7 b8 b9 b10 z11 t12 l13 l14 l15 k0 k1))
        none)
        none)
       (Jq lf n urls_z0 urls_t1 urls2 (A4 (i3+1)) s4 n5 b6 b7 b8 b9 b10 z11 t12 l13 l14 l15 k0 k1)))
     none)
     none)
    none)
   none)
   (k1 urls_z0 urls_t1 urls2 s4 n5 b6 b7 b8 b9 b10 z11 t12 l13 l14 l15)
theorem Ax0 (n urls_z0 urls_t1 urls2 i3 s4 n5 b6 b7 b8 b9 b10 z11 t12 l13 l14 l15):F0 4 ((Cw lf).keep 11) (bd (Cw lf) cl yh (cd [1,1,1,1,1,1,1,0,1,0,0] EB)) n ⟨gp [(0,.s (.sl urls_z0 urls_t1 1 urls2)),(4,.ptr 0 0 0),(0,.ptr 1 0 0),(2,.fl 2),(4,pI i3)] 169,[.box [pS s4,pI n5,pB b6],(bCx b7 b8 b9 b10 z11 t12 l13),.arr true 38 4 l14,.arr true 38 4 l15],s⟩ k =
 Jq lf n urls_z0 urls_t1 urls2 i3 s4 n5 b6 b7 b8 b9 b10 z11 t12 l13 l14 l15 (λH0=>k .ret ⟨gp [(8,pB false)] 175,H0,s⟩) (λurls_z0 urls_t1 urls2 s3 n4 b5 b6 b7 b8 b9 z10 t11 l12 l13 l14=>k (.exit 0) ⟨gp [(0,.s (.sl urls_z0 urls_t1 1 urls2)),(4,.ptr 0 0 0),(0,.ptr 1 0 0),(2,.fl 2)] 174,[.box [pS s3,pI n4,pB b5],(bCx b6 b7 b8 b9 z10 t11 l12),.arr true 38 4 l13,.arr true 38 4 l14],s⟩):=by
 induction n generalizing urls_z0 urls_t1 urls2 i3 s4 n5 b6 b7 b8 b9 b10 z11 t12 l13 l14 l15 with
 | zero=>rfl
 | succ n ih=>rw [Jq];simp only [<-ih];kernel_rfl
noncomputable def Jp {R:Type} (h0:Int) (b1:Bool) (s2:By) (n3:Int) (b4 b5 b6 b7 b8 z9 t10:Bool) (l11 l12 l13 l14 l15:LL) (k0:Bool->(List Blk)->Option R) (k1:Int->Bool->By->Int->Bool->Bool->Bool->Bool->Bool->Bool->Bool->LL->LL->LL->LL->LL->Option R):Option R:=
 cond b1
 (cond (h0==0)
  (cond (List.all l15 Em)
  (cond (A2 l15.length)
   (cond (List.all l12 Em)
   (cond (A2 l12.length)
    (cond ((List.map Eh l15)==(List.map Eh l12))
    (k0 true [(Blk.box [(PV.s (SV.str s2)),(PV.s (SV.int .i64 n3)),(PV.s (SV.bool b4))]),(bCx b5 b6 b7 b8 z9 t10 l11),(Blk.arr true 38 4 l12),(Blk.arr true 38 4 l13),(Blk.arr false 9 1 l14),(Blk.arr true 38 4 l15)])
    (k0 false [(Blk.box [(PV.s (SV.str s2)),(PV.s (SV.int .i64 n3)),(PV.s (SV.bool b4))]),(bCx b5 b6 b7 b8 z9 t10 l11),(Blk.arr true 38 4 l12),(Blk.arr true 38 4 l13),(Blk.arr false 9 1 l14),(Blk.arr true 38 4 l15)]))
    none)
   none)
   none)
  none)
  (k0 false [(Blk.box [(PV.s (SV.str s2)),(PV.s (SV.int .i64 n3)),(PV.s (SV.bool b4))]),(bCx b5 b6 b7 b8 z9 t10 l11),(Blk.arr true 38 4 l12),(Blk.arr true 38 4 l13),(Blk.arr false 9 1 l14),(Blk.arr true 38 4 l15)]))
 (k1 h0 b1 s2 n3 b4 b5 b6 b7 b8 z9 t10 l11 l12 l13 l14 l15)
abbrev RJ (b:Code):Prop:=∀ (k:Out->St σ->Option R) h0 b1 s2 n3 b4 b5 b6 b7 b8 z9 t10 l11 l12 l13 l14 l15,A9 (Cw lf) cl yh b ⟨gp [(9,.fl 2),(5,.fl 5),(0,pI h0),(155,pB b1)] 11,[.box [pS s2,pI n3,pB b4],(bCx b5 b6 b7 b8 z9 t10 l11),.arr true 38 4 l12,.arr true 38 4 l13,.arr false 9 1 l14,.arr true 38 4 l15],s⟩ k =
 Jp h0 b1 s2 n3 b4 b5 b6 b7 b8 z9 t10 l11 l12 l13 l14 l15 (λb0 H1=>k .ret ⟨gp [(8,pB b0)] 175,H1,s⟩) (λh0 b1 s2 n3 b4 b5 b6 b7 b8 z9 t10 l11 l12 l13 l14 l15=>k .normal ⟨gp [(9,.fl 2),(5,.fl 5),(0,pI h0),(155,pB b1)] 11,[.box [pS s2,pI n3,pB b4],(bCx b5 b6 b7 b8 z9 t10 l11),.arr true 38 4 l12,.arr true 38 4 l13,.arr false 9 1 l14,.arr true 38 4 l15],s⟩)
theorem Aw9:RJ (R:=R) lf cl yh s (cd [1,1,1,1,1,1,1,1,1,0,1] EB):=by
 intro k h0 b1 s2 n3 b4 b5 b6 b7 b8 z9 t10 l11 l12 l13 l14 l15;unfold Jp;kernel_rfl
noncomputable def lrp {R:Type} (lf:Nat) (urls_z0 urls_t1:Bool) (urls2:LL) (r3:By) (r4:Int) (r5 c6 c7 c8 c9 c_z10 c_t11:Bool) (c12:LL) (cut13:Int) (k0:Bool->(List Blk)->Option R):Option R:=
 cond (List.all urls2 isS)
 (cond (List.all c12 isS)
  (cond (not (((Nat.ble urls2.length 30)&&(Q1 (1500:Int) (List.map elS urls2)))&&((Nat.ble c12.length 20)&&(Q1 (400:Int) (List.map elS c12)))))
  (k0 true [(Blk.box [(PV.s (SV.str r3)),(PV.s (SV.int .i64 r4)),(PV.s (SV.bool r5))]),(bCx c6 c7 c8 c9 c_z10 c_t11 c12)])
  (cond ((urls2.length:Int)==0)
   (k0 true [(Blk.box [(PV.s (SV.str r3)),(PV.s (SV.int .i64 r4)),(PV.s (SV.bool r5))]),(bCx c6 c7 c8 c9 c_z10 c_t11 c12)])
   (cond (ltI 20 (urls2.length:Int))
   (k0 true [(Blk.box [(PV.s (SV.str r3)),(PV.s (SV.int .i64 r4)),(PV.s (SV.bool r5))]),(bCx c6 c7 c8 c9 c_z10 c_t11 c12)])
   (cond (List.all urls2 isS)
    (cond (List.all urls2 Qk)
    (cond (A2 urls2.length)
     (cond (List.all c12 isS)
     (cond (A2 c12.length)
      (vl (Nb r4 r5 c7 c8 c9 (List.map elS c12) (List.map elS urls2)) λp'1=>
      cond (ltI 0 (urls2.length:Int))
       (cond (ltN (urls2.length:Int) 1000000000)
       (vl (Int.emod cut13 (urls2.length:Int)) λn'3=>
        cond (L3 0 (A4 ((1:Int)+n'3)) urls2.length)
        (vl (cut urls2 0 (A4 ((1:Int)+n'3))) λl'6=>
         cond (List.all l'6 isS)
         (cond (List.all l'6 Qk)
          (cond (A2 l'6.length)
          (cond (List.all c12 isS)
           (cond (A2 c12.length)
           (vl (Nb r4 r5 c7 c8 c9 (List.map elS c12) (List.map elS l'6)) λp'7=>
            cond ((p'1).2 != 0)
            (cond ((p'7).2==0)
             (k0 true [(Blk.box [(PV.s (SV.str r3)),(PV.s (SV.int .i64 r4)),(PV.s (SV.bool r5))]),(bCx c6 c7 c8 c9 c_z10 c_t11 c12),(Blk.arr true 38 4 (F2 (p'1).1)),(Blk.arr true 38 4 (F2 (p'7).1))])
             (cond ((p'7).2==(p'1).2)
             (k0 true [(Blk.box [(PV.s (SV.str r3)),(PV.s (SV.int .i64 r4)),(PV.s (SV.bool r5))]),(bCx c6 c7 c8 c9 c_z10 c_t11 c12),(Blk.arr true 38 4 (F2 (p'1).1)),(Blk.arr true 38 4 (F2 (p'7).1))])
             (k0 false [(Blk.box [(PV.s (SV.str r3)),(PV.s (SV.int .i64 r4)),(PV.s (SV.bool r5))]),(bCx c6 c7 c8 c9 c_z10 c_t11 c12),(Blk.arr true 38 4 (F2 (p'1).1)),(Blk.arr true 38 4 (F2 (p'7).1))])))
            (cond ((p'7).2 != 0)
             (k0 false [(Blk.box [(PV.s (SV.str r3)),(PV.s (SV.int .i64 r4)),(PV.s (SV.bool r5))]),(bCx c6 c7 c8 c9 c_z10 c_t11 c12),(Blk.arr true 38 4 (F2 (p'1).1)),(Blk.arr true 38 4 (F2 (p'7).1))])
             (cond ((↑(List.length (F2 (p'1).1)):Int)==0)
             (k0 false [(Blk.box [(PV.s (SV.str r3)),(PV.s (SV.int .i64 r4)),(PV.s (SV.bool r5))]),(bCx c6 c7 c8 c9 c_z10 c_t11 c12),(Blk.arr true 38 4 (F2 (p'1).1)),(Blk.arr true 38 4 (F2 (p'7).1))])
             (cond (ltI (urls2.length:Int) (↑(List.length (F2 (p'1).1)):Int))
              (k0 false [(Blk.box [(PV.s (SV.str r3)),(PV.s (SV.int .i64 r4)),(PV.s (SV.bool r5))]),(bCx c6 c7 c8 c9 c_z10 c_t11 c12),(Blk.arr true 38 4 (F2 (p'1).1)),(Blk.arr true 38 4 (F2 (p'7).1))])
              (cond (ltI (↑(List.length (F2 (p'1).1)):Int) (↑(List.length (F2 (p'7).1)):Int))
              (k0 false [(Blk.box [(PV.s (SV.str r3)),(PV.s (SV.int .i64 r4)),(PV.s (SV.bool r5))]),(bCx c6 c7 c8 c9 c_z10 c_t11 c12),(Blk.arr true 38 4 (F2 (p'1).1)),(Blk.arr true 38 4 (F2 (p'7).1))])
              (cond (L3 0 (↑(List.length (F2 (p'7).1)):Int) (List.length (F2 (p'1).1)))
               (cond (List.all (F2 (p'7).1) Em)
               (cond (A2 (List.length (F2 (p'7).1)))
                (cond (List.all (List.take ((Int.toNat (↑(List.length (F2 (p'7).1)):Int))-0) (List.drop 0 (F2 (p'1).1))) Em)
                (cond (A2 (List.length (List.take ((Int.toNat (↑(List.length (F2 (p'7).1)):Int))-0) (List.drop 0 (F2 (p'1).1)))))
                 (cond (not ((List.map Eh (F2 (p'7).1))==(List.map Eh (List.take ((Int.toNat (↑(List.length (F2 (p'7).1)):Int))-0) (List.drop 0 (F2 (p'1).1))))))
                 (k0 false [(Blk.box [(PV.s (SV.str r3)),(PV.s (SV.int .i64 r4)),(PV.s (SV.bool r5))]),(bCx c6 c7 c8 c9 c_z10 c_t11 c12),(Blk.arr true 38 4 (F2 (p'1).1)),(Blk.arr true 38 4 (F2 (p'7).1))])
                 (cond ((↑(List.length (F2 (p'7).1)):Int) != (if ((↑(List.length (F2 (p'1).1)):Int)<(A4 ((1:Int)+n'3))) then (↑(List.length (F2 (p'1).1)):Int) else (A4 ((1:Int)+n'3))))
                  (k0 false [(Blk.box [(PV.s (SV.str r3)),(PV.s (SV.int .i64 r4)),(PV.s (SV.bool r5))]),(bCx c6 c7 c8 c9 c_z10 c_t11 c12),(Blk.arr true 38 4 (F2 (p'1).1)),(Blk.arr true 38 4 (F2 (p'7).1))])
                  (Jq lf lf urls_z0 urls_t1 urls2 0 r3 r4 r5 c6 c7 c8 c9 c_z10 c_t11 c12 (F2 (p'1).1) (F2 (p'7).1) (λH'12=>k0 false H'12) (λurls_z'13 urls_t'14 urls'15 s'16 n'17 b'18 b'19 b'20 b'21 b'22 z'23 t'24 l'25 l'26 l'27=>cond (L3 0 (l'26.length:Int) urls'15.length)
                  (vl (cut urls'15 0 (l'26.length:Int)) λl'31=>
                   cond (J9 (0+l'31.length))
                   (cond (J9 (l'31.length+1))
                    (vl (l'31++[[(SV.str ([110,111,110,115,101,110,115,101]:List UInt8))]]) λl'32=>
                    cond (List.all l'32 isS)
                     (cond (List.all l'32 Qk)
                     (cond (A2 l'32.length)
                      (cond (List.all l'25 isS)
                      (cond (A2 l'25.length)
                       (vl (Nb n'17 b'18 b'20 b'21 b'22 (List.map elS l'25) (List.map elS l'32)) λp'33=>
                       cond ((plE (F2 (p'33).1))&&true)
                        (vl (A4 ((l'26.length:Int)-1)) λn'36=>
                        cond (inR n'36 l'26.length)
                         (cond (okE DL l'26 (Int.toNat n'36) 1)
                         (vl (gE l'26 (Int.toNat n'36) 1) λn'37=>
                          cond (n'37==3)
                          (Jp (p'33).2 (ltI (l'26.length:Int) (20:Int)) s'16 n'17 b'18 b'19 b'20 b'21 b'22 z'23 t'24 l'25 l'26 l'27 l'32 (F2 (p'33).1) k0 (λh'40 b'41 s'42 n'43 b'44 b'45 b'46 b'47 b'48 z'49 t'50 l'51 l'52 l'53 l'54 l'55=>k0 true [(Blk.box [(PV.s (SV.str s'42)),(PV.s (SV.int .i64 n'43)),(PV.s (SV.bool b'44))]),(bCx b'45 b'46 b'47 b'48 z'49 t'50 l'51),(Blk.arr true 38 4 l'52),(Blk.arr true 38 4 l'53),(Blk.arr false 9 1 l'54),(Blk.arr true 38 4 l'55)]))
                          (Jp (p'33).2 false s'16 n'17 b'18 b'19 b'20 b'21 b'22 z'23 t'24 l'25 l'26 l'27 l'32 (F2 (p'33).1) k0 (λh'58 b'59 s'60 n'61 b'62 b'63 b'64 b'65 b'66 z'67 t'68 l'69 l'70 l'71 l'72 l'73=>k0 true [(Blk.box [(PV.s (SV.str s'60)),(PV.s (SV.int .i64 n'61)),(PV.s (SV.bool b'62))]),(bCx b'63 b'64 b'65 b'66 z'67 t'68 l'69),(Blk.arr true 38 4 l'70),(Blk.arr true 38 4 l'71),(Blk.arr false 9 1 l'72),(Blk.arr true 38 4 l'73)])))
                         none)
                         none)
                        none)
                       none)
                      none)
                      none)
                     none)
                     none)
                    none)
                   none)
                  none))))
                 none)
                none)
                none)
               none)
               none))))))
           none)
           none)
          none)
          none)
         none)
        none)
       none)
       none)
      none)
     none)
     none)
    none)
    none))))
  none)
 none
theorem Cd0 (b_11111111101:Code) (h_lrp_j0:RJ (R:=PV × List Blk × σ) lf cl yh s b_11111111101) (urls_z0 urls_t1:Bool) (urls2:LL) (r3:By) (r4:Int) (r5 c6 c7 c8 c9 c_z10 c_t11:Bool) (c12:LL) (cut13:Int):A9 (Cw lf) cl yh (cd [] (N4 [1,1,1,1,1,1,1,1,1,0,1] b_11111111101 EB)) ⟨[.s (.sl urls_z0 urls_t1 1 urls2),.agg [pS r3,pI r4,pB r5],(gCx c6 c7 c8 c9 c_z10 c_t11 c12),pI cut13]++tps 180,[],s⟩ (G5 (Cw lf) Tryz.f3)=lrp lf urls_z0 urls_t1 urls2 r3 r4 r5 c6 c7 c8 c9 c_z10 c_t11 c12 cut13 (λr0 H1=>some (pB r0,H1,s)):=by
 unfold lrp;exact let K0:=(I5 (Cw lf) cl yh (cd [1,1,1,1,1,1,1,1,1,1] EB) (G5 (Cw lf) Tryz.f3));(Eq.trans (by kernel_rfl) (A0 (A0 (A0 rfl (A0 rfl (A0 rfl (A0 (A0 (A0 (A0 (A0 (A5 λp'1=>(A0 (A0 (A5 λn'3=>(A0 (A5 λl'6=>(A0 (A0 (A0 (A0 (A0 (A5 λp'7=>(A0 (A0 rfl (A0 rfl rfl)) (A0 rfl (A0 rfl (A0 rfl (A0 rfl (A0 (A0 (A0 (A0 (A0 (A0 rfl (A0 rfl ((Ax0 lf cl yh s (H7 0 (I5 (Cw lf) cl yh (cd [1,1,1,1,1,1,1,1] (N4 [1,1,1,1,1,1,1,1,1,0,1] b_11111111101 EB)) (G5 (Cw lf) Tryz.f3))) lf urls_z0 urls_t1 urls2 0 r3 r4 r5 c6 c7 c8 c9 c_z10 c_t11 c12 (F2 (p'1).1) (F2 (p'7).1)).trans (congr (congr rfl (by kernel_rfl)) (fx1 λurls_z'13=>(fx1 λurls_t'14=>(fx1 λurls'15=>(fx1 λs'16=>(fx1 λn'17=>(fx1 λb'18=>(fx1 λb'19=>(fx1 λb'20=>(fx1 λb'21=>(fx1 λb'22=>(fx1 λz'23=>(fx1 λt'24=>(fx1 λl'25=>(fx1 λl'26=>(fx1 λl'27=>(Eq.trans (by kernel_rfl) (A0 (A5 λl'31=>(A0 (A0 (A5 λl'32=>(A0 (A0 (A0 (A0 (A0 (A5 λp'33=>(A0 (A5 λn'36=>(A0 (A0 (A5 λn'37=>(A0 ((h_lrp_j0 K0 (p'33).2 (ltI (l'26.length:Int) (20:Int)) s'16 n'17 b'18 b'19 b'20 b'21 b'22 z'23 t'24 l'25 l'26 l'27 l'32 (F2 (p'33).1)).trans (by kernel_rfl)) ((h_lrp_j0 K0 (p'33).2 false s'16 n'17 b'18 b'19 b'20 b'21 b'22 z'23 t'24 l'25 l'26 l'27 l'32 (F2 (p'33).1)).trans (by kernel_rfl)))) rfl) rfl)) rfl)) rfl) rfl) rfl) rfl) rfl)) rfl) rfl)) rfl))))))))))))))))))))) rfl) rfl) rfl) rfl) rfl))))))) rfl) rfl) rfl) rfl) rfl)) rfl)) rfl) rfl)) rfl) rfl) rfl) rfl) rfl)))) rfl) rfl))
theorem Cd1 (d:Nat) (urls_z0 urls_t1 urls2 r3 r4 r5 c6 c7 c8 c9 c_z10 c_t11 c12 cut13):evC (Cw lf) (d+1) σ yh 3 [.s (.sl urls_z0 urls_t1 1 urls2),.agg [pS r3,pI r4,pB r5],(gCx c6 c7 c8 c9 c_z10 c_t11 c12),pI cut13] [] s=lrp lf urls_z0 urls_t1 urls2 r3 r4 r5 c6 c7 c8 c9 c_z10 c_t11 c12 cut13 (λr0 H1=>some (pB r0,H1,s)):=
 (evE (fn:=Tryz.f3) (by kernel_rfl)).trans (Eq.trans (by kernel_rfl) (Cd0 lf (evC (Cw lf) d) yh s (cd [1,1,1,1,1,1,1,1,1,0,1] EB) (Aw9 lf (evC (Cw lf) d) yh s) urls_z0 urls_t1 urls2 r3 r4 r5 c6 c7 c8 c9 c_z10 c_t11 c12 cut13))
end
section
variable {σ R : Type} (lf : Nat) (cl : D3) (yh : Yh σ) (s : σ) (k : Out -> St σ -> Option R)
noncomputable def KC (lf:Nat):Cfg:=B8 lf [65] (A3 []) []
 (A3 [(3,[4,0]),(2,[4,0]),(1,[0,0,5]),(0,[0,0])]) [] (A3 []) (some [4,0]) [] [] []
noncomputable def Bj3 {R:Type} (lf:Nat) (q:By) (k0:Unit->Option R):Option R:=
 k0 ()
theorem Bj4 (d:Nat) (q):evC (KC lf) (d+1) σ yh 65 [.s (.nilp),pS q] [] s=Bj3 lf q (λ_=>some (.tup [pI (0:Int),pB false],[],s)):=by
 refine (evE (fn:=Tryz.f65) (by kernel_rfl)).trans ?_
 generalize evC (KC lf) d=cl
 unfold Bj3;kernel_rfl
noncomputable def KD (lf:Nat):Cfg:=B8 lf [41] (A3 []) [(65,Ai9)]
 (A3 [(4,[4,0]),(3,[4,0]),(2,[0,3,1,8]),(1,[0,3,1,0]),(0,[0,0,2])]) [65] (A3 []) (some [4,0]) [] [] []
noncomputable def Bj5 {R:Type} (lf:Nat) (q:By) (k0:Unit->Option R):Option R:=
 k0 ()
theorem Bj6 (d:Nat) (q):evC (KD lf) (d+1) σ yh 41 [.s (.nilp),pS q] [] s=Bj5 lf q (λ_=>some (.tup [.agg [pS e0,pB false,pI (0:Int)],pB false],[.box [pS e0,pB false,pI (0:Int)]],s)):=by
 refine (evE (fn:=Tryz.f41) (by kernel_rfl)).trans ?_
 generalize evC (KD lf) d=cl
 unfold Bj5;kernel_rfl
noncomputable def JS (lf:Nat):Cfg:=B8 lf [43] (A3 []) []
 (A3 [(6,[4,0]),(5,[4,0]),(4,[0,3,1,14]),(3,[0,3,1,0]),(2,[4,0]),(1,[0,0,2,4]),(0,[0,0,2])]) [] (A3 []) (some [4,0]) [] [] []
noncomputable def Bd5 {R:Type} (lf:Nat) (q:By) (k0:Unit->Option R):Option R:=
 k0 ()
theorem Bd6 (d:Nat) (q):evC (JS lf) (d+1) σ yh 43 [.s (.nilp),pS q] [] s=Bd5 lf q (λ_=>some (.tup [.agg [pS e0,pB false],pB false],[.box [pS e0,pB false]],s)):=by
 refine (evE (fn:=Tryz.f43) (by kernel_rfl)).trans ?_
 generalize evC (JS lf) d=cl
 unfold Bd5;kernel_rfl
noncomputable def VW (lf:Nat):Cfg:=B8 lf [23] (A3 []) [(41,Aj0),(43,Ai1)]
 (A3 [(7,[10,0]),(6,[10,0]),(5,[3,0,5,42]),(4,[3,0,5,3,0]),(3,[10,0]),(2,[2,0,0,5,25]),(1,[0,1,0,0,5,1,0]),(0,[0,0,0,0,0,5])]) [] (A3 []) (some [10,0]) [] [] []
noncomputable def Cb0 {R:Type} (lf:Nat) (now:Int) (u:By) (ex:Bool) (k0:Unit->Option R):Option R:=
 k0 ()
theorem Bq8 (d:Nat) (now u ex):evC (VW lf) (d+1) σ yh 23 [pI now,.s (.nilp),.s (.nilp),pS u,pB ex] [] s=Cb0 lf now u ex (λ_=>some (.tup [(gCv (0:Int) e0 false),pB false],[(bCv (0:Int) e0 false),.box [pS e0,pB false,pI (0:Int)],.box [pS e0,pB false]],s)):=by
 refine (evE (fn:=Tryz.f23) (by kernel_rfl)).trans ?_
 generalize evC (VW lf) d=cl
 unfold Cb0;kernel_rfl
noncomputable abbrev Ry:Code:=D0 Tryz.f17
noncomputable def Cs (lf:Nat):Cfg:=B8 lf [17] (A3 []) [(22,Rg),(23,UI),(24,UM)]
 (A3 [(12,[8]),(11,[8,0]),(10,[4,0,0,1,0,3,33]),(9,[4,0,0,1,0,3,0]),(8,[4,0,0,1,0,2]),(7,[4,0,0,1,0,27]),(6,[8]),(5,[4,0,0,0,0,0,0,22]),(4,[4,0,0,0,0,0,0,0]),(3,[8]),(2,[4,0,0,0,0,0,12]),(1,[4,0,0,0,0,0]),(0,[4,0,0,0,0])]) [22] (A3 [(0,[8,0]),(1,[4,0,0,1,0])]) (some [8]) [] [(44,Wh)] []
noncomputable def Zs {R:Type} (lf:Nat) (x'0:By) (xs:List By) (self:Int->Int->By->Int->Int->Int->Int->Int->Int->Int->Int->Int->Option R) (n0 n1:Int) (s2:By) (n3 n4 n5 n6 n7 n8v n9 n10 n11:Int) (k0:Int->Int->By->Int->Int->Int->Int->Int->Int->Int->Int->Int->Option R):Option R:=
 self n0 n1 s2 n3 n4 n5 n6 n7 n8v n9 n10 n11
noncomputable def Oh {R:Type} (lf:Nat) (L:List By) (n0 n1:Int) (s2:By) (n3 n4 n5 n6 n7 n8v n9 n10 n11:Int) (k0:Int->Int->By->Int->Int->Int->Int->Int->Int->Int->Int->Int->Option R):Option R:=
 B12 (α:=Int->Int->By->Int->Int->Int->Int->Int->Int->Int->Int->Int->Option R) k0 (λx'0 xs self n0 n1 s2 n3 n4 n5 n6 n7 n8v n9 n10 n11=>Zs lf x'0 xs self n0 n1 s2 n3 n4 n5 n6 n7 n8v n9 n10 n11 k0) L n0 n1 s2 n3 n4 n5 n6 n7 n8v n9 n10 n11
theorem EH {R:Type} (lf:Nat) (x'0:By) (xs:List By) (n0 n1:Int) (s2:By) (n3 n4 n5 n6 n7 n8v n9 n10 n11:Int) (k0:Int->Int->By->Int->Int->Int->Int->Int->Int->Int->Int->Int->Option R):Oh lf (x'0::xs) n0 n1 s2 n3 n4 n5 n6 n7 n8v n9 n10 n11 k0=Zs lf x'0 xs (λn0 n1 s2 n3 n4 n5 n6 n7 n8v n9 n10 n11=>Oh lf xs n0 n1 s2 n3 n4 n5 n6 n7 n8v n9 n10 n11 k0) n0 n1 s2 n3 n4 n5 n6 n7 n8v n9 n10 n11 k0:=rfl
theorem XA (L:List By) (n0 n1:Int) (s2:By) (n3 n4 n5 n6 n7 n8v n9 n10 n11:Int):Q4 #[38] (gp [(4,.ptr 0 0 0),(0,.ptr 1 0 0),(0,.ptr 2 0 0),(1,.ptr 4 0 0),(0,.ptr 5 0 0),(27,.fnr (Fn.func 44) [] [.bad])] 12) (bd (Cs lf) cl yh (cd [1,0,1,1,1,1,0,1,0,0] Ry)) (bd (Cs lf) cl yh (cd [1,0,1,1,1,1,0,1,0,1] Ry)) (L.map (λ(x'0:By)=>([pS x'0]:List PV))) [.box [pI n0],.box [.s (.nilp)],.box [.s (.nilp)],(bH n1 s2 n3 n4 n5 n6 n7 n8v n9 n10 n11),(bCv (0:Int) e0 false),(bCv (0:Int) e0 false),(bCv (0:Int) e0 false),.dead] s (rgK (gp [(4,.ptr 0 0 0),(0,.ptr 1 0 0),(0,.ptr 2 0 0),(1,.ptr 4 0 0),(0,.ptr 5 0 0),(27,.fnr (Fn.func 44) [] [.bad])] 12) (λH=>R3 H [7] [.box [.bad]]) k) =
 Oh lf L n0 n1 s2 n3 n4 n5 n6 n7 n8v n9 n10 n11 (λn0 n1 s2 n3 n4 n5 n6 n7 n8v n9 n10 n11=>k .normal ⟨gp [(4,.ptr 0 0 0),(0,.ptr 1 0 0),(0,.ptr 2 0 0),(1,.ptr 4 0 0),(0,.ptr 5 0 0),(27,.fnr (Fn.func 44) [] [.bad])] 12,[.box [pI n0],.box [.s (.nilp)],.box [.s (.nilp)],(bH n1 s2 n3 n4 n5 n6 n7 n8v n9 n10 n11),(bCv (0:Int) e0 false),(bCv (0:Int) e0 false),(bCv (0:Int) e0 false),.box [.bad]],s⟩):=by
 induction L generalizing n0 n1 s2 n3 n4 n5 n6 n7 n8v n9 n10 n11 with
 | nil=>rfl
 | cons x'0 xs ih=>rw [EH];unfold Zs;exact (Eq.trans (by kernel_rfl) (ih n0 n1 s2 n3 n4 n5 n6 n7 n8v n9 n10 n11))
noncomputable def Wp {R:Type} (lf:Nat) (n0 n1:Int) (s2:By) (n3 n4 n5 n6 n7 n8v n9 n10 n11:Int) (k0:Int->Int->By->Int->Int->Int->Int->Int->Int->Int->Int->Int->Option R):Option R:=
 cond (A2 s2.length) (Oh lf (Qp s2) n0 n1 s2 n3 n4 n5 n6 n7 n8v n9 n10 n11 k0) none
abbrev EG (b:Code):Prop:=∀ (k:Out->St σ->Option R) n0 n1 s2 n3 n4 n5 n6 n7 n8v n9 n10 n11,A9 (Cs lf) cl yh b ⟨gp [(4,.ptr 0 0 0),(0,.ptr 1 0 0),(0,.ptr 2 0 0),(1,.ptr 4 0 0),(0,.ptr 5 0 0),(27,.fnr (Fn.func 44) [] [.ptr 7 0 0])] 12,[.box [pI n0],.box [.s (.nilp)],.box [.s (.nilp)],(bH n1 s2 n3 n4 n5 n6 n7 n8v n9 n10 n11),(bCv (0:Int) e0 false),(bCv (0:Int) e0 false),(bCv (0:Int) e0 false),.box [pS s2]],s⟩ k =
 Wp lf n0 n1 s2 n3 n4 n5 n6 n7 n8v n9 n10 n11 (λn0 n1 s2 n3 n4 n5 n6 n7 n8v n9 n10 n11=>k .normal ⟨gp [(4,.ptr 0 0 0),(0,.ptr 1 0 0),(0,.ptr 2 0 0),(1,.ptr 4 0 0),(0,.ptr 5 0 0),(27,.fnr (Fn.func 44) [] [.bad])] 12,[.box [pI n0],.box [.s (.nilp)],.box [.s (.nilp)],(bH n1 s2 n3 n4 n5 n6 n7 n8v n9 n10 n11),(bCv (0:Int) e0 false),(bCv (0:Int) e0 false),(bCv (0:Int) e0 false),.box [.bad]],s⟩)
theorem WZ:EG (R:=R) lf cl yh s (cd [1,0,1,1,1,1,0,1,0] Ry):=by
 intro k n0 n1 s2 n3 n4 n5 n6 n7 n8v n9 n10 n11;unfold Wp;exact ((Ba4 [1,0,1,1,1,1,0,1,0] (by kernel_rfl)).trans (by kernel_rfl)).trans (Nh (XA lf cl yh s k (Qp s2) n0 n1 s2 n3 n4 n5 n6 n7 n8v n9 n10 n11))
noncomputable def A87 {R:Type} (lf:Nat) (now kd:Int) (nm:By) (v4 a0 a1 a2 a3 a4 a5 a6 a7:Int) (k0:Int->Int->By->Int->Int->Int->Int->Int->Int->Int->Int->Int->Option R) (k1:Int->Int->By->Int->Int->Int->Int->Int->Int->Int->Int->Int->Option R):Option R:=
 cond (kd != 1)
 (k0 now kd nm v4 a0 a1 a2 a3 a4 a5 a6 a7)
 (cond (A2 nm.length)
  (cond (ltN v4 4294967296)
  (cond (ok8 a0 a1 a2 a3 a4 a5 a6 a7)
   (cond (not (L1 (mkH kd nm v4 (n8 a0 a1 a2 a3 a4 a5 a6 a7))))
   (k0 now kd nm v4 a0 a1 a2 a3 a4 a5 a6 a7)
   (Wp lf now kd nm v4 a0 a1 a2 a3 a4 a5 a6 a7 k1))
   none)
  none)
  none)
theorem Bq9 (b_101111010:Code) (h_cfdN_e1:EG (R:=PV × List Blk × σ) lf cl yh s b_101111010) (now kd:Int) (nm:By) (v4 a0 a1 a2 a3 a4 a5 a6 a7:Int):A9 (Cs lf) cl yh (cd [] (N4 [1,0,1,1,1,1,0,1,0] b_101111010 Ry)) ⟨[pI now,.s (.nilp),.s (.nilp),(gH kd nm v4 a0 a1 a2 a3 a4 a5 a6 a7)]++tps 46,[],s⟩ (G5 (Cs lf) Tryz.f17)=A87 lf now kd nm v4 a0 a1 a2 a3 a4 a5 a6 a7 (λn0 n1 s2 n3 n4 n5 n6 n7 n8v n9 n10 n11=>some ((gCv (0:Int) e0 false),[.box [pI n0],.box [.s (.nilp)],.box [.s (.nilp)],(bH n1 s2 n3 n4 n5 n6 n7 n8v n9 n10 n11),(bCv (0:Int) e0 false),(bCv (0:Int) e0 false)],s)) (λn0 n1 s2 n3 n4 n5 n6 n7 n8v n9 n10 n11=>some ((gCv (0:Int) e0 false),[.box [pI n0],.box [.s (.nilp)],.box [.s (.nilp)],(bH n1 s2 n3 n4 n5 n6 n7 n8v n9 n10 n11),(bCv (0:Int) e0 false),(bCv (0:Int) e0 false),(bCv (0:Int) e0 false),.box [.bad]],s)):=by
 unfold A87;exact (Eq.trans (by kernel_rfl) (A0 rfl (A0 (A0 (A0 (A0 rfl ((h_cfdN_e1 (H7 0 (I5 (Cs lf) cl yh (cd [1,0,1,1,1,1,1] Ry) (G5 (Cs lf) Tryz.f17))) now kd nm v4 a0 a1 a2 a3 a4 a5 a6 a7).trans (by kernel_rfl))) rfl) rfl) rfl)))
theorem Br0 (d:Nat) (now kd nm v4 a0 a1 a2 a3 a4 a5 a6 a7):evC (Cs lf) (d+1) σ yh 17 [pI now,.s (.nilp),.s (.nilp),(gH kd nm v4 a0 a1 a2 a3 a4 a5 a6 a7)] [] s=A87 lf now kd nm v4 a0 a1 a2 a3 a4 a5 a6 a7 (λn0 n1 s2 n3 n4 n5 n6 n7 n8v n9 n10 n11=>some ((gCv (0:Int) e0 false),[.box [pI n0],.box [.s (.nilp)],.box [.s (.nilp)],(bH n1 s2 n3 n4 n5 n6 n7 n8v n9 n10 n11),(bCv (0:Int) e0 false),(bCv (0:Int) e0 false)],s)) (λn0 n1 s2 n3 n4 n5 n6 n7 n8v n9 n10 n11=>some ((gCv (0:Int) e0 false),[.box [pI n0],.box [.s (.nilp)],.box [.s (.nilp)],(bH n1 s2 n3 n4 n5 n6 n7 n8v n9 n10 n11),(bCv (0:Int) e0 false),(bCv (0:Int) e0 false),(bCv (0:Int) e0 false),.box [.bad]],s)):=
 (evE (fn:=Tryz.f17) (by kernel_rfl)).trans (Eq.trans (by kernel_rfl) (Bq9 lf (evC (Cs lf) d) yh s (cd [1,0,1,1,1,1,0,1,0] Ry) (WZ lf (evC (Cs lf) d) yh s) now kd nm v4 a0 a1 a2 a3 a4 a5 a6 a7))
noncomputable abbrev A88 (now kd:Int) (nm:By) (v4 a0 a1 a2 a3 a4 a5 a6 a7:Int):Option (PV × List Blk × Unit):=A87 LF now kd nm v4 a0 a1 a2 a3 a4 a5 a6 a7 (λn0 n1 s2 n3 n4 n5 n6 n7 n8v n9 n10 n11=>some ((gCv (0:Int) e0 false),[.box [pI n0],.box [.s (.nilp)],.box [.s (.nilp)],(bH n1 s2 n3 n4 n5 n6 n7 n8v n9 n10 n11),(bCv (0:Int) e0 false),(bCv (0:Int) e0 false)],())) (λn0 n1 s2 n3 n4 n5 n6 n7 n8v n9 n10 n11=>some ((gCv (0:Int) e0 false),[.box [pI n0],.box [.s (.nilp)],.box [.s (.nilp)],(bH n1 s2 n3 n4 n5 n6 n7 n8v n9 n10 n11),(bCv (0:Int) e0 false),(bCv (0:Int) e0 false),(bCv (0:Int) e0 false),.box [.bad]],()))
noncomputable def WN (lf:Nat):Cfg:=B8 lf [13] (A3 []) [(15,OI),(17,A47),(16,A57)]
 (A3 [(4,[10,0]),(3,[10,0]),(2,[2,0,0,0,0,3,1,0,7]),(1,[2,0,0,0,0,3,1,0]),(0,[2,0,0,0,0,3])]) [] (A3 []) (some [10,0]) [] [] [] (nt:=[(26,4,9,1)])
noncomputable def By5 {R:Type} (lf:Nat) (q:By) (de:Int) (im se pr up ba l_z l_t:Bool) (l:LL) (now:Int) (k0:Int->Int->By->Int->By->Int->Bool->Bool->Bool->Bool->Bool->Bool->Bool->LL->Int->Int->By->By->By->Int->By->Int->Int->Int->Int->Int->Int->Int->Int->Int->Int->By->Option R):Option R:=
 cond (A2 q.length)
 (vl (E3 q) λp'1=>
  cond ((uE p'1) != 0)
  (k0 0 0 e0 (uE p'1) q de im se pr up ba l_z l_t l 0 0 e0 (uS p'1) (uU p'1) (uK p'1) (uN p'1) (uV p'1) (uA p'1 0) (uA p'1 1) (uA p'1 2) (uA p'1 3) (uA p'1 4) (uA p'1 5) (uA p'1 6) (uA p'1 7) (uP p'1) (uR p'1))
  (cond (A2 (List.length (uN p'1)))
   (cond (ltN (uV p'1) 4294967296)
   (cond (okQ p'1)
    (cond (smU (uS p'1) (uU p'1) (uN p'1) (uR p'1))
    (cond (ltN (uV p'1) 4294967296)
     (cond (okQ p'1)
     (cond (T7 (uP p'1))
      (cond (List.all l isS)
      (cond (A2 l.length)
       (vl (Zt (uS p'1) (uU p'1) (uK p'1) (uN p'1) (uV p'1) (uA p'1 0) (uA p'1 1) (uA p'1 2) (uA p'1 3) (uA p'1 4) (uA p'1 5) (uA p'1 6) (uA p'1 7) (uP p'1) (uR p'1) de im pr up ba (List.map elS l) (0:Int)) λp'2=>
       k0 (dA p'2) (dR p'2) (dU p'2) (dE p'2) q de im se pr up ba l_z l_t l (dA p'2) (dR p'2) (dU p'2) (uS p'1) (uU p'1) (uK p'1) (uN p'1) (uV p'1) (uA p'1 0) (uA p'1 1) (uA p'1 2) (uA p'1 3) (uA p'1 4) (uA p'1 5) (uA p'1 6) (uA p'1 7) (uP p'1) (uR p'1))
       none)
      none)
      none)
     none)
     none)
    none)
    none)
   none)
   none))
 none
theorem By6 (d:Nat) (q de im se pr up ba l_z l_t l now):evC (WN lf) (d+1) σ yh 13 [.agg [pS q,pI de,pB im],(gCx se pr up ba l_z l_t l),pI now,.s (.nilp),.s (.nilp)] [] s=By5 lf q de im se pr up ba l_z l_t l now (λr0 r1 r2 r3 s4 n5 b6 b7 b8 b9 b10 z11 t12 l13 n14 n15 s16 s17 s18 n19 s20 n21 n22 n23 n24 n25 n26 n27 n28 n29 n30 s31=>some (.tup [.agg [pI r0,pI r1,pS r2],pI r3],[.box [pS s4,pI n5,pB b6],(bCx b7 b8 b9 b10 z11 t12 l13),(bDx n14 n15 s16),(bU s17 s18 n19 s20 n21 n22 n23 n24 n25 n26 n27 n28 n29 n30 s31)],s)):=by
 refine (evE (fn:=Tryz.f13) (by kernel_rfl)).trans ?_
 generalize evC (WN lf) d=cl
 unfold By5;kernel_rfl
noncomputable abbrev Be6 (q:By) (de:Int) (im se pr up ba l_z l_t:Bool) (l:LL) (now:Int):Option (PV × List Blk × Unit):=By5 LF q de im se pr up ba l_z l_t l now (λr0 r1 r2 r3 s4 n5 b6 b7 b8 b9 b10 z11 t12 l13 n14 n15 s16 s17 s18 n19 s20 n21 n22 n23 n24 n25 n26 n27 n28 n29 n30 s31=>some (.tup [.agg [pI r0,pI r1,pS r2],pI r3],[.box [pS s4,pI n5,pB b6],(bCx b7 b8 b9 b10 z11 t12 l13),(bDx n14 n15 s16),(bU s17 s18 n19 s20 n21 n22 n23 n24 n25 n26 n27 n28 n29 n30 s31)],()))
noncomputable def WA (lf:Nat):Cfg:=B8 lf [12] (A3 []) [(13,US)]
 (A3 [(1,[8,0]),(0,[0,0,0,0,0,0,0,1])]) [] (A3 []) (some [8,0]) [] [] []
noncomputable def Bt1 {R:Type} (lf:Nat) (q:By) (de:Int) (im se pr up ba l_z l_t:Bool) (l:LL) (now:Int) (k0:Int->Int->By->Int->Int->Bool->Bool->Bool->Bool->Bool->Bool->Bool->LL->Int->Option R):Option R:=
 cond (smP q)
 (cond (List.all l isS)
  (cond (A2 l.length)
  (vl (W9 q de im pr up ba (List.map elS l)) λp'0=>
   k0 (dA p'0) (dR p'0) (dU p'0) (dE p'0) de im se pr up ba l_z l_t l now)
  none)
  none)
 none
theorem Bt2 (d:Nat) (q de im se pr up ba l_z l_t l now):evC (WA lf) (d+1) σ yh 12 [pS q,.ptr 0 0 0,.ptr 1 0 0,.ptr 2 0 0,.ptr 3 0 0,.ptr 4 0 0,.ptr 5 0 0] [.box [pI de],.box [pB im],(bCx se pr up ba l_z l_t l),.box [pI now],.box [.s (.nilp)],.box [.s (.nilp)]] s=Bt1 lf q de im se pr up ba l_z l_t l now (λr0 r1 r2 r3 n4 b5 b6 b7 b8 b9 z10 t11 l12 n13=>some (.tup [.agg [pI r0,pI r1,pS r2],pI r3],[.box [pI n4],.box [pB b5],(bCx b6 b7 b8 b9 z10 t11 l12),.box [pI n13],.box [.s (.nilp)],.box [.s (.nilp)],(bDx r0 r1 r2)],s)):=by
 refine (evE (fn:=Tryz.f12) (by kernel_rfl)).trans ?_
 generalize evC (WA lf) d=cl
 unfold Bt1;kernel_rfl
noncomputable def KB (lf:Nat):Cfg:=B8 lf [11] (A3 []) []
 (A3 [(1,[4]),(0,[2,0])]) [] (A3 []) (some [4]) [] [] [] (nt:=[(22,0,9,1)])
noncomputable def Bi7 {R:Type} (lf:Nat) (u_z u_t:Bool) (u:LL) (de:Int) (im se pr up ba l_z l_t:Bool) (l:LL) (now:Int) (k0:Int->Bool->Bool->Bool->Bool->Bool->Bool->Bool->LL->Int->Bool->Bool->LL->Option R):Option R:=
 k0 de im se pr up ba l_z l_t l now u_z u_t u
theorem Bi8 (d:Nat) (u_z u_t u de im se pr up ba l_z l_t l now):evC (KB lf) (d+1) σ yh 11 [.s (.sl u_z u_t 1 u),.fnr (Fn.func 12) [] [.ptr 0 0 0,.ptr 1 0 0,.ptr 2 0 0,.ptr 3 0 0,.ptr 4 0 0,.ptr 5 0 0]] [.box [pI de],.box [pB im],(bCx se pr up ba l_z l_t l),.box [pI now],.box [.s (.nilp)],.box [.s (.nilp)]] s=Bi7 lf u_z u_t u de im se pr up ba l_z l_t l now (λn0 b1 b2 b3 b4 b5 z6 t7 l8 n9 z10 t11 l12=>some (.fnr (Fn.func 14) [] [.ptr 6 0 0,.ptr 7 0 0],[.box [pI n0],.box [pB b1],(bCx b2 b3 b4 b5 z6 t7 l8),.box [pI n9],.box [.s (.nilp)],.box [.s (.nilp)],.box [.s (.sl z10 t11 1 l12)],.box [.fnr (Fn.func 12) [] [.ptr 0 0 0,.ptr 1 0 0,.ptr 2 0 0,.ptr 3 0 0,.ptr 4 0 0,.ptr 5 0 0]]],s)):=by
 refine (evE (fn:=Tryz.f11) (by kernel_rfl)).trans ?_
 generalize evC (KB lf) d=cl
 unfold Bi7;kernel_rfl
noncomputable abbrev Rz:Code:=D0 Tryz.f6
noncomputable def Cx (lf:Nat):Cfg:=B8 lf [6] (A3 []) []
 (A3 [(10,[14,0]),(9,[14,0,0,27]),(8,[14,0,0,0]),(7,[14,0]),(6,[14,0,0,0,14]),(5,[14,0,0,0]),(4,[14,0,0,11]),(3,[0,7,0,0,0,0,0,0,0,0]),(2,[14,0]),(1,[0,7,0,0,0,0,0,0,0,9]),(0,[0,7,0,0,0,0,0,0,0])]) [] (A3 [(0,[14,0,0]),(1,[14,0,0])]) (some [14,0]) [(11,Wl)] [(14,Wk)] [11] (nt:=[(26,4,9,1),(29,0,38,4)]) (fr:=[(7,[1,2],[7])])
noncomputable def Pz {R:Type} (lf:Nat) (x'0:Q6) (xs:List Q6) (self:LL->Option R) (l0:LL) (k0:LL->Option R) (k1:Int->LL->By->Int->Int->By->Option R) (k2:LL->Option R):Option R:=
 cond ((dE (x'0).2) != 0)
 (k1 (dE (x'0).2) l0 (x'0).1 (dA (x'0).2) (dR (x'0).2) (dU (x'0).2))
 (cond (J9 (l0.length+1))
  (vl (l0++[[(SV.str (x'0).1),(SV.int .i64 (dA (x'0).2)),(SV.int .i64 (dR (x'0).2)),(SV.str (dU (x'0).2))]]) λl'1=>
  cond ((dA (x'0).2)==3)
   (k2 l'1)
   (self l'1))
  none)
noncomputable def Eu {R:Type} (lf:Nat) (L:List Q6) (l0:LL) (k0:LL->Option R) (k1:Int->LL->By->Int->Int->By->Option R) (k2:LL->Option R):Option R:=
 B12 (α:=LL->Option R) k0 (λx'0 xs self l0=>Pz lf x'0 xs self l0 k0 k1 k2) L l0
theorem FW {R:Type} (lf:Nat) (x'0:Q6) (xs:List Q6) (l0:LL) (k0:LL->Option R) (k1:Int->LL->By->Int->Int->By->Option R) (k2:LL->Option R):Eu lf (x'0::xs) l0 k0 k1 k2=Pz lf x'0 xs (λl0=>Eu lf xs l0 k0 k1 k2) l0 k0 k1 k2:=rfl
theorem Ac5 (L:List Q6) (l0:LL):Q4 #[29] (gp [(14,.ptr 7 0 0),(0,.ptr 8 0 0),(0,.ptr 10 0 0),(11,.fnr (Fn.func 14) [] [.bad,.bad])] 17) (bd (Cx lf) cl yh (cd [1,0,1,1,1,0,1,0,0] Rz)) (bd (Cx lf) cl yh (cd [1,0,1,1,1,0,1,0,1] Rz)) (L.map (λ(x'0:Q6)=>([.agg [pS (x'0).1,pI (dA (x'0).2),pI (dR (x'0).2),pS (dU (x'0).2),pI (dE (x'0).2)]]:List PV))) [.dead,.dead,.dead,.dead,.dead,.dead,.arr true 38 4 [],.box [.fl 6],.box [pI (0:Int)],.arr true 38 4 l0,.box [.fl 9],.dead,.dead] s (rgK (gp [(14,.ptr 7 0 0),(0,.ptr 8 0 0),(0,.ptr 10 0 0),(11,.fnr (Fn.func 14) [] [.bad,.bad])] 17) (λH=>R3 H [11,12,0,1,2,3,4,5] [.box [.bad],.box [.bad],.box [.bad],.box [.bad],.box [.bad,.bad,.bad,.bad,.bad],.box [.bad],.box [.bad],.box [.bad]]) k) =
 Eu lf L l0 (λl0=>k .normal ⟨gp [(14,.ptr 7 0 0),(0,.ptr 8 0 0),(0,.ptr 10 0 0),(11,.fnr (Fn.func 14) [] [.bad,.bad])] 17,[.box [.bad],.box [.bad],.box [.bad,.bad,.bad,.bad,.bad],.box [.bad],.box [.bad],.box [.bad],.arr true 38 4 [],.box [.fl 6],.box [pI (0:Int)],.arr true 38 4 l0,.box [.fl 9],.box [.bad],.box [.bad]],s⟩) (λn0 l1 s2 n3 n4 s5=>k .ret ⟨gp [(14,.ptr 7 0 0),(0,.ptr 8 0 0),(0,.ptr 10 0 0),(11,.fnr (Fn.func 14) [] [.bad,.bad])] 17,[.box [.bad],.box [.bad],.box [.bad,.bad,.bad,.bad,.bad],.box [.bad],.box [.bad],.box [.bad],.arr true 38 4 [],.box [.fl 14],.box [pI n0],.arr true 38 4 l1,.box [.fl 9],.box [.bad],.box [.bad],.box [pS s2,pI n3,pI n4,pS s5,pI n0],.arr true 0 0 []],s⟩) (λl0=>k (.exit 0) ⟨gp [(14,.ptr 7 0 0),(0,.ptr 8 0 0),(0,.ptr 10 0 0),(11,.fnr (Fn.func 14) [] [.bad,.bad])] 17,[.box [.bad],.box [.bad],.box [.bad,.bad,.bad,.bad,.bad],.box [.bad],.box [.bad],.box [.bad],.arr true 38 4 [],.box [.fl 6],.box [pI (0:Int)],.arr true 38 4 l0,.box [.fl 9],.box [.bad],.box [.bad]],s⟩):=by
 induction L generalizing l0 with
 | nil=>rfl
 | cons x'0 xs ih=>rw [FW];unfold Pz;exact (Eq.trans (by kernel_rfl) (A0 rfl (A0 (A5 λl'1=>(A0 rfl (ih l'1))) rfl)))
noncomputable def Xc {R:Type} (lf:Nat) (n0:Int) (b1 b2 b3 b4 b5 z6 t7:Bool) (l8:LL) (n9:Int) (z10 t11:Bool) (l12:LL) (k0:LL->Option R) (k1:Int->LL->By->Int->Int->By->Option R) (k2:LL->Option R):Option R:=
 cond ((List.all l12 isS)&&((List.all l12 Qk)&&((A2 l12.length)&&((List.all l8 isS)&&(A2 l8.length))))) (Eu lf (K9 n0 b1 b3 b4 b5 (List.map elS l8) (List.map elS l12)) [] k0 k1 k2) none
abbrev FU (b:Code):Prop:=∀ (k:Out->St σ->Option R) n0 b1 b2 b3 b4 b5 z6 t7 l8 n9 z10 t11 l12,A9 (Cx lf) cl yh b ⟨gp [(14,.ptr 7 0 0),(0,.ptr 8 0 0),(0,.ptr 10 0 0),(11,.fnr (Fn.func 14) [] [.ptr 11 0 0,.ptr 12 0 0])] 17,[.box [pI n0],.box [pB b1],(bCx b2 b3 b4 b5 z6 t7 l8),.box [pI n9],.box [.s (.nilp)],.box [.s (.nilp)],.arr true 38 4 [],.box [.fl 6],.box [pI (0:Int)],.arr true 38 4 [],.box [.fl 9],.box [.s (.sl z10 t11 1 l12)],.box [.fnr (Fn.func 12) [] [.ptr 0 0 0,.ptr 1 0 0,.ptr 2 0 0,.ptr 3 0 0,.ptr 4 0 0,.ptr 5 0 0]]],s⟩ k =
 Xc lf n0 b1 b2 b3 b4 b5 z6 t7 l8 n9 z10 t11 l12 (λl0=>k .normal ⟨gp [(14,.ptr 7 0 0),(0,.ptr 8 0 0),(0,.ptr 10 0 0),(11,.fnr (Fn.func 14) [] [.bad,.bad])] 17,[.box [.bad],.box [.bad],.box [.bad,.bad,.bad,.bad,.bad],.box [.bad],.box [.bad],.box [.bad],.arr true 38 4 [],.box [.fl 6],.box [pI (0:Int)],.arr true 38 4 l0,.box [.fl 9],.box [.bad],.box [.bad]],s⟩) (λn0 l1 s2 n3 n4 s5=>k .ret ⟨gp [(14,.ptr 7 0 0),(0,.ptr 8 0 0),(0,.ptr 10 0 0),(11,.fnr (Fn.func 14) [] [.bad,.bad])] 17,[.box [.bad],.box [.bad],.box [.bad,.bad,.bad,.bad,.bad],.box [.bad],.box [.bad],.box [.bad],.arr true 38 4 [],.box [.fl 14],.box [pI n0],.arr true 38 4 l1,.box [.fl 9],.box [.bad],.box [.bad],.box [pS s2,pI n3,pI n4,pS s5,pI n0],.arr true 0 0 []],s⟩) (λl0=>k (.exit 0) ⟨gp [(14,.ptr 7 0 0),(0,.ptr 8 0 0),(0,.ptr 10 0 0),(11,.fnr (Fn.func 14) [] [.bad,.bad])] 17,[.box [.bad],.box [.bad],.box [.bad,.bad,.bad,.bad,.bad],.box [.bad],.box [.bad],.box [.bad],.arr true 38 4 [],.box [.fl 6],.box [pI (0:Int)],.arr true 38 4 l0,.box [.fl 9],.box [.bad],.box [.bad]],s⟩)
theorem Ac4:FU (R:=R) lf cl yh s (cd [1,0,1,1,1,0,1,0] Rz):=by
 intro k n0 b1 b2 b3 b4 b5 z6 t7 l8 n9 z10 t11 l12;unfold Xc;exact ((Ba4 [1,0,1,1,1,0,1,0] (by kernel_rfl)).trans (by kernel_rfl)).trans (Nh (Ac5 lf cl yh s k (K9 n0 b1 b3 b4 b5 (List.map elS l8) (List.map elS l12)) []))
noncomputable def Bh6 {R:Type} (lf:Nat) (u_z u_t:Bool) (u:LL) (de:Int) (im se pr up ba l_z l_t:Bool) (l:LL) (now:Int) (k0:Int->Bool->Bool->Bool->Bool->Bool->Bool->Bool->LL->Int->Option R) (k1:LL->Option R) (k2:Int->LL->By->Int->Int->By->Option R):Option R:=
 cond ((u.length:Int)==0)
 (k0 de im se pr up ba l_z l_t l now)
 (cond (ltI 20 (u.length:Int))
  (k0 de im se pr up ba l_z l_t l now)
  (Xc lf de im se pr up ba l_z l_t l now u_z u_t u k1 k2 k1))
theorem B17 (b_10111010:Code) (h_rfol_e1:FU (R:=PV × List Blk × σ) lf cl yh s b_10111010) (u_z u_t:Bool) (u:LL) (de:Int) (im se pr up ba l_z l_t:Bool) (l:LL) (now:Int):A9 (Cx lf) cl yh (cd [] (N4 [1,0,1,1,1,0,1,0] b_10111010 Rz)) ⟨[.s (.sl u_z u_t 1 u),pI de,pB im,(gCx se pr up ba l_z l_t l),pI now,.s (.nilp),.s (.nilp)]++tps 39,[],s⟩ (G5 (Cx lf) Tryz.f6)=Bh6 lf u_z u_t u de im se pr up ba l_z l_t l now (λn0 b1 b2 b3 b4 b5 z6 t7 l8 n9=>some (.tup [.fl 9,pI (3:Int)],[.box [pI n0],.box [pB b1],(bCx b2 b3 b4 b5 z6 t7 l8),.box [pI n9],.box [.s (.nilp)],.box [.s (.nilp)],.arr true 38 4 [],.box [.fl 9],.box [pI (3:Int)],.arr true 0 0 []],s)) (λl0=>some (.tup [.fl 9,pI (0:Int)],[.box [.bad],.box [.bad],.box [.bad,.bad,.bad,.bad,.bad],.box [.bad],.box [.bad],.box [.bad],.arr true 38 4 [],.box [.fl 9],.box [pI (0:Int)],.arr true 38 4 l0,.box [.fl 9],.box [.bad],.box [.bad]],s)) (λr0 l1 s2 n3 n4 s5=>some (.tup [.fl 14,pI r0],[.box [.bad],.box [.bad],.box [.bad,.bad,.bad,.bad,.bad],.box [.bad],.box [.bad],.box [.bad],.arr true 38 4 [],.box [.fl 14],.box [pI r0],.arr true 38 4 l1,.box [.fl 9],.box [.bad],.box [.bad],.box [pS s2,pI n3,pI n4,pS s5,pI r0],.arr true 0 0 []],s)):=by
 unfold Bh6;exact (Eq.trans (by kernel_rfl) (A0 rfl (A0 rfl ((h_rfol_e1 (H7 0 (I5 (Cx lf) cl yh (cd [1,0,1,1,1,1] Rz) (G5 (Cx lf) Tryz.f6))) de im se pr up ba l_z l_t l now u_z u_t u).trans (by kernel_rfl)))))
theorem B18 (d:Nat) (u_z u_t u de im se pr up ba l_z l_t l now):evC (Cx lf) (d+1) σ yh 6 [.s (.sl u_z u_t 1 u),pI de,pB im,(gCx se pr up ba l_z l_t l),pI now,.s (.nilp),.s (.nilp)] [] s=Bh6 lf u_z u_t u de im se pr up ba l_z l_t l now (λn0 b1 b2 b3 b4 b5 z6 t7 l8 n9=>some (.tup [.fl 9,pI (3:Int)],[.box [pI n0],.box [pB b1],(bCx b2 b3 b4 b5 z6 t7 l8),.box [pI n9],.box [.s (.nilp)],.box [.s (.nilp)],.arr true 38 4 [],.box [.fl 9],.box [pI (3:Int)],.arr true 0 0 []],s)) (λl0=>some (.tup [.fl 9,pI (0:Int)],[.box [.bad],.box [.bad],.box [.bad,.bad,.bad,.bad,.bad],.box [.bad],.box [.bad],.box [.bad],.arr true 38 4 [],.box [.fl 9],.box [pI (0:Int)],.arr true 38 4 l0,.box [.fl 9],.box [.bad],.box [.bad]],s)) (λr0 l1 s2 n3 n4 s5=>some (.tup [.fl 14,pI r0],[.box [.bad],.box [.bad],.box [.bad,.bad,.bad,.bad,.bad],.box [.bad],.box [.bad],.box [.bad],.arr true 38 4 [],.box [.fl 14],.box [pI r0],.arr true 38 4 l1,.box [.fl 9],.box [.bad],.box [.bad],.box [pS s2,pI n3,pI n4,pS s5,pI r0],.arr true 0 0 []],s)):=
 (evE (fn:=Tryz.f6) (by kernel_rfl)).trans (Eq.trans (by kernel_rfl) (B17 lf (evC (Cx lf) d) yh s (cd [1,0,1,1,1,0,1,0] Rz) (Ac4 lf (evC (Cx lf) d) yh s) u_z u_t u de im se pr up ba l_z l_t l now))
noncomputable abbrev Bh7 (u_z u_t:Bool) (u:LL) (de:Int) (im se pr up ba l_z l_t:Bool) (l:LL) (now:Int):Option (PV × List Blk × Unit):=Bh6 LF u_z u_t u de im se pr up ba l_z l_t l now (λn0 b1 b2 b3 b4 b5 z6 t7 l8 n9=>some (.tup [.fl 9,pI (3:Int)],[.box [pI n0],.box [pB b1],(bCx b2 b3 b4 b5 z6 t7 l8),.box [pI n9],.box [.s (.nilp)],.box [.s (.nilp)],.arr true 38 4 [],.box [.fl 9],.box [pI (3:Int)],.arr true 0 0 []],())) (λl0=>some (.tup [.fl 9,pI (0:Int)],[.box [.bad],.box [.bad],.box [.bad,.bad,.bad,.bad,.bad],.box [.bad],.box [.bad],.box [.bad],.arr true 38 4 [],.box [.fl 9],.box [pI (0:Int)],.arr true 38 4 l0,.box [.fl 9],.box [.bad],.box [.bad]],())) (λr0 l1 s2 n3 n4 s5=>some (.tup [.fl 14,pI r0],[.box [.bad],.box [.bad],.box [.bad,.bad,.bad,.bad,.bad],.box [.bad],.box [.bad],.box [.bad],.arr true 38 4 [],.box [.fl 14],.box [pI r0],.arr true 38 4 l1,.box [.fl 9],.box [.bad],.box [.bad],.box [pS s2,pI n3,pI n4,pS s5,pI r0],.arr true 0 0 []],()))
noncomputable abbrev Aj8:Code:=D0 Tryz.f8
noncomputable def Gt (lf:Nat):Cfg:=B8 lf [8] (A3 [(4,[0,0,2,0])]) []
 (A3 [(8,[4]),(5,[0,0,3]),(7,[4]),(6,[0,0,3,19]),(4,[0,0,3,8]),(3,[0,0,3]),(2,[4]),(1,[0,0,8]),(0,[0,0])]) [] (A3 [(0,[]),(1,[0,0,3])]) (some [4]) [] [] []
noncomputable def Dj {R:Type} (lf n:Nat) (a_z0 a_t1:Bool) (a2:LL) (b_z3 b_t4:Bool) (b5:LL) (i6:Int) (k0:Unit->Option R) (k1:Unit->Option R):Option R:=match n with
 | 0=>none
 | n+1=>
  cond (ltI i6 (a2.length:Int))
   (cond (inR i6 a2.length)
   (cond (okE ⟨true,true,[.str,.int .i64,.int .i64,.str]⟩ a2 (Int.toNat i6) 0)
    (cond (inR i6 b5.length)
    (cond (okE ⟨true,true,[.str,.int .i64,.int .i64,.str]⟩ b5 (Int.toNat i6) 0)
     (cond (not (((gX a2 (Int.toNat i6) 0)==(gX b5 (Int.toNat i6) 0))&&(((gE a2 (Int.toNat i6) 1)==(gE b5 (Int.toNat i6) 1))&&(((gE a2 (Int.toNat i6) 2)==(gE b5 (Int.toNat i6) 2))&&(((gX a2 (Int.toNat i6) 3)==(gX b5 (Int.toNat i6) 3))&&true)))))
     (k0 ())
     (Dj lf n a_z0 a_t1 a2 b_z3 b_t4 b5 (A4 (i6+1)) k0 k1))
     none)
    none)
    none)
   none)
   (k1 ())
theorem QZ (n:Nat) (a_z0 a_t1:Bool) (a2:LL) (b_z3 b_t4:Bool) (b5:LL) (i6:Int):F0 0 ((Gt lf).keep 4) (bd (Gt lf) cl yh (cd [1,1,0,1,0,0] Aj8)) n ⟨gp [(0,.s (.sl a_z0 a_t1 4 a2)),(0,.s (.sl b_z3 b_t4 4 b5)),(3,pI i6)] 20,[],s⟩ k =
 Dj lf n a_z0 a_t1 a2 b_z3 b_t4 b5 i6 (λ_=>k .ret ⟨gp [(4,pB false)] 21,[],s⟩) (λ_=>k (.exit 0) ⟨gp [] 26,[],s⟩):=by
 induction n generalizing a_z0 a_t1 a2 b_z3 b_t4 b5 i6 with
 | zero=>rfl
 | succ n ih=>rw [Dj];simp only [<-ih];kernel_rfl
noncomputable def Al7 {R:Type} (lf:Nat) (a_z0 a_t1:Bool) (a2:LL) (b_z3 b_t4:Bool) (b5:LL) (k0:Bool->Option R):Option R:=
 cond ((a2.length:Int) != (b5.length:Int))
 (k0 false)
 (Dj lf lf a_z0 a_t1 a2 b_z3 b_t4 b5 0 (λ_=>k0 false) (λ_=>k0 true))
theorem Bd2 (d:Nat) (a_z0 a_t1 a2 b_z3 b_t4 b5):evC (Gt lf) (d+1) σ yh 8 [.s (.sl a_z0 a_t1 4 a2),.s (.sl b_z3 b_t4 4 b5)] [] s=Al7 lf a_z0 a_t1 a2 b_z3 b_t4 b5 (λr0=>some (pB r0,[],s)):=by
 refine (evE (fn:=Tryz.f8) (by kernel_rfl)).trans ?_
 generalize evC (Gt lf) d=cl
 unfold Al7;exact (Eq.trans (by kernel_rfl) (A0 rfl ((QZ lf cl yh s (H7 0 (I5 (Gt lf) cl yh (cd [1,1,1] Aj8) (G5 (Gt lf) Tryz.f8))) lf a_z0 a_t1 a2 b_z3 b_t4 b5 0).trans (by kernel_rfl))))
noncomputable def JT (lf:Nat):Cfg:=B8 lf [4] (A3 []) [(9,OB)]
 (A3 [(1,[4]),(0,[0,2])]) [9] (A3 []) (some [4]) [] [] [] (nt:=[(26,4,9,1)])
noncomputable def Am4 {R:Type} (lf:Nat) (urls_z0 urls_t1:Bool) (urls2:LL) (c3 c4 c5 c6 c_z7 c_t8:Bool) (c9:LL) (k0:Bool->(List Blk)->Option R):Option R:=
 cond (not (ltI 30 (urls2.length:Int)))
 (cond (List.all urls2 isS)
  (cond (A2 urls2.length)
  (cond (Q1 (1500:Int) (List.map elS urls2))
   (cond (not (ltI 20 (c9.length:Int)))
   (cond (List.all c9 isS)
    (cond (A2 c9.length)
    (k0 (Q1 (400:Int) (List.map elS c9)) [(bCx c3 c4 c5 c6 c_z7 c_t8 c9)])
    none)
    none)
   (k0 false [(bCx c3 c4 c5 c6 c_z7 c_t8 c9)]))
   (k0 false [(bCx c3 c4 c5 c6 c_z7 c_t8 c9)]))
  none)
  none)
 (k0 false [(bCx c3 c4 c5 c6 c_z7 c_t8 c9)])
theorem Bd9 (d:Nat) (urls_z0 urls_t1 urls2 c3 c4 c5 c6 c_z7 c_t8 c9):evC (JT lf) (d+1) σ yh 4 [.s (.sl urls_z0 urls_t1 1 urls2),(gCx c3 c4 c5 c6 c_z7 c_t8 c9)] [] s=Am4 lf urls_z0 urls_t1 urls2 c3 c4 c5 c6 c_z7 c_t8 c9 (λr0 H1=>some (pB r0,H1,s)):=by
 refine (evE (fn:=Tryz.f4) (by kernel_rfl)).trans ?_
 generalize evC (JT lf) d=cl
 unfold Am4;kernel_rfl
noncomputable def WR (lf:Nat):Cfg:=B8 lf [10] (A3 []) []
 (A3 [(6,[2,0]),(5,[2,0]),(4,[4,12]),(3,[4]),(2,[2,0]),(1,[0,6]),(0,[0])]) [] (A3 []) (some [2,0]) [] [] []
noncomputable def B14 {R:Type} (lf:Nat) (hops_z0 hops_t1:Bool) (hops2:LL) (k0:By->Bool->(List Blk)->Option R):Option R:=
 cond ((hops2.length:Int)==0)
 (k0 e0 false [])
 (vl (A4 ((hops2.length:Int)-1)) λn'4=>
  cond (inR n'4 hops2.length)
  (cond (okE ⟨true,true,[.int .i64,.int .i64,.str]⟩ hops2 (Int.toNat n'4) 1)
   (vl (gE hops2 (Int.toNat n'4) 1) λn'5=>
   vl (gE hops2 (Int.toNat n'4) 2) λn'6=>
    vl (gX hops2 (Int.toNat n'4) 3) λs'7=>
    cond (n'5==3)
     (k0 e0 false [(bDx n'5 n'6 s'7)])
     (k0 s'7 true [(bDx n'5 n'6 s'7)]))
   none)
  none)
theorem B15 (d:Nat) (hops_z0 hops_t1 hops2):evC (WR lf) (d+1) σ yh 10 [.s (.sl hops_z0 hops_t1 4 hops2)] [] s=B14 lf hops_z0 hops_t1 hops2 (λr0 r1 H2=>some (.tup [pS r0,pB r1],H2,s)):=by
 refine (evE (fn:=Tryz.f10) (by kernel_rfl)).trans ?_
 generalize evC (WR lf) d=cl
 unfold B14;kernel_rfl
noncomputable abbrev Bq7:Code:=D0 Tryz.f14
noncomputable def Kv (lf:Nat):Cfg:=B8 lf [14] (A3 [(1,[0,1,5,0,0])]) []
 (A3 [(5,[0,1,5,0,0]),(4,[0,1,5,0,0,16]),(3,[0,1,2,0,0,0,0,0]),(2,[0,1,2,2,0,0]),(1,[0,1,5,0,0,0]),(0,[0,1,5,0,0])]) [] (A3 [(0,[]),(1,[0,1,5,0,0])]) (some []) [(12,GW)] [] [12]
noncomputable def U3 {σ R:Type} (yh:Yh σ) (lf n:Nat) (z0 t1:Bool) (l2:LL) (n3 n4 n5:Int) (b6 b7 b8 b9 b10 z11 t12:Bool) (l13:LL) (n14:Int) (s:σ) (k0:Bool->Bool->LL->Int->Bool->Bool->Bool->Bool->Bool->Bool->Bool->LL->Int->Int->Int->By->σ->Option R) (k1:Bool->Bool->LL->Int->Bool->Bool->Bool->Bool->Bool->Bool->Bool->LL->Int->σ->Option R):Option R:=match n with
 | 0=>none
 | n+1=>
  cond (ltI n4 n3)
   (cond (inR n4 l2.length)
   (cond (okE Qq l2 (Int.toNat n4) 0)
    (cond (smP (gX l2 (Int.toNat n4) 0))
    (cond (List.all l13 isS)
     (cond (A2 l13.length)
     (vl (W9 (gX l2 (Int.toNat n4) 0) n5 b6 b8 b9 b10 (List.map elS l13)) λp'0=>
      ydK (yh [.agg [pS (gX l2 (Int.toNat n4) 0),pI (dA p'0),pI (dR p'0),pS (dU p'0),pI (dE p'0)]] s) λby'1 s'y1=>
      (cond (not by'1)
       (k0 z0 t1 l2 n5 b6 b7 b8 b9 b10 z11 t12 l13 n14 (dA p'0) (dR p'0) (dU p'0) s'y1)
       (U3 yh lf n z0 t1 l2 n3 (A4 (n4+1)) n5 b6 b7 b8 b9 b10 z11 t12 l13 n14 s'y1 k0 k1)))
     none)
     none)
    none)
    none)
   none)
   (k1 z0 t1 l2 n5 b6 b7 b8 b9 b10 z11 t12 l13 n14 s)
theorem TM (n:Nat) (z0 t1:Bool) (l2:LL) (n3 n4 n5:Int) (b6 b7 b8 b9 b10 z11 t12:Bool) (l13:LL) (n14:Int) (s:σ):F0 8 ((Kv lf).keep 1) (bd (Kv lf) cl yh (cd [1,0,0] Bq7)) n ⟨gp [(0,.yd),(1,.ptr 1 0 0),(5,.s (.sl z0 t1 1 l2)),(0,pI n3),(0,pI n4)] 18,[.box [.s (.sl z0 t1 1 l2)],.box [.fnr (Fn.func 12) [] [.ptr 2 0 0,.ptr 3 0 0,.ptr 4 0 0,.ptr 5 0 0,.ptr 6 0 0,.ptr 7 0 0]],.box [pI n5],.box [pB b6],(bCx b7 b8 b9 b10 z11 t12 l13),.box [pI n14],.box [.s (.nilp)],.box [.s (.nilp)]],s⟩ k =
 U3 yh lf n z0 t1 l2 n3 n4 n5 b6 b7 b8 b9 b10 z11 t12 l13 n14 s (λz0 t1 l2 n3 b4 b5 b6 b7 b8 z9 t10 l11 n12 n13 n14 s15 s=>k .ret ⟨gp [] 29,[.box [.s (.sl z0 t1 1 l2)],.box [.fnr (Fn.func 12) [] [.ptr 2 0 0,.ptr 3 0 0,.ptr 4 0 0,.ptr 5 0 0,.ptr 6 0 0,.ptr 7 0 0]],.box [pI n3],.box [pB b4],(bCx b5 b6 b7 b8 z9 t10 l11),.box [pI n12],.box [.s (.nilp)],.box [.s (.nilp)],(bDx n13 n14 s15)],s⟩) (λz0 t1 l2 n3 b4 b5 b6 b7 b8 z9 t10 l11 n12 s=>k (.exit 0) ⟨gp [] 29,[.box [.s (.sl z0 t1 1 l2)],.box [.fnr (Fn.func 12) [] [.ptr 2 0 0,.ptr 3 0 0,.ptr 4 0 0,.ptr 5 0 0,.ptr 6 0 0,.ptr 7 0 0]],.box [pI n3],.box [pB b4],(bCx b5 b6 b7 b8 z9 t10 l11),.box [pI n12],.box [.s (.nilp)],.box [.s (.nilp)]],s⟩):=by
 induction n generalizing z0 t1 l2 n3 n4 n5 b6 b7 b8 b9 b10 z11 t12 l13 n14 s with
 | zero=>rfl
 | succ n ih=>rw [U3];simp only [<-ih];kernel_rfl
noncomputable def TK {σ R:Type} (yh:Yh σ) (lf:Nat) (u_z u_t:Bool) (u:LL) (de:Int) (im se pr up ba l_z l_t:Bool) (l:LL) (now:Int) (s:σ) (k0:Bool->Bool->LL->Int->Bool->Bool->Bool->Bool->Bool->Bool->Bool->LL->Int->Int->Int->By->σ->Option R) (k1:Bool->Bool->LL->Int->Bool->Bool->Bool->Bool->Bool->Bool->Bool->LL->Int->σ->Option R):Option R:=
 U3 yh lf lf u_z u_t u (u.length:Int) 0 de im se pr up ba l_z l_t l now s k0 k1
theorem TL (d:Nat) (u_z u_t u de im se pr up ba l_z l_t l now s):evC (Kv lf) (d+1) σ yh 14 [.yd,.ptr 0 0 0,.ptr 1 0 0] [.box [.s (.sl u_z u_t 1 u)],.box [.fnr (Fn.func 12) [] [.ptr 2 0 0,.ptr 3 0 0,.ptr 4 0 0,.ptr 5 0 0,.ptr 6 0 0,.ptr 7 0 0]],.box [pI de],.box [pB im],(bCx se pr up ba l_z l_t l),.box [pI now],.box [.s (.nilp)],.box [.s (.nilp)]] s=TK yh lf u_z u_t u de im se pr up ba l_z l_t l now s (λz0 t1 l2 n3 b4 b5 b6 b7 b8 z9 t10 l11 n12 n13 n14 s15 s=>some (.tup [],[.box [.s (.sl z0 t1 1 l2)],.box [.fnr (Fn.func 12) [] [.ptr 2 0 0,.ptr 3 0 0,.ptr 4 0 0,.ptr 5 0 0,.ptr 6 0 0,.ptr 7 0 0]],.box [pI n3],.box [pB b4],(bCx b5 b6 b7 b8 z9 t10 l11),.box [pI n12],.box [.s (.nilp)],.box [.s (.nilp)],(bDx n13 n14 s15)],s)) (λz0 t1 l2 n3 b4 b5 b6 b7 b8 z9 t10 l11 n12 s=>some (.tup [],[.box [.s (.sl z0 t1 1 l2)],.box [.fnr (Fn.func 12) [] [.ptr 2 0 0,.ptr 3 0 0,.ptr 4 0 0,.ptr 5 0 0,.ptr 6 0 0,.ptr 7 0 0]],.box [pI n3],.box [pB b4],(bCx b5 b6 b7 b8 z9 t10 l11),.box [pI n12],.box [.s (.nilp)],.box [.s (.nilp)]],s)):=by
 refine (evE (fn:=Tryz.f14) (by kernel_rfl)).trans ?_
 generalize evC (Kv lf) d=cl
 unfold TK;exact (Eq.trans (by kernel_rfl) ((TM lf cl yh (H7 0 (G5 (Kv lf) Tryz.f14)) lf u_z u_t u (u.length:Int) 0 de im se pr up ba l_z l_t l now s).trans (by kernel_rfl)))
end
end
section
open Go
theorem O2 (x:Q6) (r:List Q6):F1 (x::r)=cond (x.2.e != 0) ([],x.2.e) (cond (x.2.a==3) ([x],0) (cond ((F1 r).2 != 0) ([],(F1 r).2) (x::(F1 r).1,0))):=rfl
theorem Ak6:∀ (l:List Q6),(F1 l).2=0->(F1 l).1=l.take (F1 l).1.length/\(l≠[]->(F1 l).1≠[])/\(∀ i (h:i<(F1 l).1.length),i+1<(F1 l).1.length->((F1 l).1[i]).2.a≠3)/\
  ((F1 l).1.length<l.length->∃ x,(F1 l).1.getLast? = some x/\x.2.a=3)
 | [],_=>⟨rfl,λh=>absurd rfl h,λi h=>absurd h (by simp [F1]),λh=>absurd h (by simp [F1])⟩
 | x::r,h=>by
  rw [O2] at h ⊢
  cases h1:(x.2.e != 0) with
  | true=>
   rw [h1] at h
   simp only [cond_true] at h
   simp [h] at h1
  | false=>
   rw [h1] at h
   simp only [cond_false] at h ⊢
   cases h2:(x.2.a==3) with
   | true=>
    refine ⟨by simp,λ_=>by simp,λi hi hj=>absurd hj (by simp),λ_=>⟨x,rfl,by simpa using h2⟩⟩
   | false=>
    rw [h2] at h
    simp only [cond_false] at h ⊢
    cases h3:((F1 r).2 != 0) with
    | true=>
     rw [h3] at h
     simp only [cond_true] at h
     simp [h] at h3
    | false=>
     have h3':(F1 r).2=0:=by simpa using h3
     obtain ⟨a,b,c,d⟩:=Ak6 r h3'
     simp only [cond_false]
     refine ⟨by simp only [List.length_cons,List.take_succ_cons];exact congrArg _ a,λ_=>by simp,λi hi hj=>?_,λhl=>?_⟩
     ·cases i with
      | zero=>simpa using h2
      | succ i=>simp only [List.getElem_cons_succ];exact c i (by simpa using hi) (by simpa using hj)
     ·obtain ⟨y,e1,e2⟩:=d (by simpa using hl)
      refine ⟨y,?_,e2⟩
      rw [List.getLast?_cons,e1];rfl
theorem EQ:∀ (l:List Q6) (k:Nat),(F1 l).2=0->(F1 (l.take k)).2=0/\(F1 (l.take k)).1=(F1 l).1.take k
 | [],k,h=>by simp [F1]
 | x::r,0,h=>by simp [F1]
 | x::r,k+1,h=>by
  rw [List.take_succ_cons,O2,O2]
  rw [O2] at h
  cases h1:(x.2.e != 0) with
  | true=>
   rw [h1] at h
   simp only [cond_true] at h
   simp [h] at h1
  | false=>
   rw [h1] at h
   simp only [cond_false] at h ⊢
   cases h2:(x.2.a==3) with
   | true=>simp
   | false=>
    rw [h2] at h
    simp only [cond_false] at h ⊢
    cases h3:((F1 r).2 != 0) with
    | true=>
     rw [h3] at h
     simp only [cond_true] at h
     simp [h] at h3
    | false=>
     have h3':(F1 r).2=0:=by simpa using h3
     obtain ⟨a,b⟩:=EQ r k h3'
     simp [a,b]
theorem QA:∀ (l:List Q6) (k:Nat),(F1 (l.take k)).2=0\/(F1 (l.take k)).2=(F1 l).2
 | [],k=>by simp
 | x::r,0=>by simp [F1]
 | x::r,k+1=>by
  rw [List.take_succ_cons,O2,O2]
  cases (x.2.e != 0) with
  | true=>simp
  | false=>
   simp only [cond_false]
   cases (x.2.a==3) with
   | true=>simp
   | false=>
    simp only [cond_false]
    cases h4:((F1 (r.take k)).2 != 0) with
    | false=>simp
    | true=>
     rcases QA r k with e | e
     ·rw [e] at h4;cases h4
     ·rw [<-e,h4];right;rfl
theorem Uq:∀ (l q:List Q6),(F1 l).2=0->(∃ x,(F1 l).1.getLast? = some x/\x.2.a=3)->F1 (l.take (F1 l).1.length++q)=F1 l
 | [],q,h,⟨x,e,_⟩=>by cases e
 | x::r,q,h,hb=>by
  rw [O2] at h hb ⊢
  cases h1:(x.2.e != 0) with
  | true=>
   rw [h1] at h
   simp only [cond_true] at h
   simp [h] at h1
  | false=>
   rw [h1] at h hb
   simp only [cond_false] at h hb ⊢
   cases h2:(x.2.a==3) with
   | true=>
    simp only [cond_true,List.length_singleton,List.take_succ_cons,List.take_zero,List.cons_append,List.nil_append,O2,h1,h2,cond_false]
   | false=>
    rw [h2] at h hb
    simp only [cond_false] at h hb ⊢
    cases h3:((F1 r).2 != 0) with
    | true=>
     rw [h3] at h
     simp only [cond_true] at h
     simp [h] at h3
    | false=>
     have h3':(F1 r).2=0:=by simpa using h3
     rw [h3] at hb
     simp only [cond_false] at hb ⊢
     have hb':∃ x,(F1 r).1.getLast? = some x/\x.2.a=3:=by
      obtain ⟨y,e1,e2⟩:=hb
      rw [List.getLast?_cons] at e1
      cases he:(F1 r).1.getLast? with
      | none=>
       rw [he] at e1
       cases e1
       rw [show x.2.a=3 from e2] at h2
       cases h2
      | some z=>
       rw [he] at e1
       cases e1
       exact ⟨_,rfl,e2⟩
     have ih:=Uq r q h3' hb'
     simp only [List.length_cons,List.take_succ_cons,List.cons_append,O2,h1,h2,cond_false,ih,h3]
end
section
open Go Go.Proofs
set_option maxRecDepth 100000
theorem Bg1 {p:Q7 × Nat} (h:NV p.1):ltN (uV p) 4294967296=true/\okQ p=true/\T7 (uP p)=true/\∀ sc po,mkQ sc p po=⟨sc,p.1.user,p.1.host,po,p.1.rest⟩:=by
 obtain ⟨⟨s,u,⟨k,n,v,l⟩,q,t⟩,e⟩:=p
 obtain ⟨ho,hp⟩:=h
 obtain ⟨b0,b1,b2,b3,b4,b5,b6,b7,rfl⟩:=eq8 ho.v6.1
 have hv:=ho.v4
 simp only at hv hp
 refine ⟨D2.2 ⟨by show (0:Int)<=(v:Int);omega,by show (v:Int)<_;omega⟩,Bz3 ho.v6.2,AN.2 ⟨by show _<=q;omega,by show q<_;omega⟩,λsc po=>Bf0 ho.kd⟩
theorem SD (s:By):(E3 s).1.host.name.length<=253:=by
 by_cases h:(E3 s).2=0
 ·have hc:=Ay4 h
  cases hs:I8 (E3 s).1.sch with
  | false=>
   obtain ⟨_,_,_,a4,_,_⟩:=hc.ns hs
   rw [a4]
   decide
  | true=>
   obtain ⟨_,_,_,a4,_,_⟩:=hc.sp hs
   exact Vu a4
 ·rw [ZX h]
  decide
theorem Bg4 {s:By} (h:s.length<=10000000) (sc:By) (hs:sc.length<=10000000):smU sc (uU (E3 s)) (uN (E3 s)) (uR (E3 s))=true:=by
 obtain ⟨l1,l2,l3⟩:=BL s
 have l4:=SD s
 simp only [smU,uU,uN,uR,Bool.and_eq_true,Nat.ble_eq]
 refine ⟨⟨⟨by omega,by omega⟩,by omega⟩,by omega⟩
theorem Cf2 {s:By} {po:Int} (h:T7 po=true):T7 (upP s po)=true:=by
 unfold upP
 split
 ·rfl
 ·exact h
section
variable {σ R : Type} (lf : Nat) (cl : D3) (yh : Yh σ) (s : σ) (k : Out -> St σ -> Option R)
noncomputable abbrev OT:Code:=D0 Tryz.f9
noncomputable def Cv (lf:Nat):Cfg:=B8 lf [9] (A3 [(2,[0,0,2,0])]) [] (A3 [(6,[4]),(3,[0,0,3]),(5,[4]),(4,[0,0,3,12]),(2,[0,0,3,3]),(1,[0,0,3]),(0,[0,0])]) [] (A3 [(0,[]),(1,[0,0,3])]) (some [4]) [] [] []
noncomputable def Z8 {R:Type} (lf n:Nat) (n0:Int) (l_z1 l_t2:Bool) (l3:LL) (i4:Int) (k0:Unit->Option R) (k1:Unit->Option R):Option R:=match n with | 0=>none | n+1=>cond (ltI i4 (l3.length:Int)) (cond (inR i4 l3.length) (cond (okE Qq l3 (Int.toNat i4) 0) (cond (ltI n0 (↑(List.length (gX l3 (Int.toNat i4) 0)):Int)) (k0 ()) (Z8 lf n n0 l_z1 l_t2 l3 (A4 (i4+1)) k0 k1)) none) none) (k1 ())
theorem LC (n n0 l_z1 l_t2 l3 i4):F0 0 ((Cv lf).keep 2) (bd (Cv lf) cl yh (cd [1,0,1,0,0] OT)) n ⟨gp [(0,pI n0),(0,.s (.sl l_z1 l_t2 1 l3)),(3,pI i4)] 13,[],s⟩ k =
 Z8 lf n n0 l_z1 l_t2 l3 i4 (λ_=>k .ret ⟨gp [(4,pB false)] 14,[],s⟩) (λ_=>k (.exit 0) ⟨gp [] 19,[],s⟩):=by
 induction n generalizing n0 l_z1 l_t2 l3 i4 with
 | zero=>rfl
 | succ n ih=>rw [Z8];simp only [<-ih];kernel_rfl
noncomputable def LB {R:Type} (lf:Nat) (n0:Int) (l_z1 l_t2:Bool) (l3:LL) (k0:Bool->Option R):Option R:=Z8 lf lf n0 l_z1 l_t2 l3 0 (λ_=>k0 false) (λ_=>k0 true)
theorem Av8 (d:Nat) (n0 l_z1 l_t2 l3):evC (Cv lf) (d+1) σ yh 9 [pI n0,.s (.sl l_z1 l_t2 1 l3)] [] s=LB lf n0 l_z1 l_t2 l3 (λr0=>some (pB r0,[],s)):=by
 refine (evE (fn:=Tryz.f9) (by kernel_rfl)).trans ?_
 generalize evC (Cv lf) d=cl
 unfold LB;exact (Eq.trans (by kernel_rfl) ((LC lf cl yh s (H7 0 (I5 (Cv lf) cl yh (cd [1,1] OT) (G5 (Cv lf) Tryz.f9))) lf n0 l_z1 l_t2 l3 0).trans (by kernel_rfl)))
noncomputable def WJ (lf:Nat):Cfg:=B8 lf [7] (A3 []) [] (A3 [(4,[4]),(3,[5]),(2,[1,3,4]),(1,[1,3]),(0,[0,0])]) [] (A3 []) (some [4]) [] [] []
noncomputable def Bw6 {R:Type} (lf:Nat) (n0 m1:Int) (k0:Int->Option R):Option R:=cond (m1 != 0) (cond (ltI (Int.tmod n0 m1) (0:Int)) (vl (A4 ((Int.tmod n0 m1)+m1)) λn'0=>k0 n'0) (k0 (Int.tmod n0 m1))) none
theorem Bw7 (d:Nat) (n0 m1):evC (WJ lf) (d+1) σ yh 7 [pI n0,pI m1] [] s=Bw6 lf n0 m1 (λr0=>some (pI r0,[],s)):=by
 refine (evE (fn:=Tryz.f7) (by kernel_rfl)).trans ?_
 generalize evC (WJ lf) d=cl
 unfold Bw6;kernel_rfl
end
section
theorem GK:A7 Tryz.prog GX 123 Fq:=λargs ret Hc h=>by
 have:G7 (Fq args)=none:=by unfold Fq Xj;split<;>rfl
 rw [this] at h;cases h
theorem Ag8:A7 Tryz.prog GX 53 HU:=xf [] (WK LF) HV rfl trivial rfl (by kernel_rfl) follows λargs=>by
 unfold HV;split
 ·rename_i s p;exact λh0=>⟨rfl,rfl,rfl,_,_,(Bx6 LF noY () 0 s p).trans (Aw7 s p h0),rfl⟩
 ·trivial
theorem NL:A7 Tryz.prog GX 31 Xn:=xf [] (WF LF) HG rfl ⟨Ag8,trivial⟩ rfl (by kernel_rfl) follows λargs=>by
 unfold HG;split
 ·rename_i s p;exact λh0=>⟨rfl,rfl,rfl,_,_,(Bv6 LF noY () 0 s p).trans (Au2 s p h0),rfl⟩
 ·trivial
theorem Bn3:A7 Tryz.prog GX 122 UR:=xf [] (WL LF) HY rfl trivial rfl (by kernel_rfl) follows λargs=>by
 unfold HY;split
 ·rename_i s p;exact λh0=>⟨rfl,rfl,rfl,_,_,(Bx9 LF noY () 0 s p).trans (Ax1 s p h0),rfl⟩
 ·trivial
theorem Ch6:A7 Tryz.prog GX 113 A55:=xf [] (WG LF) HH rfl ⟨Bn3,trivial⟩ rfl (by kernel_rfl) follows λargs=>by
 unfold HH;split
 ·rename_i s p;exact λh0=>⟨rfl,rfl,rfl,_,_,(Bv8 LF noY () 0 s p).trans (Au3 s p h0),rfl⟩
 ·trivial
theorem B61:A7 Tryz.prog GX 102 Ai4:=xf [] (JW LF) Xz rfl ⟨Bn3,trivial⟩ rfl (by kernel_rfl) follows λargs=>by
 unfold Xz;split
 ·rename_i s p;exact λh0=>⟨rfl,rfl,rfl,_,_,(Be4 LF noY () 0 s p).trans (ZJ s p h0),rfl⟩
 ·trivial
theorem B69:A7 Tryz.prog GX 77 Aj1:=xf [] (KE LF) Yp rfl ⟨B61,trivial⟩ rfl (by kernel_rfl) follows λargs=>by
 unfold Yp;split
 ·rename_i s p;exact λh0=>⟨rfl,rfl,rfl,_,_,(Bk2 LF noY () 0 s p).trans (Ae9 s p h0),rfl⟩
 ·trivial
theorem B55:A7 Tryz.prog GX 48 Ai0:=xf [0,0] (JR LF) Xt rfl ⟨Ag8,trivial⟩ rfl (by kernel_rfl) follows λargs=>by
 unfold Xt;split
 ·rename_i s p;exact λh0=>⟨rfl,rfl,rfl,_,_,(Bd4 LF noY () 0 s p).trans (YV s p h0),rfl⟩
 ·trivial
theorem Bm3:A7 Tryz.prog GX 29 UJ:=xf [0,0] (VY LF) GP rfl ⟨B55,trivial⟩ rfl (by kernel_rfl) follows λargs=>by
 unfold GP;split
 ·rename_i s p;exact λh0=>⟨rfl,rfl,rfl,_,_,(Br6 LF noY () 0 s p).trans (Ar2 s p h0),rfl⟩
 ·trivial
theorem Bm4:A7 Tryz.prog GX 103 NX:=xf [1] (Aq LF) Rd rfl ⟨GK,Bn9,Ah0,trivial⟩ rfl (by kernel_rfl) follows λargs=>by
 unfold Rd;split
 ·rename_i s p v n;exact λh0=>λh1=>λh2=>λh3=>(let ⟨rr,hH,ee,qq⟩:=QI s p v n h0 h1 h2 h3;⟨rfl,rfl,rfl,rr,hH,(EU LF noY () 0 s p v n).trans ee,qq⟩)
 ·trivial
theorem CT:A7 Tryz.prog GX 79 Ny:=xf [1] (Zj LF) Ro rfl ⟨Bm4,trivial⟩ rfl (by kernel_rfl) follows λargs=>by
 unfold Ro;split
 ·rename_i s p;exact λh0=>λh1=>⟨rfl,rfl,rfl,_,_,(A15 LF noY () 0 s p).trans (TH s p h0 h1),rfl⟩
 ·trivial
theorem Bn2:A7 Tryz.prog GX 27 UQ:=xf [] (Mt LF) HT rfl trivial rfl (by kernel_rfl) follows λargs=>by
 unfold HT;split
 ·rename_i s;exact λh0=>⟨rfl,rfl,rfl,_,_,(Bx4 LF noY () 0 s).trans (Aw5 s h0),rfl⟩
 ·trivial
theorem Bm5:A7 Tryz.prog GX 89 UK:=xf [] (WD LF) HD rfl ⟨NL,trivial⟩ rfl (by kernel_rfl) follows λargs=>by
 unfold HD;split
 ·rename_i s;exact λh0=>⟨rfl,rfl,rfl,_,_,(Bu9 LF noY () 0 s).trans (At8 s h0),rfl⟩
 ·trivial
theorem Ag7:A7 Tryz.prog GX 91 GR:=xf [0,0] (P8 LF) GS rfl trivial rfl (by kernel_rfl) follows λargs=>by
 unfold GS;split
 ·rename_i s base;exact λh0=>λh1=>⟨rfl,rfl,rfl,_,_,(Bs7 LF noY () 0 s base).trans (Ar9 s base h0 h1),rfl⟩
 ·trivial
theorem B96:A7 Tryz.prog GX 90 A58:=xf [0,0] (A84 LF) UT rfl ⟨Bm5,Ag7,trivial⟩ rfl (by kernel_rfl) follows λargs=>by
 unfold UT;split
 ·rename_i s;exact λh0=>⟨rfl,rfl,rfl,_,_,(Cd4 LF noY () 0 s).trans (Bf8 s h0),rfl⟩
 ·trivial
theorem Ap7:A7 Tryz.prog GX 88 IE:=xf [1] (JY LF) Yc rfl ⟨CT,trivial⟩ rfl (by kernel_rfl) follows λargs=>by
 unfold Yc;split
 ·rename_i s;exact λh0=>⟨rfl,rfl,rfl,_,_,(Bg5 LF noY () 0 s).trans (ZY s h0),rfl⟩
 ·trivial
theorem GL:A7 Tryz.prog GX 62 Ko:=xf [] (Sg LF) Mj rfl ⟨Ap7,Bm5,B96,Ag7,trivial⟩ rfl (by kernel_rfl) follows λargs=>by
 unfold Mj;split
 ·rename_i s;exact λh0=>⟨rfl,rfl,rfl,_,_,(ZR LF noY () 0 s).trans (LS s h0),rfl⟩
 ·trivial
theorem Ci4:A7 Tryz.prog GX 78 A60:=xf [0,0] (Mv LF) II rfl ⟨Ap7,B96,trivial⟩ rfl (by kernel_rfl) follows λargs=>by
 unfold II;split
 ·rename_i s;exact λh0=>⟨rfl,rfl,rfl,_,_,(B04 LF noY () 0 s).trans (Az4 s h0),rfl⟩
 ·trivial
theorem Cm9:A7 Tryz.prog GX 139 B80:=xf [0,0] (Zm LF) VD rfl ⟨CT,Ag7,Bn0,trivial⟩ rfl (by kernel_rfl) follows λargs=>by
 unfold VD;split
 ·rename_i s;exact λh0=>⟨rfl,rfl,rfl,_,_,(Cf6 LF noY () 0 s).trans (Bl4 s h0),rfl⟩
 ·trivial
theorem Cm8:A7 Tryz.prog GX 83 B79:=xf [] (Zl LF) VC rfl ⟨Bn0,trivial⟩ rfl (by kernel_rfl) follows λargs=>by
 unfold VC;split
 ·rename_i v;exact λh0=>⟨rfl,rfl,rfl,_,_,(Cf5 LF noY () 0 v).trans (Bl2 v h0),rfl⟩
 ·trivial
theorem A40:A7 Tryz.prog GX 103 Re:=by
 refine A7.fix (pf:=Mi) _ (T1 (C₀:=Aq LF) (G8.ok (l:=[(123,Fq),(124,UY),(116,Yg)]) rfl ⟨GK,Bn9,Ah0,trivial⟩) (D4 rfl (by kernel_rfl)) follows ?_)
 intro args ret Hc h
 unfold Mi at h
 split at h
 ·rename_i s p v n
  obtain ⟨h0,h⟩:=B6 h
  obtain ⟨h1,h⟩:=B6 h
  obtain ⟨h2,h⟩:=B6 h
  obtain ⟨h3,h⟩:=B6 h
  obtain ⟨rfl,rfl⟩:=E6 h
  have e:=(EU LF noY () 0 s p v n).trans (AK s p v n h0 h1 h2 h3)
  exact ⟨rfl,1,_,[],e,rfl,rfl⟩
 ·cases h
theorem A42:A7 Tryz.prog GX 79 DQ:=by
 refine A7.fix (pf:=Mm) _ (T1 (C₀:=Sk LF) (G8.ok (l:=[(103,Re)]) rfl ⟨A40,trivial⟩) (D4 rfl (by kernel_rfl)) follows ?_)
 intro args ret Hc h
 unfold Mm at h
 split at h
 ·rename_i s p
  obtain ⟨h0,h⟩:=B6 h
  obtain ⟨h1,h⟩:=B6 h
  obtain ⟨rfl,rfl⟩:=E6 h
  have e:=(Ae1 LF noY () 0 s p).trans (MU s p h0 h1)
  exact ⟨rfl,1,_,[],e,rfl,rfl⟩
 ·cases h
end
section
theorem Ch2:A7 Tryz.prog GX 138 A51:=xf [0,0] (T4 LF) GZ rfl trivial rfl (by kernel_rfl) follows λargs=>by
 unfold GZ;split
 ·rename_i s;exact λh0=>⟨rfl,rfl,rfl,_,_,(Bu1 LF noY () 0 s).trans (At3 s h0),rfl⟩
 ·trivial
theorem B49:A7 Tryz.prog GX 121 Ah7:=xf [1,0] (Gs LF) Xl rfl ⟨CT,Ch2,Cm9,trivial⟩ rfl (by kernel_rfl) follows λargs=>by
 unfold Xl;split
 ·rename_i s last;exact λh0=>(let ⟨rr,hH,ee,qq⟩:=YD s last h0;⟨rfl,rfl,rfl,rr,hH,(Bb7 LF noY () 0 s last).trans ee,qq⟩)
 ·trivial
theorem Cn2:A7 Tryz.prog GX 100 B83:=xf [0,0] (Uf LF) VG rfl ⟨Ag9,B49,trivial⟩ rfl (by kernel_rfl) follows λargs=>by
 unfold VG;split
 ·rename_i s;exact λh0=>(let ⟨rr,hH,ee,qq⟩:=Cg4 s h0;⟨rfl,rfl,rfl,rr,hH,(Cg3 LF noY () 0 s).trans ee,qq⟩)
 ·trivial
theorem B70:A7 Tryz.prog GX 110 Aj2:=xf [0,0] (R8 LF) Yu rfl trivial rfl (by kernel_rfl) follows λargs=>by
 unfold Yu;split
 ·rename_i a0 a1 a2 a3 a4 a5 a6 a7;exact λh0=>⟨rfl,rfl,rfl,_,_,(Bp3 LF noY () 0 a0 a1 a2 a3 a4 a5 a6 a7).trans (Ah6 a0 a1 a2 a3 a4 a5 a6 a7 h0),rfl⟩
 ·trivial
theorem Cn1:A7 Tryz.prog GX 111 B82:=xf [] (Zn LF) VF rfl ⟨Ch1,Ap8,trivial⟩ rfl (by kernel_rfl) follows λargs=>by
 unfold VF;split
 ·rename_i l_z l_t l;exact λh0=>λh1=>(let ⟨rr,hH,ee,qq⟩:=Cg1 l_z l_t l h0 h1;⟨rfl,rfl,rfl,rr,hH,(Cg0 LF noY () 0 l_z l_t l).trans ee,qq⟩)
 ·trivial
theorem Cn0:A7 Tryz.prog GX 84 B81:=xf [] (A85 LF) VE rfl ⟨B70,Cn1,trivial⟩ rfl (by kernel_rfl) follows λargs=>by
 unfold VE;split
 ·rename_i a0 a1 a2 a3 a4 a5 a6 a7;exact λh0=>(let ⟨rr,hH,ee,qq⟩:=Cf9 a0 a1 a2 a3 a4 a5 a6 a7 h0;⟨rfl,rfl,rfl,rr,hH,(Cf8 LF noY () 0 a0 a1 a2 a3 a4 a5 a6 a7).trans ee,qq⟩)
 ·trivial
theorem UE:A7 Tryz.prog GX 126 Iq:=xf [] (Zi LF) Rl rfl trivial rfl (by kernel_rfl) follows λargs=>by
 unfold Rl;split
 ·rename_i n;exact ⟨rfl,rfl,rfl,_,_,(Az6 LF noY () 0 n).trans (SL n ),rfl⟩
 ·trivial
theorem UD:A7 Tryz.prog GX 128 Ip:=xf [] (Q9 LF) Rk rfl trivial rfl (by kernel_rfl) follows λargs=>by
 unfold Rk;split
 ·rename_i d c f;exact λh0=>λh1=>λh2=>⟨rfl,rfl,rfl,_,_,(Ay0 LF noY () 0 d c f).trans (SC d c f h0 h1 h2),rfl⟩
 ·trivial
theorem Ci3:A7 Tryz.prog GX 142 UU:=xf [] (WO LF) IG rfl trivial rfl (by kernel_rfl) follows λargs=>by
 unfold IG;split
 ·rename_i d;exact λh0=>⟨rfl,rfl,rfl,_,_,(Bz9 LF noY () 0 d).trans (Az1 d h0),rfl⟩
 ·trivial
theorem Ci5:A7 Tryz.prog GX 156 UW:=xf [] (Fc LF) IK rfl trivial rfl (by kernel_rfl) follows λargs=>by
 unfold IK;split
 ·rename_i b;exact λh0=>⟨rfl,rfl,rfl,_,_,(B11 LF noY () 0 b).trans (Az8 b h0),rfl⟩
 ·trivial
end
section
theorem Bn7:A7 Tryz.prog GX 141 Yd:=by
 refine A7.fix (pf:=IJ) _ (T1 (C₀:=WQ LF) (G8.ok (l:=[]) rfl trivial) (D4 rfl (by kernel_rfl)) follows ?_)
 intro args ret Hc h
 unfold IJ at h
 split at h
 ·rename_i b
  obtain ⟨rfl,rfl⟩:=E6 h
  have e:=(B07 LF noY () 0 b).trans (Az7 b )
  exact ⟨rfl,1,_,[],e,rfl,rfl⟩
 ·cases h
theorem Aq0:Ls Tryz.prog GX 153 Kp:=by
 refine T2 (C₀:=JZ LF) (G8.ok (l:=[]) rfl trivial) (D4 rfl (by kernel_rfl)) follows ?_
 intro args H ret Hc h
 unfold Kp at h
 split at h
 ·rename_i k b
  obtain ⟨h0,h⟩:=B6 h
  obtain ⟨h1,h⟩:=B6 h
  obtain ⟨rfl,rfl⟩:=E6 h
  refine ⟨rfl,rfl,λσ yh s=>?_⟩
  have e:=(Bg8 LF yh s 0 k b).trans (Ab2 k b h0 h1)
  exact ⟨1,_,e,rfl⟩
 ·cases h
theorem Cj6:Ls Tryz.prog GX 127 ID:=by
 refine T2 (C₀:=Si LF) (Fo (lx:=[(141,Yd),(142,UU)]) (ly:=[(153,Kp)]) (ls:=[]) rfl rfl rfl ⟨Bn7,Ci3,trivial⟩ ⟨Aq0,trivial⟩ trivial) (D4 rfl (by kernel_rfl)) follows ?_
 intro args H ret Hc h
 unfold ID at h
 split at h
 ·rename_i q b z l
  obtain ⟨h0,h⟩:=B6 h
  obtain ⟨h1,h⟩:=B6 h
  obtain ⟨h2,h⟩:=B6 h
  obtain ⟨rfl,rfl⟩:=E6 h
  obtain ⟨x0,x1,e0⟩:=Ay2 q b z l h0 h1 h2
  exact ⟨rfl,rfl,λσ yh s=>⟨1,_,(Bz5 LF yh s 0 q b z l).trans (e0 _ _),rfl⟩⟩
 ·cases h
theorem Bn6:A7 Tryz.prog GX 106 UV:=by
 refine A7.fix (pf:=IH) _ (F5 [0,0] (C₀:=L7 LF) (Fo (lx:=[(126,Iq),(128,Ip)]) (ly:=[(127,ID)]) (ls:=[]) rfl rfl rfl ⟨UE,UD,trivial⟩ ⟨Cj6,trivial⟩ trivial) (D4 rfl (by kernel_rfl)) follows ?_)
 intro args ret Hc h
 unfold IH at h
 split at h
 ·rename_i p_z p_t p
  obtain ⟨h0,h⟩:=B6 h
  obtain ⟨rfl,rfl⟩:=E6 h
  obtain ⟨rr,hH,ee,qq⟩:=B01 p_z p_t p h0
  exact ⟨rfl,rfl,rfl,1,rr,hH,(B00 LF noY () 0 p_z p_t p).trans ee,qq⟩
 ·cases h
end
section
theorem Cj4:Ls Tryz.prog GX 151 GU:=by
 refine T2 (C₀:=Sf LF) (Fo (lx:=[(141,Yd),(156,UW)]) (ly:=[(153,Kp)]) (ls:=[]) rfl rfl rfl ⟨Bn7,Ci5,trivial⟩ ⟨Aq0,trivial⟩ trivial) (D4 rfl (by kernel_rfl)) follows ?_
 intro args H ret Hc h
 unfold GU at h
 split at h
 ·rename_i rest n i b st z l
  obtain ⟨h0,h⟩:=B6 h
  obtain ⟨h1,h⟩:=B6 h
  obtain ⟨h2,h⟩:=B6 h
  obtain ⟨rfl,rfl⟩:=E6 h
  obtain ⟨x0,e0⟩:=As1 rest n i b st z l h0 h1 h2
  exact ⟨rfl,rfl,λσ yh s=>⟨1,_,(Bs8 LF yh s 0 rest n i b st z l).trans (e0 _ _),rfl⟩⟩
 ·cases h
theorem Bm9:A7 Tryz.prog GX 74 OA:=xf [] (Cu LF) Rh rfl trivial rfl (by kernel_rfl) follows λargs=>by
 unfold Rh;split
 ·rename_i s c;exact λh0=>λh1=>⟨rfl,rfl,rfl,_,_,(Av0 LF noY () 0 s c).trans (QU s c h0 h1),rfl⟩
 ·trivial
theorem Ap6:A7 Tryz.prog GX 54 Wi:=xf [] (JQ LF) Xs rfl ⟨Bm9,trivial⟩ rfl (by kernel_rfl) follows λargs=>by
 unfold Xs;split
 ·rename_i s c;exact λh0=>λh1=>⟨rfl,rfl,rfl,_,_,(Bd3 LF noY () 0 s c).trans (YS s c h0 h1),rfl⟩
 ·trivial
end
end
section
open Go Go.Proofs Go.Sort
set_option maxRecDepth 100000
theorem CA {C:Cfg} {σ:Type} {I:σ->(Nat->Prop)->(Nat->Prop)->World->Prop} (hI:HI I) {Γ:Ctx} {Φ:Nat->Prop} {w w':World} {z v1:Bool} {E e1 s1:Nat} {l l' m:LL} {s:σ} (g cap:Nat) (Vs:List Value) (cur:Array Value)
  (hnf:Gx C E=false) (hH:HR Γ [.arr z E 1 l,.arr v1 e1 s1 m] w) (hi:I s Γ.St Φ w) (hd:∀ b g,Γ.nm b=some g->¬ Φ g)
  (hown:Γ.nm 0=some g\/g=w.heap.size) (hgl:g<w'.heap.size) (hoth:∀ k,k<w.heap.size->Γ.nm 0≠some k->w'.heap[k]? = w.heap[k]?) (hsz:w.heap.size<=w'.heap.size) (h1:w'.os=w.os) (h2:w'.tape=w.tape) (h3:w'.output=w.output)
  (hrow:w'.heap[g]? = some (.cells cur E (0,0))) (hE:Els Γ.St w' 1 l' Vs) (hl':l'≠[]) (hc:∀ q,q<Vs.length->cur[q]? = Vs[q]?) (hl:Vs.length<=cur.size) (hcap:l'.length<=cap) (hm:cap<=maxLen) (hcs:cur.size=cap) :
  T9 C I Γ [.arr z E 1 l,.arr v1 e1 s1 m] w Φ (.fl 0) [.arr z E 1 l',.arr v1 e1 s1 m] s (.slice (some ⟨g,0,none⟩) l'.length cap) w':=by
 have hblt:0<[Blk.arr z E 1 l,.arr v1 e1 s1 m].length:=by simp
 have hng:(Γ.re 0 (some g)).nm 0=some g:=by simp [Ctx.re]
 have hnf':¬ Fe C (A1 [Blk.arr z E 1 l,.arr v1 e1 s1 m] 0):=by simp [A1,Blk.shp,Fe,hnf]
 have hk:([Blk.arr z E 1 l,.arr v1 e1 s1 m].map (Blk.kill 0)).set 0 (.arr z E 1 l')=[.arr z E 1 l',.arr v1 e1 s1 m]:=rfl
 have hgS:¬ Γ.St g:=by
  rcases hown with h | h
  ·exact (hH.lt 0 g h).2.2
  ·intro hs
   have:=hH.stlt g hs
   omega
 obtain ⟨q1,q2,q3⟩:=MG (C:=C) (y:=.arr z E 1 l') (ng:=some g) (w':=w') hH hblt hnf' (λk hk=>by
   simp only [Option.some.injEq] at hk;subst hk
   refine ⟨hgl,hgS,λc hc hc2=>?_⟩
   rcases hown with h | h
   ·exact hc (hH.inj c 0 _ hc2 h)
   ·have:=(hH.lt c _ hc2).2.1
    omega)
  (λk hk=>by
   simp only [Option.some.injEq] at hk;subst hk
   rcases hown with h | h
   ·exact .inl h
   ·exact .inr (by omega)) hoth hsz h1 h2 h3
  (BR.els hng hrow hE (by rintro ⟨_,h⟩;exact hl' h) hc hl) rfl
 rw [hk] at q1 q2
 refine ⟨_,Φ,q1.lift Φ,q2,?_,λc hc=>?_,?_,λb g' hb=>?_⟩
 ·refine .fl 0 g z E 1 l'.length cap rfl (λ_ h=>hl' (List.length_eq_zero_iff.1 h)) hng hcap hm ?_
  simp only [World.shape?,hrow,hcs,Nat.mul_one]
 ·simp only [PV.nms,List.mem_singleton] at hc
  subst hc
  simp
 ·refine hI.mono s Γ.St Φ w Γ.St w' hi (λ_ h=>h) (λk hk hp=>(hI.foot _ _ _ _ hi k hp).2 hk) (λk hk=>Nat.lt_of_lt_of_le (hH.stlt k hk) hsz) (λk hk=>?_) hsz h1 h2 h3
  rcases hk with hk | hk
  ·exact hoth k (hH.stlt k hk) (λh=>(hH.lt 0 k h).2.2 hk)
  ·exact hoth k (hI.foot _ _ _ _ hi k hk).1 (λh=>hd 0 k h hk)
 ·simp only [Ctx.re] at hb
  split at hb
  ·simp only [Option.some.injEq] at hb
   subst hb
   rcases hown with h | h
   ·exact hd 0 _ h
   ·intro hp
    have:=(hI.foot _ _ _ _ hi _ hp).1
    omega
  ·exact hd b g' hb
theorem Y5 {w:World} {g o e:Nat} {vs:List Value} {cur:Array Value} (hg:w.heap[g]? = some (.cells cur e (0,0))) (hle:o+vs.length<=cur.size) (h1:∀ v∈vs,v.oneCell'=true) :
  (w.setCells g o vs).heap[g]? = some (.cells (E0 cur.toList o vs).toArray e (0,0))/\(∀ k,k≠g->(w.setCells g o vs).heap[k]? = w.heap[k]?)/\(w.setCells g o vs).heap.size=w.heap.size/\(w.setCells g o vs).os=w.os/\(w.setCells g o vs).tape=w.tape/\(w.setCells g o vs).output=w.output:=by
 obtain ⟨w',r1,r2,r3,r4,r5,r6,r7,_⟩:=G9 (P:=Tryz.prog) (o:=o) hg hle h1
 have hcell:∀ j,j<vs.length->∃ v,w.cell? ⟨g,o+0+j,none⟩=some v:=λj hj=>by
  refine ⟨cur[o+j]'(by omega),?_⟩
  simp [World.cell?,hg,Array.getElem?_eq_getElem (show o+j<cur.size by omega)]
 have r:=run_storeCells_cells (P:=Tryz.prog) g o vs 0 w (λj hj=>by obtain ⟨v,h⟩:=hcell j hj;rw [h];rfl) (λj hj=>by simp [World.frozen?,hg]) h1
 rw [r] at r1
 simp only [Nat.add_zero,Result.ok.injEq,true_and] at r1
 rw [r1]
 exact ⟨r2,r3,r4,r5,r6,r7⟩
theorem AO {St:Nat->Prop} {w:World} {l:LL} {cs:List Value} {i:Nat} {n:Int} (h:Els St w 1 l cs) (hi:i<=l.length):Els St w 1 (He l i n) (cs.take i++Value.int .i64 n::cs.drop i):=by
 have hlen:=h.1
 rw [Nat.mul_one] at hlen
 have h1:Els St w 1 (l.take i) (cs.take i):=by
  refine ⟨by rw [List.length_take,List.length_take,hlen,Nat.mul_one],λj hj=>?_⟩
  rw [List.length_take] at hj
  rw [List.getElem_take]
  obtain ⟨a,b⟩:=h.2 j (by omega)
  refine ⟨a,λk hk=>?_⟩
  obtain ⟨U,e,v⟩:=b k hk
  exact ⟨U,by rw [List.getElem?_take_of_lt (by omega)];exact e,v⟩
 have h2:Els St w 1 [[SV.int .i64 n]] [Value.int .i64 n]:=by
  refine ⟨rfl,λj hj=>?_⟩
  have:j=0:=by simpa using hj
  subst this
  refine ⟨rfl,λk hk=>?_⟩
  have:k=0:=by simpa using hk
  subst this
  exact ⟨_,rfl,.int _ _⟩
 have h3:Els St w 1 (l.drop i) (cs.drop i):=by
  refine ⟨by rw [List.length_drop,List.length_drop,hlen,Nat.mul_one],λj hj=>?_⟩
  rw [List.length_drop] at hj
  rw [List.getElem_drop]
  obtain ⟨a,b⟩:=h.2 (i+j) (by omega)
  refine ⟨a,λk hk=>?_⟩
  obtain ⟨U,e,v⟩:=b k hk
  exact ⟨U,by rw [List.getElem?_drop];rw [show i+(j*1+k)=(i+j)*1+k by omega];exact e,v⟩
 have:=(h1.append h2).append h3
 unfold He
 simpa using this
theorem AP (l:LL) (i:Nat) (n:Int) (h:i<=l.length):(He l i n).length=l.length+1:=by
 unfold He
 rw [List.length_append,List.length_cons,List.length_take,List.length_drop]
 omega
theorem LA (l:LL) (i:Nat) (n:Int):He l i n≠[]:=by
 unfold He
 simp
theorem Cj7:Ls Tryz.prog GX 152 IR:=by
 intro C hP hG σ I yh yv hI hy args H s ret Hc hpf Γ Φ w Vs hyv hH hg hi hd hc hn
 unfold IR at hpf
 split at hpf
 ·rename_i i z l nn
  obtain ⟨h0,hpf⟩:=B6 hpf
  obtain ⟨h1,hpf⟩:=B6 hpf
  obtain ⟨rfl,rfl⟩:=E6 hpf
  obtain ⟨i0,i1⟩:=D2.1 h0
  obtain ⟨i,rfl⟩:=Int.eq_ofNat_of_zero_le i0
  have hl:=Nat.le_of_ble_eq_true h1
  have hil:i<=l.length:=by
   have:(i:Int)<((l.length+1:Nat):Int):=i1
   omega
  obtain ⟨S,X0,V,rfl,hs,hx,hv⟩:=hc.arr3
  obtain rfl:=hx.inv_int
  have hnf:Gx C 3=false:=by
   unfold Gx Cfg.sh
   rw [hP]
   kernel_rfl
  obtain ⟨g1,cur1,n1,n2,n3,n4,n5⟩:=hH.arr' (b:=1) rfl (by simp)
  have hvs:∃ cap,V = .slice (some ⟨g1,0,none⟩) 1 cap:=by
   cases hv with
   | flv _ e sz h=>simp [A1,Blk.shp] at h
   | fl _ g v e sz n cap h hv' hg' hcap hm hs'=>
    rw [n1] at hg'
    simp only [Option.some.injEq] at hg'
    subst hg'
    simp only [A1,List.getElem?_cons_succ,List.getElem?_cons_zero,Option.map_some,Blk.shp,Option.some.injEq,Shp.arr.injEq] at h
    obtain ⟨_,_,_,h4⟩:=h
    subst h4
    exact ⟨cap,rfl⟩
  obtain ⟨cap1,rfl⟩:=hvs
  obtain ⟨V1,p1,p2⟩:=n5 0 (by simp) 0 (by simp)
  have p3:V1 = .int .i64 nn:=by cases p2;rfl
  subst p3
  have hvcell:∀ j v,[Value.int .i64 nn][j]? = some v->w.cell? ⟨g1,0+j,none⟩=some v:=by
   intro j v hj
   have:j=0:=by
    have:=(List.getElem?_eq_some_iff.1 hj).1
    simpa using this
   subst this
   simp only [List.getElem?_cons_zero,Option.some.injEq] at hj
   subst hj
   simpa [World.cell?,n2] using p1
  have hv1:∀ v∈[Value.int .i64 nn],v.oneCell'=true:=by simp [Value.oneCell']
  rw [Int.toNat_natCast]
  refine Md (fn:=Tryz.f152) (by kernel_rfl) (by kernel_rfl) (by kernel_rfl) ?_
  have grownEnd:∀ (base:Option Addr) (c:Nat) (cs:List Value),l.length<=c->c<l.length+1->cs.length=l.length->(base=none->l.length=0)->(∀ a,base=some a->∀ j v,cs[j]? = some v->w.cell? (a.add j)=some v)->Els Γ.St w 1 l cs->
    Calls Tryz.prog 152 #[.slice base l.length c,.int .i64 (l.length:Int),.slice (some ⟨g1,0,none⟩) 1 cap1] w λe w'=>∃ V,e = .returned V/\T9 C I Γ [.arr z 3 1 l,.arr false 3 1 [[SV.int .i64 nn]]] w Φ (.fl 0) [.arr z 3 1 (He l l.length nn),.arr false 3 1 [[SV.int .i64 nn]]] s V w':=by
   intro base c cs a1 a2 a3 a4 a5 a6
   refine (Any2.slices_Insert_int_end_grow Tryz.lays2_21 base l.length c g1 0 1 cap1 cs [.int .i64 nn] w (by omega) a1 a2 (by omega) a3 rfl a4 a5 hvcell hv1).mono ?_
   rintro e w' ⟨rfl,rfl⟩
   refine ⟨_,rfl,?_⟩
   obtain ⟨hge,hle⟩:=Ek (w:=w) (need:=l.length+1) (cap:=c) (e:=3) (by omega)
   have hE:=AO (n:=nn) a6 (Nat.le_refl l.length)
   have hcsl:cs.take l.length++Value.int .i64 nn::cs.drop l.length=cs++[Value.int .i64 nn]:=by
    rw [List.take_of_length_le (by omega),List.drop_of_length_le (by omega)]
   rw [hcsl] at hE
   have hlen:=AP l l.length nn (Nat.le_refl _)
   obtain ⟨r1,r2⟩:=Sy (olds:=cs) (Vs:=[Value.int .i64 nn]) (z:=(Value.int .i64 0).cells) (k:=grownCap w (l.length+1) c 3) (n:=l.length) (m:=1) (size:=1) rfl (by omega) rfl hge
   have hrowE:(cs.toArray++[Value.int .i64 nn].toArray)=(cs++[Value.int .i64 nn]).toArray:=by simp
   rw [hrowE] at r1 r2
   have key:∀ (row:Array Value) (kc:Nat),row.size=kc->(∀ q,q<(cs++[Value.int .i64 nn]).length->row[q]? = (cs++[Value.int .i64 nn])[q]?)->l.length+1<=kc->kc<=maxLen->
     T9 C I Γ [.arr z 3 1 l,.arr false 3 1 [[SV.int .i64 nn]]] w Φ (.fl 0) [.arr z 3 1 (He l l.length nn),.arr false 3 1 [[SV.int .i64 nn]]] s (.slice (some ⟨w.heap.size,0,none⟩) (l.length+1) kc) (w.drew.alloc (.cells row 3)):=by
    intro row kc b1 b2 b3 b4
    have hwh:(w.drew.alloc (.cells row 3)).heap=w.heap.push (.cells row 3):=rfl
    have:=CA (C:=C) (w':=w.drew.alloc (.cells row 3)) (l':=He l l.length nn) hI w.heap.size kc (cs++[Value.int .i64 nn]) row hnf hH hi hd (.inr rfl) (by rw [hwh];simp) (λk hk _=>E9 hwh hk) (by rw [hwh];simp) rfl rfl rfl (E8 hwh) (hE.mono (λg hg=>E9 hwh (hH.stlt g hg)) (λ_ h=>h)) (LA _ _ _) b2 (by rw [b1,List.length_append,List.length_singleton];omega) (by rw [hlen];exact b3) b4 b1
    rw [hlen] at this
    exact this
   exact key _ _ (r1.trans (Nat.mul_one _)) r2 hge hle
  have two:∀ (row:Array Value) (cs:List Value),cs.length=l.length->i<l.length->l.length+1<=row.size->(∀ q,q<i->row[q]? = cs[q]?)->
    ∀ q,q<(cs.take i++Value.int .i64 nn::cs.drop i).length->(E0 (E0 row.toList i [Value.int .i64 nn]) (i+1) (cs.drop i)).toArray[q]? = (cs.take i++Value.int .i64 nn::cs.drop i)[q]?:=by
   intro row cs a1 a2 a3 a4 q hq
   have hq':q<l.length+1:=by
    rw [List.length_append,List.length_cons,List.length_take,List.length_drop] at hq
    omega
   have ht:(cs.take i).length=i:=by rw [List.length_take];omega
   have hrl:row.toList.length=row.size:=Array.length_toList
   simp only [List.getElem?_toArray]
   rw [J1 _ _ _ (by rw [C3,List.length_drop,hrl];omega),J1 _ _ _ (by rw [List.length_singleton,hrl];omega)]
   by_cases h1:q<i
   ·rw [P5,P5,List.getElem?_append_left (by omega),List.getElem?_take_of_lt h1]
    simpa using a4 q h1
   ·by_cases h2:q=i
    ·subst h2
     rw [P5,if_pos (by rw [List.length_singleton];omega),List.getElem?_append_right (by omega),ht,Nat.sub_self]
     rfl
    ·rw [if_pos (by rw [List.length_drop];omega),List.getElem?_append_right (by omega),ht,show q-i=(q-(i+1))+1 by omega,List.getElem?_cons_succ]
  have grownMid:∀ (g c:Nat) (cs:List Value),i<l.length->l.length<=c->c<l.length+1->cs.length=l.length->(∀ j v,cs[j]? = some v->w.cell? ⟨g,0+j,none⟩=some v)->(∀ v∈cs,v.oneCell'=true)->Els Γ.St w 1 l cs->
    Calls Tryz.prog 152 #[.slice (some ⟨g,0,none⟩) l.length c,.int .i64 (i:Int),.slice (some ⟨g1,0,none⟩) 1 cap1] w λe w'=>∃ V,e = .returned V/\T9 C I Γ [.arr z 3 1 l,.arr false 3 1 [[SV.int .i64 nn]]] w Φ (.fl 0) [.arr z 3 1 (He l i nn),.arr false 3 1 [[SV.int .i64 nn]]] s V w':=by
   intro g c cs hi' a1 a2 a3 a4 a5 a6
   refine (Any2.slices_Insert_int_grow Tryz.lays2_21 g 0 l.length c i g1 0 1 cap1 cs [.int .i64 nn] w hi' (by omega) a1 a2 (by omega) a3 rfl a4 hvcell a5 hv1).mono ?_
   rintro e w' ⟨rfl,rfl⟩
   refine ⟨_,rfl,?_⟩
   obtain ⟨hge,hle⟩:=Ek (w:=w) (need:=l.length+1) (cap:=c) (e:=3) (by omega)
   have hE:=AO (n:=nn) a6 hil
   have hlen:=AP l i nn hil
   have key:∀ (row:Array Value) (kc:Nat),row.size=kc->(∀ q,q<i->row[q]? = cs[q]?)->l.length+1<=kc->kc<=maxLen->
     T9 C I Γ [.arr z 3 1 l,.arr false 3 1 [[SV.int .i64 nn]]] w Φ (.fl 0) [.arr z 3 1 (He l i nn),.arr false 3 1 [[SV.int .i64 nn]]] s (.slice (some ⟨w.heap.size,0,none⟩) (l.length+1) kc) (((w.alloc (.cells row 3)).drew.setCells w.heap.size i [Value.int .i64 nn]).drew.setCells w.heap.size (i+1) (cs.drop i)):=by
    intro row kc b1 b2 b3 b4
    have hwh:(w.alloc (.cells row 3)).drew.heap=w.heap.push (.cells row 3):=rfl
    obtain ⟨c1,c2,c3,c4,c5,c6⟩:=Y5 (w:=(w.alloc (.cells row 3)).drew) (o:=i) (vs:=[Value.int .i64 nn]) (E8 hwh) (by rw [List.length_singleton];omega) hv1
    generalize hw1:(w.alloc (.cells row 3)).drew.setCells w.heap.size i [Value.int .i64 nn]=w1 at *
    have hs1:(E0 row.toList i [Value.int .i64 nn]).toArray.size=kc:=by rw [List.size_toArray,C3];simpa using b1
    obtain ⟨d1,d2,d3,d4,d5,d6⟩:=Y5 (w:=w1.drew) (o:=i+1) (vs:=cs.drop i) c1 (by rw [hs1,List.length_drop];omega) (λv hv=>a5 v (List.mem_of_mem_drop hv))
    have hoth:∀ k,k<w.heap.size->(w1.drew.setCells w.heap.size (i+1) (cs.drop i)).heap[k]? = w.heap[k]?:=λk hk=>by
     rw [d2 k (by omega)]
     exact (c2 k (by omega)).trans (E9 hwh hk)
    have hsz:(w1.drew.setCells w.heap.size (i+1) (cs.drop i)).heap.size=w.heap.size+1:=by
     rw [d3]
     show w1.heap.size=_
     rw [c3,hwh]
     simp
    have:=CA (C:=C) (w':=w1.drew.setCells w.heap.size (i+1) (cs.drop i)) (l':=He l i nn) hI w.heap.size kc (cs.take i++Value.int .i64 nn::cs.drop i) _ hnf hH hi hd (.inr rfl) (by rw [hsz];omega) (λk hk _=>hoth k hk) (by rw [hsz];omega) (d4.trans c4) (d5.trans c5) (d6.trans c6) d1 (hE.mono (λg hg=>hoth g (hH.stlt g hg)) (λ_ h=>h)) (LA _ _ _) (two row cs a3 hi' (by omega) b2) (by rw [List.size_toArray,C3,List.length_append,List.length_cons,List.length_take,List.length_drop];simp only [List.size_toArray,C3] at hs1 ⊢;omega) (by rw [hlen];exact b3) b4 (by rw [List.size_toArray,C3];simpa using hs1)
    rw [hlen] at this
    exact this
   have hz1:(Value.int .i64 0).cells.size=1:=rfl
   have ht:(cs.take i).length=i:=by rw [List.length_take];omega
   refine key _ _ ?_ (λq hq=>?_) hge hle
   ·simp only [Array.size_append,List.size_toArray,size_zeroCells,hz1,Nat.mul_one,ht]
    have:l.length+1<=grownCap w (l.length+1) c 3:=hge
    show i+(l.length+1-i)+(grownCap w (l.length+1) c 3-(l.length+1))=grownCap w (l.length+1) c 3
    omega
   ·rw [Array.getElem?_append_left (by simp only [Array.size_append,List.size_toArray,ht];omega),Array.getElem?_append_left (by simp only [List.size_toArray,ht];omega),List.getElem?_toArray,List.getElem?_take_of_lt hq]
  have two':∀ (row:Array Value) (cs:List Value),cs.length=l.length->i<l.length->l.length+1<=row.size->(∀ q,q<i->row[q]? = cs[q]?)->
    ∀ q,q<(cs.take i++Value.int .i64 nn::cs.drop i).length->(E0 (E0 row.toList (i+1) (cs.drop i)) i [Value.int .i64 nn]).toArray[q]? = (cs.take i++Value.int .i64 nn::cs.drop i)[q]?:=by
   intro row cs a1 a2 a3 a4 q hq
   have hq':q<l.length+1:=by
    rw [List.length_append,List.length_cons,List.length_take,List.length_drop] at hq
    omega
   have ht:(cs.take i).length=i:=by rw [List.length_take];omega
   have hrl:row.toList.length=row.size:=Array.length_toList
   simp only [List.getElem?_toArray]
   rw [J1 _ _ _ (by rw [C3,List.length_singleton,hrl];omega),J1 _ _ _ (by rw [List.length_drop,hrl];omega)]
   by_cases h1:q<i
   ·rw [P5,P5,List.getElem?_append_left (by omega),List.getElem?_take_of_lt h1]
    simpa using a4 q h1
   ·by_cases h2:q=i
    ·subst h2
     rw [if_pos (by rw [List.length_singleton];omega),List.getElem?_append_right (by omega),ht,Nat.sub_self]
     rfl
    ·rw [if_neg (by rw [List.length_singleton];omega),if_pos (by rw [List.length_drop];omega),List.getElem?_append_right (by omega),ht,show q-i=(q-(i+1))+1 by omega,List.getElem?_cons_succ]
  cases hs with
  | flv _ e2 sz2 h'=>
   simp only [A1,List.getElem?_cons_zero,Option.map_some,Blk.shp,Option.some.injEq,Shp.arr.injEq] at h'
   obtain ⟨q1,q2,q3,h4⟩:=h'
   obtain rfl:=List.length_eq_zero_iff.1 h4
   obtain rfl:i=0:=by simpa using hil
   exact grownEnd none 0 [] (by simp) (by simp) rfl (λ_=>rfl) (λa h=>by cases h) ⟨rfl,λj hj=>by simp at hj⟩
  | fl _ g z' e2 sz2 n' cap h' hv' hg' hcap hm hs'=>
   simp only [A1,List.getElem?_cons_zero,Option.map_some,Blk.shp,Option.some.injEq,Shp.arr.injEq] at h'
   obtain ⟨rfl,rfl,rfl,rfl⟩:=h'
   have hne:¬ (z=true/\l=[]):=by rintro ⟨q1,q2⟩;exact hv' q1 (by rw [q2];rfl)
   obtain ⟨g',cur,hg2,hh,hsize,hlens,hels⟩:=hH.arr' (b:=0) rfl hne
   obtain rfl:g=g':=by
    rw [hg'] at hg2
    exact Option.some.inj hg2
   have hcs:cur.size=cap:=by
    have:=hs'
    simp only [World.shape?,hh,Option.some.injEq,Prod.mk.injEq,true_and,Nat.mul_one] at this
    exact this
   rw [Nat.mul_one] at hsize
   have hO:Els Γ.St w 1 l (cur.toList.take l.length):=by
    refine ⟨by rw [List.length_take,Array.length_toList (xs:=cur)];omega,λj hj=>⟨hlens j hj,λk hk=>?_⟩⟩
    obtain ⟨U,e1,u⟩:=hels j hj k hk
    refine ⟨U,?_,u⟩
    have hk':k<1:=by rw [<-hlens j hj];exact hk
    rw [List.getElem?_take,Bj]
    simpa using e1
   have hol:(cur.toList.take l.length).length=l.length:=by rw [List.length_take,Array.length_toList (xs:=cur)];omega
   have hcell:∀ j v,(cur.toList.take l.length)[j]? = some v->w.cell? ⟨g,0+j,none⟩=some v:=by
    intro j v hj
    have hj':j<l.length:=by
     have:=(List.getElem?_eq_some_iff.1 hj).1
     omega
    rw [List.getElem?_take,if_pos hj'] at hj
    simpa [World.cell?,hh] using hj
   have h1c:∀ v∈cur.toList.take l.length,v.oneCell'=true:=by
    intro v hv
    obtain ⟨j,hj,rfl⟩:=List.getElem_of_mem hv
    have hj':j<l.length:=by omega
    obtain ⟨_,u⟩:=hO.2 j hj'
    obtain ⟨U,e1,u2⟩:=u 0 (by rw [hlens j hj'];exact Nat.one_pos)
    rw [Nat.mul_one,Nat.add_zero,List.getElem?_eq_getElem hj] at e1
    cases e1
    exact u2.oneCell
   have hlen:=AP l i nn hil
   have hE:=AO (n:=nn) hO hil
   have hsome:∀ j,j<cap->(w.cell? ⟨g,j,none⟩).isSome=true:=by
    intro j hj
    simp only [World.cell?,hh]
    rw [Array.getElem?_eq_getElem (by omega)]
    rfl
   have hfrz:∀ j,w.frozen? ⟨g,j,none⟩=false:=λj=>by simp [World.frozen?,hh]
   have hng1:g1≠g:=λe=>by
    have:=hH.inj 1 0 g (by rw [<-e];exact n1) hg'
    omega
   have hmx:cap<=9223372036854775807:=by
    simp only [maxLen] at hm
    omega
   by_cases hroom:l.length+1<=cap
   ·have key:∀ (w':World) (row:List Value),w'.heap[g]? = some (.cells row.toArray 3 (0,0))->(∀ k,k≠g->w'.heap[k]? = w.heap[k]?)->w'.heap.size=w.heap.size->w'.os=w.os->w'.tape=w.tape->w'.output=w.output->row.length=cap->
      (∀ q,q<((cur.toList.take l.length).take i++Value.int .i64 nn::(cur.toList.take l.length).drop i).length->row.toArray[q]? = ((cur.toList.take l.length).take i++Value.int .i64 nn::(cur.toList.take l.length).drop i)[q]?)->
      T9 C I Γ [.arr z 3 1 l,.arr false 3 1 [[SV.int .i64 nn]]] w Φ (.fl 0) [.arr z 3 1 (He l i nn),.arr false 3 1 [[SV.int .i64 nn]]] s (.slice (some ⟨g,0,none⟩) (l.length+1) cap) w':=by
     intro w' row k1 k2 k3 k4 k5 k6 k7 k8
     have hgS:¬ Γ.St g:=(hH.lt 0 g hg').2.2
     have:=CA (C:=C) (w':=w') (l':=He l i nn) hI g cap ((cur.toList.take l.length).take i++Value.int .i64 nn::(cur.toList.take l.length).drop i) row.toArray hnf hH hi hd (.inl hg') (by rw [k3];exact (hH.lt 0 g hg').2.1) (λk hk hk2=>k2 k (λe=>hk2 (e ▸ hg'))) (by omega) k4 k5 k6 k1
      (hE.mono (λk hk=>k2 k (λe=>hgS (e ▸ hk))) (λ_ h=>h)) (LA _ _ _) k8
      (by rw [List.size_toArray,k7,List.length_append,List.length_cons,List.length_take,List.length_drop,hol];omega) (by rw [hlen];exact hroom) hm (by rw [List.size_toArray,k7])
     rw [hlen] at this
     exact this
    by_cases hie:i=l.length
    ·subst hie
     refine (Any2.slices_Insert_int_end_room Tryz.lays2_21 g 0 l.length cap g1 0 1 cap1 [.int .i64 nn] w (by omega) hroom hmx rfl (λj hj=>hsome _ (by omega)) (λj hj=>hfrz _) hvcell hv1).mono ?_
     rintro e w' ⟨rfl,rfl⟩
     refine ⟨_,rfl,?_⟩
     obtain ⟨c1,c2,c3,c4,c5,c6⟩:=Y5 (w:=w) (o:=0+l.length) (vs:=[Value.int .i64 nn]) hh (by rw [List.length_singleton];omega) hv1
     refine key _ _ c1 c2 c3 c4 c5 c6 (by rw [C3];simpa using hcs) (λq hq=>?_)
     rw [List.take_of_length_le (by omega),List.drop_of_length_le (by omega)] at hq ⊢
     rw [List.length_append,hol,List.length_singleton] at hq
     simp only [List.getElem?_toArray]
     rw [J1 _ _ _ (by rw [List.length_singleton,Array.length_toList (xs:=cur)];omega)]
     by_cases hq2:q<l.length
     ·rw [P5,List.getElem?_append_left (by omega),List.getElem?_take,if_pos hq2]
     ·obtain rfl:q=l.length:=by omega
      rw [if_pos (by rw [List.length_singleton];omega),List.getElem?_append_right (by omega),hol]
      simp
    ·have hi':i<l.length:=by omega
     refine (Any2.slices_Insert_int_shift Tryz.lays2_21 g 0 l.length cap i g1 0 1 cap1 (cur.toList.take l.length) [.int .i64 nn] w hi' (by omega) hroom hmx hng1 hol rfl hcell (λj hj=>hsome _ (by omega)) (λj hj=>hfrz _) hvcell h1c hv1 3 3 cur1.size cur.size (by simp [World.shape?,n2]) (by simp [World.shape?,hh]) (by omega) (by simp [World.frozen?,n2]) (by simp [World.frozen?,n2])).mono ?_
     rintro e w' ⟨rfl,rfl⟩
     refine ⟨_,rfl,?_⟩
     obtain ⟨c1,c2,c3,c4,c5,c6⟩:=Y5 (w:=w.drew) (o:=0+(i+1)) (vs:=(cur.toList.take l.length).drop i) hh (by rw [List.length_drop,hol];omega) (λv hv=>h1c v (List.mem_of_mem_drop hv))
     generalize hw1:w.drew.setCells g (0+(i+1)) ((cur.toList.take l.length).drop i)=w1 at *
     have hs1:(E0 cur.toList (0+(i+1)) ((cur.toList.take l.length).drop i)).toArray.size=cap:=by rw [List.size_toArray,C3];simpa using hcs
     obtain ⟨d1,d2,d3,d4,d5,d6⟩:=Y5 (w:=w1) (o:=0+i) (vs:=[Value.int .i64 nn]) c1 (by rw [hs1,List.length_singleton];omega) hv1
     refine key _ _ d1 (λk hk=>(d2 k hk).trans (c2 k hk)) (d3.trans c3) (d4.trans c4) (d5.trans c5) (d6.trans c6) (by rw [C3];simpa using hs1) ?_
     rw [Nat.zero_add,Nat.zero_add]
     exact two' cur _ hol hi' (by omega) (λq hq=>by rw [List.getElem?_take,Bj];simp)
   ·by_cases hie:i=l.length
    ·subst hie
     exact grownEnd (some ⟨g,0,none⟩) cap (cur.toList.take l.length) hcap (by omega) hol (λh=>by cases h) (λa h j v hj=>by
      obtain rfl:=Option.some.inj h
      rw [I1]
      exact hcell j v hj) hO
    ·exact grownMid g cap _ (by omega) hcap (by omega) hol hcell h1c hO
 ·cases hpf
end
section
open Go Go.Proofs
set_option maxRecDepth 100000
section
theorem B71:Ls Tryz.prog GX 137 Wg:=by
 refine T2 (C₀:=JM LF) (Fo (lx:=[(128,Ip),(126,Iq)]) (ly:=[(151,GU),(152,IR)]) (ls:=[]) rfl rfl rfl ⟨UD,UE,trivial⟩ ⟨Cj4,Cj7,trivial⟩ trivial) (D4 rfl (by kernel_rfl)) follows ?_
 intro args H ret Hc h
 unfold Wg at h
 split at h
 ·rename_i rest n i b st z l
  obtain ⟨h0,h⟩:=B6 h
  obtain ⟨h1,h⟩:=B6 h
  obtain ⟨h2,h⟩:=B6 h
  obtain ⟨h3,h⟩:=B6 h
  obtain ⟨h4,h⟩:=B6 h
  obtain ⟨rfl,rfl⟩:=E6 h
  refine ⟨rfl,rfl,λσ yh s=>?_⟩
  have e:=(A99 LF yh s 0 rest n i b st z l).trans (XL rest n i b st z l h0 h1 h2 h3 h4)
  exact ⟨1,_,e,rfl⟩
 ·cases h
theorem Ci2:A7 Tryz.prog GX 117 A59:=by
 refine A7.fix (pf:=IF) _ (F5 [1,0] (C₀:=T5 LF) (Fo (lx:=[(54,Wi)]) (ly:=[(137,Wg)]) (ls:=[]) rfl rfl rfl ⟨Ap6,trivial⟩ ⟨B71,trivial⟩ trivial) (D4 rfl (by kernel_rfl)) follows ?_)
 intro args ret Hc h
 unfold IF at h
 split at h
 ·rename_i s
  obtain ⟨h0,h⟩:=B6 h
  obtain ⟨rfl,rfl⟩:=E6 h
  obtain ⟨rr,hH,ee,qq⟩:=Bz7 s h0
  exact ⟨rfl,rfl,rfl,1,rr,hH,(Bz6 LF noY () 0 s).trans ee,qq⟩
 ·cases h
end
end
section
open Go Go.Proofs Go.Sort
set_option maxRecDepth 100000
theorem Bo9:A7 Tryz.prog GX 104 OK:=by
 refine A7.fix (pf:=Rt) _ (F3 (fn:=Tryz.f104) (by kernel_rfl) (by kernel_rfl) (by kernel_rfl) ?_)
 intro args ret Hc h
 unfold Rt at h
 split at h
 ·rename_i s
  obtain ⟨h0,h⟩:=B6 h
  obtain ⟨rfl,rfl⟩:=E6 h
  refine ⟨rfl,rfl,λC hP hCG Γ w Vs hG hlt hc=>?_⟩
  obtain ⟨U,rfl,hu⟩:=hc.arr1
  obtain ⟨s',rfl,rfl⟩:=hu.inv_str
  have hs:=N5 h0
  refine (Any.utf8_ValidString Tryz.lays196 s' w (by simp at hs;omega) (Bt9 hG hCG)).mono ?_
  rintro e w' ⟨rfl,hb⟩
  rw [<-Ag3]
  exact ⟨_,rfl,hb,VP.mk_bool _⟩
 ·cases h
theorem Bo4:A7 Tryz.prog GX 105 OH:=by
 refine A7.fix (pf:=Rp) _ (F3 (fn:=Tryz.f105) (by kernel_rfl) (by kernel_rfl) (by kernel_rfl) ?_)
 intro args ret Hc h
 unfold Rp at h
 split at h
 ·rename_i s
  obtain ⟨h0,h⟩:=B6 h
  obtain ⟨rfl,rfl⟩:=E6 h
  refine ⟨rfl,rfl,λC hP hCG Γ w Vs hG hlt hc=>?_⟩
  obtain ⟨U,rfl,hu⟩:=hc.arr1
  obtain ⟨s',rfl,rfl⟩:=hu.inv_str
  have hs:=N5 h0
  refine (Any.utf8_RuneCountInString Tryz.lays195 s' w (by simp at hs;omega)).mono ?_
  rintro e w' ⟨rfl,pos,rfl⟩
  rw [Lib.runeCountL_eq]
  exact ⟨_,rfl,VT _ _ _,VP.mk_int _ _⟩
 ·cases h
theorem B47:A7 Tryz.prog GX 115 Nw:=λargs ret Hc h=>by
 have:G7 (Nw args)=none:=by unfold Nw NW;split<;>rfl
 rw [this] at h;cases h
theorem B74:DO Tryz.prog GX 114 Wj:=by
 refine Kc (C₀:=U5 LF) ((G8.ok (l:=[(115,Nw),(116,Yg)]) rfl ⟨B47,Ah0,trivial⟩)) (D4 rfl (by kernel_rfl)) follows ?_
 intro args H L h σ yh s s' hr
 unfold Wj at h
 split at h
 ·rename_i p t n
  simp only [Option.some.injEq,Prod.mk.injEq] at h
  obtain ⟨h1,rfl⟩:=h
  obtain ⟨t',f⟩:=Ad7 (R:=PV × List Blk × σ) yh p t n s s' h1 hr
  exact ⟨1,_,(Bi5 LF yh 0 p t n s).trans (f _)⟩
 ·cases h
end
section
open Go Go.Proofs
set_option maxRecDepth 100000
section
theorem B57:A7 Tryz.prog GX 93 Ai2:=xf [] (Gu LF) Xv rfl ⟨Ci2,Bn6,trivial⟩ rfl (by kernel_rfl) follows λargs=>by
 unfold Xv;split
 ·rename_i s;exact λh0=>⟨rfl,rfl,rfl,_,_,(Bd7 LF noY () 0 s).trans (ZF s h0),rfl⟩
 ·trivial
theorem Bn4:A7 Tryz.prog GX 64 HZ:=xf [] (Mu LF) IA rfl ⟨Bm3,B57,trivial⟩ rfl (by kernel_rfl) follows λargs=>by
 unfold IA;split
 ·rename_i s;exact λh0=>⟨rfl,rfl,rfl,_,_,(By1 LF noY () 0 s).trans (Ax3 s h0),rfl⟩
 ·trivial
theorem Ch9:A7 Tryz.prog GX 80 A56:=xf [0,0] (Jb LF) HS rfl ⟨Bo9,Bo4,Bn2,Bn6,Bn4,trivial⟩ rfl (by kernel_rfl) follows λargs=>by
 unfold HS;split
 ·rename_i s;exact λh0=>(let ⟨rr,hH,ee,qq⟩:=Bx0 s h0;⟨rfl,rfl,rfl,rr,hH,(Bw9 LF noY () 0 s).trans ee,qq⟩)
 ·trivial
theorem Ch5:A7 Tryz.prog GX 101 A54:=xf [] (Fb LF) HC rfl trivial rfl (by kernel_rfl) follows λargs=>by
 unfold HC;split
 ·rename_i b;exact λh0=>⟨rfl,rfl,rfl,_,_,(Bu7 LF noY () 0 b).trans (At7 b h0),rfl⟩
 ·trivial
theorem Ch4:A7 Tryz.prog GX 76 A53:=xf [0,0] (Ms LF) HB rfl ⟨Ch5,trivial⟩ rfl (by kernel_rfl) follows λargs=>by
 unfold HB;split
 ·rename_i s;exact λh0=>(let ⟨rr,hH,ee,qq⟩:=Bu5 s h0;⟨rfl,rfl,rfl,rr,hH,(Bu4 LF noY () 0 s).trans ee,qq⟩)
 ·trivial
theorem B50:A7 Tryz.prog GX 75 Ah8:=xf [0,0] (JN LF) Xm rfl ⟨Cn2,trivial⟩ rfl (by kernel_rfl) follows λargs=>by
 unfold Xm;split
 ·rename_i s;exact λh0=>λh1=>(let ⟨rr,hH,ee,qq⟩:=Bc0 s h0 h1;⟨rfl,rfl,rfl,rr,hH,(Bb9 LF noY () 0 s).trans ee,qq⟩)
 ·trivial
theorem Bm7:A7 Tryz.prog GX 55 NY:=xf [0,0] (Ct LF) Rf rfl ⟨NL,B50,Ch4,B69,GL,Ci4,A42,Ch9,Ap8,trivial⟩ rfl (by kernel_rfl) follows λargs=>by
 unfold Rf;split
 ·rename_i s;exact λh0=>(let ⟨rr,hH,ee,qq⟩:=Au1 s h0;⟨rfl,rfl,rfl,rr,hH,(Au0 LF noY () 0 s).trans ee,qq⟩)
 ·trivial
theorem B59:A7 Tryz.prog GX 92 HX:=by
 refine A7.fix (pf:=Xx) _ (T1 (C₀:=JU LF) (G8.ok (l:=[]) rfl trivial) (D4 rfl (by kernel_rfl)) follows ?_)
 intro args ret Hc h
 unfold Xx at h
 split at h
 ·rename_i t p n
  obtain ⟨rfl,rfl⟩:=E6 h
  have e:=(Be2 LF noY () 0 t p n).trans (ZH t p n )
  exact ⟨rfl,1,_,[],e,rfl,rfl⟩
 ·cases h
theorem Ci7:A7 Tryz.prog GX 63 UZ:=by
 refine A7.fix (pf:=IT) _ (T1 (C₀:=WS LF) (G8.ok (l:=[(92,HX)]) rfl ⟨B59,trivial⟩) (D4 rfl (by kernel_rfl)) follows ?_)
 intro args ret Hc h
 unfold IT at h
 split at h
 ·rename_i t p
  obtain ⟨rfl,rfl⟩:=E6 h
  have e:=(B22 LF noY () 0 t p).trans (A14 t p )
  exact ⟨rfl,1,_,[],e,rfl,rfl⟩
 ·cases h
theorem Bm8:A7 Tryz.prog GX 40 NZ:=by
 refine A7.fix (pf:=UN) _ (F5 [] (C₀:=Ja LF) (Fo (lx:=[(62,Ko),(63,UZ),(64,HZ)]) (ly:=[]) (ls:=[(114,Wj)]) rfl rfl rfl ⟨GL,Ci7,Bn4,trivial⟩ trivial ⟨B74,trivial⟩) (D4 rfl (by kernel_rfl)) follows ?_)
 intro args ret Hc h
 unfold UN at h
 split at h
 ·rename_i s
  obtain ⟨h0,h⟩:=B6 h
  obtain ⟨rfl,rfl⟩:=E6 h
  obtain ⟨rr,hH,ee,qq⟩:=Cc4 s h0
  exact ⟨rfl,rfl,rfl,1,rr,hH,(Cc3 LF noY () 0 s).trans ee,qq⟩
 ·cases h
theorem NM:A7 Tryz.prog GX 22 Rg:=xf [] (WI LF) HK rfl ⟨Bm8,trivial⟩ rfl (by kernel_rfl) follows λargs=>by
 unfold HK;split
 ·rename_i kd nm v4 a0 a1 a2 a3 a4 a5 a6 a7;exact λh0=>λh1=>λh2=>(let ⟨rr,hH,ee,qq⟩:=Bw1 kd nm v4 a0 a1 a2 a3 a4 a5 a6 a7 h0 h1 h2;⟨rfl,rfl,rfl,rr,hH,(Bw0 LF noY () 0 kd nm v4 a0 a1 a2 a3 a4 a5 a6 a7).trans ee,qq⟩)
 ·trivial
theorem Bm6:A7 Tryz.prog GX 58 UL:=xf [] (WE LF) HE rfl ⟨NM,Cm8,Cn0,trivial⟩ rfl (by kernel_rfl) follows λargs=>by
 unfold HE;split
 ·rename_i kd nm v4 a0 a1 a2 a3 a4 a5 a6 a7;exact λh0=>λh1=>λh2=>(let ⟨rr,hH,ee,qq⟩:=Bv2 kd nm v4 a0 a1 a2 a3 a4 a5 a6 a7 h0 h1 h2;⟨rfl,rfl,rfl,rr,hH,(Bv1 LF noY () 0 kd nm v4 a0 a1 a2 a3 a4 a5 a6 a7).trans ee,qq⟩)
 ·trivial
theorem Ch3:A7 Tryz.prog GX 86 A52:=xf [] (WC LF) HA rfl ⟨Bm8,Ch6,trivial⟩ rfl (by kernel_rfl) follows λargs=>by
 unfold HA;split
 ·rename_i p s;exact λh0=>λh1=>⟨rfl,rfl,rfl,_,_,(Bu3 LF noY () 0 p s).trans (At5 p s h0 h1),rfl⟩
 ·trivial
theorem Ch7:A7 Tryz.prog GX 24 UM:=by
 refine A7.fix (pf:=HJ) _ (T1 (C₀:=WH LF) (G8.ok (l:=[]) rfl trivial) (D4 rfl (by kernel_rfl)) follows ?_)
 intro args ret Hc h
 unfold HJ at h
 split at h
 ·rename_i t
  obtain ⟨rfl,rfl⟩:=E6 h
  have e:=(Bv9 LF noY () 0 t).trans (Au4 t )
  exact ⟨rfl,1,_,[],e,rfl,rfl⟩
 ·cases h
end
end
section
open Go Go.Proofs Go.Sort
set_option maxRecDepth 100000
theorem B73:DO Tryz.prog GX 44 Wh:=by
 refine Kc (C₀:=Ku LF) ((G8.ok (l:=[(40,NZ),(25,Yf)]) rfl ⟨Bm8,Ag9,trivial⟩)) (D4 rfl (by kernel_rfl)) follows ?_
 intro args H L h σ yh s s' hr
 unfold Wh at h
 split at h
 ·rename_i t
  simp only [Option.some.injEq,Prod.mk.injEq] at h
  obtain ⟨h1,rfl⟩:=h
  obtain ⟨t',f⟩:=YL (R:=PV × List Blk × σ) yh t s s' h1 hr
  exact ⟨1,_,(Bc4 LF yh 0 t s).trans (f _)⟩
 ·cases h
theorem Uw {R:Type} (n:Int) (z t:Bool) (l:List By) (k0 k1:Unit->Option R) (hl:l.length<=1000000000):∀ (r:List By) (i m:Nat),l.drop i=r->r.length<m->Z8 LF m n z t (C5 l) (i:Int) k0 k1=if Q1 n r then k1 () else k0 ()
 | [],i,m,h,hm=>by
  obtain ⟨m,rfl⟩:∃ q,m=q+1:=⟨m-1,by simp at hm;omega⟩
  rw [Z8]
  have:l.length<=i:=List.drop_eq_nil_iff.1 h
  rw [I3 (by rw [E1];omega)]
  rfl
 | x::r,i,m,h,hm=>by
  obtain ⟨m,rfl⟩:∃ q,m=q+1:=⟨m-1,by simp at hm;omega⟩
  rw [Z8]
  have hi:i<l.length:=Decidable.byContradiction λhge=>by
   rw [List.drop_eq_nil_iff.2 (by omega)] at h
   cases h
  have hx:l.getD i []=x:=by
   have:=List.drop_eq_getElem_cons hi
   rw [h] at this
   rw [List.getD_eq_getElem?_getD,List.getElem?_eq_getElem hi]
   exact (List.cons.inj this).1.symm
  have hr:l.drop (i+1)=r:=by
   have:=List.drop_eq_getElem_cons hi
   rw [h] at this
   exact (List.cons.inj this).2.symm
  rw [D8 (by rw [E1];omega),cond_true,O6 (by omega) (by rw [E1];omega),cond_true,Int.toNat_natCast,U2 hi,cond_true,Ak,hx]
  have e:Q1 n (x::r)=(!(ltI n (x.length:Int))&&Q1 n r):=rfl
  rw [e]
  by_cases hc:n<(x.length:Int)
  ·rw [D8 hc];rfl
  ·rw [A6,cond_false,A8,Bool.not_false,Bool.true_and]
   exact Uw n z t l k0 k1 hl r (i+1) m hr (by simp at hm;omega)
theorem RC {R:Type} {k0:Bool->Option R} (n:Int) (z t:Bool) (l:LL) (h0:l.all isS=true) (h1:A2 l.length=true):LB LF n z t l k0=k0 (Q1 n (l.map elS)):=by
 have hLF:=F6
 have hl:=N5 h1
 rw [Qo h0] at hl ⊢
 generalize l.map elS=q at hl ⊢
 rw [E1] at hl
 unfold LB
 rw [show (0:Int)=((0:Nat):Int) from rfl,Uw n z t q _ _ hl q 0 LF rfl (by omega)]
 have:List.map elS (C5 q)=q:=by
  unfold C5
  rw [List.map_map]
  exact List.map_id'' (λ_=>rfl) q
 rw [this]
 cases Q1 n q<;>rfl
theorem Av7 {R:Type} {k0:Int->Option R} (n m:Int) (h0:ltI 0 m=true) (h1:ltN m 1000000000=true):Bw6 LF n m k0=k0 (Int.emod n m):=by
 have hm:=Le.1 h0
 have hm2:=(D2.1 h1).2
 unfold Bw6
 rw [show (m != (0:Int))=true by rw [bne_iff_ne];omega,cond_true]
 have q1:=Int.tmod_lt_of_pos n hm
 have q2:=Int.lt_tmod_of_pos n hm
 have q3:=Int.tmod_add_mul_tdiv n m
 by_cases h:Int.tmod n m<0
 ·rw [D8 h,cond_true]
  simp only [vl]
  rw [A8]
  congr 1
  have q4:Int.tmod n m+m+m*(n.tdiv m-1)=n:=by rw [Int.mul_sub];omega
  exact ((Int.ediv_emod_unique (a:=n) (q:=n.tdiv m-1) hm).2 ⟨q4,by omega,by omega⟩).2.symm
 ·rw [A6,cond_false]
  congr 1
  exact ((Int.ediv_emod_unique (a:=n) (q:=n.tdiv m) hm).2 ⟨q3,by omega,by omega⟩).2.symm
end
section
open Go Go.Proofs
set_option maxRecDepth 100000
theorem Ae6 {R:Type} {k0:Unit->Option R} (q:By):Bj3 LF q k0=k0 ():=rfl
theorem Ae7 {R:Type} {k0:Unit->Option R} (q:By):Bj5 LF q k0=k0 ():=rfl
theorem YZ {R:Type} {k0:Unit->Option R} (q:By):Bd5 LF q k0=k0 ():=rfl
theorem Aq8 {R:Type} {k0:Unit->Option R} (n:Int) (u:By) (ex:Bool):Cb0 LF n u ex k0=k0 ():=rfl
theorem EI {R:Type} (n kd:Int) (nm:By) (v4 a0 a1 a2 a3 a4 a5 a6 a7:Int) (k0:Int->Int->By->Int->Int->Int->Int->Int->Int->Int->Int->Int->Option R):∀ L:List By,Oh LF L n kd nm v4 a0 a1 a2 a3 a4 a5 a6 a7 k0=k0 n kd nm v4 a0 a1 a2 a3 a4 a5 a6 a7
 | []=>rfl
 | x::r=>by
  rw [EH]
  exact EI n kd nm v4 a0 a1 a2 a3 a4 a5 a6 a7 k0 r
theorem Br1 (now kd:Int) (nm:By) (v4 a0 a1 a2 a3 a4 a5 a6 a7:Int) (g0:A2 nm.length=true) (g1:ltN v4 4294967296=true) (g2:ok8 a0 a1 a2 a3 a4 a5 a6 a7=true):∃ r H,A88 now kd nm v4 a0 a1 a2 a3 a4 a5 a6 a7=rv r H/\r.stab [] H = .agg [pI 0,pS [],pB false]:=by
 unfold A88 A87 Wp
 rw [g0,g1,g2,EI]
 simp only [cond_true]
 cases (kd != 1) with
 | true=>exact ⟨_,_,rfl,rfl⟩
 | false=>cases L1 (mkH kd nm v4 (n8 a0 a1 a2 a3 a4 a5 a6 a7))<;>exact ⟨_,_,rfl,rfl⟩
theorem By7 (s:By) (de:Int) (im se pr up ba z t:Bool) (l:LL) (now:Int) (g0:smP s=true) (g1:l.all isS=true) (g2:A2 l.length=true):∃ r H,Be6 s de im se pr up ba z t l now=rv r H/\r.stab [0,0] H = .tup [.agg [pI (dA (W9 s de im pr up ba (l.map elS))),pI (dR (W9 s de im pr up ba (l.map elS))),pS (dU (W9 s de im pr up ba (l.map elS)))],pI (dE (W9 s de im pr up ba (l.map elS)))]:=by
 have hs:s.length<=10000000:=Nat.le_of_ble_eq_true g0
 have hsm:=Bg4 (s:=s) hs (uS (E3 s)) (Nat.le_trans (BL s).1 hs)
 have hn:A2 (List.length (uN (E3 s)))=true:=by
  obtain ⟨_,_,l,_⟩:=Lm hsm
  exact G2
 obtain ⟨o1,o2,o3,o4⟩:=Bg1 (Ay5 s)
 unfold Be6 By5 W9 Ck8
 rw [G2,cond_true]
 simp only [vl]
 cases (uE (E3 s) != 0) with
 | true=>exact ⟨_,_,rfl,rfl⟩
 | false=>
  simp only [hn,hsm,o1,o2,o3,g1,g2,cond_true,cond_false]
  exact ⟨_,_,rfl,rfl⟩
theorem At1 {R:Type} {k0:Int->Int->By->Int->Int->Bool->Bool->Bool->Bool->Bool->Bool->Bool->LL->Int->Option R} (s:By) (de:Int) (im se pr up ba z t:Bool) (l:LL) (now:Int) (g0:smP s=true) (g1:l.all isS=true) (g2:A2 l.length=true) :
  Bt1 LF s de im se pr up ba z t l now k0=k0 (dA (W9 s de im pr up ba (l.map elS))) (dR (W9 s de im pr up ba (l.map elS))) (dU (W9 s de im pr up ba (l.map elS))) (dE (W9 s de im pr up ba (l.map elS))) de im se pr up ba z t l now:=by
 unfold Bt1
 rw [g0,g1,g2]
 rfl
theorem Ae4 {R:Type} {k0:Int->Bool->Bool->Bool->Bool->Bool->Bool->Bool->LL->Int->Bool->Bool->LL->Option R} (uz ut:Bool) (u:LL) (de:Int) (im se pr up ba z t:Bool) (l:LL) (now:Int) :
  Bi7 LF uz ut u de im se pr up ba z t l now k0=k0 de im se pr up ba z t l now uz ut u:=rfl
abbrev Bv3 (x:Q6):List PV:=[.agg [pS x.1,pI (dA x.2),pI (dR x.2),pS (dU x.2),pI (dE x.2)]]
theorem CG {σ R:Type} (yh:Yh σ) (z t:Bool) (u:List By) (de:Int) (im se pr up ba lz lt:Bool) (l:LL) (now:Int) (g0:(C5 u).all Qk=true) (g1:l.all isS=true) (g2:A2 l.length=true) (hu:u.length<=1000000000) :
  ∀ (r:List By) (i m:Nat) (s s':σ),u.drop i=r->r.length<m->N7 yh ((K9 de im pr up ba (l.map elS) r).map Bv3) s=some s'->
   (∀ (k0:Bool->Bool->LL->Int->Bool->Bool->Bool->Bool->Bool->Bool->Bool->LL->Int->Int->Int->By->σ->Option R) (k1:Bool->Bool->LL->Int->Bool->Bool->Bool->Bool->Bool->Bool->Bool->LL->Int->σ->Option R),U3 yh LF m z t (C5 u) (u.length:Int) (i:Int) de im se pr up ba lz lt l now s k0 k1=k1 z t (C5 u) de im se pr up ba lz lt l now s')\/
   (∃ a r v,∀ (k0:Bool->Bool->LL->Int->Bool->Bool->Bool->Bool->Bool->Bool->Bool->LL->Int->Int->Int->By->σ->Option R) (k1:Bool->Bool->LL->Int->Bool->Bool->Bool->Bool->Bool->Bool->Bool->LL->Int->σ->Option R),U3 yh LF m z t (C5 u) (u.length:Int) (i:Int) de im se pr up ba lz lt l now s k0 k1=k0 z t (C5 u) de im se pr up ba lz lt l now a r v s')
 | [],i,m,s,s',h,hm,hr=>by
  obtain ⟨m,rfl⟩:∃ q,m=q+1:=⟨m-1,by simp at hm;omega⟩
  have:u.length<=i:=List.drop_eq_nil_iff.1 h
  refine .inl λk0 k1=>?_
  rw [U3,I3 (by omega)]
  cases hr
  rfl
 | x::r,i,m,s,s',h,hm,hr=>by
  obtain ⟨m,rfl⟩:∃ q,m=q+1:=⟨m-1,by simp at hm;omega⟩
  have hi:i<u.length:=Decidable.byContradiction λhge=>by
   rw [List.drop_eq_nil_iff.2 (by omega)] at h
   cases h
  have hx:u.getD i []=x:=by
   have:=List.drop_eq_getElem_cons hi
   rw [h] at this
   rw [List.getD_eq_getElem?_getD,List.getElem?_eq_getElem hi]
   exact (List.cons.inj this).1.symm
  have hr':u.drop (i+1)=r:=by
   have:=List.drop_eq_getElem_cons hi
   rw [h] at this
   exact (List.cons.inj this).2.symm
  have hxs:smP x=true:=by
   have hm:[SV.str x]∈C5 u:=by
    have:x∈u:=by
     have:x∈u.drop i:=by rw [h];simp
     exact List.mem_of_mem_drop this
    exact List.mem_map.2 ⟨x,this,rfl⟩
   exact List.all_eq_true.1 g0 _ hm
  have hstep:∀ (k0:Bool->Bool->LL->Int->Bool->Bool->Bool->Bool->Bool->Bool->Bool->LL->Int->Int->Int->By->σ->Option R) (k1:Bool->Bool->LL->Int->Bool->Bool->Bool->Bool->Bool->Bool->Bool->LL->Int->σ->Option R),U3 yh LF (m+1) z t (C5 u) (u.length:Int) (i:Int) de im se pr up ba lz lt l now s k0 k1 =
    ydK (yh (Bv3 (x,W9 x de im pr up ba (l.map elS))) s) λb s1=>cond (!b) (k0 z t (C5 u) de im se pr up ba lz lt l now (dA (W9 x de im pr up ba (l.map elS))) (dR (W9 x de im pr up ba (l.map elS))) (dU (W9 x de im pr up ba (l.map elS))) s1) (U3 yh LF m z t (C5 u) (u.length:Int) ((i+1:Nat):Int) de im se pr up ba lz lt l now s1 k0 k1):=λk0 k1=>by
   rw [U3,D8 (by omega),O6 (by omega) (by rw [E1];omega),Int.toNat_natCast,U2 hi,Ak,hx,hxs,g1,g2,show A4 ((i:Int)+1)=((i+1:Nat):Int) by rw [A8];rfl]
   rfl
  simp only [K9,List.map_cons,N7] at hr
  cases hy:yh (Bv3 (x,W9 x de im pr up ba (l.map elS))) s with
  | none=>rw [hy] at hr;cases hr
  | some p=>
   obtain ⟨b,s1⟩:=p
   rw [hy] at hr
   cases b with
   | false=>
    refine .inr ⟨dA (W9 x de im pr up ba (l.map elS)),dR (W9 x de im pr up ba (l.map elS)),dU (W9 x de im pr up ba (l.map elS)),λk0 k1=>?_⟩
    rw [hstep,hy]
    cases hr
    rfl
   | true=>
    rcases CG yh z t u de im se pr up ba lz lt l now g0 g1 g2 hu r (i+1) m s1 s' hr' (by simp at hm;omega) hr with f | ⟨a,c,v,f⟩
    ·refine .inl λk0 k1=>?_
     rw [hstep,hy]
     exact f k0 k1
    ·refine .inr ⟨a,c,v,λk0 k1=>?_⟩
     rw [hstep,hy]
     exact f k0 k1
theorem Ae3 {σ R:Type} (yh:Yh σ) (z t:Bool) (u:LL) (de:Int) (im se pr up ba lz lt:Bool) (l:LL) (now:Int) (s s':σ) (h:(u.all isS&&(u.all Qk&&(A2 u.length&&(l.all isS&&A2 l.length))))=true)
  (hr:N7 yh ((K9 de im pr up ba (l.map elS) (u.map elS)).map Bv3) s=some s') :
   (∀ (k0:Bool->Bool->LL->Int->Bool->Bool->Bool->Bool->Bool->Bool->Bool->LL->Int->Int->Int->By->σ->Option R) (k1:Bool->Bool->LL->Int->Bool->Bool->Bool->Bool->Bool->Bool->Bool->LL->Int->σ->Option R),TK yh LF z t u de im se pr up ba lz lt l now s k0 k1=k1 z t u de im se pr up ba lz lt l now s')\/
   (∃ a r v,∀ (k0:Bool->Bool->LL->Int->Bool->Bool->Bool->Bool->Bool->Bool->Bool->LL->Int->Int->Int->By->σ->Option R) (k1:Bool->Bool->LL->Int->Bool->Bool->Bool->Bool->Bool->Bool->Bool->LL->Int->σ->Option R),TK yh LF z t u de im se pr up ba lz lt l now s k0 k1=k0 z t u de im se pr up ba lz lt l now a r v s'):=by
 have hLF:=F6
 simp only [Bool.and_eq_true] at h
 obtain ⟨h0,h1,h2,h3,h4⟩:=h
 have hu:=N5 h2
 have e:=Qo h0
 generalize u.map elS=q at e hr
 subst e
 rw [E1] at hu
 unfold TK
 rw [E1]
 exact CG yh z t q de im se pr up ba lz lt l now h1 h3 h4 hu q 0 LF s s' rfl (by omega) hr
theorem Fz (l:List Q6):(F2 l).length=l.length:=List.length_map ..
theorem Bc3 (l:List Q6) (x:Q6):F2 l++[Cl2 x]=F2 (l++[x]):=by simp [F2]
theorem Ba9:∀ (l:List Q6),(F1 l).2≠0->(F1 l).1=[]
 | [],h=>absurd rfl h
 | x::r,h=>by
  rw [O2] at h ⊢
  cases h1:(x.2.e != 0) with
  | true=>rfl
  | false=>
   cases h2:(x.2.a==3) with
   | true=>rw [h1,h2] at h;exact absurd rfl h
   | false=>
    cases h3:((F1 r).2 != 0) with
    | true=>rfl
    | false=>rw [h1,h2,h3] at h;exact absurd rfl h
theorem FX {R:Type} (kA:LL->Option R) (kB:Int->LL->By->Int->Int->By->Option R):∀ (L acc:List Q6),acc.length+L.length<=1000->
  ((F1 L).2=0->Eu LF L (F2 acc) kA kB kA=kA (F2 (acc++(F1 L).1)))/\((F1 L).2≠0->∃ l u a r v,Eu LF L (F2 acc) kA kB kA=kB (F1 L).2 l u a r v)
 | [],acc,hl=>⟨λ_=>by rw [show F1 []=([],0) from rfl,List.append_nil];rfl,λh=>absurd rfl h⟩
 | x::r,acc,hl=>by
  have hl':acc.length+1+r.length<=1000:=by simp at hl;omega
  obtain ⟨i1,i2⟩:=FX kA kB r (acc++[x]) (by rw [List.length_append];simpa using hl')
  rw [FW,O2]
  unfold Pz
  simp only [vl]
  rw [show F2 acc++[[SV.str x.1,SV.int .i64 (dA x.2),SV.int .i64 (dR x.2),SV.str (dU x.2)]]=F2 (acc++[x]) from Bc3 acc x]
  cases h1:(dE x.2 != 0) with
  | true=>
   refine ⟨λh=>?_,λ_=>⟨_,_,_,_,_,rfl⟩⟩
   simp only [cond_true] at h
   rw [show dE x.2=0 from h] at h1
   cases h1
  | false=>
   rw [I9 (by rw [Fz];omega)]
   simp only [cond_true,cond_false]
   cases h2:(dA x.2==3) with
   | true=>
    exact ⟨λ_=>rfl,λh=>absurd rfl h⟩
   | false=>
    simp only [cond_false]
    by_cases h3:(F1 r).2=0
    ·rw [show ((F1 r).2 != 0)=false by rw [h3];rfl]
     simp only [cond_false]
     refine ⟨λ_=>?_,λh=>absurd rfl h⟩
     rw [i1 h3,List.append_assoc]
     rfl
    ·rw [show ((F1 r).2 != 0)=true by simpa using h3]
     simp only [cond_true]
     exact ⟨λh=>absurd h h3,λ_=>i2 h3⟩
theorem Ac6 {R:Type} (kA:LL->Option R) (kB:Int->LL->By->Int->Int->By->Option R) (L:List Q6) (hl:L.length<=1000) :
  ((F1 L).2=0->Eu LF L [] kA kB kA=kA (F2 (F1 L).1))/\((F1 L).2≠0->∃ l u a r v,Eu LF L [] kA kB kA=kB (F1 L).2 l u a r v):=
 FX kA kB L [] (by simpa using hl)
theorem B19 (uz ut:Bool) (u:LL) (de:Int) (im se pr up ba z t:Bool) (l:LL) (now:Int) (g0:u.all isS=true) (g1:u.all Qk=true) (g2:A2 u.length=true) (g3:l.all isS=true) (g4:A2 l.length=true) :
  ∃ r H b,Bh7 uz ut u de im se pr up ba z t l now=rv r H/\((H[b]? = some (.arr true 38 4 (F2 (Nb de im pr up ba (l.map elS) (u.map elS)).1))/\r.nms.all (· == b)=true/\r.rn (λ_=>0) = .tup [.fl 0,pI (Nb de im pr up ba (l.map elS) (u.map elS)).2])\/
   (F2 (Nb de im pr up ba (l.map elS) (u.map elS)).1=[]/\∃ e0 s0 q,H[b]? = some (.arr true e0 s0 [])/\r = .tup (.fl b::q)/\B9 q=[]/\PV.tup (.fl 0::q)=PV.tup [.fl 0,pI (Nb de im pr up ba (l.map elS) (u.map elS)).2])):=by
 have hlen:(u.map elS).length=u.length:=List.length_map ..
 have hem:(u.map elS).isEmpty=((u.length:Int)==0):=by cases u<;>simp<;>omega
 unfold Bh7 Bh6 Xc Nb
 rw [g0,g1,g2,g3,g4,hlen,hem]
 simp only [Bool.and_true,Bool.true_and,cond_true]
 cases h0:((u.length:Int)==0) with
 | true=>exact ⟨_,_,9,rfl,.inr ⟨rfl,_,_,_,rfl,rfl,rfl,rfl⟩⟩
 | false=>
  rw [cond_false,Bool.false_or]
  by_cases h1:u.length<=20
  ·rw [A6,cond_false,show Nat.ble 21 u.length=false by rw [Bool.eq_false_iff,ne_eq,Nat.ble_eq];omega,cond_false]
   have hl:(K9 de im pr up ba (l.map elS) (u.map elS)).length=u.length:=by simp [K9]
   have key:=λR kA kB=>Ac6 (R:=R) kA kB (K9 de im pr up ba (l.map elS) (u.map elS)) (by rw [hl];omega)
   by_cases h2:(F1 (K9 de im pr up ba (l.map elS) (u.map elS))).2=0
   ·rw [(key _ _ _).1 h2,h2]
    exact ⟨_,_,9,rfl,.inl ⟨rfl,rfl,rfl⟩⟩
   ·obtain ⟨l',u',a,r,v,e⟩:=(key _ _ _).2 h2
    rw [e]
    refine ⟨_,_,14,rfl,.inr ⟨?_,_,_,_,rfl,rfl,rfl,rfl⟩⟩
    rw [Ba9 _ h2]
    rfl
  ·rw [B4,cond_true,show Nat.ble 21 u.length=true by rw [Nat.ble_eq];omega,cond_true]
   exact ⟨_,_,9,rfl,.inr ⟨rfl,_,_,_,rfl,rfl,rfl,rfl⟩⟩
abbrev HQ:=By × Int × Int × By
def hqC (x:HQ):List SV:=[.str x.1,.int .i64 x.2.1,.int .i64 x.2.2.1,.str x.2.2.2]
def hqE (l:List HQ):LL:=l.map hqC
def noQ:HQ:=([],0,0,[])
def DA (x:Q6):HQ:=(x.1,dA x.2,dR x.2,dU x.2)
theorem Al (l:List HQ):(hqE l).length=l.length:=List.length_map ..
theorem Wt (l:List Q6):F2 l=hqE (l.map DA):=by simp only [F2,hqE,List.map_map];rfl
theorem Cc0 (l:List HQ):(hqE l).map Eh=l:=by
 unfold hqE
 rw [List.map_map]
 exact List.map_id'' (λ_=>rfl) l
theorem Cb9 (l:List HQ):(hqE l).all Em=true:=by
 rw [List.all_eq_true]
 intro x hx
 obtain ⟨q,_,rfl⟩:=List.mem_map.1 hx
 rfl
theorem YK {l:LL} (h:l.all Em=true):l=hqE (l.map Eh):=by
 unfold hqE
 rw [List.map_map]
 symm
 rw [List.map_congr_left (g:=id)]
 ·simp
 ·intro x hx
  have:=List.all_eq_true.1 h x hx
  unfold Em at this
  split at this
  ·rfl
  ·cases this
theorem Lc {l:List HQ} {i:Nat} (h:i<l.length):(hqE l).getD i []=hqC (l.getD i noQ):=by
 rw [List.getD_eq_getElem?_getD,List.getD_eq_getElem?_getD,hqE,List.getElem?_map,List.getElem?_eq_getElem h]
 rfl
theorem XU {l:List HQ} {i:Nat} (h:i<l.length):gX (hqE l) i 0=(l.getD i noQ).1:=by unfold gX gC;rw [Lc h];rfl
theorem AH {l:List HQ} {i:Nat} (h:i<l.length):gE (hqE l) i 1=(l.getD i noQ).2.1:=by unfold gE gC;rw [Lc h];rfl
theorem XS {l:List HQ} {i:Nat} (h:i<l.length):gE (hqE l) i 2=(l.getD i noQ).2.2.1:=by unfold gE gC;rw [Lc h];rfl
theorem XV {l:List HQ} {i:Nat} (h:i<l.length):gX (hqE l) i 3=(l.getD i noQ).2.2.2:=by unfold gX gC;rw [Lc h];rfl
theorem Tj {l:List HQ} {i:Nat} (h:i<l.length):okE ⟨true,true,[.str,.int .i64,.int .i64,.str]⟩ (hqE l) i 0=true/\okE ⟨true,true,[.int .i64,.int .i64,.str]⟩ (hqE l) i 1=true/\okE DL (hqE l) i 1=true/\okE Qq (hqE l) i 0=true:=by
 unfold okE
 rw [Lc h,Al,decide_eq_true h]
 exact ⟨rfl,rfl,rfl,rfl⟩
theorem Ak4 {l:List HQ} {i:Nat} (h:i<l.length):l.drop i=l.getD i noQ::l.drop (i+1):=by
 rw [List.getD_eq_getElem?_getD,List.getElem?_eq_getElem h,Option.getD_some,List.getElem_cons_drop]
theorem AR {R:Type} (z t z2 t2:Bool) (a b:List HQ) (k0 k1:Unit->Option R) (hab:a.length=b.length) (hl:a.length<=1000000000):∀ (r i m:Nat),i+r=a.length->r<m->Dj LF m z t (hqE a) z2 t2 (hqE b) (i:Int) k0 k1=cond (a.drop i==b.drop i) (k1 ()) (k0 ())
 | 0,i,m,hi,hm=>by
  obtain ⟨m,rfl⟩:∃ q,m=q+1:=⟨m-1,by omega⟩
  rw [Dj,I3 (by rw [Al];omega),List.drop_of_length_le (by omega),List.drop_of_length_le (by omega)]
  rfl
 | r+1,i,m,hi,hm=>by
  obtain ⟨m,rfl⟩:∃ q,m=q+1:=⟨m-1,by omega⟩
  have ha:i<a.length:=by omega
  have hb:i<b.length:=by omega
  have e2:A4 ((i:Int)+1)=((i+1:Nat):Int):=by rw [A8];rfl
  rw [Dj,D8 (by rw [Al];omega),O6 (by omega) (by rw [Al];omega),O6 (by omega) (by rw [Al];omega),Int.toNat_natCast,(Tj ha).1,(Tj hb).1,XU ha,XU hb,AH ha,AH hb,XS ha,XS hb,XV ha,XV hb,e2,AR z t z2 t2 a b k0 k1 hab hl r (i+1) m (by omega) (by omega),Ak4 ha,Ak4 hb]
  simp only [cond_true]
  have heq:((a.getD i noQ::a.drop (i+1))==(b.getD i noQ::b.drop (i+1)))=((((a.getD i noQ).1==(b.getD i noQ).1)&&(((a.getD i noQ).2.1==(b.getD i noQ).2.1)&&(((a.getD i noQ).2.2.1==(b.getD i noQ).2.2.1)&&(((a.getD i noQ).2.2.2==(b.getD i noQ).2.2.2)&&true))))&&(a.drop (i+1)==b.drop (i+1))):=by
   rw [Bool.and_true];rfl
  rw [heq]
  cases (((a.getD i noQ).1==(b.getD i noQ).1)&&(((a.getD i noQ).2.1==(b.getD i noQ).2.1)&&(((a.getD i noQ).2.2.1==(b.getD i noQ).2.2.1)&&(((a.getD i noQ).2.2.2==(b.getD i noQ).2.2.2)&&true))))<;>rfl
theorem YN {R:Type} {k0:Bool->Option R} (z t:Bool) (l:LL) (z2 t2:Bool) (m:LL) (h0:l.all Em=true) (h1:A2 l.length=true) (h2:m.all Em=true) (h3:A2 m.length=true):Al7 LF z t l z2 t2 m k0=k0 (l.map Eh==m.map Eh):=by
 have hLF:=F6
 have ha:=N5 h1
 have hb:=N5 h3
 have r1:=YK h0
 have r2:=YK h2
 generalize l.map Eh=A at r1 ⊢
 generalize m.map Eh=B at r2 ⊢
 subst r1 r2
 rw [Al] at ha hb
 unfold Al7
 rw [Al,Al]
 by_cases h:A.length=B.length
 ·rw [show ((A.length:Int) != (B.length:Int))=false by rw [h];simp,cond_false]
  refine Eq.trans (AR z t z2 t2 A B _ _ h ha A.length 0 LF (by omega) (by omega)) ?_
  rw [List.drop_zero,List.drop_zero]
  cases (A==B)<;>rfl
 ·rw [show ((A.length:Int) != (B.length:Int))=true by rw [bne_iff_ne];omega,cond_true,show (A==B)=false by rw [beq_eq_false_iff_ne];rintro rfl;exact h rfl]
theorem B16 (z t:Bool) (l:LL) (h0:l.all Em=true) (h1:A2 l.length=true):∃ r H,B14 LF z t l (λr0 r1 H2=>rv (.tup [pS r0,pB r1]) H2)=rv r H/\r.stab [0,0] H = .tup [pS (Ba8 l).1,pB (Ba8 l).2]:=by
 have hl:=N5 h1
 have r1:=YK h0
 generalize l.map Eh=A at r1
 subst r1
 rw [Al] at hl
 unfold B14 Ba8
 cases A with
 | nil=>exact ⟨_,_,rfl,rfl⟩
 | cons e q=>
  rw [Al,show (((e::q).length:Int)==0)=false by simp;omega,cond_false,show (hqE (e::q)).isEmpty=false from rfl]
  simp only [vl,Bool.false_eq_true,if_false]
  have hn:A4 (((e::q).length:Int)-1)=(((e::q).length-1:Nat):Int):=by rw [A8];simp
  have hi:(e::q).length-1<(e::q).length:=by simp
  rw [hn,O6 (by omega) (by omega),cond_true,Int.toNat_natCast,(Tj hi).2.1,cond_true,AH hi,XS hi,XV hi,Lc hi]
  generalize (e::q).getD ((e::q).length-1) noQ=x
  unfold Cl0
  by_cases ha:x.2.1=3
  ·rw [if_pos (show ((hqC x).getD 1 .nilp).gI=3 from ha),ha];exact ⟨_,_,rfl,rfl⟩
  ·rw [if_neg (show ¬ ((hqC x).getD 1 .nilp).gI=3 from ha),show (x.2.1==3)=false by simpa using ha];exact ⟨_,_,rfl,rfl⟩
theorem Be0 (uz ut:Bool) (u:LL) (se pr up ba z t:Bool) (l:LL) (h0:u.all isS=true) (h1:l.all isS=true):∃ r H,Am4 LF uz ut u se pr up ba z t l (λr0 H1=>rv (pB r0) H1)=rv r H/\
  r.stab [] H=pB ((Nat.ble u.length 30&&Q1 1500 (u.map elS))&&(Nat.ble l.length 20&&Q1 400 (l.map elS))):=by
 unfold Am4
 by_cases c:30<u.length
 ·rw [B4,show Nat.ble u.length 30=false by rw [Bool.eq_false_iff,ne_eq,Nat.ble_eq];omega]
  exact ⟨_,_,rfl,rfl⟩
 rw [A6,h0,G2,show Nat.ble u.length 30=true by rw [Nat.ble_eq];omega]
 simp only [Bool.not_false,cond_true,Bool.true_and]
 cases Q1 1500 (u.map elS) with
 | false=>exact ⟨_,_,rfl,rfl⟩
 | true=>
  by_cases d:20<l.length
  ·rw [B4,show Nat.ble l.length 20=false by rw [Bool.eq_false_iff,ne_eq,Nat.ble_eq];omega]
   exact ⟨_,_,rfl,rfl⟩
  rw [A6,h1,G2,show Nat.ble l.length 20=true by rw [Nat.ble_eq];omega]
  exact ⟨_,_,rfl,rfl⟩
end
section
open Go Go.Proofs Go.Sort
set_option maxRecDepth 100000
theorem NN:A7 Tryz.prog GX 46 Nx:=by
 refine A7.fix (pf:=Yi) _ (F3 (fn:=Tryz.f46) (by kernel_rfl) (by kernel_rfl) (by kernel_rfl) ?_)
 intro args ret Hc h
 unfold Yi at h
 split at h
 ·rename_i s c
  obtain ⟨h0,h⟩:=B6 h
  obtain ⟨h1,h⟩:=B6 h
  obtain ⟨rfl,rfl⟩:=E6 h
  refine ⟨rfl,rfl,λC hP hCG Γ w Vs hG hlt hc=>?_⟩
  obtain ⟨U,V,rfl,hu,hv⟩:=hc.arr2
  obtain ⟨s',rfl,rfl⟩:=hu.inv_str
  obtain rfl:=hv.inv_int
  refine (Any.strings_IndexByte Tryz.lays137 s' c w).mono ?_
  rintro e w' ⟨rfl,rfl⟩
  exact ⟨_,rfl,RowKit.Below.refl _ _,VP.mk_int _ _⟩
 ·cases h
theorem B53:A7 Tryz.prog GX 59 Ah9:=by
 refine A7.fix (pf:=Xq) _ (F3 (fn:=Tryz.f59) (by kernel_rfl) (by kernel_rfl) (by kernel_rfl) ?_)
 intro args ret Hc h
 unfold Xq at h
 split at h
 ·rename_i n
  obtain ⟨h0,h⟩:=B6 h
  obtain ⟨rfl,rfl⟩:=E6 h
  refine ⟨rfl,rfl,λC hP hCG Γ w Vs hG hlt hc=>?_⟩
  obtain ⟨U,rfl,hu⟩:=hc.arr1
  obtain rfl:=hu.inv_int
  obtain ⟨hb0,hb1⟩:=AN.1 h0
  refine (Any.strconv_Itoa Tryz.laysM171 n (by omega) (by omega) w (Bb4 hG hCG)).mono ?_
  rintro e w' ⟨rfl,k,os,rfl⟩
  refine ⟨_,rfl,(Iz w k).trans (show RowKit.Below w.heap.size _ _ from Zc (w.drewN k) os),?_⟩
  have:Lib.itoa n=Ia n:=by
   unfold Lib.itoa Ia
   split
   ·rw [show n.natAbs=(-n).toNat by omega]
   ·rfl
  rw [this]
  exact VP.mk_str _
 ·cases h
theorem Bo0:A7 Tryz.prog GX 30 OF:=by
 refine A7.fix (pf:=Kq) _ (F3 (fn:=Tryz.f30) (by kernel_rfl) (by kernel_rfl) (by kernel_rfl) ?_)
 intro args ret Hc h
 unfold Kq at h
 split at h
 ·rename_i s p
  obtain ⟨h0,h⟩:=B6 h
  obtain ⟨h1,h⟩:=B6 h
  obtain ⟨h2,h⟩:=B6 h
  obtain ⟨rfl,rfl⟩:=E6 h
  refine ⟨rfl,rfl,λC hP hCG Γ w Vs hG hlt hc=>?_⟩
  obtain ⟨U,V,rfl,hu,hv⟩:=hc.arr2
  obtain ⟨s',rfl,rfl⟩:=hu.inv_str
  obtain ⟨p',rfl,hp⟩:=hv.inv_str
  have hs:=N5 h0
  have hp1:p=isl:=by simpa [Td] using h1
  have h9:=Nat.le_of_ble_eq_true h2
  have hz:=zero_of_info (P:=Tryz.prog) (t:=Tryz.lays153_ren.t 116) (v:=.agg (Array.replicate 256 (.bool false))) (n:=256) (by kernel_rfl)
  subst hp1
  have hpl:p'.size=3:=by have:=Lib.size_eq p';rw [hp] at this;exact this
  have hsl:=Lib.size_eq s'
  refine (Any.strings_IndexAny_long Tryz.lays153 hz.1 hz.2 s' p' w (by omega) (by omega) (by omega) (by omega) ?_).mono ?_
  ·rw [hp]
   intro j b hb
   have:b∈isl:=List.mem_of_getElem? hb
   revert b
   simp only [isl,List.mem_cons,List.not_mem_nil,or_false]
   rintro b _ (rfl | rfl | rfl)<;>decide
  ·rintro e w' ⟨rfl,rfl⟩
   rw [hp]
   exact ⟨_,rfl,((RowKit.Below.refl _ _).alloc (Nat.le_refl _) _).alloc (by simp) _,VP.mk_int _ _⟩
 ·cases h
end
section
open Go Go.Proofs
set_option maxRecDepth 100000
theorem MS {R:Type} {k0:Bool->Option R} (n:Int):MR LF n k0=k0 (ltI 8 n):=rfl
theorem TU {R:Type} {k0:Bool->Option R} (r:Int):CO LF r k0=k0 (CP r):=by
 have e1:ltN r 55296=(!ltI r 0&&ltI r 55296):=by
  rw [Bool.eq_iff_iff,D2,Bool.and_eq_true,Bool.not_eq_true',Pj,Le]
  omega
 have e2:(ltI 57343 r&&ltN r 1114112)=(ltI 57343 r && !ltI 1114111 r):=by
  rw [Bool.eq_iff_iff,Bool.and_eq_true,Bool.and_eq_true,D2,Bool.not_eq_true',Pj,Le]
  omega
 unfold CO Gl CP
 rw [e1,e2]
 cases ltI r 0<;>cases ltI r 55296<;>cases ltI 57343 r<;>cases ltI 1114111 r<;>rfl
theorem Cc6 (b:UInt8):Lib.indexByte isl b=irn (b.toNat:Int):=by
 by_cases h1:b=47
 ·subst h1;rfl
 ·by_cases h2:b=63
  ·subst h2;rfl
  ·by_cases h3:b=35
   ·subst h3;rfl
   ·have n:∀ c:UInt8,b≠c->(c==b)=false:=λc h=>by rw [beq_eq_false_iff_ne];exact Ne.symm h
    have e:∀ c:UInt8,b≠c->¬ (b.toNat:Int)=(c.toNat:Int):=λc h q=>h (UInt8.toNat_inj.1 (by omega))
    have i1:¬ (b.toNat:Int)=47:=e 47 h1
    have i2:¬ (b.toNat:Int)=63:=e 63 h2
    have i3:¬ (b.toNat:Int)=35:=e 35 h3
    unfold irn
    rw [if_neg i1,if_neg i2,if_neg i3]
    simp [isl,Lib.indexByte,n _ h1,n _ h2,n _ h3]
theorem Cl5 {l:By} {x:UInt8} (h:∀ b∈l,b.toNat<128) (hx:128<=x.toNat):Lib.indexByte l x = -1:=by
 have e:=Hb x l
 have hn:l.contains x=false:=by
  rw [Bool.eq_false_iff]
  intro hc
  have:=h x (by simpa using hc)
  omega
 rw [hn,Bool.not_false,Le] at e
 have:=Lib.indexByte_ge l x
 omega
theorem Ba3 {r:Int} (hv:CP r=true) (h:128<=r):2<=(Utf8.encode r).data.toList.length/\(Utf8.encode r).data.toList.length<=4/\128<=((Utf8.encode r).data.toList.getD ((Utf8.encode r).data.toList.length-1) 0).toNat:=by
 have hvr:Utf8.valid r=true:=by
  rw [validRune_eq]
  unfold validRune
  simp only [CP,Bool.or_eq_true,Bool.and_eq_true,D2,Le] at hv
  exact decide_eq_true (by omega)
 obtain ⟨h1,h2,h3⟩:=encode_facts r hvr h
 have hl:=Lib.size_eq (Utf8.encode r)
 rw [<-hl]
 refine ⟨h1,h2,?_⟩
 have h4:=h3 (by omega)
 rw [List.getD_eq_getElem?_getD,List.getElem?_eq_getElem (by omega),Option.getD_some]
 exact h4
theorem A09 (r:Int) (h:ltN r 1114112=true):∃ r' H,CB LF r (λr0=>rv (.s (.int .i64 r0)) []) (λr0 m1=>rv (.s (.int .i64 r0)) [.iter [47,63,35] m1])=rv r' H/\r'.stab [] H = .s (.int .i64 (irn r)):=by
 obtain ⟨h0,h1⟩:=D2.1 h
 have hLF:=F6
 unfold CB
 rw [A6,Bool.not_false,cond_true]
 unfold Gj
 by_cases h128:r<128
 ·obtain ⟨n,rfl⟩:=Int.eq_ofNat_of_zero_le h0
  have e:wu8 (n:Int)=(n:Int):=W8
  have e2:u8n (n:Int)=UInt8.ofNat n:=by unfold u8n;simp
  have e3:(((UInt8.ofNat n).toNat:Nat):Int)=(n:Int):=by simp;omega
  rw [B4,cond_true,e,J2,e2]
  have e4:=Cc6 (UInt8.ofNat n)
  rw [e3] at e4
  rw [<-e4]
  exact ⟨_,_,rfl,rfl⟩
 ·rw [A6,cond_false,Bc8 (by omega)]
  by_cases hF:r=65533
  ·subst hF
   obtain ⟨m,hm⟩:∃ m,LF=m+1+1+1+1:=⟨LF-4,by omega⟩
   have d0:Utf8.decode ⟨List.toArray ([47,63,35]:List UInt8)⟩ 0=(47,1):=rfl
   have d1:Utf8.decode ⟨List.toArray ([47,63,35]:List UInt8)⟩ 1=(63,1):=rfl
   have d2:Utf8.decode ⟨List.toArray ([47,63,35]:List UInt8)⟩ 2=(35,1):=rfl
   have go:∀ (R:Type) (k0:Int->Nat->Option R) (k1:Nat->Option R),T0 LF LF 0 k0 k1=k1 3:=λR k0 k1=>by
    have s3:T0 LF (m+1) 3 k0 k1=k1 3:=by rw [Ba];rfl
    have s2:T0 LF (m+1+1) 2 k0 k1=k1 3:=by rw [Ba];unfold Ae;rw [d2];exact s3
    have s1:T0 LF (m+1+1+1) 1 k0 k1=k1 3:=by rw [Ba];unfold Ae;rw [d1];exact s2
    have s0:T0 LF (m+1+1+1+1) 0 k0 k1=k1 3:=by rw [Ba];unfold Ae;rw [d0];exact s1
    rw [<-hm] at s0
    exact s0
   rw [go]
   exact ⟨_,_,rfl,rfl⟩
  ·rw [show (r==(65533:Int))=false by simpa using hF,cond_false]
   cases hv:CP r with
   | false=>exact ⟨_,_,rfl,rfl⟩
   | true=>
    obtain ⟨l2,l4,hx⟩:=Ba3 hv (by omega)
    simp only [vl,Bool.not_true,cond_false]
    generalize (Utf8.encode r).data.toList=l at *
    obtain ⟨m,hm⟩:∃ m,LF=m+1:=⟨LF-1,by omega⟩
    have e1:A4 ((l.length:Int)-1)=((l.length-1:Nat):Int):=by rw [A8];omega
    have go:∀ (R:Type) (k0:Int->Option R) (k1:Unit->Option R),k1 ()=k0 (-1)->Co LF LF l ((l.length-1:Nat):Int) k0 k1=k0 (-1):=λR k0 k1 hk=>by
     have s0:Co LF (m+1) l ((l.length-1:Nat):Int) k0 k1=k0 (-1):=by
      rw [Vo]
      unfold Hn
      by_cases h3:l.length=4
      ·rw [A6]
       exact hk
      ·rw [B4,J2,J2,K6,K6]
       simp only [vl,cond_true]
       have hlt:(([47,63,35]:List UInt8).getD (l.length-1) 0).toNat<128:=by
        have:l.length=2\/l.length=3:=by omega
        rcases this with q | q<;>rw [q]<;>decide
       have hne:((((([47,63,35]:List UInt8).getD (l.length-1) 0).toNat:Nat):Int) != (((l.getD (l.length-1) 0).toNat:Nat):Int))=true:=by
        rw [bne_iff_ne];omega
       have e2:A4 (((l.length-1:Nat):Int)+1)=((l.length:Nat):Int):=by rw [A8];omega
       have e3:cut ([47,63,35]:List UInt8) ((l.length:Nat):Int) 3=([47,63,35]:List UInt8).drop l.length:=by
        rw [show (3:Int)=((3:Nat):Int) from rfl,Wq];rfl
       have hb:=(l.getD (l.length-1) 0).toNat_lt
       rw [hne,cond_true,e2,M7,cond_true,e3,E2 (by simp;omega),cond_true,J2,cond_true,NB,Cl5 (λb hb=>?_) hx]
       ·rfl
       ·have:=List.mem_of_mem_drop hb
        simp only [List.mem_cons,List.not_mem_nil,or_false] at this
        rcases this with rfl | rfl | rfl<;>decide
     rw [<-hm] at s0
     exact s0
    rw [e1,go _ _ _ rfl]
    exact ⟨_,_,rfl,rfl⟩
theorem A41:A7 Tryz.prog GX 50 Rn:=by
 refine A7.fix (pf:=Ml) _ (F5 [] (C₀:=Sj LF) (G8.ok (l:=[]) rfl trivial) (D4 rfl (by kernel_rfl)) follows ?_)
 intro args ret Hc h
 unfold Ml at h
 split at h
 ·rename_i n
  obtain ⟨rfl,rfl⟩:=E6 h
  have e:=(Ad8 LF noY () 0 n).trans (MS n)
  exact ⟨rfl,rfl,rfl,1,_,_,e,rfl⟩
 ·cases h
theorem Bp0:A7 Tryz.prog GX 71 Yt:=by
 refine A7.fix (pf:=Ru) _ (F5 [] (C₀:=X5 LF) (G8.ok (l:=[]) rfl trivial) (D4 rfl (by kernel_rfl)) follows ?_)
 intro args ret Hc h
 unfold Ru at h
 split at h
 ·rename_i n
  obtain ⟨rfl,rfl⟩:=E6 h
  have e:=(A33 LF noY () 0 n).trans (TU n)
  exact ⟨rfl,rfl,rfl,1,_,_,e,rfl⟩
 ·cases h
theorem Bo3:A7 Tryz.prog GX 51 Ir:=λargs ret Hc h=>by
 have:G7 (Ir args)=none:=by unfold Ir DP;split<;>rfl
 rw [this] at h;cases h
theorem Bo2:A7 Tryz.prog GX 49 Yj:=by
 refine A7.fix (pf:=Rm) _ (F5 [] (C₀:=I2 LF) (G8.ok (l:=[(46,Nx),(71,Yt)]) rfl ⟨NN,Bp0,trivial⟩) (D4 rfl (by kernel_rfl)) follows ?_)
 intro args ret Hc h
 unfold Rm at h
 split at h
 ·rename_i p r
  obtain ⟨h0,h⟩:=B6 h
  obtain ⟨h1,h⟩:=B6 h
  obtain ⟨rfl,rfl⟩:=E6 h
  obtain rfl:p=isl:=by simpa [Td] using h0
  obtain ⟨r',H,e,hs⟩:=A09 r h1
  exact ⟨rfl,rfl,rfl,1,r',H,(A08 LF noY () 0 r).trans e,hs⟩
 ·cases h
theorem CE:∀ (w:Nat) (l:By),w<=l.length->(∀ i,i<w->R5 (l.getD i 0)=false)->I6 l=w+I6 (l.drop w)
 | 0,l,_,_=>by simp
 | w+1,[],h,_=>by simp at h
 | w+1,b::l,h,hb=>by
  have h0:=hb 0 (by omega)
  rw [List.getD_cons_zero] at h0
  have ih:=CE w l (by simpa using h) (λi hi=>by have:=hb (i+1) (by omega);rwa [List.getD_cons_succ] at this)
  rw [Dw,h0,List.drop_succ_cons]
  simp only [Bool.false_eq_true,if_false]
  omega
theorem SW (s:By) (hs:s.length<=8):∀ (f m n:Nat),s.length-m<=f->m<=s.length->f<n->∃ H m',∀ (R:Type) (k0:Int->List Blk->Option R) (k1:By->Nat->Option R),
  Gi LF n s m k0 k1=if I6 (s.drop m)<(s.drop m).length then k0 ((m+I6 (s.drop m):Nat):Int) H else k1 s m':=by
 intro f
 induction f with
 | zero=>
  intro m n hf hm hn
  obtain ⟨n,rfl⟩:∃ q,n=q+1:=⟨n-1,by omega⟩
  refine ⟨[],m,λR k0 k1=>?_⟩
  rw [W5]
  unfold R4
  rw [decide_eq_false (by omega),cond_false,List.drop_of_length_le (by omega),if_neg (by simp)]
 | succ f ih=>
  intro m n hf hm hn
  obtain ⟨n,rfl⟩:∃ q,n=q+1:=⟨n-1,by omega⟩
  by_cases hlt:m<s.length
  ·have hd:=Lib.decodeL_drop ⟨s.toArray⟩ m
   have hd':Utf8.decode ⟨List.toArray s⟩ m=Lib.decodeL (s.drop m):=by rw [<-hd]
   have hc:=M8 s m hlt
   have hl:(s.drop m).length=s.length-m:=List.length_drop
   generalize hb:s.getD m 0=b at hc
   by_cases h128:b.toNat<128
   ·have ed:Lib.decodeL (s.drop m)=(b.toNat,1):=by rw [hc];exact Lib.decodeL_ascii b _ h128
    have e1:=Cc7 b
    cases hsl:R5 b with
    | true=>
     rw [hsl,Bool.not_true] at e1
     have h0:I6 (s.drop m)=0:=by rw [hc,Dw,hsl];rfl
     refine ⟨[Blk.iter s (m+1)],m,λR k0 k1=>?_⟩
     rw [W5]
     unfold R4
     rw [decide_eq_true hlt,hd',ed,h0,Bj]
     simp only [vl,cond_true]
     rw [show Td ([47,63,35]:List UInt8)=true from rfl,cond_true,D2.2 ⟨by omega,by omega⟩,cond_true,e1]
     rfl
    | false=>
     rw [hsl,Bool.not_false] at e1
     have h0:I6 (s.drop m)=I6 (s.drop (m+1))+1:=by rw [hc,Dw,hsl];rfl
     have hl2:(s.drop (m+1)).length=s.length-(m+1):=List.length_drop
     obtain ⟨H,m',e⟩:=ih (m+1) n (by omega) (by omega) (by omega)
     refine ⟨H,m',λR k0 k1=>?_⟩
     rw [W5]
     unfold R4
     rw [decide_eq_true hlt,hd',ed]
     simp only [vl,cond_true]
     rw [show Td ([47,63,35]:List UInt8)=true from rfl,cond_true,D2.2 ⟨by omega,by omega⟩,cond_true,e1,Bool.not_true,cond_false,e,h0]
     by_cases q:I6 (s.drop (m+1))<(s.drop (m+1)).length
     ·rw [if_pos q,Bj,show m+1+I6 (s.drop (m+1))=m+(I6 (s.drop (m+1))+1) by omega]
     ·rw [if_neg q,P5]
   ·obtain ⟨q1,q2,q3,q4,q5⟩:=Cb1 b (s.drop (m+1)) (by omega)
    rw [<-hc] at q1 q2 q3 q4 q5
    have hl2:(s.drop (m+1)).length=s.length-(m+1):=List.length_drop
    generalize Lib.decodeL (s.drop m)=d at *
    obtain ⟨c,w⟩:=d
    simp only at q1 q2 q3 q4 q5
    have hsk:=CE w (s.drop m) (by omega) (λi hi=>Bi2 (q5 i hi))
    rw [List.drop_drop] at hsk
    have hl3:(s.drop (m+w)).length=s.length-(m+w):=List.length_drop
    have e1:ltI (irn (c:Int)) 0=true:=by rw [Bc8 (by omega)];rfl
    obtain ⟨H,m',e⟩:=ih (m+w) n (by omega) (by omega) (by omega)
    refine ⟨H,m',λR k0 k1=>?_⟩
    rw [W5]
    unfold R4
    rw [decide_eq_true hlt,hd']
    simp only [vl,cond_true]
    rw [show Td ([47,63,35]:List UInt8)=true from rfl,cond_true,D2.2 ⟨by omega,by omega⟩,cond_true,e1,Bool.not_true,cond_false,e,hsk]
    by_cases q:I6 (s.drop (m+w))<(s.drop (m+w)).length
    ·rw [if_pos q,Bj,show m+w+I6 (s.drop (m+w))=m+(w+I6 (s.drop (m+w))) by omega]
    ·rw [if_neg q,P5]
  ·refine ⟨[],m,λR k0 k1=>?_⟩
   rw [W5]
   unfold R4
   rw [decide_eq_false hlt,cond_false,List.drop_of_length_le (by omega),if_neg (by simp)]
theorem A06 (s:By) (h:s.length<=8):∃ r H,ML LF s (λr0 H1=>rv (.s (.int .i64 r0)) H1)=rv r H/\r.stab [] H = .s (.int .i64 (Lib.indexAny s isl)):=by
 have hLF:=F6
 obtain ⟨H,m',e⟩:=SW s h s.length 0 LF (by omega) (by omega) (by omega)
 unfold ML
 rw [A6,cond_false,e,Ff,List.drop_zero,Nat.zero_add]
 by_cases q:I6 s<s.length
 ·rw [if_pos q,if_pos q]
  exact ⟨_,_,rfl,rfl⟩
 ·rw [if_neg q,if_neg q]
  exact ⟨_,_,rfl,rfl⟩
theorem Bo1:A7 Tryz.prog GX 30 OG:=by
 refine A7.fix (pf:=Kr) _ (F5 [] (C₀:=Cy LF) (G8.ok (l:=[(49,Yj),(50,Rn),(51,Ir)]) rfl ⟨Bo2,A41,Bo3,trivial⟩) (D4 rfl (by kernel_rfl)) follows ?_)
 intro args ret Hc h
 unfold Kr at h
 split at h
 ·rename_i s p
  obtain ⟨h0,h⟩:=B6 h
  obtain ⟨h1,h⟩:=B6 h
  obtain ⟨rfl,rfl⟩:=E6 h
  obtain rfl:p=isl:=by simpa [Td] using h0
  obtain ⟨r',H,e,hs⟩:=A06 s (Nat.le_of_ble_eq_true h1)
  exact ⟨rfl,rfl,rfl,1,r',H,(A05 LF noY () 0 s).trans e,hs⟩
 ·cases h
theorem Ag {c:Bool} {t:Tr} (h:c=true):G7 (.need c t)=G7 t:=by subst h;rfl
theorem B64:A7 Tryz.prog GX 30 IQ:=λargs ret Hc h=>by
 have hL:=Bo0 args ret Hc
 have hS:=Bo1 args ret Hc
 unfold IQ at h
 unfold OF at hL
 unfold OG at hS
 generalize C1 [[0],[0]] args=l at h hL hS
 unfold OE at h
 split at h
 ·rename_i s p
  obtain ⟨h0,h⟩:=B6 h
  obtain ⟨h1,h⟩:=B6 h
  by_cases h8:s.length<=8
  ·refine hS ?_
   unfold Kr
   rw [Ag h1,Ag (Nat.ble_eq_true_of_le h8)]
   exact h
  ·refine hL ?_
   unfold Kq
   rw [Ag h0,Ag h1,Ag (Nat.ble_eq_true_of_le (by omega))]
   exact h
 ·cases h
section
theorem B60:A7 Tryz.prog GX 82 Ai3:=xf [] (JV LF) Xy rfl ⟨Ag8,trivial⟩ rfl (by kernel_rfl) follows λargs=>by
 unfold Xy;split
 ·rename_i s p;exact λh0=>⟨rfl,rfl,rfl,_,_,(Be3 LF noY () 0 s p).trans (ZI s p h0),rfl⟩
 ·trivial
theorem Ci8:A7 Tryz.prog GX 57 A61:=xf [] (WT LF) IU rfl ⟨B60,trivial⟩ rfl (by kernel_rfl) follows λargs=>by
 unfold IU;split
 ·rename_i s p;exact λh0=>⟨rfl,rfl,rfl,_,_,(B26 LF noY () 0 s p).trans (A20 s p h0),rfl⟩
 ·trivial
theorem Xh:A7 Tryz.prog GX 47 Nz:=xf [] (KF LF) Yq rfl trivial rfl (by kernel_rfl) follows λargs=>by
 unfold Yq;split
 ·rename_i s;exact ⟨rfl,rfl,rfl,_,_,(Bk5 LF noY () 0 s).trans (Af5 s ),rfl⟩
 ·trivial
theorem NO:A7 Tryz.prog GX 28 Wm:=xf [] (KG LF) Yr rfl ⟨Xh,trivial⟩ rfl (by kernel_rfl) follows λargs=>by
 unfold Yr;split
 ·rename_i s;exact ⟨rfl,rfl,rfl,_,_,(Bk8 LF noY () 0 s).trans (Ag0 s ),rfl⟩
 ·trivial
theorem Bo5:A7 Tryz.prog GX 34 VA:=xf [] (WW LF) IW rfl ⟨Xh,trivial⟩ rfl (by kernel_rfl) follows λargs=>by
 unfold IW;split
 ·rename_i sc us kd nm v4 a0 a1 a2 a3 a4 a5 a6 a7 po re;exact (let ⟨rr,hH,ee,qq⟩:=B32 sc us kd nm v4 a0 a1 a2 a3 a4 a5 a6 a7 po re ; ⟨rfl,rfl,rfl,rr,hH,(B31 LF noY () 0 sc us kd nm v4 a0 a1 a2 a3 a4 a5 a6 a7 po re).trans ee,qq⟩)
 ·trivial
theorem Cj1:A7 Tryz.prog GX 26 A65:=xf [] (T6 LF) IZ rfl ⟨NN,trivial⟩ rfl (by kernel_rfl) follows λargs=>by
 unfold IZ;split
 ·rename_i s;exact λh0=>⟨rfl,rfl,rfl,_,_,(B38 LF noY () 0 s).trans (A31 s h0),rfl⟩
 ·trivial
theorem Cj0:A7 Tryz.prog GX 56 A64:=xf [0,0] (Mw LF) IX rfl trivial rfl (by kernel_rfl) follows λargs=>by
 unfold IX;split
 ·rename_i s;exact λh0=>⟨rfl,rfl,rfl,_,_,(B34 LF noY () 0 s).trans (A23 s h0),rfl⟩
 ·trivial
theorem Bo7:A7 Tryz.prog GX 32 OJ:=xf [0,0] (R0 LF) Rs rfl ⟨Ap6,NL,NN,Bm7,Ci8,Cj0,Xh,trivial⟩ rfl (by kernel_rfl) follows λargs=>by
 unfold Rs;split
 ·rename_i sc us kd nm v4 a0 a1 a2 a3 a4 a5 a6 a7 po re a;exact λh0=>λh1=>λh2=>λh3=>λh4=>(let ⟨rr,hH,ee,qq⟩:=A28 sc us kd nm v4 a0 a1 a2 a3 a4 a5 a6 a7 po re a h0 h1 h2 h3 h4;⟨rfl,rfl,rfl,rr,hH,(A27 LF noY () 0 sc us kd nm v4 a0 a1 a2 a3 a4 a5 a6 a7 po re a).trans ee,qq⟩)
 ·trivial
theorem Bo8:A7 Tryz.prog GX 18 VB:=xf [0,0] (Mx LF) IY rfl ⟨Ag9,Cj1,Bn2,NO,Bm3,B64,NL,Bo7,trivial⟩ rfl (by kernel_rfl) follows λargs=>by
 unfold IY;split
 ·rename_i s;exact λh0=>(let ⟨rr,hH,ee,qq⟩:=B36 s h0;⟨rfl,rfl,rfl,rr,hH,(B35 LF noY () 0 s).trans ee,qq⟩)
 ·trivial
theorem Bo6:A7 Tryz.prog GX 15 OI:=xf [0,0] (Zk LF) Rq rfl ⟨Bo8,trivial⟩ rfl (by kernel_rfl) follows λargs=>by
 unfold Rq;split
 ·rename_i s;exact λh0=>(let ⟨rr,hH,ee,qq⟩:=A25 s h0;⟨rfl,rfl,rfl,rr,hH,(A24 LF noY () 0 s).trans ee,qq⟩)
 ·trivial
theorem Ap9:A7 Tryz.prog GX 33 JA:=xf [] (KH LF) Ys rfl ⟨NO,Bm6,B53,trivial⟩ rfl (by kernel_rfl) follows λargs=>by
 unfold Ys;split
 ·rename_i sc us kd nm v4 a0 a1 a2 a3 a4 a5 a6 a7 po re;exact λh0=>λh1=>λh2=>λh3=>(let ⟨rr,hH,ee,qq⟩:=Bl0 sc us kd nm v4 a0 a1 a2 a3 a4 a5 a6 a7 po re h0 h1 h2 h3;⟨rfl,rfl,rfl,rr,hH,(Bk9 LF noY () 0 sc us kd nm v4 a0 a1 a2 a3 a4 a5 a6 a7 po re).trans ee,qq⟩)
 ·trivial
theorem Ub:A7 Tryz.prog GX 19 Ks:=xf [] (Sl LF) Mn rfl ⟨Ap9,Bo8,trivial⟩ rfl (by kernel_rfl) follows λargs=>by
 unfold Mn;split
 ·rename_i sc us kd nm v4 a0 a1 a2 a3 a4 a5 a6 a7 po re;exact λh0=>λh1=>λh2=>λh3=>(let ⟨rr,hH,ee,qq⟩:=Ag2 sc us kd nm v4 a0 a1 a2 a3 a4 a5 a6 a7 po re h0 h1 h2 h3;⟨rfl,rfl,rfl,rr,hH,(Ag1 LF noY () 0 sc us kd nm v4 a0 a1 a2 a3 a4 a5 a6 a7 po re).trans ee,qq⟩)
 ·trivial
theorem Ci9:A7 Tryz.prog GX 35 A63:=xf [] (WU LF) IV rfl ⟨Ub,Ap9,trivial⟩ rfl (by kernel_rfl) follows λargs=>by
 unfold IV;split
 ·rename_i sc us kd nm v4 a0 a1 a2 a3 a4 a5 a6 a7 po re;exact λh0=>λh1=>λh2=>λh3=>(let ⟨rr,hH,ee,qq⟩:=B30 sc us kd nm v4 a0 a1 a2 a3 a4 a5 a6 a7 po re h0 h1 h2 h3;⟨rfl,rfl,rfl,rr,hH,(B29 LF noY () 0 sc us kd nm v4 a0 a1 a2 a3 a4 a5 a6 a7 po re).trans ee,qq⟩)
 ·trivial
end
end
section
open Go Go.Proofs Go.RowKit
set_option maxRecDepth 100000
abbrev Kg (sc us:ByteArray) (kd:Int) (nm:ByteArray) (v4 a0 a1 a2 a3 a4 a5 a6 a7 po:Int) (re:ByteArray):Array Value:=#[.string sc,.string us,.int .i64 kd,.string nm,.int .u32 v4,.int .u16 a0,.int .u16 a1,.int .u16 a2,.int .u16 a3,.int .u16 a4,.int .u16 a5,.int .u16 a6,.int .u16 a7,.int .i64 po,.string re]
abbrev Qd:ByteArray:=⟨#[104,116,116,112]⟩
abbrev Kb:ByteArray:=⟨#[104,116,116,112,115]⟩
abbrev sWs:ByteArray:=⟨#[119,115]⟩
abbrev Ad0:ByteArray:=⟨#[119,115,115]⟩
abbrev Fv:MapEntry:={ key:=.string Qd,val:=.string Kb,born:=0 }
abbrev Su:MapEntry:={ key:=.string sWs,val:=.string Ad0,born:=1 }
theorem Oa (w:World) (o:Obj):(w.alloc o).heap[w.heap.size]? = some o:=(MapKept.heap_alloc w o).1
theorem DW (w:World) (o p:Obj):({ (w.alloc o) with heap:=(w.alloc o).heap.setIfInBounds w.heap.size p }:World)=w.alloc p:=by
 have e:(w.heap.push o).setIfInBounds w.heap.size p=w.heap.push p:=by
  apply Array.toList_inj.1
  rw [Array.toList_setIfInBounds,Array.toList_push,Array.toList_push,<-Array.length_toList,List.set_append_right _ _ (Nat.le_refl _),Nat.sub_self]
  rfl
 show ({ w with heap:=(w.heap.push o).setIfInBounds w.heap.size p }:World) = { w with heap:=w.heap.push p }
 rw [e]
theorem Cd2 {P:Program} {t k e:TypeId} (hm:P.underlying t=some (.map k e)) (hk:P.underlying k=some .string) (w:World):(Instr.mapUpdate t (.map (some w.heap.size)) (.string Qd) (.string Kb)).run P (w.alloc (.map #[] 0)) = .ok () (w.alloc (.map #[Fv] 1)):=by
 rw [run_mapUpdate_first (w:=w.alloc (.map #[] 0)) t k e w.heap.size 0 Qd (.string Kb) hm hk (Oa w _),DW]
theorem Cd3 {P:Program} {t k e:TypeId} (hm:P.underlying t=some (.map k e)) (hk:P.underlying k=some .string) (w:World):(Instr.mapUpdate t (.map (some w.heap.size)) (.string sWs) (.string Ad0)).run P (w.alloc (.map #[Fv] 1)) = .ok () (w.alloc (.map #[Fv,Su] 2)):=by
 have hb:=Oa w (.map #[Fv] 1)
 have hf:Instr.findNow .string (.string sWs) (#[Fv]:Array MapEntry).toList 0=some none:=rfl
 have hc:(Instr.checkKey false 10000 k (.string sWs)).run P (w.alloc (.map #[Fv] 1)) = .ok () (w.alloc (.map #[Fv] 1)):=MapKept.run_checkKey (k:=.string sWs) hk (by simp [MapKept.IsKey]) false 9999
 simp only [Instr.mapUpdate,Sem.run_bind,run_underlying hm,MapKept.run_getObj_map hb,hc,MapKept.run_findKey hk hf,MapKept.run_setObj_map _ hb,Result.andThen]
 exact congrArg (Result.ok ()) (DW w (.map #[Fv] 1) (.map #[Fv,Su] 2))
theorem Be5 {P:Program} {t k e:TypeId} (hm:P.underlying t=some (.map k e)) (hk:P.underlying k=some .string) (w:World):(Instr.lookup t (.map (some w.heap.size)) (.string Qd) false).run P (w.alloc (.map #[Fv,Su] 2)) = .ok (.string Kb) (w.alloc (.map #[Fv,Su] 2))/\(Instr.lookup t (.map (some w.heap.size)) (.string sWs) false).run P (w.alloc (.map #[Fv,Su] 2)) = .ok (.string Ad0) (w.alloc (.map #[Fv,Su] 2)):=by
 have hb:=Oa w (.map #[Fv,Su] 2)
 have hf:Instr.findNow .string (.string Qd) (#[Fv,Su]:Array MapEntry).toList 0=some (some (0,.string Kb)):=rfl
 have hf2:Instr.findNow .string (.string sWs) (#[Fv,Su]:Array MapEntry).toList 0=some (some (1,.string Ad0)):=rfl
 have hc:∀ s b,(Instr.checkKey b 10000 k (.string s)).run P (w.alloc (.map #[Fv,Su] 2)) = .ok () (w.alloc (.map #[Fv,Su] 2)):=λs b=>MapKept.run_checkKey (k:=.string s) hk (by simp [MapKept.IsKey]) b 9999
 constructor
 ·simp [Instr.lookup,run_underlying hm,MapKept.run_getObj_map hb,hc,MapKept.run_findKey hk hf,Result.andThen]
 ·simp [Instr.lookup,run_underlying hm,MapKept.run_getObj_map hb,hc,MapKept.run_findKey hk hf2,Result.andThen]
theorem size_alloc (w:World) (o:Obj):(w.alloc o).heap.size=w.heap.size+1:=Array.size_push ..
theorem QJ (w:World) (A B C D:Obj):((((w.alloc A).alloc B).alloc C).alloc D).heap[w.heap.size+1]? = some B:=by
 have e:∀ (w:World) (o:Obj) (i:Nat),i<w.heap.size->(w.alloc o).heap[i]? = w.heap[i]?:=λw o i h=>by
  show (w.heap.push o)[i]? = w.heap[i]?
  rw [Array.getElem?_push,if_neg (Nat.ne_of_lt h)]
 rw [e _ _ _ (by simp only [size_alloc];omega),e _ _ _ (by simp only [size_alloc];omega),<-size_alloc w A]
 exact Oa (w.alloc A) B
theorem PL (w:World) (o:Obj) (n:Nat):(w.alloc o).drewN n=(w.drewN n).alloc o:=rfl
theorem Az5 (w:World):Calls Tryz.prog 47 #[.string Qd] w λe w'=>e = .returned (.int .i64 80)/\w'=w:=by
 go_enter Tryz.func47,Tryz.ntmps47
 go_wp2
 go_ret
 exact ⟨rfl,rfl⟩
theorem Ab4 (w:World):Calls Tryz.prog 47 #[.string Kb] w λe w'=>e = .returned (.int .i64 443)/\w'=w:=by
 go_enter Tryz.func47,Tryz.ntmps47
 go_wp2
 go_ret
 exact ⟨rfl,rfl⟩
theorem B05 (w:World):Calls Tryz.prog 47 #[.string sWs] w λe w'=>e = .returned (.int .i64 80)/\w'=w:=by
 go_enter Tryz.func47,Tryz.ntmps47
 go_wp2
 go_ret
 exact ⟨rfl,rfl⟩
theorem Bg9 (w:World):Calls Tryz.prog 47 #[.string Ad0] w λe w'=>e = .returned (.int .i64 443)/\w'=w:=by
 go_enter Tryz.func47,Tryz.ntmps47
 go_wp2
 go_ret
 exact ⟨rfl,rfl⟩
theorem Bc7 (sc us nm re:ByteArray) (kd v4 a0 a1 a2 a3 a4 a5 a6 a7 po:Int) (hp:∀ w,Calls Tryz.prog 47 #[.string sc] w λe w'=>e = .returned (.int .i64 80)/\w'=w) (w:World):Calls Tryz.prog 34 #[.agg (Kg sc us kd nm v4 a0 a1 a2 a3 a4 a5 a6 a7 po re)] w λe w'=>e = .returned (.bool true)/\w'=w.alloc (.cells (Kg sc us kd nm v4 a0 a1 a2 a3 a4 a5 a6 a7 po re) 60):=by
 have e44:∀ args w,(callFunc 47 args).run Tryz.prog w = .ok (.enter 47 args) w:=enters_of Tryz.func47 (by kernel_rfl) rfl
 go_enter Tryz.func34,Tryz.ntmps34
 go_wp2_with (go_at_fn 47;refine (hp _).mono ?_;rintro e w' ⟨rfl,hw⟩;rw [hw])
 go_ret
 exact ⟨rfl,rfl⟩
theorem Ao9 (sc sc2 us nm re:ByteArray) (kd v4 a0 a1 a2 a3 a4 a5 a6 a7 po po2:Int) (h1:po=443->po2 = -1) (h2:¬ po=443->po2=po)
  (hins:∀ w,Calls Tryz.prog 34 #[.agg (Kg sc us kd nm v4 a0 a1 a2 a3 a4 a5 a6 a7 po re)] w λe w'=>e = .returned (.bool true)/\w'=w.alloc (.cells (Kg sc us kd nm v4 a0 a1 a2 a3 a4 a5 a6 a7 po re) 60))
  (hl:∀ w:World,(Instr.lookup 113 (.map (some w.heap.size)) (.string sc) false).run Tryz.prog (w.alloc (.map #[Fv,Su] 2)) = .ok (.string sc2) (w.alloc (.map #[Fv,Su] 2)))
  (hport:∀ w,Calls Tryz.prog 47 #[.string sc2] w λe w'=>e = .returned (.int .i64 443)/\w'=w) (w:World) :
  Calls Tryz.prog 36 #[.agg (Kg sc us kd nm v4 a0 a1 a2 a3 a4 a5 a6 a7 po re)] w λe w'=>e = .returned (.agg (Kg sc2 us kd nm v4 a0 a1 a2 a3 a4 a5 a6 a7 po2 re))/\Below w.heap.size w w':=by
 have e24:∀ args w,(callFunc 34 args).run Tryz.prog w = .ok (.enter 34 args) w:=enters_of Tryz.func34 (by kernel_rfl) rfl
 have e44:∀ args w,(callFunc 47 args).run Tryz.prog w = .ok (.enter 47 args) w:=enters_of Tryz.func47 (by kernel_rfl) rfl
 have hmm:=@run_makeMap Tryz.prog
 have h3:∀ (w:World) A B C,(((w.alloc A).alloc B).alloc C).heap.size=w.heap.size+1+1+1:=λw A B C=>by simp only [World.alloc,Array.size_push]
 have hi1:∀ (w:World) A B C,_:=λw A B C=>h3 w A B C ▸ Cd2 (P:=Tryz.prog) Tryz.underlying113 Tryz.underlying9 (((w.alloc A).alloc B).alloc C)
 have hi2:∀ (w:World) A B C,_:=λw A B C=>h3 w A B C ▸ Cd3 (P:=Tryz.prog) Tryz.underlying113 Tryz.underlying9 (((w.alloc A).alloc B).alloc C)
 have hlk:∀ (w:World) A B C,_:=λw A B C=>h3 w A B C ▸ hl (((w.alloc A).alloc B).alloc C)
 clear hl
 go_enter Tryz.func36,Tryz.ntmps36
 go_wp2_with (go_at_fn 34;refine (hins _).mono ?_;rintro e w' ⟨rfl,hw⟩;rw [hw])
 clear hins hmm e24
 go_quiet (first | (go_at_call 47;exact Calls.quiet_of_same (hport _)))
 obtain ⟨w2,hw2⟩:∃ w2,w2=w.drewN nq:=⟨_,rfl⟩
 have hs:w.heap.size=w2.heap.size:=by rw [hw2];rfl
 have hB:Below w2.heap.size w w2:=by rw [<-hs,hw2];exact ⟨rfl,rfl,rfl,Nat.le_refl _,λ_ _=>rfl⟩
 simp only [PL,<-hw2,hs]
 clear hi1 hi2 hlk h3 hw2
 go_wp2
 all_goals (try simp only [Exit.inBlock,Exit.then])
 ·have e:=h1 (by first | rfl | simpa using ‹(po==443)=true›)
  subst e
  refine bodyPost_ret (results_cell_row rfl _ _ (w2.heap.size+1) 60 _ _ _ rfl (QJ _ _ _ _ _) Tryz.underlying60 rfl (by kernel_rfl)) rfl ⟨rfl,?_⟩
  rw [hs]
  exact (((hB.alloc (Nat.le_refl _) _).alloc (by simp only [size_alloc];omega) _).alloc (by simp only [size_alloc];omega) _).alloc (by simp only [size_alloc];omega) _
 ·have e:=h2 (by first | assumption | simpa using ‹(po==443)=false›)
  subst e
  refine bodyPost_ret (results_cell_row rfl _ _ (w2.heap.size+1) 60 _ _ _ rfl (QJ _ _ _ _ _) Tryz.underlying60 rfl (by kernel_rfl)) rfl ⟨rfl,?_⟩
  rw [hs]
  exact (((hB.alloc (Nat.le_refl _) _).alloc (by simp only [size_alloc];omega) _).alloc (by simp only [size_alloc];omega) _).alloc (by simp only [size_alloc];omega) _
end
section
open Go Go.Proofs
set_option maxRecDepth 100000
section
variable {σ R : Type} (lf : Nat) (cl : D3) (yh : Yh σ) (s : σ) (k : Out -> St σ -> Option R)
noncomputable def WX (lf:Nat):Cfg:=B8 lf [36] (A3 []) [(34,VA),(47,Nz)] (A3 [(6,[2]),(5,[1,0]),(4,[1,0,15]),(3,[1,0]),(2,[2]),(1,[1,0,2]),(0,[1,0])]) [34,47] (A3 []) (some [2]) [] [] []
noncomputable def B39 {R:Type} (lf:Nat) (u0 u1:By) (u2:Int) (u3:By) (u4 u5 u6 u7 u8 u9 u10 u11 u12 u13:Int) (u14:By) (k0:By->By->Int->By->Int->Int->Int->Int->Int->Int->Int->Int->Int->Int->By->(List Blk)->Option R):Option R:=cond (not (P6 u0)) (k0 u0 u1 u2 u3 u4 u5 u6 u7 u8 u9 u10 u11 u12 u13 u14 [(bU u0 u1 u2 u3 u4 u5 u6 u7 u8 u9 u10 u11 u12 u13 u14),(bU u0 u1 u2 u3 u4 u5 u6 u7 u8 u9 u10 u11 u12 u13 u14)]) none
theorem B40 (d:Nat) (u0 u1 u2 u3 u4 u5 u6 u7 u8 u9 u10 u11 u12 u13 u14):evC (WX lf) (d+1) σ yh 36 [(gU u0 u1 u2 u3 u4 u5 u6 u7 u8 u9 u10 u11 u12 u13 u14)] [] s=B39 lf u0 u1 u2 u3 u4 u5 u6 u7 u8 u9 u10 u11 u12 u13 u14 (λr0 r1 r2 r3 r4 r5 r6 r7 r8 r9 r10 r11 r12 r13 r14 H15=>some ((gU r0 r1 r2 r3 r4 r5 r6 r7 r8 r9 r10 r11 r12 r13 r14),H15,s)):=by
 refine (evE (fn:=Tryz.f36) (by kernel_rfl)).trans ?_
 generalize evC (WX lf) d=cl
 unfold B39;kernel_rfl
end
end
section
open Go Go.Proofs Go.RowKit
set_option maxRecDepth 100000
theorem Cc5 {Γ:Ctx} {sh:Nat->Option Shp} {w:World} {V:Value} {sc us:By} {kd:Int} {nm:By} {v4 a0 a1 a2 a3 a4 a5 a6 a7 po:Int} {re:By} (h:VP Γ sh w (gU sc us kd nm v4 a0 a1 a2 a3 a4 a5 a6 a7 po re) V) :
  ∃ sc' us' nm' re':ByteArray,sc=sc'.data.toList/\us=us'.data.toList/\nm=nm'.data.toList/\re=re'.data.toList/\V = .agg (Kg sc' us' kd nm' v4 a0 a1 a2 a3 a4 a5 a6 a7 po re'):=by
 obtain ⟨A,rfl,hA,hc⟩:=h.inv_agg
 have hs:A.size=15:=hA
 obtain ⟨_,e0,q0⟩:=hc 0 (show 0<15 by omega)
 obtain ⟨_,e1,q1⟩:=hc 1 (show 1<15 by omega)
 obtain ⟨_,e2,q2⟩:=hc 2 (show 2<15 by omega)
 obtain ⟨_,e3,q3⟩:=hc 3 (show 3<15 by omega)
 obtain ⟨_,e4,q4⟩:=hc 4 (show 4<15 by omega)
 obtain ⟨_,e5,q5⟩:=hc 5 (show 5<15 by omega)
 obtain ⟨_,e6,q6⟩:=hc 6 (show 6<15 by omega)
 obtain ⟨_,e7,q7⟩:=hc 7 (show 7<15 by omega)
 obtain ⟨_,e8,q8⟩:=hc 8 (show 8<15 by omega)
 obtain ⟨_,e9,q9⟩:=hc 9 (show 9<15 by omega)
 obtain ⟨_,e10,q10⟩:=hc 10 (show 10<15 by omega)
 obtain ⟨_,e11,q11⟩:=hc 11 (show 11<15 by omega)
 obtain ⟨_,e12,q12⟩:=hc 12 (show 12<15 by omega)
 obtain ⟨_,e13,q13⟩:=hc 13 (show 13<15 by omega)
 obtain ⟨_,e14,q14⟩:=hc 14 (show 14<15 by omega)
 obtain ⟨sc',rfl,rfl⟩:=VP.inv_str q0
 obtain ⟨us',rfl,rfl⟩:=VP.inv_str q1
 obtain rfl:=VP.inv_int q2
 obtain ⟨nm',rfl,rfl⟩:=VP.inv_str q3
 obtain rfl:=VP.inv_int q4
 obtain rfl:=VP.inv_int q5
 obtain rfl:=VP.inv_int q6
 obtain rfl:=VP.inv_int q7
 obtain rfl:=VP.inv_int q8
 obtain rfl:=VP.inv_int q9
 obtain rfl:=VP.inv_int q10
 obtain rfl:=VP.inv_int q11
 obtain rfl:=VP.inv_int q12
 obtain rfl:=VP.inv_int q13
 obtain ⟨re',rfl,rfl⟩:=VP.inv_str q14
 refine ⟨sc',us',nm',re',rfl,rfl,rfl,rfl,?_⟩
 congr 1
 apply Array.ext_getElem?
 intro i
 match i with
 | 0=>exact e0
 | 1=>exact e1
 | 2=>exact e2
 | 3=>exact e3
 | 4=>exact e4
 | 5=>exact e5
 | 6=>exact e6
 | 7=>exact e7
 | 8=>exact e8
 | 9=>exact e9
 | 10=>exact e10
 | 11=>exact e11
 | 12=>exact e12
 | 13=>exact e13
 | 14=>exact e14
 | n+15=>rw [Array.getElem?_eq_none (by omega),Array.getElem?_eq_none (by simp)]
theorem B93 {Γ:Ctx} {sh:Nat->Option Shp} {w:World} (sc us:ByteArray) (kd:Int) (nm:ByteArray) (v4 a0 a1 a2 a3 a4 a5 a6 a7 po:Int) (re:ByteArray) :
  VP Γ sh w (gU sc.data.toList us.data.toList kd nm.data.toList v4 a0 a1 a2 a3 a4 a5 a6 a7 po re.data.toList) (.agg (Kg sc us kd nm v4 a0 a1 a2 a3 a4 a5 a6 a7 po re)):=by
 refine VP.mk_agg rfl λj hj=>?_
 match j,hj with
 | 0,_=>exact ⟨_,rfl,VP.mk_str sc.data.toList⟩
 | 1,_=>exact ⟨_,rfl,VP.mk_str us.data.toList⟩
 | 2,_=>exact ⟨_,rfl,VP.mk_int _ _⟩
 | 3,_=>exact ⟨_,rfl,VP.mk_str nm.data.toList⟩
 | 4,_=>exact ⟨_,rfl,VP.mk_int _ _⟩
 | 5,_=>exact ⟨_,rfl,VP.mk_int _ _⟩
 | 6,_=>exact ⟨_,rfl,VP.mk_int _ _⟩
 | 7,_=>exact ⟨_,rfl,VP.mk_int _ _⟩
 | 8,_=>exact ⟨_,rfl,VP.mk_int _ _⟩
 | 9,_=>exact ⟨_,rfl,VP.mk_int _ _⟩
 | 10,_=>exact ⟨_,rfl,VP.mk_int _ _⟩
 | 11,_=>exact ⟨_,rfl,VP.mk_int _ _⟩
 | 12,_=>exact ⟨_,rfl,VP.mk_int _ _⟩
 | 13,_=>exact ⟨_,rfl,VP.mk_int _ _⟩
 | 14,_=>exact ⟨_,rfl,VP.mk_str re.data.toList⟩
 | n+15,h=>exact absurd h (by simp)
theorem OZ {s t:ByteArray} (h:s.data.toList=t.data.toList):s=t:=by
 cases s with
 | mk a=>cases t with
  | mk b=>congr 1;exact Array.toList_inj.1 h
theorem Cf1 {s:By} {po:Int} (h:P6 s=true):upP s po=if po=443 then -1 else po:=by
 unfold upP
 rw [h,Bool.true_and]
 by_cases q:po=443
 ·rw [if_pos q,q];rfl
 ·rw [if_neg q,show (po==443)=false by simpa using q];rfl
theorem Cj2:A7 Tryz.prog GX 36 A68:=by
 refine A7.fix (pf:=Wn) _ (F3 (fn:=Tryz.f36) (by kernel_rfl) (by kernel_rfl) (by kernel_rfl) ?_)
 intro args ret Hc h
 unfold Wn at h
 split at h
 ·rename_i sc us kd nm v4 a0 a1 a2 a3 a4 a5 a6 a7 po re
  obtain ⟨h0,h⟩:=B6 h
  obtain ⟨rfl,rfl⟩:=E6 h
  refine ⟨rfl,rfl,λC hP hCG Γ w Vs hG hlt hc=>?_⟩
  obtain ⟨U,rfl,hu⟩:=hc.arr1
  obtain ⟨sc',us',nm',re',rfl,rfl,rfl,rfl,rfl⟩:=Cc5 hu
  rw [Cf1 h0]
  rcases Uu h0 with hs | hs
  ·obtain rfl:sc'=Qd:=OZ (t:=Qd) hs
   have W:=Ao9 Qd Kb us' nm' re' kd v4 a0 a1 a2 a3 a4 a5 a6 a7 po (if po=443 then -1 else po) (λq=>if_pos q) (λq=>if_neg q) (λw=>Bc7 _ _ _ _ _ _ _ _ _ _ _ _ _ _ _ Az5 w) (λw=>(Be5 Tryz.underlying113 Tryz.underlying9 w).1) Ab4 w
   refine W.mono ?_
   rintro e w' ⟨rfl,hB⟩
   exact ⟨_,rfl,hB,B93 Kb us' kd nm' v4 a0 a1 a2 a3 a4 a5 a6 a7 _ re'⟩
  ·obtain rfl:sc'=sWs:=OZ (t:=sWs) hs
   have W:=Ao9 sWs Ad0 us' nm' re' kd v4 a0 a1 a2 a3 a4 a5 a6 a7 po (if po=443 then -1 else po) (λq=>if_pos q) (λq=>if_neg q) (λw=>Bc7 _ _ _ _ _ _ _ _ _ _ _ _ _ _ _ B05 w) (λw=>(Be5 Tryz.underlying113 Tryz.underlying9 w).2) Bg9 w
   refine W.mono ?_
   rintro e w' ⟨rfl,hB⟩
   exact ⟨_,rfl,hB,B93 Ad0 us' kd nm' v4 a0 a1 a2 a3 a4 a5 a6 a7 _ re'⟩
 ·cases h
theorem B41 (sc us:By) (kd:Int) (nm:By) (v4 a0 a1 a2 a3 a4 a5 a6 a7 po:Int) (re:By) (h0:(not (P6 sc))=true) :
  ∃ r H,B39 LF sc us kd nm v4 a0 a1 a2 a3 a4 a5 a6 a7 po re (λs0 s1 n2 s3 n4 n5 n6 n7 n8 n9 n10 n11 n12 n13 s14 H15=>rv (gU s0 s1 n2 s3 n4 n5 n6 n7 n8 n9 n10 n11 n12 n13 s14) H15)=rv r H/\r.stab [] H=gU sc us kd nm v4 a0 a1 a2 a3 a4 a5 a6 a7 po re:=by
 unfold B39
 rw [h0]
 exact ⟨_,_,rfl,rfl⟩
end
section
open Go Go.Proofs
set_option maxRecDepth 100000
section
theorem Cj3:A7 Tryz.prog GX 36 A69:=xf [] (WX LF) Wo rfl ⟨Bo5,Xh,trivial⟩ rfl (by kernel_rfl) follows λargs=>by
 unfold Wo;split
 ·rename_i sc us kd nm v4 a0 a1 a2 a3 a4 a5 a6 a7 po re;exact λh0=>(let ⟨rr,hH,ee,qq⟩:=B41 sc us kd nm v4 a0 a1 a2 a3 a4 a5 a6 a7 po re h0;⟨rfl,rfl,rfl,rr,hH,(B40 LF noY () 0 sc us kd nm v4 a0 a1 a2 a3 a4 a5 a6 a7 po re).trans ee,qq⟩)
 ·trivial
end
end
section
open Go Go.Proofs Go.RowKit
set_option maxRecDepth 100000
theorem Cm7:A7 Tryz.prog GX 36 A66:=λargs ret Hc h=>by
 have hI:=Cj2 args ret Hc
 have hS:=Cj3 args ret Hc
 unfold A66 at h
 unfold A68 at hI
 unfold A69 at hS
 generalize C1 _ args=l at h hI hS
 unfold A67 at h
 split at h
 ·rename_i sc us kd nm v4 a0 a1 a2 a3 a4 a5 a6 a7 po re
  cases hi:P6 sc with
  | true=>
   refine hI ?_
   unfold Wn
   rw [Ag hi]
   exact h
  | false=>
   refine hS ?_
   unfold Wo
   rw [Ag (by rw [hi];rfl)]
   obtain ⟨e1,e2⟩:=Ao8 hi po
   rw [e1,e2] at h
   exact h
 ·cases h
end
section
open Go Go.Proofs
set_option maxRecDepth 100000
section
theorem Bn1:A7 Tryz.prog GX 9 OB:=xf [] (Cv LF) Ri rfl trivial rfl (by kernel_rfl) follows λargs=>by
 unfold Ri;split
 ·rename_i n l_z l_t l;exact λh0=>λh1=>⟨rfl,rfl,rfl,_,_,(Av8 LF noY () 0 n l_z l_t l).trans (RC n l_z l_t l h0 h1),rfl⟩
 ·trivial
theorem Ch8:A7 Tryz.prog GX 7 UP:=xf [] (WJ LF) HP rfl trivial rfl (by kernel_rfl) follows λargs=>by
 unfold HP;split
 ·rename_i n m;exact λh0=>λh1=>⟨rfl,rfl,rfl,_,_,(Bw7 LF noY () 0 n m).trans (Av7 n m h0 h1),rfl⟩
 ·trivial
end
theorem TO {els:LL} (h:∀ el∈els,Ty.ofL [.str] el):els.all isS=true:=by
 rw [List.all_eq_true]
 intro el he
 have:=h el he
 simp only [Ty.ofL,Ty.of] at this
 obtain ⟨_,_,rfl,⟨l,rfl,_⟩,rfl⟩:=this
 rfl
theorem Bq2 {P:Program} {t:Nat} {v:PV} (h:Nu P t v) (e:Bq P 20 t=some [.bool,.bool,.bool,.bool,.slice [.str]]) (ha:Iu P t=true) :
  ∃ se pr up ba z l,v = .agg [.s (.bool se),.s (.bool pr),.s (.bool up),.s (.bool ba),.s (.sl z false 1 l)]/\l.all isS=true:=by
 obtain ⟨tys,l,h1,h2,h3⟩:=h
 rw [e] at h1
 obtain rfl:=Option.some.inj h1
 simp only [Ty.ofL] at h2
 obtain ⟨_,_,rfl,⟨se,rfl⟩,_,_,rfl,⟨pr,rfl⟩,_,_,rfl,⟨up,rfl⟩,_,_,rfl,⟨ba,rfl⟩,x,_,rfl,hx,rfl⟩:=h2
 simp only [Ty.of,List.length_cons,List.length_nil] at hx
 have ⟨z,l,ex,hl⟩:∃ z l,x = .sl z false 1 l/\l.all isS=true:=by
  rcases hx with rfl | ⟨els,rfl,_,hall⟩
  ·exact ⟨true,[],rfl,rfl⟩
  ·exact ⟨false,els,rfl,TO hall⟩
 subst ex
 rcases h3 with ⟨_,rfl⟩ | ⟨h3,_⟩
 ·exact ⟨se,pr,up,ba,z,l,rfl,hl⟩
 ·rw [ha] at h3;cases h3
theorem A04 {n:Int} {l:List By} (hn:n<=10000000) (h:Q1 n l=true):(C5 l).all Qk=true:=by
 rw [List.all_eq_true]
 intro x hx
 obtain ⟨q,hq,rfl⟩:=List.mem_map.1 hx
 have:(!ltI n (q.length:Int))=true:=List.all_eq_true.1 h q hq
 have h2:¬ n<(q.length:Int):=λhc=>by rw [D8 hc] at this;cases this
 show Nat.ble q.length 10000000=true
 rw [Nat.ble_eq]
 omega
theorem GD (l:List By):(C5 l).all isS=true:=by
 rw [List.all_eq_true]
 intro x hx
 obtain ⟨q,_,rfl⟩:=List.mem_map.1 hx
 rfl
theorem Al1 {l:List Q6} {i:Nat} (h:i<l.length):(l.map DA).getD i noQ=DA (l[i]):=by
 rw [List.getD_eq_getElem?_getD,List.getElem?_map,List.getElem?_eq_getElem h]
 rfl
theorem RL {R:Type} (uz ut:Bool) (us:List By) (s4:By) (n5:Int) (b6 b7 b8 b9 b10 z11 t12:Bool) (l13:LL) (A:List Q6) (l15:LL) (k0:List Blk->Option R) (k1:Bool->Bool->LL->By->Int->Bool->Bool->Bool->Bool->Bool->Bool->Bool->LL->LL->LL->Option R)
  (hu:A.length<=us.length) (hl:us.length<=1000) (hx:∀ i (h:i<A.length),(A[i]).1=us.getD i []) (hb:∀ i (h:i<A.length),i+1<A.length->(A[i]).2.a≠3):∀ (r i m:Nat),i+r=A.length->r<m->
   Jq LF m uz ut (C5 us) (i:Int) s4 n5 b6 b7 b8 b9 b10 z11 t12 l13 (F2 A) l15 k0 k1=k1 uz ut (C5 us) s4 n5 b6 b7 b8 b9 b10 z11 t12 l13 (F2 A) l15
 | 0,i,m,hi,hm=>by
  obtain ⟨m,rfl⟩:∃ q,m=q+1:=⟨m-1,by omega⟩
  rw [Jq,I3 (by rw [Fz];omega)]
  rfl
 | r+1,i,m,hi,hm=>by
  obtain ⟨m,rfl⟩:∃ q,m=q+1:=⟨m-1,by omega⟩
  have ha:i<A.length:=by omega
  have ha':i<(A.map DA).length:=by rw [List.length_map];exact ha
  have e2:A4 ((i:Int)+1)=((i+1:Nat):Int):=by rw [A8];rfl
  have e3:A4 ((A.length:Int)-1)=((A.length-1:Nat):Int):=by rw [A8];omega
  have ih:=RL uz ut us s4 n5 b6 b7 b8 b9 b10 z11 t12 l13 A l15 k0 k1 hu hl hx hb r (i+1) m (by omega) (by omega)
  have q0:(F2 A).length=A.length:=Fz A
  have q1:=(Tj ha').2.2.2
  have q2:=XU ha'
  have q3:=(Tj ha').2.2.1
  have q4:=AH ha'
  rw [<-Wt] at q1 q2 q3 q4
  rw [Al1 ha] at q2 q4
  rw [Jq]
  simp only [vl]
  rw [q0,D8 (by omega),O6 (by omega) (by omega),O6 (by omega) (by rw [E1];omega),Int.toNat_natCast,q1,q2,U2 (by omega),Ak,e2,e3,ih,show ((DA A[i]).1==us.getD i [])=true by rw [beq_iff_eq];exact hx i ha]
  simp only [cond_true,Bool.not_true,cond_false]
  by_cases hc:i+1<A.length
  ·rw [D8 (by omega),q3,q4,show ((DA A[i]).2.1==3)=false from beq_eq_false_iff_ne.2 (hb i ha hc)]
   rfl
  ·rw [I3 (by omega)]
   rfl
theorem Ae5 (de:Int) (im pr up ba:Bool) (hs us:List By) (k:Nat):K9 de im pr up ba hs (us.take k)=(K9 de im pr up ba hs us).take k:=by
 unfold K9
 rw [List.map_take]
theorem KP {de:Int} {im pr up ba:Bool} {hs us:List By} (h1:us≠[]) (h2:us.length<=20):Nb de im pr up ba hs us=F1 (K9 de im pr up ba hs us):=by
 unfold Nb
 rw [show us.isEmpty=false by cases us<;>simp at h1 ⊢,show Nat.ble 21 us.length=false by rw [Bool.eq_false_iff,ne_eq,Nat.ble_eq];omega]
 rfl
theorem At9 (l:List Q6) (n:Nat):(F2 l).take n=F2 (l.take n):=by unfold F2;rw [List.map_take]
theorem QL (l:List Q6):(F2 l).all Em=true:=by rw [Wt];exact Cb9 _
theorem Bv4 (l:List Q6):(F2 l).map Eh=l.map DA:=by rw [Wt,Cc0]
theorem Bv5 (l:List Q6):plE (F2 l)=true:=by
 unfold plE
 rw [List.all_eq_true]
 intro x hx
 obtain ⟨q,_,rfl⟩:=List.mem_map.1 hx
 rfl
theorem Ts (us:List By) (n:Nat):(C5 us).take n=C5 (us.take n):=by unfold C5;rw [List.map_take]
theorem GE (us:List By) (x:By):C5 us++[[SV.str x]]=C5 (us++[x]):=by simp [C5]
theorem Aj4 {us:List By} (h:(C5 us).all Qk=true) (k:Nat):(C5 (us.take k)).all Qk=true:=by
 rw [List.all_eq_true] at h ⊢
 intro x hx
 rw [<-Ts] at hx
 exact h x (List.mem_of_mem_take hx)
theorem A70 {us:List By} {x:By} (h:(C5 us).all Qk=true) (hx:smP x=true):(C5 (us++[x])).all Qk=true:=by
 rw [<-GE,List.all_append,h]
 simp only [List.all_cons,List.all_nil,Bool.and_true,Bool.true_and]
 exact hx
def Za:By:=[110,111,110,115,101,110,115,101]
theorem RK {R:Type} (h0:Int) (b1:Bool) (s2:By) (n3:Int) (b4 b5 b6 b7 b8 z9 t10:Bool) (l11:LL) (A B:List Q6) (l13 l14:LL) (k0:Bool->List Blk->Option R) (k1:Int->Bool->By->Int->Bool->Bool->Bool->Bool->Bool->Bool->Bool->LL->LL->LL->LL->LL->Option R)
  (hA:A.length<=1000) (hB:B.length<=1000) (h:b1=true->h0=0/\B=A):(∃ H,Jp h0 b1 s2 n3 b4 b5 b6 b7 b8 z9 t10 l11 (F2 A) l13 l14 (F2 B) k0 k1=k0 true H)\/Jp h0 b1 s2 n3 b4 b5 b6 b7 b8 z9 t10 l11 (F2 A) l13 l14 (F2 B) k0 k1=k1 h0 b1 s2 n3 b4 b5 b6 b7 b8 z9 t10 l11 (F2 A) l13 l14 (F2 B):=by
 unfold Jp
 cases b1 with
 | false=>exact .inr rfl
 | true=>
  obtain ⟨rfl,rfl⟩:=h rfl
  refine .inl ?_
  rw [QL,Fz,G2,beq_self_eq_true,beq_self_eq_true]
  exact ⟨_,rfl⟩
theorem Bd8 (uz ut:Bool) (u:LL) (s:By) (de:Int) (im se pr up ba z t:Bool) (l:LL) (ct:Int) (hu:u.all isS=true) (hl:l.all isS=true) :
  Tru (evC (Cw LF) 1 Unit noY 3 [.s (.sl uz ut 1 u),.agg [.s (.str s),.s (.int .i64 de),.s (.bool im)],gCx se pr up ba z t l,.s (.int .i64 ct)] [] ()):=by
 refine Eq.subst (motive:=Tru) (Cd1 (σ:=Unit) LF noY () 0 uz ut u s de im se pr up ba z t l ct).symm ?_
 have hLF:=F6
 have eu:=Qo hu
 generalize u.map elS=us at eu
 subst eu
 unfold lrp
 rw [hu,hl,cond_true,cond_true,E1,Jg]
 cases hsm:((Nat.ble us.length 30&&Q1 1500 us)&&(Nat.ble l.length 20&&Q1 400 (l.map elS))) with
 | false=>exact ⟨_,rfl⟩
 | true=>
 simp only [Bool.and_eq_true,Nat.ble_eq] at hsm
 obtain ⟨⟨_,m2⟩,m3,_⟩:=hsm
 rw [Bool.not_true,cond_false]
 by_cases c0:us.length=0
 ·rw [show ((us.length:Int)==0)=true by rw [c0];rfl]
  exact ⟨_,rfl⟩
 rw [show ((us.length:Int)==0)=false by rw [beq_eq_false_iff_ne];omega,cond_false]
 by_cases c1:20<us.length
 ·rw [B4]
  exact ⟨_,rfl⟩
 have hne:us≠[]:=λh=>c0 (by rw [h];rfl)
 have hs0:=A04 (by decide) m2
 rw [A6,cond_false,hs0,G2,G2,B4,Vb (by omega) (by omega)]
 simp only [cond_true,vl]
 have b1:0<=Int.emod ct us.length:=Int.emod_nonneg ct (by omega)
 have b2:Int.emod ct us.length<us.length:=Int.emod_lt_of_pos ct (by omega)
 generalize Int.emod ct us.length=w at b1 b2 ⊢
 obtain ⟨k,rfl⟩:=Int.eq_ofNat_of_zero_le b1
 have ek:A4 (1+((k:Nat):Int))=((k+1:Nat):Int):=by rw [A8];omega
 have hk:k+1<=us.length:=by omega
 simp only [ek,U1,Int.toNat_natCast,Ts,Jg,GD,Aj4 hs0 (k+1),E1,List.length_take]
 rw [M7,G2,cond_true,cond_true]
 simp only [cond_true]
 rw [KP hne (by omega),KP (us:=us.take (k+1)) (by rw [ne_eq,List.take_eq_nil_iff];simp [hne]) (by rw [List.length_take];omega),Ae5]
 have hL:(K9 de im pr up ba (l.map elS) us).length=us.length:=by simp [K9]
 have hLg:∀ i (h:i<(K9 de im pr up ba (l.map elS) us).length),((K9 de im pr up ba (l.map elS) us)[i]).1=us.getD i []:=λi h=>by
  have h':i<us.length:=by rw [hL] at h;exact h
  simp [K9,List.getD_eq_getElem?_getD,List.getElem?_eq_getElem h']
 have hLn:∀ n,K9 de im pr up ba (l.map elS) (us.take n++[Za])=(K9 de im pr up ba (l.map elS) us).take n++[(Za,W9 Za de im pr up ba (l.map elS))]:=λn=>by simp [K9,List.map_take]
 generalize hLe:K9 de im pr up ba (l.map elS) us=L at *
 by_cases he:(F1 L).2=0
 ·obtain ⟨p1,p2,p3,p4⟩:=Ak6 L he
  obtain ⟨t1,t2⟩:=EQ L (k+1) he
  have hn0:(F1 L).1≠[]:=p2 (λh=>by rw [h] at hL;exact c0 hL.symm)
  have hle:(F1 L).1.length<=us.length:=by
   have:=congrArg List.length p1
   rw [List.length_take] at this
   omega
  have hpos:0<(F1 L).1.length:=List.length_pos_iff.2 hn0
  rw [show ((F1 L).2 != 0)=false by rw [he];rfl,show ((F1 (L.take (k+1))).2 != 0)=false by rw [t1];rfl,t2]
  have hAx:∀ i (h:i<(F1 L).1.length),((F1 L).1[i]).1=us.getD i []:=λi h=>by
   have h2:i<L.length:=by omega
   have:(F1 L).1[i]=L[i]:=by
    have e3:(F1 L).1[i]? = (L.take (F1 L).1.length)[i]?:=by rw [<-p1]
    rw [List.getElem?_take,if_pos h,List.getElem?_eq_getElem h,List.getElem?_eq_getElem h2] at e3
    exact Option.some.inj e3
   rw [this]
   exact hLg i h2
  have hbh:(∃ x,(F1 L).1.getLast? = some x/\x.2.a=3)->F1 (L.take (F1 L).1.length++[(Za,W9 Za de im pr up ba (l.map elS))])=F1 L:=Uq L _ he
  generalize hA:(F1 L).1=A at *
  have hAt:(A.take (k+1)).length<=A.length:=by rw [List.length_take];omega
  have hAlen:(A.take (k+1)).length=min (k+1) A.length:=List.length_take
  simp only [Fz,QL,Int.toNat_natCast,Nat.sub_zero,List.drop_zero,At9,Bv4,hAlen,List.length_take]
  rw [cond_false,cond_false,show ((A.length:Int)==0)=false by rw [beq_eq_false_iff_ne];omega,cond_false,A6,cond_false,A6,cond_false,M7,G2,G2]
  have ht:A.take (min (k+1) A.length)=A.take (k+1):=by
   rcases Nat.le_total (k+1) A.length with h | h
   ·rw [Nat.min_eq_left h]
   ·rw [Nat.min_eq_right h,List.take_length,List.take_of_length_le h]
  simp only [cond_true,ht,beq_self_eq_true,Bool.not_true,cond_false]
  rw [show (((min (k+1) A.length:Nat):Int) != if (A.length:Int)<((k+1:Nat):Int) then (A.length:Int) else ((k+1:Nat):Int))=false by
   rw [bne_eq_false_iff_eq]
   split<;>omega]
  rw [cond_false]
  refine Eq.subst (motive:=Tru) (RL uz ut us s de im se pr up ba z t l A (F2 (A.take (k+1))) _ _ hle (by omega) hAx p3 A.length 0 LF (by omega) (by omega)).symm ?_
  simp only [Fz,U1,Int.toNat_natCast,Ts,E1,List.length_take,vl]
  rw [M7,I9 (by omega),I9 (by omega)]
  simp only [show ([110,111,110,115,101,110,115,101]:By)=Za from rfl,GE,GD,A70 (Aj4 hs0 A.length) (show smP Za=true from rfl),hl,cond_true,Jg,E1]
  rw [G2 (by rw [List.length_append,List.length_take];simp;omega),G2]
  have e3:A4 ((A.length:Int)-1)=((A.length-1:Nat):Int):=by rw [A8];omega
  have hi:A.length-1<A.length:=by omega
  have hi':A.length-1<(A.map DA).length:=by rw [List.length_map];exact hi
  have q3:=(Tj hi').2.2.1
  have q4:=AH hi'
  rw [<-Wt] at q3 q4
  rw [Al1 hi] at q4
  have hlast:A.getLast? = some A[A.length-1]:=by rw [List.getLast?_eq_getElem?,List.getElem?_eq_getElem hi]
  simp only [cond_true,Bv5,Bool.and_true,e3]
  rw [O6 (by omega) (by omega),Int.toNat_natCast,q3,q4,cond_true,cond_true]
  generalize hP:Nb de im pr up ba (l.map elS) (us.take A.length++[Za])=P
  cases hb:((DA A[A.length-1]).2.1==3) with
  | true=>
   rw [cond_true]
   have hblk:=hbh ⟨_,hlast,by simpa [DA] using hb⟩
   have hP2:P.1.length<=1000/\(ltI (A.length:Int) 20=true->P.2=0/\P.1=A):=by
    by_cases h20:A.length<20
    ·rw [KP (by simp) (by rw [List.length_append,List.length_take];simp;omega),hLn,hblk] at hP
     subst hP
     rw [hA]
     exact ⟨by omega,λ_=>⟨he,rfl⟩⟩
    ·have:Nb de im pr up ba (l.map elS) (us.take A.length++[Za])=([],3):=by
      unfold Nb
      rw [show Nat.ble 21 (us.take A.length++[Za]).length=true by rw [Nat.ble_eq,List.length_append,List.length_take];simp;omega,Bool.or_true]
      rfl
     rw [this] at hP
     subst hP
     exact ⟨by simp,λh=>by rw [A6] at h;cases h⟩
   rcases RK P.2 (ltI (A.length:Int) 20) s de im se pr up ba z t l A P.1 (F2 (A.take (k+1))) (C5 (us.take A.length++[Za])) _ _ (by omega) hP2.1 hP2.2 with ⟨H,e⟩ | e
   ·exact Eq.subst (motive:=Tru) e.symm ⟨_,rfl⟩
   ·exact Eq.subst (motive:=Tru) e.symm ⟨_,rfl⟩
  | false=>
   rw [cond_false]
   unfold Jp
   exact ⟨_,rfl⟩
 ·rw [show ((F1 L).2 != 0)=true by simpa using he]
  simp only [cond_true]
  rcases QA L (k+1) with e | e
  ·rw [e]
   exact ⟨_,rfl⟩
  ·rw [e,show ((F1 L).2==0)=false by simpa using he,beq_self_eq_true]
   exact ⟨_,rfl⟩
theorem A72 {P:Program} {t:Nat} {v:PV} (h:Nu P t v) (e:Bq P 20 t=some [.slice [.str]]) (ha:Iu P t=false):∃ z l,v = .s (.sl z false 1 l)/\l.all isS=true:=by
 obtain ⟨x,rfl,h5⟩:=Aj5 h e ha
 simp only [Ty.of,List.length_cons,List.length_nil] at h5
 rcases h5 with rfl | ⟨els,rfl,hl,hall⟩
 ·exact ⟨true,[],rfl,rfl⟩
 ·exact ⟨false,els,rfl,TO hall⟩
theorem Bq4 {P:Program} {t:Nat} {v:PV} (h:Nu P t v) (e:Bq P 20 t=some [.str,.int .i64,.bool]) (ha:Iu P t=true) :
  ∃ s de im,v = .agg [.s (.str s),.s (.int .i64 de),.s (.bool im)]:=by
 obtain ⟨tys,l,h1,h2,h3⟩:=h
 rw [e] at h1
 obtain rfl:=Option.some.inj h1
 simp only [Ty.ofL] at h2
 obtain ⟨_,_,rfl,⟨s,rfl,_⟩,_,_,rfl,⟨de,rfl,_,_⟩,_,_,rfl,⟨im,rfl⟩,rfl⟩:=h2
 rcases h3 with ⟨_,rfl⟩ | ⟨h3,_⟩
 ·exact ⟨s,de,im,rfl⟩
 ·rw [ha] at h3;cases h3
theorem Bx7 (args:List PV) (h:Gm Tryz.prog [22,24,26,3] args):∃ d Hc,evC (Cw LF) d Unit noY 3 args [] ()=some (.s (.bool true),Hc,()):=by
 obtain ⟨v1,q1,rfl,h1,v2,q2,rfl,h2,v3,q3,rfl,h3,v4,q4,rfl,h4,rfl⟩:=h
 obtain ⟨uz,u,rfl,hu⟩:=A72 h1 (by kernel_rfl) (by kernel_rfl)
 obtain ⟨s,de,im,rfl⟩:=Bq4 h2 (by kernel_rfl) (by kernel_rfl)
 obtain ⟨se,pr,up,ba,z,l,rfl,hl⟩:=Bq2 h3 (by kernel_rfl) (by kernel_rfl)
 obtain ⟨ct,rfl,_⟩:=Bq3 (k:=.i64) h4 (by kernel_rfl) (by kernel_rfl)
 obtain ⟨H,e⟩:=Bd8 uz false u s de im se pr up ba z false l ct hu hl
 exact ⟨1,H,e⟩
end
end Go.Proofs.YthcoijldbdfboaaGreatDoor.E
