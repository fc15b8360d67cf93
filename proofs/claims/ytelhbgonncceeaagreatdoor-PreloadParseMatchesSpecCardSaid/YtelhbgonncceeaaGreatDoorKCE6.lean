/-
  PreloadParseMatchesSpec, as its tied card says. Conditions: what the card itself names (the package-level variables that are listed, tied to the program's text).
-/
import Derived.Test.YtelhbgonncceeaaGreatDoorKCE5
import Derived.Test.YtelhbgonncceeaaGreatDoorCards
import Derived.Test.YtelhbgonncceeaaGreatDoorTie
namespace Go.Proofs.YtelhbgonncceeaaGreatDoor.E
set_option linter.all false
section
open Go Go.Proofs
theorem Ag3 {R:Type} {k0:Unit->Option R} {k1:By->Int->Option R} (s:By) (hs:s.length<=1000000):∀ (r i n cut:Nat),i+r=s.length->r<n->
  Cu LF n s (cut:Int) (i:Int) k0 k1=if (s.drop i).any (λb=>Nat.ble 128 b.toNat) then k0 () else k1 s ((if 45∈s.drop i then i+G7 (s.drop i) else cut:Nat):Int):=by
 intro r
 induction r with
 | zero=>
  intro i n cut hi hn
  obtain ⟨n,rfl⟩:∃ m,n=m+1:=⟨n-1,by omega⟩
  rw [Cu]
  rw [A7,List.drop_of_length_le (by omega)]
  rfl
 | succ r ih=>
  intro i n cut hi hn
  obtain ⟨n,rfl⟩:∃ m,n=m+1:=⟨n-1,by omega⟩
  rw [Cu]
  have e1:A1 ((i:Int)+1)=((i+1:Nat):Int):=by rw [A5];rfl
  rw [A8,I6,F4,F7 s i (by omega),e1,List.any_cons]
  simp only [cond_true]
  generalize s.getD i 0=b
  by_cases h:128<=b.toNat
  ·rw [A7,Nat.ble_eq_true_of_le h]
   rfl
  ·have:Nat.ble 128 b.toNat=false:=by rw [Bool.eq_false_iff,ne_eq,Nat.ble_eq];exact h
   rw [A8,this,Bool.false_or,Bool.not_true,cond_false]
   have hb:((b.toNat:Int)==45)=(b==45):=P6 b 45 (by omega)
   rw [hb]
   by_cases h45:b=45
   ·subst h45
    rw [show ((45:UInt8)==45)=true from rfl,cond_true]
    refine (ih (i+1) n i (by omega) (by omega)).trans ?_
    have hm:(45:UInt8)∈45::s.drop (i+1):=by simp
    rw [if_pos hm]
    have:(if (45:UInt8)∈s.drop (i+1) then i+1+G7 (s.drop (i+1)) else i)=i+G7 (45::s.drop (i+1)):=by
     rw [G7]
     grind
    rw [this]
   ·rw [show (b==45)=false from beq_eq_false_iff_ne.2 h45,cond_false]
    refine (ih (i+1) n cut (by omega) (by omega)).trans ?_
    have hm:((45:UInt8)∈b::s.drop (i+1))↔((45:UInt8)∈s.drop (i+1)):=by simp [Ne.symm h45]
    have:(if (45:UInt8)∈s.drop (i+1) then i+1+G7 (s.drop (i+1)) else cut)=(if (45:UInt8)∈b::s.drop (i+1) then i+G7 (b::s.drop (i+1)) else cut):=by
     by_cases q:(45:UInt8)∈s.drop (i+1)
     ·rw [if_pos q,if_pos (hm.2 q),G7,if_pos q];omega
     grind
    rw [this]
theorem Af8 {R:Type} {k0:By->Int->LL->Option R} (s:By) (hs:s.length<=1000000) (k:Nat) (hk:k<=s.length):∀ (r i n:Nat) (l:List Nat),i+r=k->r<n->l.length=i->
  Fq LF n s (k:Int) (i:Int) (C1 l) k0=k0 s (k:Int) (C1 (l++((s.take k).drop i).map (·.toNat))):=by
 intro r
 induction r with
 | zero=>
  intro i n l hi hn hl
  obtain ⟨n,rfl⟩:∃ m,n=m+1:=⟨n-1,by omega⟩
  rw [Fq]
  rw [A7,List.drop_of_length_le (by rw [List.length_take];omega)]
  simp
 | succ r ih=>
  intro i n l hi hn hl
  obtain ⟨n,rfl⟩:∃ m,n=m+1:=⟨n-1,by omega⟩
  rw [Fq]
  have e1:A1 ((i:Int)+1)=((i+1:Nat):Int):=by rw [A5];rfl
  have hd:(s.take k).drop i=s.getD i 0::(s.take k).drop (i+1):=by
   rw [F7 (s.take k) i (by rw [List.length_take];omega)]
   congr 1
   rw [List.getD_eq_getElem?_getD,List.getD_eq_getElem?_getD,List.getElem?_take_of_lt (by omega)]
  rw [A8,I6,F4,hd,D2,E0 (by omega),e1]
  simp only [cond_true]
  generalize s.getD i 0=b
  have hb:=b.toNat_lt
  have e2:A1 (b.toNat:Int)=(b.toNat:Int):=A5
  have hrow:C1 l++[[SV.int .i64 (A1 (b.toNat:Int))]]=C1 (l++[b.toNat]):=by rw [e2,Ig];rfl
  rw [hrow]
  refine (ih (i+1) n _ (by omega) (by omega) (by simp;omega)).trans ?_
  simp
theorem Ag1 (s:By) (hs:s.length<=1000000) (out:LL) (n3 b old:Int) (l:LL) (hb0:0<=b) (hb1:b<1000000):∀ (r p n k:Nat) (i w:Int),p+r=s.length->r<n->0<=i->i<=1099511627776->0<=w->w<=1099511627776->k+r<=10000000->
  ((S8 b (s.drop p) i w ((36*k:Nat):Int)).1=0->∃ p',p<p'/\p'<=s.length/\(S8 b (s.drop p) i w ((36*k:Nat):Int)).2.1=s.drop p'/\∀ (R:Type) (k0:Int->LL->Option R) (k1:By->LL->Int->Int->Int->Int->LL->Option R),T8 LF n s out (p:Int) n3 i b old w (k:Int) l k0 k1=k1 s out (p':Int) n3 (S8 b (s.drop p) i w ((36*k:Nat):Int)).2.2 old l)/\
  ((S8 b (s.drop p) i w ((36*k:Nat):Int)).1≠0->∀ (R:Type) (k0:Int->LL->Option R) (k1:By->LL->Int->Int->Int->Int->LL->Option R),T8 LF n s out (p:Int) n3 i b old w (k:Int) l k0 k1=k0 (S8 b (s.drop p) i w ((36*k:Nat):Int)).1 l):=by
 intro r
 induction r with
 | zero=>
  intro p n k i w hp hn hi hi1 hw hw1 hk
  obtain ⟨n,rfl⟩:∃ m,n=m+1:=⟨n-1,by omega⟩
  rw [List.drop_of_length_le (by omega)]
  refine ⟨λh=>by simp [S8] at h,λ_ R k0 k1=>?_⟩
  rw [T8]
  rw [A7]
  rfl
 | succ r ih=>
  intro p n k i w hp hn hi hi1 hw hw1 hk
  obtain ⟨n,rfl⟩:∃ m,n=m+1:=⟨n-1,by omega⟩
  have hc:=F7 s p (by omega)
  have hbt:=F4 s p
  rw [hc]
  generalize s.getD p 0=c at *
  have hv:=Eb c
  have ht:=Kl ((36*k:Nat):Int) b
  have e0:Int.mul 36 (k:Int)=((36*k:Nat):Int):=rfl
  have e6:A1 ((p:Int)+1)=((p+1:Nat):Int):=by rw [A5];rfl
  have e7:A1 ((k:Int)+1)=((k+1:Nat):Int):=by rw [A5];rfl
  have start:∀ (R:Type) (k0:Int->LL->Option R) (k1:By->LL->Int->Int->Int->Int->LL->Option R),T8 LF (n+1) s out (p:Int) n3 i b old w (k:Int) l k0 k1 =
    cond (ltI (E1 c) 0) (k0 4 l)
     (vl (A1 (i+(A1 (E1 c*w)))) λn10=>cond (ltI 1099511627776 n10) (k0 19 l)
      (cond (ltI (E1 c) (K9 ((36*k:Nat):Int) b)) (k1 s out ((p+1:Nat):Int) n3 n10 old l)
       (vl (A1 (36-(K9 ((36*k:Nat):Int) b))) λn13=>cond (ltI 1099511627776 (A1 (w*n13))) (k0 19 l) (T8 LF n s out ((p+1:Nat):Int) n3 n10 b old (A1 (w*n13)) ((k+1:Nat):Int) l k0 k1)))):=by
   intro R k0 k1
   rw [T8]
   have hcl:=c.toNat_lt
   rw [A8,I6,hbt,I6,Nu,N4,N4,e0,e6,e7]
   rfl
  unfold S8
  by_cases h1:E1 c<0
  ·rw [if_pos h1]
   refine ⟨λh=>by simp at h,λ_ R k0 k1=>?_⟩
   rw [start,C2 h1]
   rfl
  ·rw [if_neg h1]
   have hm:=Br (by omega) hv.2 hw hw1
   have e1:A1 (E1 c*w)=E1 c*w:=A5
   have e2:A1 (i+E1 c*w)=i+E1 c*w:=A5
   by_cases h2:1099511627776<i+E1 c*w
   ·rw [if_pos h2]
    refine ⟨λh=>by simp at h,λ_ R k0 k1=>?_⟩
    rw [start,A7,e1,e2]
    simp only [vl,cond_false]
    rw [C2 h2]
    rfl
   ·rw [if_neg h2]
    by_cases h3:E1 c<K9 ((36*k:Nat):Int) b
    ·rw [if_pos h3]
     refine ⟨λ_=>⟨p+1,by omega,by omega,rfl,λR k0 k1=>?_⟩,λh=>absurd rfl h⟩
     rw [start,A7,e1,e2]
     simp only [vl,cond_false]
     rw [A7,C2 h3]
     rfl
    ·rw [if_neg h3]
     have e3:A1 (36-K9 ((36*k:Nat):Int) b)=36-K9 ((36*k:Nat):Int) b:=A5
     have hm2:=Br (x:=36-K9 ((36*k:Nat):Int) b) (by omega) (by omega) hw hw1
     rw [Int.mul_comm] at hm2
     have e4:A1 (w*(36-K9 ((36*k:Nat):Int) b))=w*(36-K9 ((36*k:Nat):Int) b):=A5
     by_cases h4:1099511627776<w*(36-K9 ((36*k:Nat):Int) b)
     ·rw [if_pos h4]
      refine ⟨λh=>by simp at h,λ_ R k0 k1=>?_⟩
      rw [start,A7,e1,e2]
      simp only [vl,cond_false]
      rw [A7,A7,e3,e4,C2 h4]
      rfl
     ·rw [if_neg h4]
      have ek:((36*k:Nat):Int)+36=((36*(k+1):Nat):Int):=by omega
      rw [ek]
      obtain ⟨q1,q2⟩:=ih (p+1) n (k+1) (i+E1 c*w) (w*(36-K9 ((36*k:Nat):Int) b)) (by omega) (by omega) (by omega) (by omega) (by omega) (by omega) (by omega)
      have st2:∀ (R:Type) (k0:Int->LL->Option R) (k1:By->LL->Int->Int->Int->Int->LL->Option R),T8 LF (n+1) s out (p:Int) n3 i b old w (k:Int) l k0 k1=T8 LF n s out ((p+1:Nat):Int) n3 (i+E1 c*w) b old (w*(36-K9 ((36*k:Nat):Int) b)) ((k+1:Nat):Int) l k0 k1:=by simp_all
      refine ⟨λh=>?_,λh R k0 k1=>by rw [st2];exact q2 h R k0 k1⟩
      obtain ⟨p',g1,g2,g3,g4⟩:=q1 h
      exact ⟨p',by omega,g2,g3,λR k0 k1=>by rw [st2];exact g4 R k0 k1⟩
theorem Ag2 (s:By) (hs:s.length<=1000000) (l:LL):∀ (r p n k:Nat) (i w:Int),p+r=s.length->r<n->0<=i->i<=1099511627776->0<=w->w<=1099511627776->k+r<=10000000->
  ((S8 72 (s.drop p) i w ((36*k:Nat):Int)).1=0->∃ p',p<p'/\p'<=s.length/\(S8 72 (s.drop p) i w ((36*k:Nat):Int)).2.1=s.drop p'/\∀ (R:Type) (k0:Int->LL->Option R) (k1:By->Int->Int->LL->Option R),T9 LF n s (p:Int) i w (k:Int) l k0 k1=k1 s (p':Int) (S8 72 (s.drop p) i w ((36*k:Nat):Int)).2.2 l)/\
  ((S8 72 (s.drop p) i w ((36*k:Nat):Int)).1≠0->∀ (R:Type) (k0:Int->LL->Option R) (k1:By->Int->Int->LL->Option R),T9 LF n s (p:Int) i w (k:Int) l k0 k1=k0 (S8 72 (s.drop p) i w ((36*k:Nat):Int)).1 l):=by
 intro r
 induction r with
 | zero=>
  intro p n k i w hp hn hi hi1 hw hw1 hk
  obtain ⟨n,rfl⟩:∃ m,n=m+1:=⟨n-1,by omega⟩
  rw [List.drop_of_length_le (by omega)]
  refine ⟨λh=>by simp [S8] at h,λ_ R k0 k1=>?_⟩
  rw [T9]
  rw [A7]
  rfl
 | succ r ih=>
  intro p n k i w hp hn hi hi1 hw hw1 hk
  obtain ⟨n,rfl⟩:∃ m,n=m+1:=⟨n-1,by omega⟩
  have hc:=F7 s p (by omega)
  have hbt:=F4 s p
  rw [hc]
  generalize s.getD p 0=c at *
  have hv:=Eb c
  have ht:=Kl ((36*k:Nat):Int) 72
  have e0:Int.mul 36 (k:Int)=((36*k:Nat):Int):=rfl
  have e6:A1 ((p:Int)+1)=((p+1:Nat):Int):=by rw [A5];rfl
  have e7:A1 ((k:Int)+1)=((k+1:Nat):Int):=by rw [A5];rfl
  have start:∀ (R:Type) (k0:Int->LL->Option R) (k1:By->Int->Int->LL->Option R),T9 LF (n+1) s (p:Int) i w (k:Int) l k0 k1 =
    cond (ltI (E1 c) 0) (k0 4 l)
     (vl (A1 (i+(A1 (E1 c*w)))) λn10=>cond (ltI 1099511627776 n10) (k0 19 l)
      (cond (ltI (E1 c) (K9 ((36*k:Nat):Int) 72)) (k1 s ((p+1:Nat):Int) n10 l)
       (vl (A1 (36-(K9 ((36*k:Nat):Int) 72))) λn13=>cond (ltI 1099511627776 (A1 (w*n13))) (k0 19 l) (T9 LF n s ((p+1:Nat):Int) n10 (A1 (w*n13)) ((k+1:Nat):Int) l k0 k1)))):=by
   intro R k0 k1
   rw [T9]
   have hcl:=c.toNat_lt
   rw [A8,I6,hbt,I6,Nu,N4,N4,e0,e6,e7]
   rfl
  unfold S8
  by_cases h1:E1 c<0
  ·rw [if_pos h1]
   refine ⟨λh=>by simp at h,λ_ R k0 k1=>?_⟩
   rw [start,C2 h1]
   rfl
  ·rw [if_neg h1]
   have hm:=Br (by omega) hv.2 hw hw1
   have e1:A1 (E1 c*w)=E1 c*w:=A5
   have e2:A1 (i+E1 c*w)=i+E1 c*w:=A5
   by_cases h2:1099511627776<i+E1 c*w
   ·rw [if_pos h2]
    refine ⟨λh=>by simp at h,λ_ R k0 k1=>?_⟩
    rw [start,A7,e1,e2]
    simp only [vl,cond_false]
    rw [C2 h2]
    rfl
   ·rw [if_neg h2]
    by_cases h3:E1 c<K9 ((36*k:Nat):Int) 72
    ·rw [if_pos h3]
     refine ⟨λ_=>⟨p+1,by omega,by omega,rfl,λR k0 k1=>?_⟩,λh=>absurd rfl h⟩
     rw [start,A7,e1,e2]
     simp only [vl,cond_false]
     rw [A7,C2 h3]
     rfl
    ·rw [if_neg h3]
     have e3:A1 (36-K9 ((36*k:Nat):Int) 72)=36-K9 ((36*k:Nat):Int) 72:=A5
     have hm2:=Br (x:=36-K9 ((36*k:Nat):Int) 72) (by omega) (by omega) hw hw1
     rw [Int.mul_comm] at hm2
     have e4:A1 (w*(36-K9 ((36*k:Nat):Int) 72))=w*(36-K9 ((36*k:Nat):Int) 72):=A5
     by_cases h4:1099511627776<w*(36-K9 ((36*k:Nat):Int) 72)
     ·rw [if_pos h4]
      refine ⟨λh=>by simp at h,λ_ R k0 k1=>?_⟩
      rw [start,A7,e1,e2]
      simp only [vl,cond_false]
      rw [A7,A7,e3,e4,C2 h4]
      rfl
     ·rw [if_neg h4]
      have ek:((36*k:Nat):Int)+36=((36*(k+1):Nat):Int):=by omega
      rw [ek]
      obtain ⟨q1,q2⟩:=ih (p+1) n (k+1) (i+E1 c*w) (w*(36-K9 ((36*k:Nat):Int) 72)) (by omega) (by omega) (by omega) (by omega) (by omega) (by omega) (by omega)
      have st2:∀ (R:Type) (k0:Int->LL->Option R) (k1:By->Int->Int->LL->Option R),T9 LF (n+1) s (p:Int) i w (k:Int) l k0 k1=T9 LF n s ((p+1:Nat):Int) (i+E1 c*w) (w*(36-K9 ((36*k:Nat):Int) 72)) ((k+1:Nat):Int) l k0 k1:=by simp_all
      refine ⟨λh=>?_,λh R k0 k1=>by rw [st2];exact q2 h R k0 k1⟩
      obtain ⟨p',g1,g2,g3,g4⟩:=q1 h
      exact ⟨p',by omega,g2,g3,λR k0 k1=>by rw [st2];exact g4 R k0 k1⟩
theorem GL (l:List Nat) (k:Nat):(C1 l).take k=C1 (l.take k):=by unfold C1;rw [List.map_take]
theorem GK (l:List Nat) (k:Nat):(C1 l).drop k=C1 (l.drop k):=by unfold C1;rw [List.map_drop]
theorem Ag0 (s:By) (hs:s.length<=1000000) (l:LL):∀ (r p f:Nat) (pts:List Nat) (n i b:Nat),p+r=s.length->r<f->pts.length<=256->n<=1114111->i<=1000->b<=500->
  ((H7 (s.drop p) pts n i b false).2=0->∀ (R:Type) (k0:Int->LL->Option R) (k1 k2:LL->LL->Option R),O2 LF f s (C1 pts) (p:Int) (n:Int) (i:Int) (b:Int) l k0 k1 k2=k2 (C1 (H7 (s.drop p) pts n i b false).1) l)/\
  ((H7 (s.drop p) pts n i b false).2≠0->(H7 (s.drop p) pts n i b false).1=[]/\((∀ (R:Type) (k0:Int->LL->Option R) (k1 k2:LL->LL->Option R),O2 LF f s (C1 pts) (p:Int) (n:Int) (i:Int) (b:Int) l k0 k1 k2=k0 ((H7 (s.drop p) pts n i b false).2:Nat) l)\/
   ((H7 (s.drop p) pts n i b false).2=3/\∃ l',∀ (R:Type) (k0:Int->LL->Option R) (k1 k2:LL->LL->Option R),O2 LF f s (C1 pts) (p:Int) (n:Int) (i:Int) (b:Int) l k0 k1 k2=k1 l l'))):=by
 have hLF:=D7
 intro r
 induction r using Nat.strongRecOn with
 | _ r ih=>
  intro p f pts n i b hp hf h2 h3 h4 h5
  obtain ⟨f,rfl⟩:∃ m,f=m+1:=⟨f-1,by omega⟩
  by_cases hr:r=0
  ·rw [List.drop_of_length_le (by omega),Bh]
   refine ⟨λ_ R k0 k1 k2=>?_,λh=>absurd rfl h⟩
   rw [O2]
   rw [A7]
   rfl
  ·have hne:s.drop p≠[]:=λh=>by
    have:=congrArg List.length h
    rw [List.length_drop] at this
    simp at this
    omega
   obtain ⟨g1,g2⟩:=Ag1 s hs (C1 pts) (n:Int) (b:Int) (i:Int) l (by omega) (by omega) r p LF 0 (i:Int) 1 hp (by omega) (by omega) (by omega) (by omega) (by omega) (by omega)
   obtain ⟨d1,d2⟩:=Qp b (s.drop p) i 1 0
   have e36:S8 (b:Int) (s.drop p) (i:Int) 1 ((36*0:Nat):Int)=S8 (b:Int) (s.drop p) (i:Int) ((1:Nat):Int) ((36*0:Nat):Int):=rfl
   rw [e36] at g1 g2
   by_cases he:(D9 b (s.drop p) i 1 0).2.2=0
   ·rw [Cn hne pts n i b false he]
    have d3:=d2 he
    have hz:(S8 (b:Int) (s.drop p) (i:Int) ((1:Nat):Int) ((36*0:Nat):Int)).1=0:=by rw [d1,he];rfl
    obtain ⟨p',a1,a2,a3,a4⟩:=g1 hz
    obtain ⟨q1,q2,_⟩:=Qo (b:Int) (s.drop p) (i:Int) ((1:Nat):Int) ((36*0:Nat):Int) (by omega) (by omega) (by omega) hz
    rw [d3] at q1 q2 a3 a4
    simp only at q1 q2 a3 a4
    rw [a3]
    generalize (D9 b (s.drop p) i 1 0).1=X at *
    have el:A1 (((C1 pts).length:Int)+1)=((pts.length+1:Nat):Int):=by rw [D2,A5];rfl
    have e1:A1 ((X:Int)-(i:Int))=((X-i:Nat):Int):=by rw [A5];omega
    have ed:Int.tdiv (X:Int) ((pts.length+1:Nat):Int)=((X / (pts.length+1):Nat):Int):=L9 _ _
    have em:Int.tmod (X:Int) ((pts.length+1:Nat):Int)=((X % (pts.length+1):Nat):Int):=Fx _ _
    have hdv:X / (pts.length+1)<=X:=Nat.div_le_self _ _
    have hmod:=Nat.mod_lt X (show 0<pts.length+1 by omega)
    have had:=Lj (X-i) (pts.length+1) false (by omega)
    generalize hQ:X / (pts.length+1)=Q at *
    generalize hM:X % (pts.length+1)=M at *
    have e2:A1 (Q:Int)=(Q:Int):=A5
    have e3:A1 ((n:Int)+(Q:Int))=((n+Q:Nat):Int):=by rw [A5];rfl
    have e4:A1 ((M:Int)+1)=((M+1:Nat):Int):=by rw [A5];rfl
    have hnz:(((pts.length+1:Nat):Int) != 0)=true:=by rw [bne_iff_ne];omega
    have c1:cut (C1 pts) 0 (M:Int)=C1 (pts.take M):=by rw [Y7,Int.toNat_natCast,GL]
    have c2:cut (C1 pts) (M:Int) ((C1 pts).length:Int)=C1 (pts.drop M):=by rw [Q8,Int.toNat_natCast,GK]
    have hrow:∀ N:Nat,C1 (pts.take M)++[[SV.int .i64 (N:Int)]]++C1 (pts.drop M)=C1 (T6 pts M N):=λN=>by
     unfold T6
     rw [Ig,List.append_assoc]
     rfl
    have start:∀ (R:Type) (k0:Int->LL->Option R) (k1 k2:LL->LL->Option R),O2 LF (f+1) s (C1 pts) (p:Int) (n:Int) (i:Int) (b:Int) l k0 k1 k2 =
      cond (not (T7 (n+Q))) (k0 2 l) (cond (ltI 256 ((pts.length+1:Nat):Int)) (k1 l (C1 (T6 pts M (n+Q))))
       (O2 LF f s (C1 (T6 pts M (n+Q))) (p':Int) ((n+Q:Nat):Int) ((M+1:Nat):Int) ((P2 (X-i) (pts.length+1) false:Nat):Int) l k0 k1 k2)):=by
     intro R k0 k1 k2
     rw [O2]
     rw [A8,cond_true]
     refine (a4 R _ _).trans ?_
     have s1:P0 (0:Int) (M:Int) (C1 pts).length=true:=T3 (by omega) (by omega) (by rw [D2];omega)
     have s2:P0 (M:Int) ((C1 pts).length:Int) (C1 pts).length=true:=T3 (by omega) (by rw [D2];omega) (by omega)
     have t1:ltN ((X-i:Nat):Int) 1152921504606846976=true:=N4
     have t2:ltN ((pts.length+1:Nat):Int) 1000000=true:=N4
     have t3:ltI 0 ((pts.length+1:Nat):Int)=true:=A8
     have l1:(C1 (pts.take M)).length=M:=by rw [D2,List.length_take];omega
     have l2:(C1 (pts.drop M)).length=pts.length-M:=by rw [D2,List.length_drop]
     have r1:F1 (0+(C1 (pts.take M)).length)=true:=E0 (by omega)
     have r2:F1 ((C1 (pts.take M)).length+1)=true:=E0 (by omega)
     have r3:F1 ((C1 (pts.take M)++[[SV.int .i64 ((n+Q:Nat):Int)]]).length+(C1 (pts.drop M)).length)=true:=E0 (by rw [List.length_append,List.length_singleton];omega)
     have l3:(C1 (T6 pts M (n+Q))).length=pts.length+1:=by rw [D2,Ac]
     simp only [vl,el,e1,ed,em,e2,e3,e4,hnz,s1,s2,t1,t2,t3,c1,c2,r1,r2,r3,hrow,l3,cond_true,Int.toNat_natCast,Jw]
    cases hpt:T7 (n+Q) with
    | false=>
     rw [if_neg (by simp)]
     refine ⟨λh=>by simp at h,λ_=>⟨rfl,.inl λR k0 k1 k2=>?_⟩⟩
     rw [start,hpt]
     rfl
    | true=>
     rw [if_pos rfl]
     by_cases hc:256<pts.length+1
     ·rw [if_pos hc]
      refine ⟨λh=>by simp at h,λ_=>⟨rfl,.inr ⟨rfl,C1 (T6 pts M (n+Q)),λR k0 k1 k2=>?_⟩⟩⟩
      rw [start,hpt,A8]
      rfl
     ·rw [if_neg hc]
      have hn':n+Q<=1114111:=by
       unfold T7 at hpt
       simp only [Bool.and_eq_true,Nat.ble_eq] at hpt
       exact hpt.1
      have st2:∀ (R:Type) (k0:Int->LL->Option R) (k1 k2:LL->LL->Option R),O2 LF (f+1) s (C1 pts) (p:Int) (n:Int) (i:Int) (b:Int) l k0 k1 k2=O2 LF f s (C1 (T6 pts M (n+Q))) (p':Int) ((n+Q:Nat):Int) ((M+1:Nat):Int) ((P2 (X-i) (pts.length+1) false:Nat):Int) l k0 k1 k2:=by
       intro R k0 k1 k2
       rw [start,hpt,A7]
       rfl
      obtain ⟨z1,z2⟩:=ih (s.length-p') (by omega) p' f (T6 pts M (n+Q)) (n+Q) (M+1) (P2 (X-i) (pts.length+1) false) (by omega) (by omega) (by rw [Ac];omega) hn' (by omega) had
      refine ⟨λh R k0 k1 k2=>by rw [st2];exact z1 h R k0 k1 k2,λh=>?_⟩
      obtain ⟨y1,y2⟩:=z2 h
      refine ⟨y1,?_⟩
      rcases y2 with y2 | ⟨y2,l',y3⟩
      ·exact .inl λR k0 k1 k2=>by rw [st2];exact y2 R k0 k1 k2
      ·exact .inr ⟨y2,l',λR k0 k1 k2=>by rw [st2];exact y3 R k0 k1 k2⟩
   ·rw [Ey hne pts n i b false he]
    clear g1 d2
    refine ⟨λh=>absurd h he,λ_=>⟨rfl,.inl λR k0 k1 k2=>?_⟩⟩
    rw [O2]
    rw [A8,cond_true]
    have hfst:=congrArg Prod.fst d1
    simp only at hfst
    refine (g2 (by rw [hfst];omega) R _ _).trans ?_
    rw [hfst]
theorem Av4:∀ (r:Nat) (s:By) (pts:List Nat) (n i b:Nat) (f:Bool),s.length<=r->0<pts.length->(H7 s pts n i b f).2=0->(H7 s pts n i b f).1≠[]:=by
 intro r
 induction r with
 | zero=>
  intro s pts n i b f hr hp h
  obtain rfl:=List.length_eq_zero_iff.1 (Nat.le_zero.1 hr)
  rw [Bh]
  grind
 | succ r ih=>
  intro s pts n i b f hr hp h
  by_cases hs:s=[]
  ·grind
  ·by_cases he:(D9 b s i 1 0).2.2=0
   ·rw [Cn hs pts n i b f he] at h ⊢
    split at h
    ·rename_i h1
     rw [if_pos h1]
     split at h
     ·omega
     ·rename_i h2
      rw [if_neg h2]
      have hlt:=My b s i 1 0 he
      exact ih _ _ _ _ _ _ (by omega) (by rw [Ac];omega) h
    omega
   ·rw [Ey hs pts n i b f he] at h
    omega
theorem Af9 (s:By) (hs:s.length<=1000000) (p:Nat) (pts:List Nat) (h2:pts.length<=256) (hp:p<=s.length) :
  (s.drop p=[]/\∀ (R:Type) (k0:Int->LL->Option R) (k1 k2:LL->LL->Option R) (k3:LL->Option R),K6 LF LF s (p:Int) (C1 pts) k0 k1 k2 k3=k3 (C1 pts))\/
  ((H7 (s.drop p) pts 128 0 72 true).2=0/\(H7 (s.drop p) pts 128 0 72 true).1≠[]/\∀ (R:Type) (k0:Int->LL->Option R) (k1 k2:LL->LL->Option R) (k3:LL->Option R),K6 LF LF s (p:Int) (C1 pts) k0 k1 k2 k3=k2 (C1 (H7 (s.drop p) pts 128 0 72 true).1) (C1 pts))\/
  ((H7 (s.drop p) pts 128 0 72 true).1=[]/\((∀ (R:Type) (k0:Int->LL->Option R) (k1 k2:LL->LL->Option R) (k3:LL->Option R),K6 LF LF s (p:Int) (C1 pts) k0 k1 k2 k3=k0 ((H7 (s.drop p) pts 128 0 72 true).2:Nat) (C1 pts))\/
   ((H7 (s.drop p) pts 128 0 72 true).2=3/\∃ l',∀ (R:Type) (k0:Int->LL->Option R) (k1 k2:LL->LL->Option R) (k3:LL->Option R),K6 LF LF s (p:Int) (C1 pts) k0 k1 k2 k3=k1 (C1 pts) l'))):=by
 have hLF:=D7
 obtain ⟨f,hf⟩:∃ m,LF=m+1:=⟨LF-1,by omega⟩
 by_cases hr:s.length<=p
 ·refine .inl ⟨List.drop_of_length_le hr,λR k0 k1 k2 k3=>?_⟩
  have e:K6 LF LF s (p:Int) (C1 pts) k0 k1 k2 k3=K6 LF (f+1) s (p:Int) (C1 pts) k0 k1 k2 k3:=by rw [<-hf]
  rw [e,K6]
  rw [A7]
  rfl
 ·right
  have hne:s.drop p≠[]:=λh=>by
   have:=congrArg List.length h
   grind
  obtain ⟨g1,g2⟩:=Ag2 s hs (C1 pts) (s.length-p) p LF 0 0 1 (by omega) (by omega) (by omega) (by omega) (by omega) (by omega) (by omega)
  obtain ⟨d1,d2⟩:=Qp 72 (s.drop p) 0 1 0
  have e36:S8 72 (s.drop p) 0 1 ((36*0:Nat):Int)=S8 ((72:Nat):Int) (s.drop p) ((0:Nat):Int) ((1:Nat):Int) ((36*0:Nat):Int):=rfl
  rw [e36] at g1 g2
  by_cases he:(D9 72 (s.drop p) 0 1 0).2.2=0
  ·rw [Cn hne pts 128 0 72 true he]
   have d3:=d2 he
   have hz:(S8 ((72:Nat):Int) (s.drop p) ((0:Nat):Int) ((1:Nat):Int) ((36*0:Nat):Int)).1=0:=by grind
   obtain ⟨p',a1,a2,a3,a4⟩:=g1 hz
   obtain ⟨q1,q2,_⟩:=Qo ((72:Nat):Int) (s.drop p) ((0:Nat):Int) ((1:Nat):Int) ((36*0:Nat):Int) (by omega) (by omega) (by omega) hz
   rw [d3] at q1 q2 a3 a4
   simp only at q1 q2 a3 a4
   clear g1 g2 d1 d2 d3 hz e36
   rw [a3]
   generalize (D9 72 (s.drop p) 0 1 0).1=X at *
   have el:A1 (((C1 pts).length:Int)+1)=((pts.length+1:Nat):Int):=by rw [D2,A5];rfl
   have e1:A1 ((X:Int)-0)=(X:Int):=by rw [A5];omega
   have ed:Int.tdiv (X:Int) ((pts.length+1:Nat):Int)=((X / (pts.length+1):Nat):Int):=L9 _ _
   have em:Int.tmod (X:Int) ((pts.length+1:Nat):Int)=((X % (pts.length+1):Nat):Int):=Fx _ _
   have hdv:X / (pts.length+1)<=X:=Nat.div_le_self _ _
   have hmod:=Nat.mod_lt X (show 0<pts.length+1 by omega)
   have had:=Lj X (pts.length+1) true (by omega)
   generalize hQ:X / (pts.length+1)=Q at *
   generalize hM:X % (pts.length+1)=M at *
   have e2:A1 (Q:Int)=(Q:Int):=A5
   have e3:A1 ((128:Int)+(Q:Int))=((128+Q:Nat):Int):=by rw [A5];rfl
   have e4:A1 ((M:Int)+1)=((M+1:Nat):Int):=by rw [A5];rfl
   have hnz:(((pts.length+1:Nat):Int) != 0)=true:=by rw [bne_iff_ne];omega
   have c1:List.take (M-0) (List.drop 0 (C1 pts))=C1 (pts.take M):=by rw [Nat.sub_zero,List.drop_zero,GL]
   have c2:List.take ((C1 pts).length-M) (List.drop M (C1 pts))=C1 (pts.drop M):=by
    rw [List.take_of_length_le (by rw [List.length_drop];omega),GK]
   have hrow:∀ N:Nat,C1 (pts.take M)++[[SV.int .i64 (N:Int)]]++C1 (pts.drop M)=C1 (T6 pts M N):=λN=>by
    unfold T6
    rw [Ig,List.append_assoc]
    rfl
   have start:∀ (R:Type) (k0:Int->LL->Option R) (k1 k2:LL->LL->Option R) (k3:LL->Option R),K6 LF LF s (p:Int) (C1 pts) k0 k1 k2 k3 =
     cond (not (T7 (128+Q))) (k0 2 (C1 pts)) (cond (ltI 256 ((pts.length+1:Nat):Int)) (k1 (C1 pts) (C1 (T6 pts M (128+Q))))
      (O2 LF f s (C1 (T6 pts M (128+Q))) (p':Int) ((128+Q:Nat):Int) ((M+1:Nat):Int) ((P2 X (pts.length+1) true:Nat):Int) (C1 pts) k0 k1 k2)):=by
    intro R k0 k1 k2 k3
    have e:K6 LF LF s (p:Int) (C1 pts) k0 k1 k2 k3=K6 LF (f+1) s (p:Int) (C1 pts) k0 k1 k2 k3:=by rw [<-hf]
    rw [e,K6]
    rw [A8,cond_true]
    refine (a4 R _ _).trans ?_
    have s1:P0 (0:Int) (M:Int) (C1 pts).length=true:=T3 (by omega) (by omega) (by rw [D2];omega)
    have s2:P0 (M:Int) ((C1 pts).length:Int) (C1 pts).length=true:=T3 (by omega) (by rw [D2];omega) (by omega)
    have t1:ltN (X:Int) 1152921504606846976=true:=N4
    have t2:ltN ((pts.length+1:Nat):Int) 1000000=true:=N4
    have t3:ltI 0 ((pts.length+1:Nat):Int)=true:=A8
    have l1:(C1 (pts.take M)).length=M:=by rw [D2,List.length_take];omega
    have l2:(C1 (pts.drop M)).length=pts.length-M:=by rw [D2,List.length_drop]
    have r1:F1 (0+(C1 (pts.take M)).length)=true:=E0 (by omega)
    have r2:F1 ((C1 (pts.take M)).length+1)=true:=E0 (by omega)
    have r3:F1 ((C1 (pts.take M)++[[SV.int .i64 ((128+Q:Nat):Int)]]).length+(C1 (pts.drop M)).length)=true:=E0 (by rw [List.length_append,List.length_singleton];omega)
    have l3:(C1 (T6 pts M (128+Q))).length=pts.length+1:=by rw [D2,Ac]
    simp only [vl,el,e1,ed,em,e2,e3,e4,hnz,s1,s2,t1,t2,t3,Int.toNat_natCast,c1,c2,r1,r2,r3,hrow,l3,cond_true,Jw]
   cases hpt:T7 (128+Q) with
   | false=>
    rw [if_neg (by simp)]
    refine .inr ⟨rfl,.inl λR k0 k1 k2 k3=>?_⟩
    rw [start,hpt]
    rfl
   | true=>
    rw [if_pos rfl]
    by_cases hc:256<pts.length+1
    ·rw [if_pos hc]
     refine .inr ⟨rfl,.inr ⟨rfl,C1 (T6 pts M (128+Q)),λR k0 k1 k2 k3=>?_⟩⟩
     rw [start,hpt,A8]
     rfl
    ·rw [if_neg hc]
     have hn':128+Q<=1114111:=by
      unfold T7 at hpt
      simp_all
     have st2:∀ (R:Type) (k0:Int->LL->Option R) (k1 k2:LL->LL->Option R) (k3:LL->Option R),K6 LF LF s (p:Int) (C1 pts) k0 k1 k2 k3=O2 LF f s (C1 (T6 pts M (128+Q))) (p':Int) ((128+Q:Nat):Int) ((M+1:Nat):Int) ((P2 X (pts.length+1) true:Nat):Int) (C1 pts) k0 k1 k2:=by
      intro R k0 k1 k2 k3
      rw [start,hpt,A7]
      rfl
     obtain ⟨z1,z2⟩:=Ag0 s hs (C1 pts) (s.length-p') p' f (T6 pts M (128+Q)) (128+Q) (M+1) (P2 X (pts.length+1) true) (by omega) (by omega) (by rw [Ac];omega) hn' (by omega) had
     have hX:X-0=X:=Nat.sub_zero X
     rw [hX]
     by_cases hz:(H7 (s.drop p') (T6 pts M (128+Q)) (128+Q) (M+1) (P2 X (pts.length+1) true) false).2=0
     ·refine .inl ⟨hz,?_,λR k0 k1 k2 k3=>by rw [st2];exact z1 hz R k0 k1 k2⟩
      exact Av4 _ _ _ _ _ _ _ (Nat.le_refl _) (by rw [Ac];omega) hz
     ·obtain ⟨y1,y2⟩:=z2 hz
      refine .inr ⟨y1,?_⟩
      rcases y2 with y2 | ⟨y2,l',y3⟩
      ·exact .inl λR k0 k1 k2 k3=>by rw [st2];exact y2 R k0 k1 k2
      ·exact .inr ⟨y2,l',λR k0 k1 k2 k3=>by rw [st2];exact y3 R k0 k1 k2⟩
  ·rw [Ey hne pts 128 0 72 true he]
   clear g1 d2
   refine .inr ⟨rfl,.inl λR k0 k1 k2 k3=>?_⟩
   have e:K6 LF LF s (p:Int) (C1 pts) k0 k1 k2 k3=K6 LF (f+1) s (p:Int) (C1 pts) k0 k1 k2 k3:=by rw [<-hf]
   rw [e,K6]
   rw [A8,cond_true]
   have hfst:=congrArg Prod.fst d1
   simp only at hfst
   refine (g2 (by rw [hfst];omega) R _ _).trans ?_
   rw [hfst]
theorem Bk0 (s:By) (h0:A3 s.length=true):∃ r H,As7 LF s (λr0 l1=>rv (.tup [.fl 0,.s (.int .i64 r0)]) [.arr true 3 1 l1]) (λr0 l1=>rv (.tup [.fl 1,.s (.int .i64 r0)]) [.arr true 3 1 l1,.arr true 3 1 []]) (λl0 l1=>rv (.tup [.fl 2,.s (.int .i64 (3:Int))]) [.arr true 3 1 l0,.arr false 3 1 l1,.arr true 3 1 []]) (λr0 l1=>rv (.tup [.s (.sl false false 1 r0),.s (.int .i64 (0:Int))]) [.arr true 3 1 l1])=rv r H/\
  r.stab [1,0] H = .tup [.s (.sl (M8 s).1.isEmpty (M8 s).1.isEmpty 1 (Jr (M8 s).1)),.s (.int .i64 ((M8 s).2:Nat))]:=by
 have hLF:=D7
 unfold As7 M8
 by_cases hl:1024<s.length
 ·rw [if_pos hl,A8]
  exact ⟨_,_,rfl,rfl⟩
 ·rw [if_neg hl,A7,cond_false]
  have asc:=λ(R:Type) (K0:Unit->Option R) (K1:By->Int->Option R)=>Ag3 (k0:=K0) (k1:=K1) s (by omega) s.length 0 LF 0 (by omega) (by omega)
  rw [List.drop_zero] at asc
  cases ha:s.any (λb=>Nat.ble 128 b.toNat) with
  | true=>
   rw [if_pos rfl]
   refine ⟨.tup [.fl 0,.s (.int .i64 4)],[.arr true 3 1 []],(asc _ _ _).trans ?_,rfl⟩
   rw [ha,if_pos rfl]
  | false=>
   rw [if_neg (by simp)]
   obtain ⟨d1,d2⟩:=Lv s
   have hlt:=Lw s
   have hcut:(if (45:UInt8)∈s then 0+G7 s else 0)=G7 s:=by
    split
    ·omega
    ·rename_i h;exact (d2 h).2.symm
   rw [ha,hcut] at asc
   have hcopy:=λ(R:Type) (K:By->Int->LL->Option R)=>Af8 (k0:=K) s (by omega) (G7 s) (by omega) (G7 s) 0 LF [] (by omega) (by omega) rfl
   rw [List.drop_zero] at hcopy
   have hlen:((s.take (G7 s)).map (·.toNat)).length=G7 s:=by rw [List.length_map,List.length_take];omega
   generalize hm:G7 s=m at *
   generalize hpts:(s.take m).map (·.toNat)=pts at *
   by_cases h256:256<m
   ·rw [if_pos h256]
    refine ⟨.tup [.fl 1,.s (.int .i64 3)],[.arr true 3 1 (C1 pts),.arr true 3 1 []],(asc _ _ _).trans ?_,rfl⟩
    rw [if_neg (by simp)]
    refine (hcopy _ _).trans ?_
    rw [List.nil_append,D2,hlen,A8]
    rfl
   ·rw [if_neg h256]
    have fin:∀ p:Nat,p<=s.length->∀ (X:Option (PV × List Blk × Unit)),X=K6 LF LF s (p:Int) (C1 pts) (λr0 l1=>rv (.tup [.fl 1,.s (.int .i64 r0)]) [.arr true 3 1 l1,.arr true 3 1 []]) (λl0 l1=>rv (.tup [.fl 2,.s (.int .i64 (3:Int))]) [.arr true 3 1 l0,.arr false 3 1 l1,.arr true 3 1 []]) (λr0 l1=>rv (.tup [.s (.sl false false 1 r0),.s (.int .i64 (0:Int))]) [.arr true 3 1 l1]) (λl=>rv (.tup [.fl 0,.s (.int .i64 0)]) [.arr true 3 1 l])->
      ∃ r H,X=rv r H/\r.stab [1,0] H = .tup [.s (.sl (H7 (s.drop p) pts 128 0 72 true).1.isEmpty (H7 (s.drop p) pts 128 0 72 true).1.isEmpty 1 (Jr (H7 (s.drop p) pts 128 0 72 true).1)),.s (.int .i64 ((H7 (s.drop p) pts 128 0 72 true).2:Nat))]:=by
     intro p hp X hX
     rcases Af9 s (by omega) p pts (by omega) hp with ⟨e1,e2⟩ | ⟨e1,e3,e2⟩ | ⟨e1,e2 | ⟨e3,l',e2⟩⟩
     ·refine ⟨_,_,hX.trans (e2 _ _ _ _ _),?_⟩
      rw [e1,Bh,Bt]
      simp [PV.stab,Ls,Ld,PV.snap,L5,Rp]
     ·refine ⟨_,_,hX.trans (e2 _ _ _ _ _),?_⟩
      rw [e1,Bt]
      have:(H7 (s.drop p) pts 128 0 72 true).1.isEmpty=false:=by
       cases h:(H7 (s.drop p) pts 128 0 72 true).1 with
       | nil=>exact absurd h e3
       | cons a r=>rfl
      rw [this]
      rfl
     ·refine ⟨_,_,hX.trans (e2 _ _ _ _ _),?_⟩
      rw [e1]
      rfl
     ·refine ⟨_,_,hX.trans (e2 _ _ _ _ _),?_⟩
      rw [e1,e3]
      rfl
    by_cases hz:m=0
    ·subst hz
     rw [if_pos rfl]
     have:=fin 0 (by omega) _ rfl
     rw [List.drop_zero] at this
     obtain ⟨r,H,g1,g2⟩:=this
     refine ⟨r,H,(asc _ _ _).trans ?_,g2⟩
     rw [if_neg (by simp)]
     refine (hcopy _ _).trans ?_
     rw [List.nil_append,D2,hlen,A7,cond_false,A7,cond_false]
     exact g1
    ·rw [if_neg hz]
     obtain ⟨r,H,g1,g2⟩:=fin (m+1) (by omega) _ rfl
     refine ⟨r,H,(asc _ _ _).trans ?_,g2⟩
     rw [if_neg (by simp)]
     refine (hcopy _ _).trans ?_
     have e1:A1 ((m:Int)+1)=((m+1:Nat):Int):=by rw [A5];rfl
     rw [List.nil_append,D2,hlen,A7,cond_false,A8,cond_true,e1]
     exact g1
theorem X3 {R:Type} {k0:LL->Option R} {k1:By->Int->Int->Int->Int->LL->Option R} (s:By) (hs:s.length<=1000000000) (n i m v least kk:Nat) (l:LL) (hk:kk<m) (hm:m<=4) (hi:i+kk<s.length) (hv:v<=100000) (hn:0<n) :
  Dx LF n s i m v least kk l k0 k1=if 128<=(s.getD (i+kk) 0).toNat/\(s.getD (i+kk) 0).toNat<=191 then Dx LF (n-1) s i m ((v*64+(s.getD (i+kk) 0).toNat-128:Nat):Int) least ((kk+1:Nat):Int) l k0 k1 else k0 l:=by
 have hb:=(s.getD (i+kk) 0).toNat_lt
 obtain ⟨n,rfl⟩:∃ m,n=m+1:=⟨n-1,by omega⟩
 rw [Dx]
 have e1:A1 ((i:Int)+kk)=((i+kk:Nat):Int):=by rw [A5];rfl
 have e2:A1 ((kk:Int)+1)=((kk+1:Nat):Int):=by rw [A5];rfl
 rw [A8,e1,e2,I6,F4]
 generalize (s.getD (i+kk) 0).toNat=b at *
 simp only [cond_true,vl]
 rw [D3 (n:=(b:Int)) (by omega) (by omega),Nat.add_sub_cancel]
 by_cases h1:b<128
 ·rw [A8,I8]
  rfl
 ·rw [A7,cond_false]
  by_cases h2:191<b
  ·rw [A8,I8]
   rfl
  ·rw [A7,cond_false,V7]
   have e3:A1 (A1 (A1 ((v:Int)*64)+(b:Int))-128)=((v*64+b-128:Nat):Int):=by
    rw [D3 (n:=(v:Int)*64) (by omega) (by omega),D3 (n:=(v:Int)*64+b) (by omega) (by omega),A5]
    omega
   rw [e3]
theorem Md {R:Type} {k0:LL->Option R} {k1:By->Int->Int->Int->Int->LL->Option R} (s:By) (n i m v least:Nat) (l:LL) (hn:0<n) :
  Dx LF n s i m v least m l k0 k1=k1 s i m v least l:=by
 obtain ⟨n,rfl⟩:∃ m,n=m+1:=⟨n-1,by omega⟩
 rw [Dx]
 rw [A7]
 rfl
theorem Ns {R:Type} {k0:LL->Option R} {k1:By->Int->LL->Option R} (s:By) (hs:s.length<=1000000000) (i m v least:Nat) (P:List Nat) (hP:P.length<=1000000000) (hi:i+m<=s.length) (hv:v<=10000000) (hm:m<=4) :
  cond (ltI (v:Int) (least:Int)) (k0 (C1 P)) (cond (not (ptI v)) (k0 (C1 P)) (cond (F1 ((C1 P).length+1)) (k1 s (A1 ((i:Int)+m)) (C1 P++[[SV.int .i64 (v:Int)]])) none)) =
   if least<=v/\T7 v=true then k1 s ((i+m:Nat):Int) (C1 (P++[v])) else k0 (C1 P):=by
 have e1:A1 ((i:Int)+m)=((i+m:Nat):Int):=by rw [A5];rfl
 rw [e1,D2,E0 (by omega),Ig,show ptI (v:Int)=T7 v from rfl]
 by_cases h:v<least
 ·rw [A8,I8]
  rfl
 ·rw [A7,cond_false]
  cases hp:T7 v with
  | false=>rw [if_neg (by simp)];rfl
  | true=>rw [if_pos ⟨by omega,rfl⟩];rfl
theorem A40 {R:Type} {k0:LL->Option R} {k1:By->Int->LL->Option R} (s:By) (hs:s.length<=1000000000) (i v least:Nat) (P:List Nat) (hP:P.length<=1000000000) (hi:i<s.length) (hv:v<=32) :
  Cg LF s i 2 v least (C1 P) k0 k1=if 2<=s.length-i/\128<=(s.getD (i+1) 0).toNat/\(s.getD (i+1) 0).toNat<=191 then
   (if least<=v*64+(s.getD (i+1) 0).toNat-128/\T7 (v*64+(s.getD (i+1) 0).toNat-128)=true then k1 s ((i+2:Nat):Int) (C1 (P++[v*64+(s.getD (i+1) 0).toNat-128])) else k0 (C1 P)) else k0 (C1 P):=by
 have hb:=(s.getD (i+1) 0).toNat_lt
 have hLF:=D7
 unfold Cg
 have e1:A1 ((s.length:Int)-i)=((s.length-i:Nat):Int):=by rw [A5];omega
 rw [e1]
 simp only [vl]
 by_cases h:s.length-i<2
 ·rw [A8,I8]
  rfl
 ·rw [A7,cond_false]
  refine Eq.trans (X3 s hs LF i 2 v least 1 (C1 P) (by omega) (by omega) (by omega) (by omega) (by omega)) ?_
  generalize (s.getD (i+1) 0).toNat=b at *
  by_cases h1:128<=b/\b<=191
  ·rw [if_pos h1,if_pos ⟨by omega,h1⟩]
   refine Eq.trans (Md s (LF-1) i 2 _ least (C1 P) (by omega)) ?_
   exact Ns s hs i 2 _ least P hP (by omega) (by omega) (by omega)
  ·rw [if_neg h1,if_neg (λh=>h1 h.2)]
theorem A41 {R:Type} {k0:LL->Option R} {k1:By->Int->LL->Option R} (s:By) (hs:s.length<=1000000000) (i v least:Nat) (P:List Nat) (hP:P.length<=1000000000) (hi:i<s.length) (hv:v<=32) :
  Cg LF s i 3 v least (C1 P) k0 k1=if 3<=s.length-i/\(128<=(s.getD (i+1) 0).toNat/\(s.getD (i+1) 0).toNat<=191)/\(128<=(s.getD (i+2) 0).toNat/\(s.getD (i+2) 0).toNat<=191) then
   (if least<=(v*64+(s.getD (i+1) 0).toNat-128)*64+(s.getD (i+2) 0).toNat-128/\T7 ((v*64+(s.getD (i+1) 0).toNat-128)*64+(s.getD (i+2) 0).toNat-128)=true then k1 s ((i+3:Nat):Int) (C1 (P++[(v*64+(s.getD (i+1) 0).toNat-128)*64+(s.getD (i+2) 0).toNat-128])) else k0 (C1 P)) else k0 (C1 P):=by
 have hb:=(s.getD (i+1) 0).toNat_lt
 have hb2:=(s.getD (i+2) 0).toNat_lt
 have hLF:=D7
 unfold Cg
 have e1:A1 ((s.length:Int)-i)=((s.length-i:Nat):Int):=by rw [A5];omega
 rw [e1]
 simp only [vl]
 by_cases h:s.length-i<3
 ·rw [A8,I8]
  rfl
 ·rw [A7,cond_false]
  refine Eq.trans (X3 s hs LF i 3 v least 1 (C1 P) (by omega) (by omega) (by omega) (by omega) (by omega)) ?_
  by_cases h1:128<=(s.getD (i+1) 0).toNat/\(s.getD (i+1) 0).toNat<=191
  ·rw [if_pos h1]
   refine Eq.trans (X3 s hs (LF-1) i 3 _ least 2 (C1 P) (by omega) (by omega) (by omega) (by omega) (by omega)) ?_
   by_cases h2:128<=(s.getD (i+2) 0).toNat/\(s.getD (i+2) 0).toNat<=191
   ·rw [if_pos h2,if_pos ⟨by omega,h1,h2⟩]
    refine Eq.trans (Md s (LF-2) i 3 _ least (C1 P) (by omega)) ?_
    exact Ns s hs i 3 _ least P hP (by omega) (by omega) (by omega)
   ·rw [if_neg h2,if_neg (λh=>h2 h.2.2)]
  ·rw [if_neg h1,if_neg (λh=>h1 h.2.1)]
theorem A42 {R:Type} {k0:LL->Option R} {k1:By->Int->LL->Option R} (s:By) (hs:s.length<=1000000000) (i v least:Nat) (P:List Nat) (hP:P.length<=1000000000) (hi:i<s.length) (hv:v<=20) :
  Cg LF s i 4 v least (C1 P) k0 k1=if 4<=s.length-i/\(128<=(s.getD (i+1) 0).toNat/\(s.getD (i+1) 0).toNat<=191)/\(128<=(s.getD (i+2) 0).toNat/\(s.getD (i+2) 0).toNat<=191)/\(128<=(s.getD (i+3) 0).toNat/\(s.getD (i+3) 0).toNat<=191) then
   (if least<=((v*64+(s.getD (i+1) 0).toNat-128)*64+(s.getD (i+2) 0).toNat-128)*64+(s.getD (i+3) 0).toNat-128/\T7 (((v*64+(s.getD (i+1) 0).toNat-128)*64+(s.getD (i+2) 0).toNat-128)*64+(s.getD (i+3) 0).toNat-128)=true then k1 s ((i+4:Nat):Int) (C1 (P++[((v*64+(s.getD (i+1) 0).toNat-128)*64+(s.getD (i+2) 0).toNat-128)*64+(s.getD (i+3) 0).toNat-128])) else k0 (C1 P)) else k0 (C1 P):=by
 have hb:=(s.getD (i+1) 0).toNat_lt
 have hb2:=(s.getD (i+2) 0).toNat_lt
 have hb3:=(s.getD (i+3) 0).toNat_lt
 have hLF:=D7
 unfold Cg
 have e1:A1 ((s.length:Int)-i)=((s.length-i:Nat):Int):=by rw [A5];omega
 rw [e1]
 simp only [vl]
 by_cases h:s.length-i<4
 ·rw [A8,I8]
  rfl
 ·rw [A7,cond_false]
  refine Eq.trans (X3 s hs LF i 4 v least 1 (C1 P) (by omega) (by omega) (by omega) (by omega) (by omega)) ?_
  by_cases h1:128<=(s.getD (i+1) 0).toNat/\(s.getD (i+1) 0).toNat<=191
  ·rw [if_pos h1]
   refine Eq.trans (X3 s hs (LF-1) i 4 _ least 2 (C1 P) (by omega) (by omega) (by omega) (by omega) (by omega)) ?_
   by_cases h2:128<=(s.getD (i+2) 0).toNat/\(s.getD (i+2) 0).toNat<=191
   ·rw [if_pos h2]
    refine Eq.trans (X3 s hs (LF-2) i 4 _ least 3 (C1 P) (by omega) (by omega) (by omega) (by omega) (by omega)) ?_
    by_cases h3:128<=(s.getD (i+3) 0).toNat/\(s.getD (i+3) 0).toNat<=191
    ·rw [if_pos h3,if_pos ⟨by omega,h1,h2,h3⟩]
     refine Eq.trans (Md s (LF-3) i 4 _ least (C1 P) (by omega)) ?_
     exact Ns s hs i 4 _ least P hP (by omega) (by omega) (by omega)
    ·rw [if_neg h3,if_neg (λh=>h3 h.2.2.2)]
   ·rw [if_neg h2,if_neg (λh=>h2 h.2.2.1)]
  ·rw [if_neg h1,if_neg (λh=>h1 h.2.1)]
theorem Ah5 {R:Type} {k0:By->Int->Int->LL->Option R} (n:Nat) (hn:0<n) (s:By) (i v:Int) (l:LL):Sr LF n s i v l k0=k0 s i v l:=by
 obtain ⟨n,rfl⟩:∃ m,n=m+1:=⟨n-1,by omega⟩
 rw [Sr]
theorem Ag9 {R:Type} {k0:LL->Option R} {k1:By->Int->LL->Option R} (s:By) (hs:s.length<=1000000000) (i v:Nat) (P:List Nat) (hP:P.length<=1000000000) (hi:i<s.length) (hv:v<128) :
  Sq LF s i v (C1 P) k0 k1=k1 s ((i+1:Nat):Int) (C1 (P++[v])):=by
 unfold Sq
 have e1:A1 ((s.length:Int)-i)=((s.length-i:Nat):Int):=by rw [A5];omega
 rw [e1]
 simp only [vl]
 rw [A7,cond_false]
 refine Eq.trans (show _=cond (ltI (v:Int) ((0:Nat):Int)) (k0 (C1 P)) (cond (not (ptI v)) (k0 (C1 P)) (cond (F1 ((C1 P).length+1)) (k1 s (A1 ((i:Int)+(1:Nat))) (C1 P++[[SV.int .i64 (v:Int)]])) none)) from Ah5 LF (by have:=D7;omega) _ _ _ _) ?_
 rw [Ns s hs i 1 v 0 P hP (by omega) (by omega) (by omega),if_pos]
 refine ⟨Nat.zero_le _,?_⟩
 simp only [T7,Bool.and_eq_true,Bool.or_eq_true,Nat.ble_eq,Nat.blt_eq]
 omega
theorem Bf0 {v:Nat} (h:v<2048):T7 v=true:=by
 simp only [T7,Bool.and_eq_true,Bool.or_eq_true,Nat.ble_eq,Nat.blt_eq]
 omega
theorem Ah8 {R:Type} {k0 k1:LL->Option R} (s:By) (hs:s.length<=1000000000) (n i:Nat) (P:List Nat) (hP:P.length<=1000000000) (hi:i<s.length) :
  X4 LF (n+1) s i (C1 P) k0 k1=if (Lib.decodeL (s.drop i)).1=65533/\(Lib.decodeL (s.drop i)).2=1 then k0 (C1 P) else X4 LF n s ((i+(Lib.decodeL (s.drop i)).2:Nat):Int) (C1 (P++[(Lib.decodeL (s.drop i)).1])) k0 k1:=by
 have g:∀ k,(s.drop i).getD k 0=s.getD (i+k) 0:=λk=>by grind
 have hd:Lib.decodeL (s.drop i)=Lib.decodeN (s.length-i) (s.getD i 0).toNat (s.getD (i+1) 0).toNat (s.getD (i+2) 0).toNat (s.getD (i+3) 0).toNat:=by
  rw [Lib.decodeL_N,g,g,g,g,List.length_drop]
  rfl
 have l0:=(s.getD i 0).toNat_lt
 have l1:=(s.getD (i+1) 0).toNat_lt
 have l2:=(s.getD (i+2) 0).toNat_lt
 have l3:=(s.getD (i+3) 0).toNat_lt
 rw [hd]
 rw [X4,A8,I6,F4,D3 (n:=((s.getD i 0).toNat:Int)) (by omega) (by omega)]
 simp only [cond_true]
 generalize (s.getD i 0).toNat=b at *
 by_cases h1:b<128
 ·rw [A8,cond_true]
  have e:Lib.decodeN (s.length-i) b (s.getD (i+1) 0).toNat (s.getD (i+2) 0).toNat (s.getD (i+3) 0).toNat=(b,1):=by unfold Lib.decodeN;rw [if_pos h1]
  rw [e]
  simp only
  rw [I8]
  exact Ag9 s hs i b P hP hi h1
 ·rw [D1 (show (128:Int)<=b by omega),cond_false]
  by_cases h2:b<194
  ·rw [C2 (show (b:Int)<194 by omega)]
   have e:Lib.decodeN (s.length-i) b (s.getD (i+1) 0).toNat (s.getD (i+2) 0).toNat (s.getD (i+3) 0).toNat=(65533,1):=by
    unfold Lib.decodeN
    grind
   rw [e,if_pos ⟨rfl,rfl⟩]
   simp only [Bool.not_true,cond_false]
   unfold Kd
   unfold Kc
   rw [cond_false,C2 (show (b:Int)<224 by omega),C2 (show (b:Int)<240 by omega)]
   rfl
  ·rw [D1 (show (194:Int)<=b by omega)]
   simp only [Bool.not_false,cond_true]
   by_cases h3:b<224
   ·rw [C2 (show (b:Int)<224 by omega)]
    unfold Kd
    have e1:A1 ((b:Int)-192)=((b-192:Nat):Int):=by rw [A5];omega
    rw [cond_true,e1,Cm2 _ _ _ _ _ ⟨by omega,h3⟩ l1]
    simp only [vl]
    refine Eq.trans (A40 s hs i (b-192) 128 P hP hi (by omega)) ?_
    by_cases hc:2<=s.length-i/\128<=(s.getD (i+1) 0).toNat/\(s.getD (i+1) 0).toNat<=191
    ·rw [if_pos hc,if_pos hc]
     simp only
     rw [if_pos ⟨by omega,Bf0 (by omega)⟩,I8]
    ·rw [if_neg hc,if_neg hc,if_pos ⟨rfl,rfl⟩]
   ·rw [D1 (show (224:Int)<=b by omega)]
    unfold Kd
    rw [cond_false,D1 (show (224:Int)<=b by omega)]
    simp only [Bool.not_false,cond_true]
    by_cases h4:b<240
    ·rw [C2 (show (b:Int)<240 by omega)]
     unfold Kc
     have e1:A1 ((b:Int)-224)=((b-224:Nat):Int):=by rw [A5];omega
     rw [cond_true,e1,Cm3 _ _ _ _ _ ⟨by omega,h4⟩ l1 l2]
     simp only [vl]
     refine Eq.trans (A41 s hs i (b-224) 2048 P hP hi (by omega)) ?_
     by_cases hc:3<=s.length-i/\(128<=(s.getD (i+1) 0).toNat/\(s.getD (i+1) 0).toNat<=191)/\(128<=(s.getD (i+2) 0).toNat/\(s.getD (i+2) 0).toNat<=191)
     ·rw [if_pos hc,if_pos hc]
      split
      ·simp only;rw [I8]
      ·rw [if_pos ⟨rfl,rfl⟩]
     ·rw [if_neg hc,if_neg hc,if_pos ⟨rfl,rfl⟩]
    ·rw [D1 (show (240:Int)<=b by omega)]
     unfold Kc
     rw [cond_false,D1 (show (240:Int)<=b by omega)]
     simp only [Bool.not_false,cond_true]
     by_cases h5:b<245
     ·rw [C2 (show (b:Int)<245 by omega),cond_true]
      have e1:A1 ((b:Int)-240)=((b-240:Nat):Int):=by rw [A5];omega
      rw [e1,Cm4 _ _ _ _ _ ⟨by omega,h5⟩ l1 l2 l3]
      simp only [vl]
      refine Eq.trans (A42 s hs i (b-240) 65536 P hP hi (by omega)) ?_
      by_cases hc:4<=s.length-i/\(128<=(s.getD (i+1) 0).toNat/\(s.getD (i+1) 0).toNat<=191)/\(128<=(s.getD (i+2) 0).toNat/\(s.getD (i+2) 0).toNat<=191)/\(128<=(s.getD (i+3) 0).toNat/\(s.getD (i+3) 0).toNat<=191)
      ·rw [if_pos hc,if_pos hc]
       split
       ·simp only;rw [I8]
       ·rw [if_pos ⟨rfl,rfl⟩]
      ·rw [if_neg hc,if_neg hc,if_pos ⟨rfl,rfl⟩]
     ·rw [D1 (show (245:Int)<=b by omega),cond_false]
      have e:Lib.decodeN (s.length-i) b (s.getD (i+1) 0).toNat (s.getD (i+2) 0).toNat (s.getD (i+3) 0).toNat=(65533,1):=by
       unfold Lib.decodeN
       grind
      rw [e,if_pos ⟨rfl,rfl⟩]
theorem A43 (s:By) (hs:s.length<=1000000000):∀ (r i n:Nat) (P:List Nat),i+r=s.length->r<n->P.length<=i->
  (Bx (s.drop i)=none->∃ l,∀ (R:Type) (k0 k1:LL->Option R),X4 LF n s i (C1 P) k0 k1=k0 l)/\
  (∀ q,Bx (s.drop i)=some q->∀ (R:Type) (k0 k1:LL->Option R),X4 LF n s i (C1 P) k0 k1=k1 (C1 (P++q))):=by
 intro r
 induction r using Nat.strongRecOn with
 | _ r ih=>
  intro i n P hi hn hP
  obtain ⟨n,rfl⟩:∃ m,n=m+1:=⟨n-1,by omega⟩
  by_cases hr:i<s.length
  ·have hne:s.drop i≠[]:=by rw [ne_eq,<-List.length_eq_zero_iff,List.length_drop];omega
   have hst:=λ(R:Type) (k0 k1:LL->Option R)=>Ah8 (k0:=k0) (k1:=k1) s hs n i P (by omega) hr
   have hw:=Lib.decodeL_width (s.drop i)
   have hle:=Lib.decodeL_le (s.drop i) hne
   rw [List.length_drop] at hle
   rw [A15 _ hne]
   by_cases hbad:(Lib.decodeL (s.drop i)).1=65533/\(Lib.decodeL (s.drop i)).2=1
   ·rw [if_pos hbad]
    refine ⟨λ_=>⟨C1 P,λR k0 k1=>?_⟩,λq hq=>by cases hq⟩
    refine (hst R k0 k1).trans ?_
    rw [if_pos hbad]
   ·rw [if_neg hbad,List.drop_drop]
    obtain ⟨w1,w2⟩:=ih (r-(Lib.decodeL (s.drop i)).2) (by omega) (i+(Lib.decodeL (s.drop i)).2) n (P++[(Lib.decodeL (s.drop i)).1]) (by omega) (by omega) (by rw [List.length_append,List.length_singleton];omega)
    constructor
    ·intro h
     cases hq:Bx (s.drop (i+(Lib.decodeL (s.drop i)).2)) with
     | some q=>rw [hq] at h;cases h
     | none=>
      obtain ⟨l,e⟩:=w1 hq
      refine ⟨l,λR k0 k1=>?_⟩
      refine (hst R k0 k1).trans ?_
      rw [if_neg hbad]
      exact e R k0 k1
    ·intro q h R k0 k1
     cases hq:Bx (s.drop (i+(Lib.decodeL (s.drop i)).2)) with
     | none=>rw [hq] at h;cases h
     | some q'=>
      rw [hq] at h
      simp only [Option.map_some,Option.some.injEq] at h
      subst h
      refine (hst R k0 k1).trans ?_
      rw [if_neg hbad]
      refine (w2 q' hq R k0 k1).trans ?_
      rw [List.append_assoc]
      rfl
  ·have hnil:s.drop i=[]:=by rw [<-List.length_eq_zero_iff,List.length_drop];omega
   have e:∀ (R:Type) (k0 k1:LL->Option R),X4 LF (n+1) s i (C1 P) k0 k1=k1 (C1 P):=λR k0 k1=>by
    rw [X4]
    rw [A7]
    rfl
   rw [hnil,show Bx []=some [] from rfl]
   refine ⟨λh=>(by cases h),λq hq R k0 k1=>?_⟩
   simp only [Option.some.injEq] at hq
   subst hq
   rw [List.append_nil]
   exact e R k0 k1
theorem B24 (s:By) (h0:A3 s.length=true):∃ r H,B21 LF s (λl0=>rv (.tup [.fl 1,.s (.bool false)]) [.arr true 3 1 l0,.arr true 3 1 []]) (λl0=>rv (.tup [.fl 0,.s (.bool true)]) [.arr true 3 1 l0])=rv r H/\
  r.stab [1,0] H = .tup [.s (.sl (Nv s).isEmpty (Nv s).isEmpty 1 (Jr (Nv s))),.s (.bool (Bx s).isSome)]:=by
 have hs:=K8 h0
 obtain ⟨w1,w2⟩:=A43 s hs s.length 0 LF [] (by omega) (by have:=D7;omega) (Nat.zero_le _)
 rw [List.drop_zero] at w1 w2
 unfold Nv
 cases hp:Bx s with
 | none=>
  obtain ⟨l,e⟩:=w1 hp
  exact ⟨_,_,e _ _ _,rfl⟩
 | some q=>
  refine ⟨_,_,w2 q hp _ _ _,?_⟩
  cases q<;>rfl
theorem Ag6 {R:Type} {k0:Unit->Option R} {k1:By->Bool->LL->Bool->Option R} (s:By) (z:Bool) (p:List Nat) (hp:p.length<=1000000000):∀ (r i n:Nat) (b:Bool),i+r=p.length->r<n->
  W0 LF n s z (C1 p) b (i:Int) k0 k1=if (p.drop i).any (λp=>Nat.ble 65 p&&Nat.ble p 90) then k0 () else k1 s z (C1 p) (b || ((p.drop i).any λp=>Nat.ble 128 p)):=by
 intro r
 induction r with
 | zero=>
  intro i n b hi hn
  obtain ⟨n,rfl⟩:∃ m,n=m+1:=⟨n-1,by omega⟩
  rw [W0]
  rw [D2,A7,List.drop_of_length_le (by omega)]
  simp
 | succ r ih=>
  intro i n b hi hn
  obtain ⟨n,rfl⟩:∃ m,n=m+1:=⟨n-1,by omega⟩
  rw [W0]
  have e1:A1 ((i:Int)+1)=((i+1:Nat):Int):=by rw [A5];rfl
  have hd:p.drop i=p.getD i 0::p.drop (i+1):=by
   rw [List.getD_eq_getElem?_getD,List.getElem?_eq_getElem (by omega),Option.getD_some,List.getElem_cons_drop]
  rw [D2,A8,I6,Int.toNat_natCast,Nf (by omega),Vd _ _ (by omega),hd,List.any_cons,List.any_cons,e1]
  simp only [cond_true]
  generalize p.getD i 0=q
  have go:∀ c:Bool,W0 LF n s z (C1 p) c ((i+1:Nat):Int) k0 k1=_:=λc=>ih (i+1) n c (by omega) (by omega)
  simp only [go]
  by_cases h1:q<65
  ·rw [show ltI (q:Int) (65:Int)=true from A8,show Nat.ble 65 q=false by rw [Bool.eq_false_iff,ne_eq,Nat.ble_eq];omega]
   have h2:Nat.ble 128 q=false:=by rw [Bool.eq_false_iff,ne_eq,Nat.ble_eq];omega
   rw [show ltI (q:Int) (128:Int)=true from A8,h2]
   cases b<;>simp
  ·rw [show ltI (q:Int) (65:Int)=false from A7,show Nat.ble 65 q=true by rw [Nat.ble_eq];omega]
   by_cases h2:90<q
   ·rw [show ltI (90:Int) (q:Int)=true from A8,show Nat.ble q 90=false by rw [Bool.eq_false_iff,ne_eq,Nat.ble_eq];omega]
    by_cases h3:q<128
    ·rw [show ltI (q:Int) (128:Int)=true from A8,show Nat.ble 128 q=false by rw [Bool.eq_false_iff,ne_eq,Nat.ble_eq];omega]
     cases b<;>simp
    ·rw [show ltI (q:Int) (128:Int)=false from A7,show Nat.ble 128 q=true by rw [Nat.ble_eq];omega]
     cases b<;>simp
   ·rw [show ltI (90:Int) (q:Int)=false from A7,show Nat.ble q 90=true by rw [Nat.ble_eq];omega]
    cases b<;>simp
theorem Ag7 {R:Type} {k0:Bool->Option R} (s:By) (h0:A3 s.length=true):At0 LF s k0=k0 (Ce s):=by
 have hLF:=D7
 unfold At0 Ce
 rw [h0,cond_true]
 simp only [vl]
 by_cases h:(M8 s).2=0
 ·have e:(((M8 s).2:Int) != (0:Int))=false:=by rw [h];rfl
  rw [e,cond_false,Bt,h]
  have hl:=PS s
  refine Eq.trans (Ag6 s _ (M8 s).1 (by omega) (M8 s).1.length 0 LF false (by omega) (by omega)) ?_
  rw [List.drop_zero]
  cases h1:(M8 s).1.any (λp=>Nat.ble 65 p&&Nat.ble p 90) with
  | true=>simp
  | false=>
   rw [if_neg (by simp),Cc,Qr,Qt]
   simp only [cond_true,vl,Bool.false_or,Bool.not_false]
   by_cases h3:(Bj (M8 s).1).2=0
   all_goals grind
 grind
theorem Ae7 {R:Type} {k0:Unit->Option R} {k1:By->Option R} (s:By) (hs:s.length<=1000000000):∀ (r i n:Nat),i+r=s.length->r<n->
  N1 LF n s (i:Int) k0 k1=if (s.drop i).all V0 then k1 s else k0 ():=by
 intro r
 induction r with
 | zero=>
  intro i n hi hn
  obtain ⟨n,rfl⟩:∃ m,n=m+1:=⟨n-1,by omega⟩
  rw [N1]
  rw [A7,List.drop_of_length_le (by omega)]
  rfl
 | succ r ih=>
  intro i n hi hn
  obtain ⟨n,rfl⟩:∃ m,n=m+1:=⟨n-1,by omega⟩
  rw [N1]
  have e1:A1 ((i:Int)+1)=((i+1:Nat):Int):=by rw [A5];rfl
  rw [A8,I6,F4,F7 s i (by omega),e1,List.all_cons]
  simp only [cond_true]
  rw [ih (i+1) n (by omega) (by omega)]
  generalize s.getD i 0=b
  have hb:=Xb b
  have q1:((b.toNat:Int)==45)=(b==45):=P6 b 45 (by omega)
  have q2:((b.toNat:Int)==95)=(b==95):=P6 b 95 (by omega)
  rw [q1,q2]
  cases hl:V0 b with
  | true=>
   rw [hb] at hl
   simp only [Bool.true_and]
   by_cases h1:b=45
   ·subst h1
    simp (disch:=decide) [ltI]
   ·by_cases h2:b=95
    ·subst h2
     simp (disch:=decide) [ltI]
    ·rcases hl with hl | hl | hl | hl
     ·rw [show ltI (b.toNat:Int) 97=false from A7,show ltI (122:Int) b.toNat=false from A7];rfl
     ·rw [show ltI (b.toNat:Int) 97=true from A8,show ltI (b.toNat:Int) 48=false from A7,show ltI (57:Int) b.toNat=false from A7];rfl
     ·exact absurd hl h1
     ·exact absurd hl h2
  | false=>
   have hn:¬ ((97<=b.toNat/\b.toNat<=122)\/(48<=b.toNat/\b.toNat<=57)\/b=45\/b=95):=λh=>by rw [hb.2 h] at hl;cases hl
   have n1:(b==45)=false:=by simpa using λh=>hn (.inr (.inr (.inl h)))
   have n2:(b==95)=false:=by simpa using λh=>hn (.inr (.inr (.inr h)))
   rw [n1,n2]
   simp only [Bool.not_false,cond_true,cond_false,Bool.false_and,Bool.false_eq_true,if_false]
   by_cases h1:b.toNat<48
   ·rw [show ltI (b.toNat:Int) 97=true from A8,show ltI (b.toNat:Int) 48=true from A8];rfl
   ·by_cases h2:b.toNat<97
    ·rw [show ltI (b.toNat:Int) 97=true from A8,show ltI (b.toNat:Int) 48=false from A7,show ltI (57:Int) b.toNat=true from A8];rfl
    ·rw [show ltI (b.toNat:Int) 97=false from A7,show ltI (122:Int) b.toNat=true from A8,show ltI (b.toNat:Int) 48=false from A7,show ltI (57:Int) b.toNat=true from A8];rfl
theorem Bl6 (s:By) (h:4<=s.length):(s.take 4==([120,110,45,45]:List UInt8))=xnB.isPrefixOf s:=by
 match s,h with
 | a::b::c::d::t,_=>
  simp only [List.take_succ_cons,List.take_zero,xnB,List.isPrefixOf,Bool.and_true]
  rw [show ((a::b::c::d::[])==([120,110,45,45]:List UInt8))=(a==120&&(b==110&&(c==45&&(d==45&&true)))) from rfl,Bool.and_true]
  rw [Bool.eq_iff_iff]
  simp only [Bool.and_eq_true,beq_iff_eq]
  exact ⟨λh=>⟨h.1.symm,h.2.1.symm,h.2.2.1.symm,h.2.2.2.symm⟩,λh=>⟨h.1.symm,h.2.1.symm,h.2.2.1.symm,h.2.2.2.symm⟩⟩
theorem Ae8 {R:Type} {k0:Bool->Option R} (s:By) (h0:A3 s.length=true):As5 LF s k0=k0 (K4 s):=by
 have hs:=K8 h0
 have hLF:=D7
 unfold As5 K4
 by_cases h1:s=[]
 ·grind
 ·have hl:0<s.length:=List.length_pos_iff.2 h1
  have he:s.isEmpty=false:=by simpa using h1
  have he2:(s==([]:List UInt8))=false:=by simpa using h1
  rw [he2,cond_false,he]
  by_cases h2:63<s.length
  ·rw [A8,show Nat.ble s.length 63=false by rw [Bool.eq_false_iff,ne_eq,Nat.ble_eq];omega]
   rfl
  ·rw [A7,cond_false,show Nat.ble s.length 63=true by rw [Nat.ble_eq];omega,I6]
   have q1:(bAt s 0==(45:Int))=(s.getD 0 0==45):=by rw [Hu];exact P6 _ 45 (by omega)
   have e1:A1 ((s.length:Int)-1)=((s.length-1:Nat):Int):=by rw [A5];omega
   rw [q1,e1]
   simp only [cond_true,vl]
   rw [I6,F4,show ((((s.getD (s.length-1) 0).toNat:Nat):Int)==45)=(s.getD (s.length-1) 0==45) from P6 _ 45 (by omega)]
   cases h3:(s.getD 0 0==45) with
   | true=>
    grind
   | false=>
    rw [show (s.getD 0 0 != 45)=true by unfold bne;rw [h3];rfl]
    simp only [cond_true,cond_false]
    cases h4:(s.getD (s.length-1) 0==45) with
    | true=>
     grind
    | false=>
     rw [show (s.getD (s.length-1) 0 != 45)=true by unfold bne;rw [h4];rfl]
     simp only [cond_false]
     refine Eq.trans (Ae7 s hs s.length 0 LF (by omega) (by omega)) ?_
     rw [List.drop_zero]
     cases h5:s.all V0 with
     | false=>simp
     | true=>
      rw [if_pos rfl]
      simp only [Bool.not_false,Bool.true_and,Bool.and_true]
      by_cases h6:s.length<4
      ·rw [A8]
       have:xnB.isPrefixOf s=false:=by
        rw [Bool.eq_false_iff,ne_eq,List.isPrefixOf_iff_prefix]
        intro h
        have:=h.length_le
        simp only [xnB,List.length_cons,List.length_nil] at this
        omega
       grind
      ·rw [A7,cond_false,P5,cond_true,Y7]
       have ht:(List.take (Int.toNat 4) s==([120,110,45,45]:List UInt8))=xnB.isPrefixOf s:=Bl6 s (by omega)
       rw [ht]
       cases h7:xnB.isPrefixOf s with
       | false=>rfl
       | true=>
        rw [P5,Q8]
        simp only [Bool.not_true,cond_false,cond_true]
        rw [F5 (by rw [List.length_drop];omega)]
        rfl
theorem Ae5 {R:Type} {k0:By->Int->Option R} (s:By) (h0:A3 s.length=true):As4 LF s k0=k0 (I5 s).1 ((I5 s).2:Nat):=by
 have hs:=K8 h0
 have hLF:=D7
 unfold As4 I5
 rw [h0,cond_true]
 cases hp:Bx s with
 | none=>rfl
 | some p=>
  have hN:(Nv s)=p:=by unfold Nv;rw [hp];rfl
  rw [hN,Bt,D2]
  simp only [Option.isSome_some,Bool.not_true,cond_false,cond_true]
  by_cases h1:256<p.length
  ·rw [if_pos h1,A8]
   rfl
  ·rw [if_neg h1,A7,cond_false,F5 (by rw [Ie];exact hs)]
   by_cases h2:p.length<s.length
   ·rw [if_pos h2,A8]
    have hlow:=RV (l:=s) (by rw [hp];rfl)
    cases hq:Bx (C7 s) with
    | none=>rw [hq] at hlow;cases hlow
    | some q=>
     have hNq:Nv (C7 s)=q:=by unfold Nv;rw [hq];rfl
     have hel:=PY q
     rw [hNq,Bt,Cc,Qr,Qt]
     simp only [cond_true,vl]
     rw [Mx (by omega),cond_true,F5 (by rw [List.length_append];simp only [List.length_cons,List.length_nil];omega),cond_true]
     by_cases h3:(Bj q).2=0
     ·rw [h3,if_pos rfl]
      show cond (not (K4 (xnB++(Bj q).1))) _ _=_
      cases h4:K4 (xnB++(Bj q).1) with
      | true=>rfl
      | false=>rfl
     grind
   ·rw [if_neg h2,A7]
    grind
set_option maxRecDepth 100000
section
variable {σ R : Type} (lf : Nat) (cl : G2) (yh : Yh σ) (s : σ) (k : Out -> St σ -> Option R)
noncomputable abbrev AB:Code:=D8 Tryz.f123
noncomputable def Nz (lf:Nat):Cfg:=C8 lf [123] (A4 []) [] (A4 [(7,[2]),(2,[2]),(4,[2]),(6,[2]),(5,[0,23]),(3,[0,12]),(1,[0,2]),(0,[0])]) [] (A4 [(0,[])]) (some [2]) [] [] []
noncomputable def CV {R:Type} (b0:Int) (b1:Bool) (k0:Int->Option R) (k1:Int->Bool->Option R):Option R:=cond b1 (vl (A1 (wu8 (b0-97))) λn'1=>vl (A1 (n'1+10)) λn'2=>k0 n'2) (cond (not (ltI b0 65)) (cond (not (ltI 70 b0)) (vl (A1 (wu8 (b0-65))) λn'3=>vl (A1 (n'3+10)) λn'4=>k0 n'4) (k1 b0 (not (ltI 70 b0)))) (k1 b0 false))
abbrev SK (b:Code):Prop:=∀ (k:Out->St σ->Option R) b0 b1,A9 (Nz lf) cl yh b ⟨gp [(0,p8 b0),(12,pB b1)] 21,[],s⟩ k=CV b0 b1 (λn0=>k .ret ⟨gp [(2,pI n0)] 32,[],s⟩) (λb0 b1=>k .normal ⟨gp [(0,p8 b0),(23,pB b1)] 10,[],s⟩)
theorem A29:SK (R:=R) lf cl yh s (cd [1,0,0,1,1,1] AB):=by
 intro k b0 b1;unfold CV;kernel_rfl
noncomputable def CW {R:Type} (b0:Int) (b1:Bool) (k0:Int->Option R) (k1:Int->Bool->Option R):Option R:=cond b1 (vl (A1 (wu8 (b0-48))) λn'0=>k0 n'0) (cond (not (ltI b0 97)) (CV b0 (not (ltI 102 b0)) (λn'5=>k0 n'5) (λb'6 b'7=>k1 b'6 b'7)) (CV b0 false (λn'8=>k0 n'8) (λb'9 b'10=>k1 b'9 b'10)))
abbrev CX (b:Code):Prop:=∀ (k:Out->St σ->Option R) b0 b1,A9 (Nz lf) cl yh b ⟨gp [(0,p8 b0),(2,pB b1)] 31,[],s⟩ k=CW b0 b1 (λn0=>k .ret ⟨gp [(2,pI n0)] 32,[],s⟩) (λb0 b1=>k .normal ⟨gp [(0,p8 b0),(23,pB b1)] 10,[],s⟩)
theorem A30 (b_100111:Code) (h_rhx_j0:SK (R:=R) lf cl yh s b_100111):CX (R:=R) lf cl yh s (cd [1,0,0,1] (J3 [1,0,0,1,1,1] b_100111 AB)):=by
 intro k b0 b1;unfold CW;simp only [<-h_rhx_j0 k];kernel_rfl
theorem A31:CX (R:=R) lf cl yh s (cd [1,0,0,1] AB):=by
 intro k b0 b1;exact Eq.trans (by kernel_rfl) (A30 lf cl yh s (cd [1,0,0,1,1,1] AB) (A29 lf cl yh s) k b0 b1)
noncomputable def rhx {R:Type} (lf:Nat) (b0:Int) (k0:Int->Option R):Option R:=cond (not (ltI b0 48)) (CW b0 (not (ltI 57 b0)) (λn'11=>k0 n'11) (λb'12 b'13=>k0 (-1))) (CW b0 false (λn'14=>k0 n'14) (λb'15 b'16=>k0 (-1)))
theorem Cc8 (b_1001:Code) (h_rhx_j1:CX (R:=PV × List Blk × σ) lf cl yh s b_1001) (b0:Int):A9 (Nz lf) cl yh (cd [] (J3 [1,0,0,1] b_1001 AB)) ⟨[p8 b0]++tps 34,[],s⟩ (G5 (Nz lf) Tryz.f123)=rhx lf b0 (λr0=>some (pI r0,[],s)):=by
 unfold rhx;exact let K0:=(F9 0 (G1 (Nz lf) cl yh (cd [1,1] AB) (G5 (Nz lf) Tryz.f123)));(Eq.trans (by kernel_rfl) (A0 ((h_rhx_j1 K0 b0 (not (ltI 57 b0))).trans (by kernel_rfl)) ((h_rhx_j1 K0 b0 false).trans (by kernel_rfl))))
theorem Cc9 (d:Nat) (b0):evC (Nz lf) (d+1) σ yh 123 [p8 b0] [] s=rhx lf b0 (λr0=>some (pI r0,[],s)):=
 (evE (fn:=Tryz.f123) (by kernel_rfl)).trans (Eq.trans (by kernel_rfl) (Cc8 lf (evC (Nz lf) d) yh s (cd [1,0,0,1] AB) (A31 lf (evC (Nz lf) d) yh s) b0))
noncomputable abbrev Ao1:Code:=D8 Tryz.f89
noncomputable def Je (lf:Nat):Cfg:=C8 lf [89] (A4 [(3,[0,1,0,0,0])]) [(123,B72)] (A4 [(11,[2,0]),(4,[0,3,0]),(10,[0,3,0]),(9,[0,3,0]),(8,[2,0]),(7,[0,3,0,36]),(6,[0,3,0]),(5,[0,3,0,9]),(3,[0,3,0,3]),(2,[0,3,0]),(1,[0,3]),(0,[0])]) [123] (A4 [(0,[4]),(1,[0,3,0])]) (some [2,0]) [] [] []
noncomputable def O0 {R:Type} (lf n:Nat) (s0:By) (i1:Int) (l2:LL) (k0:LL->Option R) (k1:LL->Option R):Option R:=match n with | 0=>none | n+1=>cond (ltI i1 (s0.length:Int)) (cond (inR i1 s0.length) (cond ((bAt s0 i1) != 37) (cond (inR i1 s0.length) (cond (F1 (l2.length+1)) (O0 lf n s0 (A1 (i1+1)) (l2++[[(SV.int .u8 (bAt s0 i1))]]) k0 k1) none) none) (vl (A1 ((s0.length:Int)-i1)) λn'3=>cond (ltI n'3 3) (k0 l2) (cond (inR (A1 (i1+1)) s0.length) (vl (bAt s0 (A1 (i1+1))) λn'4=>cond (inR n'4 256) (cond (ltI (Di (u8n n'4)) (0:Int)) (k0 l2) (cond (inR (A1 (i1+2)) s0.length) (vl (bAt s0 (A1 (i1+2))) λn'5=>cond (inR n'5 256) (cond (ltI (Di (u8n n'5)) (0:Int)) (k0 l2) (cond (inR (A1 (i1+1)) s0.length) (vl (bAt s0 (A1 (i1+1))) λn'6=>cond (inR n'6 256) (vl (A1 ((16:Int)*(Di (u8n n'6)))) λn'7=>cond (inR (A1 (i1+2)) s0.length) (vl (bAt s0 (A1 (i1+2))) λn'8=>cond (inR n'8 256) (vl (A1 (n'7+(Di (u8n n'8)))) λn'9=>cond (F1 (l2.length+1)) (vl (A1 ((A1 (i1+2))+1)) λn'10=>O0 lf n s0 n'10 (l2++[[(SV.int .u8 (wu8 n'9))]]) k0 k1) none) none) none) none) none)) none) none)) none) none))) none) (k1 l2)
theorem SJ (n s0 i1 l2):E5 1 ((Je lf).keep 3) (bd (Je lf) cl yh (cd [1,1,0,1,0,0] Ao1)) n ⟨gp [(0,pS s0),(3,.fl 0),(0,pI i1)] 57,[.arr true 5 1 l2],s⟩ k =
 O0 lf n s0 i1 l2 (λl0=>k .ret ⟨gp [(2,pS ([]:List UInt8)),(0,pB false)] 59,[.arr true 5 1 l0],s⟩) (λl0=>k (.exit 0) ⟨gp [(4,.fl 0)] 58,[.arr true 5 1 l0],s⟩):=by
 induction n generalizing s0 i1 l2 with
 | zero=>rfl
 | succ n ih=>rw [O0];simp only [<-ih];kernel_rfl
noncomputable def As1 {R:Type} (lf:Nat) (s0:By) (k0:By->Bool->LL->Option R):Option R:=O0 lf lf s0 0 [] (λl'11=>k0 ([]:List UInt8) false l'11) (λl'12=>cond (List.all l'12 Lt) (k0 (List.map Lc l'12) true l'12) none)
theorem Bj1 (d:Nat) (s0):evC (Je lf) (d+1) σ yh 89 [pS s0] [] s=As1 lf s0 (λr0 r1 l2=>some (.tup [pS r0,pB r1],[.arr true 5 1 l2],s)):=by
 refine (evE (fn:=Tryz.f89) (by kernel_rfl)).trans ?_
 generalize evC (Je lf) d=cl
 unfold As1;exact (Eq.trans (by kernel_rfl) ((SJ lf cl yh s (F9 0 (G1 (Je lf) cl yh (cd [1,1,1] Ao1) (G5 (Je lf) Tryz.f89))) lf s0 0 []).trans (by kernel_rfl)))
noncomputable def Sm {R:Type} (lf n:Nat) (p0:LL) (i1:Int) (k0:Unit->Option R) (k1:Unit->Option R):Option R:=match n with | 0=>none | n+1=>cond (ltI i1 (p0.length:Int)) (cond (inR i1 p0.length) (cond (okE Gc p0 (Int.toNat i1) 0) (cond (A3 (List.length (gX p0 (Int.toNat i1) 0))) (cond (not (K4 (gX p0 (Int.toNat i1) 0))) (k0 ()) (Sm lf n p0 (A1 (i1+1)) k0 k1)) none) none) none) (k1 ())
noncomputable def Ck1 {R:Type} (lf:Nat) (name0:By) (k0:Bool->Option R):Option R:=cond (name0==[]) (k0 false) (cond (ltI 253 (name0.length:Int)) (k0 false) (cond (A3 name0.length) (cond (F6 name0) (k0 false) (cond (A3 name0.length) (vl (C6 (pcs (u8n (46:Int)) name0)) λl'1=>Sm lf lf l'1 0 (λ_=>k0 false) (λ_=>k0 true)) none)) none))
end
section
variable {σ R : Type} (lf : Nat) (cl : G2) (yh : Yh σ) (s : σ) (k : Out -> St σ -> Option R)
noncomputable abbrev Q3:Code:=D8 Tryz.f56
noncomputable def K5 (lf:Nat):Cfg:=C8 lf [56] (A4 [(23,[2,0,6,0,0])]) [(88,A95),(89,Am9),(68,Zm),(90,An4),(53,Hs),(91,An1)] (A4 [(35,[2,0]),(34,[2,0]),(33,[2,7,108]),(32,[2,0]),(31,[2,7,105]),(24,[2,7,0,0]),(30,[2,7,0,0]),(29,[2,7,0,0,0]),(28,[2,7,0,0,0,94]),(27,[2,0]),(26,[2,7,0,0,0,0,89]),(25,[2,7,0,0,0,0]),(23,[2,7,0,0,79]),(22,[2,7,0,0]),(21,[2,7,0]),(20,[2,3,3]),(19,[2,0]),(18,[2,0]),(17,[2,5,74]),(16,[2,5,0]),(15,[2,3,69]),(14,[2,3]),(13,[2,3,62]),(12,[2,0]),(11,[2,3,51]),(10,[2,3,0]),(9,[2,0]),(8,[2,0]),(7,[2,1,43]),(6,[2,1,0]),(5,[2,0]),(4,[0,1,33]),(3,[0,1,22]),(2,[2,0]),(1,[0,1,14]),(0,[0,1])]) [89,68,90,91] (A4 [(0,[2,7]),(1,[2,7,0,0])]) (some [2,0]) [] [] []
noncomputable def Fm {R:Type} (raw0:By) (b1:Bool) (k0:Unit->Option R) (k1:Int->Int->Int->Int->Int->Int->Int->Int->Int->Int->LL->Option R) (k2:By->Bool->Option R):Option R:=cond b1 (vl (A1 ((raw0.length:Int)-1)) λn'1=>cond (inR n'1 raw0.length) (cond ((bAt raw0 n'1) != 93) (k0 ()) (cond (ltI (raw0.length:Int) (2:Int)) (k0 ()) (vl (A1 ((raw0.length:Int)-1)) λn'11=>cond (P0 1 n'11 raw0.length) (vl (cut raw0 1 n'11) λs'12=>cond (A3 s'12.length) (cond (not (Option.isSome (v6B s'12))) (k1 14 0 0 0 0 0 0 0 0 0 [[(SV.int .u16 (↑(v6c 0 s'12):Int))],[(SV.int .u16 (↑(v6c 1 s'12):Int))],[(SV.int .u16 (↑(v6c 2 s'12):Int))],[(SV.int .u16 (↑(v6c 3 s'12):Int))],[(SV.int .u16 (↑(v6c 4 s'12):Int))],[(SV.int .u16 (↑(v6c 5 s'12):Int))],[(SV.int .u16 (↑(v6c 6 s'12):Int))],[(SV.int .u16 (↑(v6c 7 s'12):Int))]]) (k1 0 3 (↑(v6c 0 s'12):Int) (↑(v6c 1 s'12):Int) (↑(v6c 2 s'12):Int) (↑(v6c 3 s'12):Int) (↑(v6c 4 s'12):Int) (↑(v6c 5 s'12):Int) (↑(v6c 6 s'12):Int) (↑(v6c 7 s'12):Int) [[(SV.int .u16 (↑(v6c 0 s'12):Int))],[(SV.int .u16 (↑(v6c 1 s'12):Int))],[(SV.int .u16 (↑(v6c 2 s'12):Int))],[(SV.int .u16 (↑(v6c 3 s'12):Int))],[(SV.int .u16 (↑(v6c 4 s'12):Int))],[(SV.int .u16 (↑(v6c 5 s'12):Int))],[(SV.int .u16 (↑(v6c 6 s'12):Int))],[(SV.int .u16 (↑(v6c 7 s'12):Int))]])) none) none))) none) (k2 raw0 b1)
abbrev Sj (b:Code):Prop:=∀ (k:Out->St σ->Option R) raw0 b1,A9 (K5 lf) cl yh b ⟨gp [(0,pS raw0),(1,.ptr 0 0 0),(22,pB b1)] 97,[.box [pI (0:Int),pS ([]:List UInt8),p32 (0:Int),p16 (0:Int),p16 (0:Int),p16 (0:Int),p16 (0:Int),p16 (0:Int),p16 (0:Int),p16 (0:Int),p16 (0:Int)]],s⟩ k=Fm raw0 b1 (λ_=>k .ret ⟨gp [(2,.ptr 0 0 0),(0,pI (14:Int))] 119,[.box [pI (0:Int),pS ([]:List UInt8),p32 (0:Int),p16 (0:Int),p16 (0:Int),p16 (0:Int),p16 (0:Int),p16 (0:Int),p16 (0:Int),p16 (0:Int),p16 (0:Int)]],s⟩) (λn0 n1 n2 n3 n4 n5 n6 n7 n8v n9 l10=>k .ret ⟨gp [(2,.ptr 0 0 0),(0,pI n0)] 119,[.box [pI n1,pS ([]:List UInt8),p32 (0:Int),p16 n2,p16 n3,p16 n4,p16 n5,p16 n6,p16 n7,p16 n8v,p16 n9],.arr false 26 1 l10],s⟩) (λraw0 b1=>k .normal ⟨gp [(0,pS raw0),(1,.ptr 0 0 0),(22,pB b1)] 97,[.box [pI (0:Int),pS ([]:List UInt8),p32 (0:Int),p16 (0:Int),p16 (0:Int),p16 (0:Int),p16 (0:Int),p16 (0:Int),p16 (0:Int),p16 (0:Int),p16 (0:Int)]],s⟩)
theorem EG:Sj (R:=R) lf cl yh s (cd [1,1,0,1] Q3):=by
 intro k raw0 b1;unfold Fm;kernel_rfl
noncomputable def J1 {R:Type} (lf n:Nat) (name0:By) (p1:LL) (i2:Int) (k0:Int->Option R) (k1:By->Option R):Option R:=match n with | 0=>none | n+1=>cond (ltI i2 (p1.length:Int)) (cond (inR i2 p1.length) (cond (okE Gc p1 (Int.toNat i2) 0) (cond (A3 (List.length (gX p1 (Int.toNat i2) 0))) (vl ((I5 (gX p1 (Int.toNat i2) 0))).1 λs'36=>vl (↑((I5 (gX p1 (Int.toNat i2) 0))).2:Int) λn'37=>cond (n'37 != 0) (k0 n'37) (cond (ltI 0 i2) (cond (Kr name0.length 1) (vl (name0++[46]) λs'38=>cond (Kr s'38.length s'36.length) (J1 lf n (s'38++s'36) p1 (A1 (i2+1)) k0 k1) none) none) (cond (Kr name0.length s'36.length) (J1 lf n (name0++s'36) p1 (A1 (i2+1)) k0 k1) none))) none) none) none) (k1 name0)
theorem Oe (n name0 p1 i2):E5 1 ((K5 lf).keep 23) (bd (K5 lf) cl yh (cd [1,1,1,1,1,1,1,1,1,0,1,0,0] Q3)) n ⟨gp [(2,.ptr 0 0 0),(7,pS name0),(0,.s (.sl false false 1 p1)),(0,pI i2)] 110,[.box [pI (0:Int),pS ([]:List UInt8),p32 (0:Int),p16 (0:Int),p16 (0:Int),p16 (0:Int),p16 (0:Int),p16 (0:Int),p16 (0:Int),p16 (0:Int),p16 (0:Int)]],s⟩ k =
 J1 lf n name0 p1 i2 (λn0=>k .ret ⟨gp [(2,.ptr 0 0 0),(0,pI n0)] 119,[.box [pI (0:Int),pS ([]:List UInt8),p32 (0:Int),p16 (0:Int),p16 (0:Int),p16 (0:Int),p16 (0:Int),p16 (0:Int),p16 (0:Int),p16 (0:Int),p16 (0:Int)]],s⟩) (λname0=>k (.exit 0) ⟨gp [(2,.ptr 0 0 0),(7,pS name0)] 112,[.box [pI (0:Int),pS ([]:List UInt8),p32 (0:Int),p16 (0:Int),p16 (0:Int),p16 (0:Int),p16 (0:Int),p16 (0:Int),p16 (0:Int),p16 (0:Int),p16 (0:Int)]],s⟩):=by
 induction n generalizing name0 p1 i2 with
 | zero=>rfl
 | succ n ih=>rw [J1];simp only [<-ih];kernel_rfl
noncomputable def Bz {R:Type} (lf:Nat) (s0:By) (k0:Int->Int->By->Int->Option R):Option R:=cond (A3 s0.length) (cond (F6 s0) (cond (A3 s0.length) (cond (not (Option.isSome (pnB s0))) (k0 14 0 ([]:List UInt8) 0) (k0 0 2 ([]:List UInt8) (↑(M5 (pnB s0)):Int))) none) (cond (A3 s0.length) (vl (C6 (pcs (u8n (46:Int)) s0)) λl'33=>J1 lf lf ([]:List UInt8) l'33 0 (λn'39=>k0 n'39 0 ([]:List UInt8) 0) (λname'40=>cond (ltI 253 (name'40.length:Int)) (k0 3 0 ([]:List UInt8) 0) (cond (A3 name'40.length) (cond (F6 name'40) (k0 14 0 ([]:List UInt8) 0) (k0 0 1 name'40 0)) none))) none)) none
abbrev Sk (b:Code):Prop:=∀ (k:Out->St σ->Option R) s0,A9 (K5 lf) cl yh b ⟨gp [(2,.ptr 0 0 0),(3,pS s0)] 116,[.box [pI (0:Int),pS ([]:List UInt8),p32 (0:Int),p16 (0:Int),p16 (0:Int),p16 (0:Int),p16 (0:Int),p16 (0:Int),p16 (0:Int),p16 (0:Int),p16 (0:Int)]],s⟩ k=Bz lf s0 (λn0 n1 s2 n3=>k .ret ⟨gp [(2,.ptr 0 0 0),(0,pI n0)] 119,[.box [pI n1,pS s2,p32 n3,p16 (0:Int),p16 (0:Int),p16 (0:Int),p16 (0:Int),p16 (0:Int),p16 (0:Int),p16 (0:Int),p16 (0:Int)]],s⟩)
theorem EH:Sk (R:=R) lf cl yh s (cd [1,1,1,1,1,1] Q3):=by
 intro k s0;unfold Bz;exact (Eq.trans (by kernel_rfl) (A0 (A0 (A0 (A0 rfl rfl) rfl) (A0 (A6 λl'33=>((Oe lf cl yh s (F9 0 (G1 (K5 lf) cl yh (cd [1,1,1,1,1,1,1,1,1,1] Q3) k)) lf ([]:List UInt8) l'33 0).trans (by kernel_rfl))) rfl)) rfl))
noncomputable def Jz {R:Type} (lf:Nat) (s0:By) (k0:Int->Int->By->Int->Option R):Option R:=cond (A3 s0.length) (cond (F6 s0) (cond (A3 s0.length) (cond (not (Option.isSome (pnB s0))) (k0 14 0 ([]:List UInt8) 0) (k0 0 2 ([]:List UInt8) (↑(M5 (pnB s0)):Int))) none) (cond (A3 s0.length) (vl (C6 (pcs (u8n (46:Int)) s0)) λl'46=>J1 lf lf ([]:List UInt8) l'46 0 (λn'47=>k0 n'47 0 ([]:List UInt8) 0) (λname'48=>cond (ltI 253 (name'48.length:Int)) (k0 3 0 ([]:List UInt8) 0) (cond (A3 name'48.length) (cond (F6 name'48) (k0 14 0 ([]:List UInt8) 0) (k0 0 1 name'48 0)) none))) none)) none
abbrev Sl (b:Code):Prop:=∀ (k:Out->St σ->Option R) s0 b1,A9 (K5 lf) cl yh b ⟨gp [(2,.ptr 0 0 0),(3,pS s0),(62,pB b1)] 53,[.box [pI (0:Int),pS ([]:List UInt8),p32 (0:Int),p16 (0:Int),p16 (0:Int),p16 (0:Int),p16 (0:Int),p16 (0:Int),p16 (0:Int),p16 (0:Int),p16 (0:Int)]],s⟩ k=Jz lf s0 (λn0 n1 s2 n3=>k .ret ⟨gp [(2,.ptr 0 0 0),(0,pI n0)] 119,[.box [pI n1,pS s2,p32 n3,p16 (0:Int),p16 (0:Int),p16 (0:Int),p16 (0:Int),p16 (0:Int),p16 (0:Int),p16 (0:Int),p16 (0:Int)]],s⟩)
theorem EJ:Sl (R:=R) lf cl yh s (cd [1,1,1,1,1,1] Q3):=by
 intro k s0 b1;unfold Jz;exact (Eq.trans (by kernel_rfl) (A0 (A0 (A0 (A0 rfl rfl) rfl) (A0 (A6 λl'46=>((Oe lf cl yh s (F9 0 (G1 (K5 lf) cl yh (cd [1,1,1,1,1,1,1,1,1,1] Q3) k)) lf ([]:List UInt8) l'46 0).trans (by kernel_rfl))) rfl)) rfl))
noncomputable def Ca {R:Type} (lf:Nat) (raw0:By) (k0:Int->Int->By->Int->Option R):Option R:=cond (A3 raw0.length) (cond (not (Option.isSome (R4 raw0))) (k0 14 0 ([]:List UInt8) 0) (cond (not ((Dp raw0)==[])) (vl (A1 ((↑(List.length (Dp raw0)):Int)-1)) λn'29=>cond (inR n'29 (List.length (Dp raw0))) (cond ((bAt (Dp raw0) n'29)==46) (vl (A1 ((↑(List.length (Dp raw0)):Int)-1)) λn'30=>cond (P0 0 n'30 (List.length (Dp raw0))) (vl (cut (Dp raw0) (0:Int) n'30) λs'31=>Bz lf s'31 (λn'41 n'42 s'43 n'44=>k0 n'41 n'42 s'43 n'44)) none) (Jz lf (Dp raw0) (λn'49 n'50 s'51 n'52=>k0 n'49 n'50 s'51 n'52))) none) (Jz lf (Dp raw0) (λn'53 n'54 s'55 n'56=>k0 n'53 n'54 s'55 n'56)))) none
abbrev Ka (b:Code):Prop:=∀ (k:Out->St σ->Option R) raw0 b1,A9 (K5 lf) cl yh b ⟨gp [(0,pS raw0),(1,.ptr 0 0 0),(22,pB b1)] 97,[.box [pI (0:Int),pS ([]:List UInt8),p32 (0:Int),p16 (0:Int),p16 (0:Int),p16 (0:Int),p16 (0:Int),p16 (0:Int),p16 (0:Int),p16 (0:Int),p16 (0:Int)]],s⟩ k=Ca lf raw0 (λn0 n1 s2 n3=>k .ret ⟨gp [(2,.ptr 0 0 0),(0,pI n0)] 119,[.box [pI n1,pS s2,p32 n3,p16 (0:Int),p16 (0:Int),p16 (0:Int),p16 (0:Int),p16 (0:Int),p16 (0:Int),p16 (0:Int),p16 (0:Int)]],s⟩)
theorem EK (b_111111:Code) (h_rhparse_j1:Sk (R:=R) lf cl yh s b_111111) (h_rhparse_j2:Sl (R:=R) lf cl yh s b_111111):Ka (R:=R) lf cl yh s (cd [1,1,1] (J3 [1,1,1,1,1,1] b_111111 Q3)):=by
 intro k raw0 b1;unfold Ca;exact (Eq.trans (by kernel_rfl) (A0 (A0 rfl (A0 (A6 λn'29=>(A0 (A0 (A6 λn'30=>(A0 (A6 λs'31=>((h_rhparse_j1 k s'31).trans (by kernel_rfl))) rfl)) ((h_rhparse_j2 k (Dp raw0) ((bAt (Dp raw0) n'29)==46)).trans (by kernel_rfl))) rfl)) ((h_rhparse_j2 k (Dp raw0) false).trans (by kernel_rfl)))) rfl))
theorem EL:Ka (R:=R) lf cl yh s (cd [1,1,1] Q3):=by
 intro k raw0 b1;exact Eq.trans (by kernel_rfl) (EK lf cl yh s (cd [1,1,1,1,1,1] Q3) (EH lf cl yh s) (EJ lf cl yh s) k raw0 b1)
noncomputable def Si {R:Type} (lf:Nat) (raw0:By) (k0:Int->By->Int->Int->Int->By->Int->Option R) (k1:Int->Int->Int->Int->Int->Int->Int->Int->Int->Int->LL->Option R):Option R:=cond (ltI 1024 (raw0.length:Int)) (k0 0 ([]:List UInt8) 0 3 0 ([]:List UInt8) 0) (cond (not (raw0==[])) (cond (inR 0 raw0.length) (Fm raw0 ((bAt raw0 (0:Int))==91) (λ_=>k0 0 ([]:List UInt8) 0 14 0 ([]:List UInt8) 0) (λn'13 n'14 n'15 n'16 n'17 n'18 n'19 n'20 n'21 n'22 l'23=>k1 n'14 n'15 n'16 n'17 n'18 n'19 n'20 n'21 n'22 n'13 l'23) (λraw'24 b'25=>Ca lf raw'24 (λn'57 n'58 s'59 n'60=>k0 n'58 s'59 n'60 n'57 n'58 s'59 n'60))) none) (Fm raw0 false (λ_=>k0 0 ([]:List UInt8) 0 14 0 ([]:List UInt8) 0) (λn'61 n'62 n'63 n'64 n'65 n'66 n'67 n'68 n'69 n'70 l'71=>k1 n'62 n'63 n'64 n'65 n'66 n'67 n'68 n'69 n'70 n'61 l'71) (λraw'72 b'73=>Ca lf raw'72 (λn'74 n'75 s'76 n'77=>k0 n'75 s'76 n'77 n'74 n'75 s'76 n'77))))
theorem Ae1 (b_1101:Code) (h_rhparse_j0:Sj (R:=PV × List Blk × σ) lf cl yh s b_1101) (b_111:Code) (h_rhparse_j3:Ka (R:=PV × List Blk × σ) lf cl yh s b_111) (raw0:By):A9 (K5 lf) cl yh (cd [] (J3 [1,1,1] b_111 (J3 [1,1,0,1] b_1101 Q3))) ⟨[pS raw0]++tps 122,[],s⟩ (G5 (K5 lf) Tryz.f56)=Si lf raw0 (λr0 r1 r2 r3 n4 s5 n6=>some (.tup [.agg [pI r0,pS r1,p32 r2,p16 (0:Int),p16 (0:Int),p16 (0:Int),p16 (0:Int),p16 (0:Int),p16 (0:Int),p16 (0:Int),p16 (0:Int)],pI r3],[.box [pI n4,pS s5,p32 n6,p16 (0:Int),p16 (0:Int),p16 (0:Int),p16 (0:Int),p16 (0:Int),p16 (0:Int),p16 (0:Int),p16 (0:Int)]],s)) (λr0 r1 r2 r3 r4 r5 r6 r7 r8 r9 l10=>some (.tup [.agg [pI r0,pS ([]:List UInt8),p32 (0:Int),p16 r1,p16 r2,p16 r3,p16 r4,p16 r5,p16 r6,p16 r7,p16 r8],pI r9],[.box [pI r0,pS ([]:List UInt8),p32 (0:Int),p16 r1,p16 r2,p16 r3,p16 r4,p16 r5,p16 r6,p16 r7,p16 r8],.arr false 26 1 l10],s)):=by
 unfold Si;exact let K0:=(G5 (K5 lf) Tryz.f56);let K1:=(G1 (K5 lf) cl yh b_111 K0);(Eq.trans (by kernel_rfl) (A0 rfl (A0 (A0 ((h_rhparse_j0 K1 raw0 ((bAt raw0 (0:Int))==91)).trans (congr (congr (congr rfl (by kernel_rfl)) (by kernel_rfl)) (fx2 λraw'24 b'25=>(Eq.trans (by kernel_rfl) ((h_rhparse_j3 K0 raw'24 b'25).trans (by kernel_rfl)))))) rfl) ((h_rhparse_j0 K1 raw0 false).trans (congr (congr (congr rfl (by kernel_rfl)) (by kernel_rfl)) (fx2 λraw'72 b'73=>(Eq.trans (by kernel_rfl) ((h_rhparse_j3 K0 raw'72 b'73).trans (by kernel_rfl)))))))))
theorem Ae2 (d:Nat) (raw0):evC (K5 lf) (d+1) σ yh 56 [pS raw0] [] s=Si lf raw0 (λr0 r1 r2 r3 n4 s5 n6=>some (.tup [.agg [pI r0,pS r1,p32 r2,p16 (0:Int),p16 (0:Int),p16 (0:Int),p16 (0:Int),p16 (0:Int),p16 (0:Int),p16 (0:Int),p16 (0:Int)],pI r3],[.box [pI n4,pS s5,p32 n6,p16 (0:Int),p16 (0:Int),p16 (0:Int),p16 (0:Int),p16 (0:Int),p16 (0:Int),p16 (0:Int),p16 (0:Int)]],s)) (λr0 r1 r2 r3 r4 r5 r6 r7 r8 r9 l10=>some (.tup [.agg [pI r0,pS ([]:List UInt8),p32 (0:Int),p16 r1,p16 r2,p16 r3,p16 r4,p16 r5,p16 r6,p16 r7,p16 r8],pI r9],[.box [pI r0,pS ([]:List UInt8),p32 (0:Int),p16 r1,p16 r2,p16 r3,p16 r4,p16 r5,p16 r6,p16 r7,p16 r8],.arr false 26 1 l10],s)):=
 (evE (fn:=Tryz.f56) (by kernel_rfl)).trans (Eq.trans (by kernel_rfl) (Ae1 lf (evC (K5 lf) d) yh s (cd [1,1,0,1] Q3) (EG lf (evC (K5 lf) d) yh s) (cd [1,1,1] Q3) (EL lf (evC (K5 lf) d) yh s) raw0))
end
theorem Bj3 {R:Type} {k0:Int->Option R} (b:Int) (h0:inR b 256=true):rhx LF b k0=k0 (Di (u8n b)):=by
 simp only [inR,Bool.and_eq_true,decide_eq_true_eq] at h0
 have hc:b=((u8n b).toNat:Int):=by
  unfold u8n
  simp
  omega
 generalize u8n b=c at *
 subst hc
 have hbt:=c.toNat_lt
 unfold rhx
 simp only [CW,CV,vl,Di]
 rcases Bi c with ⟨h1,h2,e⟩ | ⟨h1,h2,e⟩ | ⟨h1,h2,e⟩ | ⟨h1,h2,h3,e⟩
 ·have e2:A1 (wu8 ((c.toNat:Int)-48))=((dig c:Nat):Int):=by
   rw [N2,A5];omega
  rw [V7]
  simp (disch:=omega) only [C2,D1,Bool.not_true,Bool.not_false,cond_false,cond_true,e2]
 ·have e2:A1 (A1 (wu8 ((c.toNat:Int)-97))+10)=((dig c:Nat):Int):=by
   rw [N2,D3 (n:=(c.toNat:Int)-97) (by omega) (by omega),A5];omega
  rw [V7]
  simp (disch:=omega) only [C2,D1,Bool.not_true,Bool.not_false,cond_false,cond_true,e2]
 ·have e2:A1 (A1 (wu8 ((c.toNat:Int)-65))+10)=((dig c:Nat):Int):=by
   rw [N2,D3 (n:=(c.toNat:Int)-65) (by omega) (by omega),A5];omega
  rw [V7]
  simp (disch:=omega) only [C2,D1,Bool.not_true,Bool.not_false,cond_false,cond_true,e2]
 ·rw [e,if_neg (by decide)]
  by_cases c1:c.toNat<48
  ·simp (disch:=omega) only [C2,D1,Bool.not_true,Bool.not_false,cond_false,cond_true]
  ·by_cases c2:c.toNat<65
   ·simp (disch:=omega) only [C2,D1,Bool.not_true,Bool.not_false,cond_false,cond_true]
   ·by_cases c3:c.toNat<97
    ·simp (disch:=omega) only [C2,D1,Bool.not_true,Bool.not_false,cond_false,cond_true]
    ·simp (disch:=omega) only [C2,D1,Bool.not_true,Bool.not_false,cond_false,cond_true]
theorem Ae0 (s:By) (hs:s.length<=1000000000):∀ (m i n:Nat) (acc:By),i<=s.length->s.length-i<=m->m<n->acc.length<=i->
  (∀ t,R4 (s.drop i)=some t->∀ (R:Type) (k0:LL->Option R) (k1:LL->Option R),O0 LF n s (i:Int) (acc.map E3) k0 k1=k1 ((acc++t).map E3))/\
  (R4 (s.drop i)=none->∃ l,∀ (R:Type) (k0:LL->Option R) (k1:LL->Option R),O0 LF n s (i:Int) (acc.map E3) k0 k1=k0 l):=by
 intro m
 induction m with
 | zero=>
  intro i n acc hi hm hn ha
  obtain ⟨n,rfl⟩:∃ m,n=m+1:=⟨n-1,by omega⟩
  rw [List.drop_of_length_le (by omega)]
  refine ⟨λt ht R k0 k1=>?_,λh=>(by cases h)⟩
  simp only [R4,Option.some.injEq] at ht
  subst ht
  rw [O0]
  rw [A7,List.append_nil]
  rfl
 | succ m ih=>
  intro i n acc hi hm hn ha
  obtain ⟨n,rfl⟩:∃ m,n=m+1:=⟨n-1,by omega⟩
  by_cases hlt:i<s.length
  ·have e1:A1 ((i:Int)+1)=((i+1:Nat):Int):=by rw [A5];rfl
   have e2:A1 ((i:Int)+2)=((i+2:Nat):Int):=by rw [A5];rfl
   have e3:A1 (((i+2:Nat):Int)+1)=((i+3:Nat):Int):=by rw [A5];omega
   have e4:A1 ((s.length:Int)-i)=((s.length-i:Nat):Int):=by rw [A5];omega
   have hal:(acc.map E3).length=acc.length:=List.length_map _
   have hrow:∀ b:UInt8,acc.map E3++[[SV.int .u8 (b.toNat:Int)]]=(acc++[b]).map E3:=λb=>by rw [List.map_append];rfl
   have q1:(((s.getD i 0).toNat:Int) != 37) = !(s.getD i 0==37):=congrArg _ (P6 _ 37 (by omega))
   rw [F7 s i hlt]
   by_cases h37:s.getD i 0=37
   ·by_cases h3:i+2<s.length
    ·rw [F7 s (i+1) (by omega),F7 s (i+1+1) (by omega),h37,CL]
     obtain ⟨i1,i2⟩:=ih (i+3) n (acc++[UInt8.ofNat (16*dig (s.getD (i+1) 0)+dig (s.getD (i+2) 0))]) (by omega) (by omega) (by omega) (by simp;omega)
     have top:∀ (R:Type) (k0:LL->Option R) (k1:LL->Option R),O0 LF (n+1) s (i:Int) (acc.map E3) k0 k1=cond (decide (dig (s.getD (i+1) 0)<16)&&decide (dig (s.getD (i+2) 0)<16)) (O0 LF n s ((i+3:Nat):Int) ((acc++[UInt8.ofNat (16*dig (s.getD (i+1) 0)+dig (s.getD (i+2) 0))]).map E3) k0 k1) (k0 (acc.map E3)):=by
      intro R k0 k1
      rw [O0]
      rw [A8,I6,F4,q1,h37,hal,e2,e4,e1,I6,I6,F4,F4]
      simp only [vl]
      rw [D1 (show (3:Int)<=((s.length-i:Nat):Int) by omega)]
      simp only [cond_true,Bool.not_true,cond_false,beq_self_eq_true,OC,Nu,PU,E0 (show acc.length+1<=68719476736 by omega),e3]
      generalize s.getD (i+1) 0=x at *
      generalize s.getD (i+2) 0=y at *
      by_cases hx:dig x<16
      ·by_cases hy:dig y<16
       ·have w1:Di x=(dig x:Int):=by unfold Di;rw [if_pos hx]
        have w2:Di y=(dig y:Int):=by unfold Di;rw [if_pos hy]
        have w3:A1 ((16:Int)*(dig x:Int))=((16*dig x:Nat):Int):=by rw [A5];omega
        have w4:A1 (((16*dig x:Nat):Int)+(dig y:Int))=((16*dig x+dig y:Nat):Int):=by rw [A5];omega
        have w5:wu8 ((16*dig x+dig y:Nat):Int)=((UInt8.ofNat (16*dig x+dig y)).toNat:Int):=by
         rw [N2]
         simp
         omega
        grind
       grind
      grind
     by_cases hd:dig (s.getD (i+1) 0)<16/\dig (s.getD (i+2) 0)<16
     ·rw [if_pos hd]
      have hc:(decide (dig (s.getD (i+1) 0)<16)&&decide (dig (s.getD (i+2) 0)<16))=true:=by rw [decide_eq_true hd.1,decide_eq_true hd.2];rfl
      refine ⟨λt ht R k0 k1=>?_,λh=>?_⟩
      ·cases hq:R4 (s.drop (i+3)) with
       | none=>rw [hq] at ht;cases ht
       | some q=>
        rw [hq] at ht
        simp only [Option.map_some,Option.some.injEq] at ht
        subst ht
        rw [top,hc,cond_true,i1 q hq,List.append_assoc]
        rfl
      ·cases hq:R4 (s.drop (i+3)) with
       | some q=>rw [hq] at h;cases h
       | none=>
        obtain ⟨l,e⟩:=i2 hq
        exact ⟨l,λR k0 k1=>by rw [top,hc,cond_true,e]⟩
     ·rw [if_neg hd]
      have hc:(decide (dig (s.getD (i+1) 0)<16)&&decide (dig (s.getD (i+2) 0)<16))=false:=by grind
      exact ⟨λt h=>(by cases h),λ_=>⟨_,λR k0 k1=>by rw [top,hc,cond_false]⟩⟩
    ·have hnone:R4 (s.getD i 0::s.drop (i+1))=none:=by
      rw [h37]
      cases hd:s.drop (i+1) with
      | nil=>rfl
      | cons x r=>
       cases r with
       | nil=>rfl
       | cons y r'=>
        exfalso
        have:=congrArg List.length hd
        rw [List.length_drop,List.length_cons,List.length_cons] at this
        omega
     rw [hnone]
     refine ⟨λt h=>(by cases h),λ_=>⟨acc.map E3,λR k0 k1=>?_⟩⟩
     rw [O0]
     rw [A8,I6,F4,q1,h37,e4]
     simp only [vl]
     rw [C2 (show ((s.length-i:Nat):Int)<3 by omega)]
     rfl
   ·rw [MU _ h37]
    obtain ⟨i1,i2⟩:=ih (i+1) n (acc++[s.getD i 0]) (by omega) (by omega) (by omega) (by simp;omega)
    have hb37:(s.getD i 0==37)=false:=by simpa using h37
    have top:∀ (R:Type) (k0:LL->Option R) (k1:LL->Option R),O0 LF (n+1) s (i:Int) (acc.map E3) k0 k1=O0 LF n s ((i+1:Nat):Int) ((acc++[s.getD i 0]).map E3) k0 k1:=by
     intro R k0 k1
     rw [O0]
     rw [A8,I6,F4,q1,hb37,hal,E0 (by omega),e1,hrow]
     rfl
    refine ⟨λt ht R k0 k1=>?_,λh=>?_⟩
    ·cases hq:R4 (s.drop (i+1)) with
     | none=>rw [hq] at ht;cases ht
     | some q=>
      rw [hq] at ht
      simp only [Option.map_some,Option.some.injEq] at ht
      subst ht
      rw [top,i1 q hq,List.append_assoc]
      rfl
    ·cases hq:R4 (s.drop (i+1)) with
     | some q=>rw [hq] at h;cases h
     | none=>
      obtain ⟨l,e⟩:=i2 hq
      exact ⟨l,λR k0 k1=>by rw [top,e]⟩
  ·rw [List.drop_of_length_le (by omega)]
   refine ⟨λt ht R k0 k1=>?_,λh=>(by cases h)⟩
   simp only [R4,Option.some.injEq] at ht
   subst ht
   rw [O0]
   rw [A7,List.append_nil]
   rfl
theorem Bj2 (s:By) (h0:A3 s.length=true):∃ r H,As1 LF s (λr0 r1 l2=>rv (.tup [.s (.str r0),.s (.bool r1)]) [.arr true 5 1 l2])=rv r H/\
  r.stab [0,0] H = .tup [.s (.str (Dp s)),.s (.bool (R4 s).isSome)]:=by
 have hs:=K8 h0
 have hLF:=D7
 obtain ⟨p1,p2⟩:=Ae0 s hs s.length 0 LF [] (by omega) (by omega) (by omega) (by simp)
 rw [List.drop_zero] at p1 p2
 unfold Dp
 cases hp:R4 s with
 | none=>
  obtain ⟨l,e⟩:=p2 hp
  exact ⟨.tup [.s (.str []),.s (.bool false)],[.arr true 5 1 l],e _ _ _,rfl⟩
 | some t=>
  refine ⟨.tup [.s (.str t),.s (.bool true)],[.arr true 5 1 (t.map E3)],?_,rfl⟩
  unfold As1
  refine Eq.trans (p1 t hp _ _ _) ?_
  rw [List.nil_append,Y5,Y9]
  rfl
theorem A28 {R:Type} {k0 k1:Unit->Option R} (l:List By) (hl:l.length<=1000000001) (h:∀ x∈l,x.length<=1000000000):∀ (r i n:Nat),i+r=l.length->r<n->
  Sm LF n (C6 l) (i:Int) k0 k1=if (l.drop i).all K4 then k1 () else k0 ():=by
 intro r
 induction r with
 | zero=>
  intro i n hi hn
  obtain ⟨n,rfl⟩:∃ m,n=m+1:=⟨n-1,by omega⟩
  rw [Sm]
  rw [D4,A7,List.drop_of_length_le (by omega)]
  rfl
 | succ r ih=>
  intro i n hi hn
  obtain ⟨n,rfl⟩:∃ m,n=m+1:=⟨n-1,by omega⟩
  rw [Sm]
  have e1:A1 ((i:Int)+1)=((i+1:Nat):Int):=by rw [A5];rfl
  have hd:l.drop i=l.getD i []::l.drop (i+1):=by
   rw [List.getD_eq_getElem?_getD,List.getElem?_eq_getElem (by omega),Option.getD_some,List.getElem_cons_drop]
  have hx:(l.getD i []).length<=1000000000:=h _ (by
   rw [List.getD_eq_getElem?_getD,List.getElem?_eq_getElem (by omega),Option.getD_some];exact List.getElem_mem _)
  rw [D4,A8,I6,Int.toNat_natCast,L2 (by omega),O7,F5 hx,hd,List.all_cons,e1]
  simp only [cond_true]
  rw [ih (i+1) n (by omega) (by omega)]
  cases K4 (l.getD i []) with
  | true=>rw [Bool.true_and];rfl
  | false=>rfl
theorem Ci1 {R:Type} {k0:Bool->Option R} (s:By) (h0:A3 s.length=true):Ck1 LF s k0=k0 (P7 s):=by
 have hs:=K8 h0
 have hLF:=D7
 unfold Ck1
 by_cases hnil:s=[]
 ·subst hnil
  rfl
 ·have he:(s==([]:By))=false:=by simpa using hnil
  rw [he,cond_false]
  unfold P7
  by_cases h1:253<s.length
  ·rw [A8,show Nat.ble s.length 253=false by rw [Bool.eq_false_iff,ne_eq,Nat.ble_eq];omega]
   rfl
  ·rw [A7,cond_false,h0,cond_true,show Nat.ble s.length 253=true by rw [Nat.ble_eq];omega]
   cases h2:F6 s with
   | true=>rfl
   | false=>
    rw [cond_false,cond_true]
    have hpl:=Ar 46 s
    have hcl:=Cm 46 s
    refine Eq.trans (A28 (pcs 46 s) (by omega) (λx hx=>by have:=(X1 hx).2;omega) (pcs 46 s).length 0 LF (by omega) (by omega)) ?_
    grind
def jn:Nat->By->List By->By
 | _,name,[]=>name
 | 0,name,x::r=>jn 1 (name++x) r
 | i+1,name,x::r=>jn (i+2) (name++[46]++x) r
theorem Ap5:∀ (l:List By) (i:Nat) (name:By),jn (i+1) name l=name++Lib.joinTail [46] l
 | [],i,name=>by simp [jn,Lib.joinTail]
 | x::r,i,name=>by
  rw [jn,Ap5 r]
  simp [Lib.joinTail]
theorem Bu3 (l:List By):jn 0 [] l=Lib.join l [46]:=by
 cases l with
 | nil=>rfl
 | cons x r=>rw [jn,Ap5,Lib.join_cons,List.nil_append]
theorem Bl9 {x:By} (h:(I5 x).2=0):(I5 x).1.length<=63:=by
 have ha:F8 [x]=([(I5 x).1],0):=by simp [F8,h]
 have:=(Mt [x] (by rw [ha])).1 (I5 x).1 (by rw [ha];simp)
 exact (Iq this).le
theorem NH (ps:List By) (hps:ps.length<=1000000) (hx:∀ x∈ps,x.length<=1000000000):∀ (rest:List By) (i n:Nat) (name:By),ps.drop i=rest->i+rest.length=ps.length->rest.length<n->name.length<=64*i->
  ((F8 rest).2=0->∀ (R:Type) (k0:Int->Option R) (k1:By->Option R),J1 LF n name (C6 ps) (i:Int) k0 k1=k1 (jn i name (F8 rest).1))/\
  ((F8 rest).2≠0->∀ (R:Type) (k0:Int->Option R) (k1:By->Option R),J1 LF n name (C6 ps) (i:Int) k0 k1=k0 ((F8 rest).2:Nat)):=by
 intro rest
 induction rest with
 | nil=>
  intro i n name hd hi hn hnm
  obtain ⟨n,rfl⟩:∃ m,n=m+1:=⟨n-1,by omega⟩
  simp only [List.length_nil] at hi
  refine ⟨λ_ R k0 k1=>?_,λh=>absurd rfl h⟩
  rw [J1]
  rw [D4,A7]
  simp only [F8,jn]
  rfl
 | cons x r ih=>
  intro i n name hd hi hn hnm
  simp only [List.length_cons] at hi hn
  obtain ⟨n,rfl⟩:∃ m,n=m+1:=⟨n-1,by omega⟩
  have e1:A1 ((i:Int)+1)=((i+1:Nat):Int):=by rw [A5];rfl
  have hgx:ps.getD i []=x:=by
   have:=congrArg (λl=>l.getD 0 []) hd
   simpa [List.getD_eq_getElem?_getD,List.getElem?_drop] using this
  have hdr:ps.drop (i+1)=r:=by
   rw [<-List.drop_drop,hd]
   rfl
  have hxl:x.length<=1000000000:=hx x (by
   rw [<-hgx,List.getD_eq_getElem?_getD,List.getElem?_eq_getElem (by omega),Option.getD_some];exact List.getElem_mem _)
  have top:∀ (R:Type) (k0:Int->Option R) (k1:By->Option R),J1 LF (n+1) name (C6 ps) (i:Int) k0 k1=cond (((I5 x).2:Int) != 0) (k0 ((I5 x).2:Nat)) (cond (ltI 0 (i:Int)) (cond (Kr name.length 1) (cond (Kr (name++[46]).length (I5 x).1.length) (J1 LF n (name++[46]++(I5 x).1) (C6 ps) ((i+1:Nat):Int) k0 k1) none) none) (cond (Kr name.length (I5 x).1.length) (J1 LF n (name++(I5 x).1) (C6 ps) ((i+1:Nat):Int) k0 k1) none)):=by
   intro R k0 k1
   rw [J1]
   rw [D4,A8,I6,Int.toNat_natCast,L2 (by omega),O7,hgx,F5 hxl,e1]
   rfl
  unfold F8
  by_cases h:(I5 x).2=0
  ·rw [if_pos h]
   have hle:=Bl9 h
   have hb:(((I5 x).2:Int) != 0)=false:=by rw [h];rfl
   cases i with
   | zero=>
    obtain ⟨i1,i2⟩:=ih 1 n (name++(I5 x).1) hdr (by omega) (by omega) (by rw [List.length_append];omega)
    have top2:∀ (R:Type) (k0:Int->Option R) (k1:By->Option R),J1 LF (n+1) name (C6 ps) ((0:Nat):Int) k0 k1=J1 LF n (name++(I5 x).1) (C6 ps) ((1:Nat):Int) k0 k1:=by
     intro R k0 k1
     rw [top,hb,A7,Mx (m:=name.length) (n:=(I5 x).1.length) (by omega)]
     rfl
    exact ⟨λh2 R k0 k1=>(top2 R k0 k1).trans (i1 h2 R k0 k1),λh2 R k0 k1=>(top2 R k0 k1).trans (i2 h2 R k0 k1)⟩
   | succ j=>
    obtain ⟨i1,i2⟩:=ih (j+2) n (name++[46]++(I5 x).1) hdr (by omega) (by omega) (by rw [List.length_append,List.length_append,List.length_singleton];omega)
    have top2:∀ (R:Type) (k0:Int->Option R) (k1:By->Option R),J1 LF (n+1) name (C6 ps) ((j+1:Nat):Int) k0 k1=J1 LF n (name++[46]++(I5 x).1) (C6 ps) ((j+2:Nat):Int) k0 k1:=by
     intro R k0 k1
     rw [top,hb,A8,Mx (by omega),Mx (by rw [List.length_append,List.length_singleton];omega)]
     rfl
    exact ⟨λh2 R k0 k1=>(top2 R k0 k1).trans (i1 h2 R k0 k1),λh2 R k0 k1=>(top2 R k0 k1).trans (i2 h2 R k0 k1)⟩
  ·rw [if_neg h]
   have hb:(((I5 x).2:Int) != 0)=true:=by simpa using h
   exact ⟨λh2=>absurd h2 h,λ_ R k0 k1=>by rw [top,hb,cond_true]⟩
theorem EI {R:Type} {k0:Int->Int->By->Int->Option R} (u:By) (hu:u.length<=1024):Bz LF u k0 =
  if F6 u then (match pnB u with
   | some v=>k0 0 2 [] (v:Nat)
   | none=>k0 14 0 [] 0)
  else if (F8 (pcs 46 u)).2=0 then (
   if 253<(Lib.join (F8 (pcs 46 u)).1 [46]).length then k0 3 0 [] 0 else if F6 (Lib.join (F8 (pcs 46 u)).1 [46]) then k0 14 0 [] 0 else k0 0 1 (Lib.join (F8 (pcs 46 u)).1 [46]) 0)
  else k0 ((F8 (pcs 46 u)).2:Nat) 0 [] 0:=by
 have hLF:=D7
 unfold Bz
 rw [Ch,cond_true]
 cases hn:F6 u with
 | true=>
  rw [if_pos rfl,cond_true,cond_true]
  cases hq:pnB u with
  | none=>rfl
  | some v=>rfl
 | false=>
  rw [if_neg (by simp),cond_false,cond_true]
  have hpl:=Ar 46 u
  have hcl:=Cm 46 u
  obtain ⟨i1,i2⟩:=NH (pcs 46 u) (by omega) (λx hx=>by have:=(X1 hx).2;omega) (pcs 46 u) 0 LF [] (List.drop_zero) (by omega) (by omega) (by simp)
  rw [Bu3] at i1
  by_cases hz:(F8 (pcs 46 u)).2=0
  ·rw [if_pos hz]
   refine Eq.trans (i1 hz _ _ _) ?_
   obtain ⟨a1,a2⟩:=Mt _ hz
   have hjl:=MG [46] 63 (F8 (pcs 46 u)).1 (λx hx=>(Iq (a1 x hx)).le)
   have hmul:(63+([46]:By).length)*(F8 (pcs 46 u)).1.length<=64*1025:=Nat.mul_le_mul (by simp) (by omega)
   generalize Lib.join (F8 (pcs 46 u)).1 [46]=name at *
   by_cases h253:253<name.length
   ·rw [if_pos h253,A8,cond_true]
   ·rw [if_neg h253,A7,cond_false,Ch,cond_true]
    cases hnn:F6 name with
    | true=>rfl
    | false=>rfl
  ·rw [if_neg hz]
   exact i2 hz _ _ _
abbrev Cd1:Int->By->Int->Int->Int->By->Int->Option (PV × List Blk × Unit):=λr0 r1 r2 r3 n4 s5 n6=>rv (.tup [.agg (Xt r0 r1 r2 0 0 0 0 0 0 0 0),.s (.int .i64 r3)]) [.box (Xt n4 s5 n6 0 0 0 0 0 0 0 0)]
abbrev Cn1:Int->Int->Int->Int->Int->Int->Int->Int->Int->Int->LL->Option (PV × List Blk × Unit):=λr0 r1 r2 r3 r4 r5 r6 r7 r8 r9 l10=>rv (.tup [.agg (Xt r0 [] 0 r1 r2 r3 r4 r5 r6 r7 r8),.s (.int .i64 r9)]) [.box (Xt r0 [] 0 r1 r2 r3 r4 r5 r6 r7 r8),.arr false 26 1 l10]
theorem OA {t:By} (h:t≠[]) (h2:t.getD (t.length-1) 0=46):J7 t=t.take (t.length-1):=by
 unfold J7
 rw [if_pos ((Yc t 46 h).2 h2),List.dropLast_eq_take]
theorem UE {t:By} (h:t≠[]) (h2:¬ t.getD (t.length-1) 0=46):J7 t=t:=by
 unfold J7
 grind
theorem Od (s:By) (hs:s.length<=1024) (hh:s.head?≠some 91):∃ r H,Ca LF s (λn57 n58 s59 n60=>Cd1 n58 s59 n60 n57 n58 s59 n60)=rv r H/\r.stab [0,0] H = .tup [Wz (C4 s).1,.s (.int .i64 ((C4 s).2:Nat))]:=by
 have hLF:=D7
 unfold Ca
 rw [Ch,cond_true]
 cases hp:R4 s with
 | none=>
  have e:C4 s=(N8,14):=by unfold C4;rw [I8,if_neg hh,hp]
  rw [e]
  exact ⟨_,_,rfl,rfl⟩
 | some t=>
  have htl:t.length<=s.length:=Yi s t hp
  have hv:Dp s=t:=by unfold Dp;rw [hp];rfl
  have htd:(J7 t).length<=t.length:=by unfold J7;split<;>simp
  have hP:C4 s=if F6 (J7 t) then (match pnB (J7 t) with
      | some v=>(⟨2,[],v,z8⟩,0)
      | none=>(N8,14))
     else if (F8 (pcs 46 (J7 t))).2=0 then (
      let name:=Lib.join (F8 (pcs 46 (J7 t))).1 [46]
      if 253<name.length then (N8,3) else if F6 name then (N8,14) else (⟨1,name,0,z8⟩,0))
     else (N8,(F8 (pcs 46 (J7 t))).2):=by
   unfold C4
   rw [I8,if_neg hh,hp]
   rfl
  have fin:∃ r H,Bz LF (J7 t) (λn57 n58 s59 n60=>Cd1 n58 s59 n60 n57 n58 s59 n60)=rv r H/\r.stab [0,0] H = .tup [Wz (C4 s).1,.s (.int .i64 ((C4 s).2:Nat))]:=by
   rw [EI _ (by omega),hP]
   split
   ·split<;>exact ⟨_,_,rfl,rfl⟩
   ·split
    ·simp only
     split
     ·exact ⟨_,_,rfl,rfl⟩
     ·split<;>exact ⟨_,_,rfl,rfl⟩
    ·exact ⟨_,_,rfl,rfl⟩
  rw [hv]
  simp only [Option.isSome_some,Bool.not_true,cond_false]
  by_cases hnil:t=[]
  ·subst hnil
   exact fin
  ·have hl:0<t.length:=List.length_pos_iff.2 hnil
   have he:(t==([]:By))=false:=by simpa using hnil
   have e1:A1 ((t.length:Int)-1)=((t.length-1:Nat):Int):=by rw [A5];omega
   have q1:(((t.getD (t.length-1) 0).toNat:Int)==46)=(t.getD (t.length-1) 0==46):=P6 _ 46 (by omega)
   rw [he,e1]
   simp only [Bool.not_false,cond_true,vl]
   rw [I6,F4,q1,cond_true]
   by_cases h46:t.getD (t.length-1) 0=46
   ·rw [h46,beq_self_eq_true,cond_true,P5,cond_true,Y7,Int.toNat_natCast,<-OA hnil h46]
    exact fin
   ·rw [show (t.getD (t.length-1) 0==46)=false by simpa using h46,cond_false]
    rw [UE hnil h46] at fin
    exact fin
theorem Ae3 (s:By) (h0:A3 s.length=true):∃ r H,Si LF s Cd1 Cn1=rv r H/\r.stab [0,0] H = .tup [Wz (C4 s).1,.s (.int .i64 ((C4 s).2:Nat))]:=by
 have hs:=K8 h0
 have hLF:=D7
 unfold Si
 by_cases h1:1024<s.length
 ·have e:C4 s=(N8,3):=by unfold C4;rw [if_pos h1]
  rw [e,A8,cond_true]
  exact ⟨_,_,rfl,rfl⟩
 ·rw [A7,cond_false]
  by_cases hne:s=[]
  ·subst hne
   exact Od [] (by simp) (by simp)
  ·have hl:0<s.length:=List.length_pos_iff.2 hne
   have he:(s==([]:By))=false:=by simpa using hne
   have q0:(bAt s 0==(91:Int))=(s.getD 0 0==91):=by rw [Hu];exact P6 _ 91 (by omega)
   have hhd:s.head? = some (s.getD 0 0):=by
    cases s with
    | nil=>exact absurd rfl hne
    | cons b t=>rfl
   rw [he,Bool.not_false,cond_true,I6,cond_true,q0]
   by_cases h2:s.getD 0 0=91
   ·have e:C4 s=O8 s:=by unfold C4 O8;rw [if_neg h1,if_pos (by rw [hhd,h2])]<;>rfl
    have e1:A1 ((s.length:Int)-1)=((s.length-1:Nat):Int):=by rw [A5];omega
    have q1:(((s.getD (s.length-1) 0).toNat:Int) != 93) = !(s.getD (s.length-1) 0==93):=congrArg _ (P6 _ 93 (by omega))
    rw [e,h2,beq_self_eq_true]
    unfold Fm O8
    simp only [vl,e1,cond_true]
    rw [I6,F4,q1,cond_true]
    by_cases h93:s.getD (s.length-1) 0=93
    ·have h2:2<=s.length:=by grind
     rw [if_pos ⟨(Yc s 93 hne).2 h93,h2⟩,h93,beq_self_eq_true,Bool.not_true,cond_false,A7,cond_false,show (1:Int)=((1:Nat):Int) from rfl,P5,cond_true,Gg]
     have hlt:((s.take (s.length-1)).drop 1).length<=s.length:=by rw [List.length_drop,List.length_take];omega
     rw [Ch,cond_true]
     unfold v6c
     cases hv:v6B ((s.take (s.length-1)).drop 1) with
     | none=>exact ⟨_,_,rfl,rfl⟩
     | some a=>exact ⟨_,_,rfl,rfl⟩
    ·rw [if_neg (λh=>h93 ((Yc s 93 hne).1 h.1)),show (s.getD (s.length-1) 0==93)=false by simpa using h93]
     exact ⟨_,_,rfl,rfl⟩
   ·rw [show (s.getD 0 0==91)=false by simpa using h2]
    exact Od s (by omega) (by rw [hhd];simpa using h2)
section
theorem DQ:C0 Tryz.prog GX 165 Qc:=xf [] (AJ LF) Tw rfl trivial rfl (by kernel_rfl) follows λargs=>by
 unfold Tw;split
 ·rename_i n;exact ⟨rfl,rfl,rfl,_,_,(A39 LF noY () 0 n).trans (TA n ),rfl⟩
 ·trivial
theorem UU:C0 Tryz.prog GX 168 Zf:=xf [] (V4 LF) Tt rfl trivial rfl (by kernel_rfl) follows λargs=>by
 unfold Tt;split
 ·rename_i d c f;exact λh0=>λh1=>λh2=>⟨rfl,rfl,rfl,_,_,(A18 LF noY () 0 d c f).trans (RY d c f h0 h1 h2),rfl⟩
 ·trivial
theorem Bp3:C0 Tryz.prog GX 166 VU:=xf [] (XA LF) KC rfl trivial rfl (by kernel_rfl) follows λargs=>by
 unfold KC;split
 ·rename_i k b;exact λh0=>λh1=>⟨rfl,rfl,rfl,_,_,(B26 LF noY () 0 k b).trans (A45 k b h0 h1),rfl⟩
 ·trivial
theorem B51:C0 Tryz.prog GX 167 Am7:=xf [] (LH LF) Zg rfl trivial rfl (by kernel_rfl) follows λargs=>by
 unfold Zg;split
 ·rename_i d;exact λh0=>⟨rfl,rfl,rfl,_,_,(Bi2 LF noY () 0 d).trans (Ab5 d h0),rfl⟩
 ·trivial
theorem Ch7:C0 Tryz.prog GX 176 A96:=xf [] (He LF) KF rfl trivial rfl (by kernel_rfl) follows λargs=>by
 unfold KF;split
 ·rename_i b;exact λh0=>⟨rfl,rfl,rfl,_,_,(B32 LF noY () 0 b).trans (A49 b h0),rfl⟩
 ·trivial
theorem Bo9:C0 Tryz.prog GX 125 VO:=xf [0,0] (M4 LF) JV rfl ⟨DQ,Bp3,B51,UU,trivial⟩ rfl (by kernel_rfl) follows λargs=>by
 unfold JV;split
 ·rename_i p_z p_t p;exact λh0=>(let ⟨rr,hH,ee,qq⟩:=B08 p_z p_t p h0;⟨rfl,rfl,rfl,rr,hH,(B06 LF noY () 0 p_z p_t p).trans ee,qq⟩)
 ·trivial
theorem B57:C0 Tryz.prog GX 146 An3:=xf [1,0] (J5 LF) Zo rfl ⟨Ch7,Bp3,UU,DQ,trivial⟩ rfl (by kernel_rfl) follows λargs=>by
 unfold Zo;split
 ·rename_i s;exact λh0=>(let ⟨rr,hH,ee,qq⟩:=Bk0 s h0;⟨rfl,rfl,rfl,rr,hH,(Bj9 LF noY () 0 s).trans ee,qq⟩)
 ·trivial
theorem Ch4:C0 Tryz.prog GX 124 A93:=xf [1,0] (N7 LF) KB rfl ⟨DQ,trivial⟩ rfl (by kernel_rfl) follows λargs=>by
 unfold KB;split
 ·rename_i s;exact λh0=>(let ⟨rr,hH,ee,qq⟩:=B24 s h0;⟨rfl,rfl,rfl,rr,hH,(B23 LF noY () 0 s).trans ee,qq⟩)
 ·trivial
theorem B60:C0 Tryz.prog GX 103 An5:=xf [] (Jh LF) Zr rfl ⟨B57,Bo9,trivial⟩ rfl (by kernel_rfl) follows λargs=>by
 unfold Zr;split
 ·rename_i s;exact λh0=>⟨rfl,rfl,rfl,_,_,(Bk5 LF noY () 0 s).trans (Ag7 s h0),rfl⟩
 ·trivial
theorem B56:C0 Tryz.prog GX 69 An2:=xf [] (Jf LF) Zl rfl ⟨B60,trivial⟩ rfl (by kernel_rfl) follows λargs=>by
 unfold Zl;split
 ·rename_i s;exact λh0=>⟨rfl,rfl,rfl,_,_,(Bj6 LF noY () 0 s).trans (Ae8 s h0),rfl⟩
 ·trivial
theorem B55:C0 Tryz.prog GX 91 An1:=xf [0,0] (LJ LF) Zk rfl ⟨Ch4,Bp1,Bo9,B56,trivial⟩ rfl (by kernel_rfl) follows λargs=>by
 unfold Zk;split
 ·rename_i s;exact λh0=>⟨rfl,rfl,rfl,_,_,(Bj5 LF noY () 0 s).trans (Ae5 s h0),rfl⟩
 ·trivial
theorem Cl5:C0 Tryz.prog GX 123 B72:=xf [] (Nz LF) VQ rfl trivial rfl (by kernel_rfl) follows λargs=>by
 unfold VQ;split
 ·rename_i b;exact λh0=>⟨rfl,rfl,rfl,_,_,(Cc9 LF noY () 0 b).trans (Bj3 b h0),rfl⟩
 ·trivial
theorem B53:C0 Tryz.prog GX 89 Am9:=xf [0,0] (Je LF) Zi rfl ⟨Cl5,trivial⟩ rfl (by kernel_rfl) follows λargs=>by
 unfold Zi;split
 ·rename_i s;exact λh0=>(let ⟨rr,hH,ee,qq⟩:=Bj2 s h0;⟨rfl,rfl,rfl,rr,hH,(Bj1 LF noY () 0 s).trans ee,qq⟩)
 ·trivial
theorem A68:C0 Tryz.prog GX 56 EV:=xf [0,0] (K5 LF) On rfl ⟨Ch6,B53,Al3,B58,Mp,B55,trivial⟩ rfl (by kernel_rfl) follows λargs=>by
 unfold On;split
 ·rename_i s;exact λh0=>(let ⟨rr,hH,ee,qq⟩:=Ae3 s h0;⟨rfl,rfl,rfl,rr,hH,(Ae2 LF noY () 0 s).trans ee,qq⟩)
 ·trivial
end
section
theorem Cf3:C0 Tryz.prog GX 110 A75:=xf [] (WN LF) IP rfl trivial rfl (by kernel_rfl) follows λargs=>by
 unfold IP;split
 ·rename_i c;exact ⟨rfl,rfl,rfl,_,_,(Bu2 LF noY () 0 c).trans (Ax9 c ),rfl⟩
 ·trivial
theorem B45:C0 Tryz.prog GX 83 Am3:=xf [] (KZ LF) Yw rfl ⟨Cf3,trivial⟩ rfl (by kernel_rfl) follows λargs=>by
 unfold Yw;split
 ·rename_i c;exact ⟨rfl,rfl,rfl,_,_,(Bf1 LF noY () 0 c).trans (YL c ),rfl⟩
 ·trivial
theorem Cl0:C0 Tryz.prog GX 84 B68:=xf [] (Bb5 LF) UY rfl ⟨Al2,trivial⟩ rfl (by kernel_rfl) follows λargs=>by
 unfold UY;split
 ·rename_i s p;exact λh0=>λh1=>⟨rfl,rfl,rfl,_,_,(Ca4 LF noY () 0 s p).trans (Bd2 s p h0 h1),rfl⟩
 ·trivial
theorem B54:C0 Tryz.prog GX 120 An0:=xf [] (LI LF) Zj rfl trivial rfl (by kernel_rfl) follows λargs=>by
 unfold Zj;split
 ·rename_i c;exact ⟨rfl,rfl,rfl,_,_,(Bj4 LF noY () 0 c).trans (Ae4 c ),rfl⟩
 ·trivial
theorem Bp0:C0 Tryz.prog GX 86 OR:=xf [] (AH LF) Tu rfl ⟨B54,trivial⟩ rfl (by kernel_rfl) follows λargs=>by
 unfold Tu;split
 ·rename_i c;exact ⟨rfl,rfl,rfl,_,_,(A32 LF noY () 0 c).trans (SL c ),rfl⟩
 ·trivial
theorem Ch2:C0 Tryz.prog GX 55 A91:=xf [] (WZ LF) JW rfl ⟨Bp1,trivial⟩ rfl (by kernel_rfl) follows λargs=>by
 unfold JW;split
 ·rename_i s p;exact λh0=>λh1=>⟨rfl,rfl,rfl,_,_,(B13 LF noY () 0 s p).trans (A25 s p h0 h1),rfl⟩
 ·trivial
theorem B46:C0 Tryz.prog GX 25 IR:=xf [] (Jc LF) Yx rfl trivial rfl (by kernel_rfl) follows λargs=>by
 unfold Yx;split
 ·rename_i l_z l_t l m_z m_t m;exact λh0=>λh1=>λh2=>λh3=>⟨rfl,rfl,rfl,_,_,(Bf3 LF noY () 0 l_z l_t l m_z m_t m).trans (YM l_z l_t l m_z m_t m h0 h1 h2 h3),rfl⟩
 ·trivial
theorem B61:C0 Tryz.prog GX 51 KN:=xf [1] (U7 LF) Zv rfl ⟨B45,trivial⟩ rfl (by kernel_rfl) follows λargs=>by
 unfold Zv;split
 ·rename_i s;exact λh0=>(let ⟨rr,hH,ee,qq⟩:=Bn7 s h0;⟨rfl,rfl,rfl,rr,hH,(Bn6 LF noY () 0 s).trans ee,qq⟩)
 ·trivial
theorem Cg6:C0 Tryz.prog GX 52 VJ:=xf [0,0] (Lo LF) JO rfl ⟨Cl0,Bo2,trivial⟩ rfl (by kernel_rfl) follows λargs=>by
 unfold JO;split
 ·rename_i w_z w_t w;exact λh0=>λh1=>λh2=>λh3=>(let ⟨rr,hH,ee,qq⟩:=By9 w_z w_t w h0 h1 h2 h3;⟨rfl,rfl,rfl,rr,hH,(By8 LF noY () 0 w_z w_t w).trans ee,qq⟩)
 ·trivial
theorem Bp4:C0 Tryz.prog GX 54 OS:=xf [1] (Q5 LF) Tz rfl ⟨Bp0,trivial⟩ rfl (by kernel_rfl) follows λargs=>by
 unfold Tz;split
 ·rename_i s;exact λh0=>(let ⟨rr,hH,ee,qq⟩:=A52 s h0;⟨rfl,rfl,rfl,rr,hH,(A51 LF noY () 0 s).trans ee,qq⟩)
 ·trivial
theorem B59:C0 Tryz.prog GX 24 KA:=xf [2,0,0] (R5 LF) Zq rfl ⟨Mp,Bp4,Ch2,A68,trivial⟩ rfl (by kernel_rfl) follows λargs=>by
 unfold Zq;split
 ·rename_i s;exact λh0=>(let ⟨rr,hH,ee,qq⟩:=Bk4 s h0;⟨rfl,rfl,rfl,rr,hH,(Bk3 LF noY () 0 s).trans ee,qq⟩)
 ·trivial
theorem Cg8:C0 Tryz.prog GX 23 VK:=by
 refine C0.fix (pf:=JQ) _ (R3 [2,0,0] (C₀:=Et LF) (Ko (lx:=[(49,Ua),(50,Oo),(51,KN),(52,VJ)]) (ly:=[]) (ls:=[(106,Iv)]) rfl rfl rfl ⟨Al5,OF,B61,Cg6,trivial⟩ trivial ⟨OH,trivial⟩) (J0 rfl (by kernel_rfl)) follows ?_)
 intro args ret Hc h
 unfold JQ at h
 split at h
 ·rename_i s
  obtain ⟨h0,h⟩:=F3 h
  obtain ⟨rfl,rfl⟩:=L7 h
  obtain ⟨rr,hH,ee,qq⟩:=Bz5 s h0
  exact ⟨rfl,rfl,rfl,1,rr,hH,(Bz4 LF noY () 0 s).trans ee,qq⟩
 ·cases h
end
def evX (C:Cfg) (d g:Nat) (args:List PV):Tr:=match evC C d Unit noY g args [] () with
 | some (r,H,_)=>cond (C9 args).isEmpty (.ret r H) .fail
 | none=>.fail
theorem Cn2 {C:Cfg} (d g:Nat) (hX:XOK C) (hO:Gd C) (hm:C.P.follows .mixedOrders=true):C0 C.P C.G g (evX C d g):=
 Gx hX hO hm λargs ret Hc h=>by
  unfold evX at h
  split at h
  ·rename_i r H s e
   cases hn:(C9 args).isEmpty with
   | false=>rw [hn] at h;cases h
   | true=>
    rw [hn] at h
    obtain ⟨rfl,rfl⟩:=L7 h
    exact ⟨List.isEmpty_iff.1 hn,d,e⟩
  ·cases h
def evS (C:Cfg) (d g:Nat) (args:List PV):Tr:=match evC C d Unit noY g args [] () with
 | some (r,H,_)=>cond ((C9 args).isEmpty&&(r.stab [] H).nms.isEmpty) (.ret (r.stab [] H) []) .fail
 | none=>.fail
theorem Cl1 {C:Cfg} (d g:Nat) (hX:XOK C) (hO:Gd C) (hm:C.P.follows .mixedOrders=true):C0 C.P C.G g (evS C d g):=
 R3 [] hX hO hm λargs ret Hc h=>by
  unfold evS at h
  split at h
  ·rename_i r H s e
   cases hn:((C9 args).isEmpty&&(r.stab [] H).nms.isEmpty) with
   | false=>rw [hn] at h;cases h
   | true=>
    rw [hn] at h
    obtain ⟨rfl,rfl⟩:=L7 h
    rw [Bool.and_eq_true] at hn
    exact ⟨List.isEmpty_iff.1 hn.1,rfl,List.isEmpty_iff.1 hn.2,d,r,H,e,rfl⟩
  ·cases h
noncomputable def B77:Cfg:=C8 100000 [85] (λ_=>none) [(112,IL),(114,VA),(115,KM),(93,Hr),(117,Uc),(118,VD),(119,KK)]
noncomputable def B69:List PV->Tr:=evS B77 3 85
theorem Cl2:C0 Tryz.prog GX 85 B69:=Cl1 (C:=B77) 3 _ (N6.ok rfl ⟨Al1,Bo0,Au4,Wh,IB,Bo4,Au3,trivial⟩) (J0 rfl (by kernel_rfl)) follows
noncomputable def B78:Cfg:=C8 100000 [23,52,51,83,110,84] (λ_=>none)
 [(85,B69),(50,Oo),(49,Ua),(111,IY)] (S:=[(106,Iv)]) (nt:=[(23,0,63,2)]) (fr:=[(12,[0,1],[1]),(15,[0,2],[1])])
noncomputable def B71:List PV->Tr:=evX B78 6 23
theorem Cl4:C0 Tryz.prog GX 23 B71:=Cn2 (C:=B78) 6 _ (Ko (ly:=[]) rfl rfl rfl ⟨Cl2,OF,Al5,Al2,trivial⟩ trivial ⟨OH,trivial⟩) (J0 rfl (by kernel_rfl)) follows
noncomputable def WI:Cfg:=C8 100000 [22,26,30,28,37] (λ_=>none)
 [(23,B71),(57,A79),(60,A78),(65,A77),(41,A74)]
 (S:=[(76,IO)]) (lend:=[26]) (nt:=[(105,0,63,2)]) (Z:=[(61,JB)])
theorem Bp8:XOK WI:=Cl8 (ly:=[]) rfl rfl rfl rfl ⟨Cl4,Cf7,Cf6,Cf5,Cf2,trivial⟩ trivial ⟨B63,trivial⟩ ⟨B64,trivial⟩
theorem A99:Yn (evC WI 8 Unit noY 22 [] [] ())=true:=by kernel_rfl
theorem A63:C0 Tryz.prog GX 22 Tl:=
 C0.fix (pf:=Oi) _ (by
  have h:=Al7 (C₀:=WI) Bp8 (J0 rfl (by kernel_rfl)) follows A99
  have e:(λargs:List PV=>match args with | []=>Tr.ret (.s (.bool true)) [] | _=>.fail)=Oi:=by
   funext args
   cases args<;>rfl
  rw [<-e]
  exact h)
end
section
open Go Go.ChangeAt Go.ChangeShapes Go.Proofs Go.RowKit Go.WideShapes
set_option maxRecDepth 100000
section
theorem YZ (os:Os) (started:os.Started) (H:Type) (enc:TypeId × Value->H) :
  ReturnsInHanded {} Tryz.checked os 6 .any (λw args=>(Rows.preloadParseMatchesSpecSpec.pre enc Tryz.prog Tryz.f6 Rows.preloadParseMatchesSpecRow.domain false w args/\laidMetH Tryz.prog Dd w)/\sizedMet enc Tryz.prog Tryz.f6 (OpenSpec.ofChange Rows.preloadParseMatchesSpecSpec) false w args) (Rows.preloadParseMatchesSpecSpec.post enc Tryz.prog Tryz.f6 false true false false):=
 YR started (C:=PH LF) (tb:=4) rfl rfl (N6.ok (l:=[(22,Tl),(23,VK),(24,KA),(25,IR)]) rfl ⟨A63,Cg8,B59,B46,trivial⟩) (J0 rfl (by kernel_rfl)) (by kernel_rfl) Tryz.func6 (c:=D8 Tryz.f6) rfl (by kernel_rfl)
  (by
   intro t ht
   obtain rfl:t=9:=by simpa using (show t∈[9] from ht)
   exact ⟨⟨by kernel_rfl,of_decide_eq_true (by kernel_rfl)⟩,by kernel_rfl⟩) rfl (by kernel_rfl) rfl
  (λds hds=>by
   match ds,hds with
   | [d0],_=>rfl)
  #[(.string ⟨#[]⟩)] 8 (by kernel_rfl) (by kernel_rfl) (by kernel_rfl)
  (λargs h=>Bw2 args h)
set_option maxHeartbeats 4000000 in theorem Az2:Rows.PreloadParseMatchesSpecSaid:=
 OpenClaim.holds_of_wide 6 Tryz.f6 rfl rfl rfl rfl rfl rfl rfl ⟨rfl,rfl,rfl,rfl,rfl⟩ rfl rfl rfl rfl rfl (by kernel_rfl) Tryz.func6 (by unfold joinedFacts;simp only [Bool.and_eq_true];(repeat' apply And.intro)<;>as_aux_lemma=>kernel_rfl)
  (of_decide_eq_true (by as_aux_lemma=>kernel_rfl)) (by unfold Func.isWrapper;first | (rw [if_pos (by decide +kernel)];kernel_rfl) | (rw [if_neg (by decide +kernel)];exact ⟨rfl,rfl⟩))
  (λos started H enc _=>YZ os started H enc)
theorem lpp_card:Rows.PreloadParseMatchesSpecCardSaid:=
 Claim7.holds_tied_plain_at .later [] [.data,.data,.data,.data,.pinned] true (true, "7afd958ced9ec1c0e92f7929c3d546df191af6d231ea740845f3a84d94481a7c") false Az2 (λ_ h=>by cases h) (by as_aux_lemma=>kernel_rfl) (λ_ h=>by cases h) preloadParseMatchesSpec_row_tie rfl ⟨rfl,rfl⟩ (by as_aux_lemma=>kernel_rfl) rfl
  (λf fn hf hfn=>by
   obtain rfl:f=6:=Option.some.inj ((show Tryz.prog.funcNamed "hstsstore/hstsstorelaw24.PreloadParseMatchesSpec" = some 6 by as_aux_lemma=>kernel_rfl).symm.trans hf) |>.symm
   obtain rfl:fn=Tryz.f6:=(Option.some.inj (Tryz.func6.symm.trans hfn)).symm
   exact ⟨by as_aux_lemma=>kernel_rfl,λj t ht=>by
    have hm:t∈[9]:=Array.mem_toList_iff.2 (Array.mem_of_getElem? ht)
    have hall:([9].all λu=>!Tryz.prog.wantsStandIn u)=true:=by as_aux_lemma=>kernel_rfl
    exact (show Tryz.prog.wantsStandIn t=false by simpa using List.all_eq_true.1 hall t hm)⟩)
  (by as_aux_lemma=>kernel_rfl)
end
end
#print axioms lpp_card
end Go.Proofs.YtelhbgonncceeaaGreatDoor.E
