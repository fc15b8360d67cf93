/-
  Parts of the proof, merged by a program of the prover's own; no condition.
-/
import Derived.Test.YtelhbgonncceeaaGreatDoorKCA4
import Derived.BigQuiet
import Derived.Deep.QuietTactic
import Derived.Ground.SlsfProg
import Derived.Lib.TrimUEq
import Derived.Lib.ValidLaws
import Derived.LoopTactic
import Derived.Shelf.Abstract
import Derived.Shelf.SlSortCmp.NoneTotal
import Derived.Shelf.SlSortCmp.WholeK
import Derived.Shelf.Strings.LastIndex
import Derived.Test.YtelhbgonncceeaaGreatDoorProg
import Derived.WalkKit
import Derived.WalkMore
namespace Go.Proofs.YtelhbgonncceeaaGreatDoor.E
set_option linter.all false
section
open Go Go.Proofs
theorem Gf (l:List Nat):Ss l=B3 l:=rfl
theorem WE {R:Type} {k0:Unit->Option R} {k1:By->Option R} (s:By) (hs:s.length<=1000000):∀ (r i n:Nat),i+r=s.length->r<n->
  Hl LF n s (s.length:Int) (i:Int) k0 k1=if (s.drop i).any (λb=>Nat.ble 128 b.toNat) then k0 () else k1 s:=by
 intro r
 induction r with
 | zero=>
  intro i n hi hn
  obtain ⟨n,rfl⟩:∃ m,n=m+1:=⟨n-1,by omega⟩
  rw [Hl]
  rw [A7,List.drop_of_length_le (by omega)]
  rfl
 | succ r ih=>
  intro i n hi hn
  obtain ⟨n,rfl⟩:∃ m,n=m+1:=⟨n-1,by omega⟩
  rw [Hl]
  have e1:A2 ((i:Int)+1)=((i+1:Nat):Int):=by rw [A5];rfl
  rw [A9,L5,M6,L9 s i (by omega),e1,List.any_cons]
  simp only [cond_true]
  generalize s.getD i 0=b
  by_cases h:128<=b.toNat
  ·rw [A7,Nat.ble_eq_true_of_le h]
   rfl
  ·have:Nat.ble 128 b.toNat=false:=by rw [Bool.eq_false_iff,ne_eq,Nat.ble_eq];exact h
   rw [A9,this,Bool.false_or]
   exact ih (i+1) n (by omega) (by omega)
theorem Al7 {R:Type} {k0:By->Int->LL->Option R} (s:By) (hs:s.length<=1000000) (k:Nat) (hk:k<=s.length):∀ (r i n:Nat) (l:List Nat),i+r=k->r<n->l.length=i->
  El LF n s (k:Int) (i:Int) (B3 l) k0=k0 s (k:Int) (B3 (l++((s.take k).drop i).map (·.toNat))):=by
 intro r
 induction r with
 | zero=>
  intro i n l hi hn hl
  obtain ⟨n,rfl⟩:∃ m,n=m+1:=⟨n-1,by omega⟩
  rw [El]
  rw [A7,List.drop_of_length_le (by rw [List.length_take];omega)]
  simp
 | succ r ih=>
  intro i n l hi hn hl
  obtain ⟨n,rfl⟩:∃ m,n=m+1:=⟨n-1,by omega⟩
  rw [El]
  have e1:A2 ((i:Int)+1)=((i+1:Nat):Int):=by rw [A5];rfl
  have hd:(s.take k).drop i=s.getD i 0::(s.take k).drop (i+1):=by
   rw [L9 (s.take k) i (by rw [List.length_take];omega)]
   congr 1
   rw [List.getD_eq_getElem?_getD,List.getD_eq_getElem?_getD,List.getElem?_take_of_lt (by omega)]
  rw [A9,L5,M6,hd,B9,G2 (by omega),e1]
  simp only [cond_true]
  generalize s.getD i 0=b
  have hb:=b.toNat_lt
  have e2:A2 (b.toNat:Int)=(b.toNat:Int):=A5
  have hrow:B3 l++[[SV.int .i64 (A2 (b.toNat:Int))]]=B3 (l++[b.toNat]):=by rw [e2,Ji];rfl
  rw [hrow,ih (i+1) n _ (by omega) (by omega) (by simp;omega)]
  simp
theorem Jg:∀ s:By,E3 s<=s.length-1
 | []=>by simp [E3]
 | b::r=>by
  have:=Jg r
  unfold E3
  grind
theorem WF (s:By) (h0:A1 s.length=true):(∃ e,J8 s=([],e)/\∀ (R:Type) (k0:Int->Option R) (k1:Int->LL->By->Int->Int->Int->Bool->Option R) (k2:LL->By->Int->Int->Int->Bool->Option R),Pe LF s k0 k1 k2=k0 (e:Nat))\/
  (∃ e l s' n' i' b' st',J8 s=([],e)/\∀ (R:Type) (k0:Int->Option R) (k1:Int->LL->By->Int->Int->Int->Bool->Option R) (k2:LL->By->Int->Int->Int->Bool->Option R),Pe LF s k0 k1 k2=k1 (e:Nat) l s' n' i' b' st')\/
  ((J8 s).2=0/\∃ s' n' i' b' st',∀ (R:Type) (k0:Int->Option R) (k1:Int->LL->By->Int->Int->Int->Bool->Option R) (k2:LL->By->Int->Int->Int->Bool->Option R),Pe LF s k0 k1 k2=k2 (B3 (J8 s).1) s' n' i' b' st'):=by
 have hLF:=E5
 unfold J8
 by_cases hl:1024<s.length
 ·rw [if_pos hl]
  refine .inl ⟨3,rfl,λR k0 k1 k2=>?_⟩
  unfold Pe
  rw [A9]
  rfl
 ·rw [if_neg hl]
  have asc:=λ(R:Type) (K0:Unit->Option R) (K1:By->Option R)=>WE (k0:=K0) (k1:=K1) s (by omega) s.length 0 LF (by omega) (by omega)
  rw [List.drop_zero] at asc
  cases ha:s.any (λb=>Nat.ble 128 b.toNat) with
  | true=>
   rw [if_pos rfl]
   refine .inl ⟨4,rfl,λR k0 k1 k2=>?_⟩
   unfold Pe
   rw [A7,cond_false]
   refine Eq.trans (asc R _ _) ?_
   rw [ha,if_pos rfl]
   rfl
  | false=>
   rw [if_neg (by simp)]
   obtain ⟨d1,d2⟩:=Jf s
   have hlt:=Jg s
   have key:∀ (pts:List Nat) (t:By),pts.length<=256->t.length<=1024->(∀ (R:Type) (k0:Int->Option R) (k1:Int->LL->By->Int->Int->Int->Bool->Option R) (k2:LL->By->Int->Int->Int->Bool->Option R),Pe LF s k0 k1 k2=N8 LF LF (B3 pts) t 128 0 72 false k1 k2)->
     (∃ e l s' n' i' b' st',F0 t pts 128 0 72 true=([],e)/\∀ (R:Type) (k0:Int->Option R) (k1:Int->LL->By->Int->Int->Int->Bool->Option R) (k2:LL->By->Int->Int->Int->Bool->Option R),Pe LF s k0 k1 k2=k1 (e:Nat) l s' n' i' b' st')\/
     ((F0 t pts 128 0 72 true).2=0/\∃ s' n' i' b' st',∀ (R:Type) (k0:Int->Option R) (k1:Int->LL->By->Int->Int->Int->Bool->Option R) (k2:LL->By->Int->Int->Int->Bool->Option R),Pe LF s k0 k1 k2=k2 (B3 (F0 t pts 128 0 72 true).1) s' n' i' b' st'):=by
    intro pts t hp ht he
    obtain ⟨p1,p2⟩:=Al8 t.length t pts 128 0 72 LF false (Nat.le_refl _) (by omega) (by omega) hp (by omega) (by omega) (by omega)
    rw [Bool.not_false] at p1 p2
    by_cases hz:(F0 t pts 128 0 72 true).2=0
    ·obtain ⟨s',n',i',b',st',e⟩:=p1 hz
     exact .inr ⟨hz,s',n',i',b',st',λR k0 k1 k2=>by rw [he];exact e R k1 k2⟩
    ·obtain ⟨pe,l,s',n',i',b',st',e⟩:=p2 hz
     exact .inl ⟨_,l,s',n',i',b',st',Prod.ext pe rfl,λR k0 k1 k2=>by rw [he];exact e R k1 k2⟩
   have hu:u8n 45=45:=rfl
   have top:∀ (R:Type) (k0:Int->Option R) (k1:Int->LL->By->Int->Int->Int->Bool->Option R) (k2:LL->By->Int->Int->Int->Bool->Option R),Pe LF s k0 k1 k2 =
     cond (ltI 0 (G4 45 s)) (El LF LF s (G4 45 s) 0 [] (λs'5 k'6 l'7=>cond (P2 (A2 (k'6+1)) (s'5.length:Int) s'5.length)
      (vl (cut s'5 (A2 (k'6+1)) (s'5.length:Int)) λs'8=>cond (ltI 256 (l'7.length:Int)) (k1 3 l'7 s'8 128 0 72 false) (N8 LF LF l'7 s'8 128 0 72 false k1 k2)) none))
      (N8 LF LF [] s 128 0 72 false k1 k2):=by
    intro R k0 k1 k2
    unfold Pe
    rw [A7,cond_false]
    refine Eq.trans (asc R _ _) ?_
    rw [ha,if_neg (by simp),h0,hu]
    rfl
   by_cases hd:0<E3 s
   ·have hmem:45∈s:=by
     apply Classical.byContradiction
     intro h
     have:=(d2 h).2
     omega
    have hI:=d1 hmem
    generalize E3 s=m at *
    have hcopy:=λ(R:Type) (K:By->Int->LL->Option R)=>Al7 (k0:=K) s (by omega) m (by omega) m 0 LF [] (by omega) (by omega) rfl
    rw [List.drop_zero] at hcopy
    have e1:A2 ((m:Int)+1)=((m+1:Nat):Int):=by rw [A5];rfl
    have hlen:((s.take m).map (·.toNat)).length=m:=by rw [List.length_map,List.length_take];omega
    have top2:∀ (R:Type) (k0:Int->Option R) (k1:Int->LL->By->Int->Int->Int->Bool->Option R) (k2:LL->By->Int->Int->Int->Bool->Option R),Pe LF s k0 k1 k2 =
      cond (ltI 256 (m:Int)) (k1 3 (B3 ((s.take m).map (·.toNat))) (s.drop (m+1)) 128 0 72 false) (N8 LF LF (B3 ((s.take m).map (·.toNat))) (s.drop (m+1)) 128 0 72 false k1 k2):=by
     intro R k0 k1 k2
     rw [top,hI,A9,cond_true]
     refine Eq.trans (hcopy R _) ?_
     rw [e1,Q5,Nx,List.take_length,List.nil_append,B9,hlen]
     rfl
    by_cases h256:256<m
    ·rw [if_pos h256]
     refine .inr (.inl ⟨3,B3 ((s.take m).map (·.toNat)),s.drop (m+1),128,0,72,false,rfl,λR k0 k1 k2=>?_⟩)
     rw [top2,A9]
     rfl
    ·rw [if_neg h256,if_neg (show ¬ m=0 by omega)]
     exact .inr (key _ (s.drop (m+1)) (by rw [hlen];omega) (by rw [List.length_drop];omega) (λR k0 k1 k2=>by rw [top2,A7];rfl))
   ·have hz:E3 s=0:=by omega
    have hI:¬ 0<G4 45 s:=by
     by_cases hm:45∈s
     all_goals grind
    rw [hz,G7,if_pos rfl]
    refine .inr (key [] s (by simp) (by omega) (λR k0 k1 k2=>?_))
    rw [top,A7]
    rfl
theorem Ow (l:List Nat):(B3 l).isEmpty=l.isEmpty:=by cases l<;>rfl
theorem Bk9 (s:By) (h0:A1 s.length=true):∃ r H,Pe LF s (λr0=>rv (.tup [.fl 0,.s (.int .i64 r0)]) [.arr true 3 1 []]) (λr0 l1 s2 n3 n4 n5 b6=>rv (.tup [.fl 2,.s (.int .i64 r0)]) [.arr true 3 1 l1,.box [.s (.str s2),.fl 0,.s (.int .i64 n3),.s (.int .i64 n4),.s (.int .i64 n5),.s (.bool b6)],.arr true 3 1 []]) (λl0 s1 n2 n3 n4 b5=>rv (.tup [.fl 0,.s (.int .i64 (0:Int))]) [.arr true 3 1 l0,.box [.s (.str s1),.fl 0,.s (.int .i64 n2),.s (.int .i64 n3),.s (.int .i64 n4),.s (.bool b5)]])=rv r H/\
  r.stab [1,0] H = .tup [.s (.sl (J8 s).1.isEmpty (J8 s).1.isEmpty 1 (Ss (J8 s).1)),.s (.int .i64 ((J8 s).2:Nat))]:=by
 rcases WF s h0 with ⟨e,h1,h2⟩ | ⟨e,l,s',n',i',b',st',h1,h2⟩ | ⟨h1,s',n',i',b',st',h2⟩
 ·refine ⟨_,_,h2 _ _ _ _,?_⟩
  rw [h1]
  rfl
 ·refine ⟨_,_,h2 _ _ _ _,?_⟩
  rw [h1]
  rfl
 ·refine ⟨_,_,h2 _ _ _ _,?_⟩
  rw [h1,Gf]
  simp [PV.stab,Iy,Se,PV.snap,I9,Ow]
end
section
open Go
theorem Zn:∀ (n m:Nat) (l:By),l.length<=n->l.length<=m->Ui n l=Ui m l
 | 0,m,l,hn,_=>by
  have:l=[]:=List.length_eq_zero_iff.1 (by omega)
  subst this;cases m<;>simp [Ui]
 | n+1,0,l,_,hm=>by
  have:l=[]:=List.length_eq_zero_iff.1 (by omega)
  subst this;simp [Ui]
 | n+1,m+1,l,hn,hm=>by
  unfold Ui
  split
  ·rfl
  ·rename_i hne
   have hw:=Lib.decodeL_width l
   have hl:0<l.length:=List.length_pos_iff.2 hne
   rw [Zn n m (l.drop (Lib.decodeL l).2) (by rw [List.length_drop];omega) (by rw [List.length_drop];omega)]
theorem Am2 (l:By) (hne:l≠[]):Sv l=if (Lib.decodeL l).1=65533/\(Lib.decodeL l).2=1 then none else (Sv (l.drop (Lib.decodeL l).2)).map ((Lib.decodeL l).1::·):=by
 have hl:0<l.length:=List.length_pos_iff.2 hne
 have hw:=Lib.decodeL_width l
 obtain ⟨n,hn⟩:∃ n,l.length=n+1:=⟨l.length-1,by omega⟩
 unfold Sv
 rw [hn]
 conv=>lhs;unfold Ui
 rw [if_neg hne,Zn n (l.drop (Lib.decodeL l).2).length _ (by rw [List.length_drop];omega) (Nat.le_refl _)]
open Lib in theorem B73 (n b0 b1 b2 b3:Nat) (hb:194<=b0/\b0<224) (h1:b1<256):decodeN n b0 b1 b2 b3=if 2<=n/\128<=b1/\b1<=191 then ((b0-192)*64+b1-128,2) else (65533,1):=by
 unfold decodeN
 rw [G7]
 by_cases hc:2<=n/\128<=b1/\b1<=191
 ·rw [if_pos hc,Ge,Ge]
  exact Prod.ext (by show b0 % 32*64+b1 % 64=(b0-192)*64+b1-128;omega) rfl
 ·rw [if_neg hc,G7,G7,G7]
open Lib in theorem B74 (n b0 b1 b2 b3:Nat) (hb:224<=b0/\b0<240) (h1:b1<256) (h2:b2<256):decodeN n b0 b1 b2 b3=if 3<=n/\(128<=b1/\b1<=191)/\(128<=b2/\b2<=191) then
  (if 2048<=((b0-224)*64+b1-128)*64+b2-128/\R0 (((b0-224)*64+b1-128)*64+b2-128)=true then (((b0-224)*64+b1-128)*64+b2-128,3) else (65533,1)) else (65533,1):=by
 unfold decodeN
 rw [G7,G7]
 by_cases hc:3<=n/\(128<=b1/\b1<=191)/\(128<=b2/\b2<=191)
 ·rw [if_pos hc,Ge]
  have e:b0 % 16*4096+b1 % 64*64+b2 % 64=((b0-224)*64+b1-128)*64+b2-128:=by omega
  rw [e]
  generalize ((b0-224)*64+b1-128)*64+b2-128=v
  congr 1
  simp only [R0,Bool.and_eq_true,Bool.or_eq_true,Nat.ble_eq,Nat.blt_eq]
  apply propext;omega
 ·rw [if_neg hc,G7,G7]
open Lib in theorem B75 (n b0 b1 b2 b3:Nat) (hb:240<=b0/\b0<245) (h1:b1<256) (h2:b2<256) (h3:b3<256):decodeN n b0 b1 b2 b3=if 4<=n/\(128<=b1/\b1<=191)/\(128<=b2/\b2<=191)/\(128<=b3/\b3<=191) then
  (if 65536<=(((b0-240)*64+b1-128)*64+b2-128)*64+b3-128/\R0 ((((b0-240)*64+b1-128)*64+b2-128)*64+b3-128)=true then ((((b0-240)*64+b1-128)*64+b2-128)*64+b3-128,4) else (65533,1)) else (65533,1):=by
 unfold decodeN
 rw [G7,G7,G7]
 by_cases hc:4<=n/\(128<=b1/\b1<=191)/\(128<=b2/\b2<=191)/\(128<=b3/\b3<=191)
 ·rw [if_pos hc,Ge]
  have e:b0 % 8*262144+b1 % 64*4096+b2 % 64*64+b3 % 64=(((b0-240)*64+b1-128)*64+b2-128)*64+b3-128:=by omega
  rw [e]
  generalize (((b0-240)*64+b1-128)*64+b2-128)*64+b3-128=v
  congr 1
  simp only [R0,Bool.and_eq_true,Bool.or_eq_true,Nat.ble_eq,Nat.blt_eq]
  apply propext;omega
 ·rw [if_neg hc,G7]
end
section
open Go Go.Proofs
theorem MT (l:List Nat):Y9 (l.map λn:Nat=>(n:Int))=Gx l:=by
 have h1:(l.map λn:Nat=>(n:Int)).all ptI=l.all R0:=by
  rw [List.all_map]
  congr 1
 have h2:(l.map λn:Nat=>(n:Int)).map Int.toNat=l:=by
  rw [List.map_map]
  exact (List.map_congr_left λa _=>by simp).trans (List.map_id l)
 unfold Y9
 rw [List.length_map,h1,h2]
 by_cases h:256<l.length
 ·rw [if_pos h];unfold Gx;rw [if_pos h]
 ·rw [if_neg h]
  cases hp:l.all R0 with
  | true=>rw [if_pos rfl]
  | false=>
   rw [if_neg (by simp)]
   unfold Gx
   grind
theorem MS (l:List Nat):(B3 l).map elI=l.map λn:Nat=>(n:Int):=by
 unfold B3
 rw [List.map_map]
 exact List.map_congr_left λa _=>rfl
theorem Ld (l:List Nat):(B3 l).all Ok=true:=by
 unfold B3
 rw [List.all_map,List.all_eq_true]
 intro x _
 rfl
theorem VJ {R:Type} {k0:Unit->Option R} {k1:By->Bool->LL->Bool->Option R} (s:By) (z:Bool) (p:List Nat) (hp:p.length<=1000000000):∀ (r i n:Nat) (b:Bool),i+r=p.length->r<n->
  R4 LF n s z (B3 p) b (p.length:Int) (i:Int) k0 k1=if (p.drop i).any (λp=>Nat.ble 65 p&&Nat.ble p 90) then k0 () else k1 s z (B3 p) (b && !((p.drop i).any λp=>Nat.ble 128 p)):=by
 intro r
 induction r with
 | zero=>
  intro i n b hi hn
  obtain ⟨n,rfl⟩:∃ m,n=m+1:=⟨n-1,by omega⟩
  rw [R4]
  rw [A7,List.drop_of_length_le (by omega)]
  simp
 | succ r ih=>
  intro i n b hi hn
  obtain ⟨n,rfl⟩:∃ m,n=m+1:=⟨n-1,by omega⟩
  rw [R4]
  have e1:A2 ((i:Int)+1)=((i+1:Nat):Int):=by rw [A5];rfl
  have hd:p.drop i=p.getD i 0::p.drop (i+1):=by
   rw [List.getD_eq_getElem?_getD,List.getElem?_eq_getElem (by omega),Option.getD_some,List.getElem_cons_drop]
  rw [A9,B9,L5,Int.toNat_natCast,Ko (by omega),Sf _ _ (by omega),hd,List.any_cons,List.any_cons,e1]
  simp only [cond_true,vl]
  generalize p.getD i 0=q
  have go:∀ c:Bool,R4 LF n s z (B3 p) c (p.length:Int) ((i+1:Nat):Int) k0 k1=_:=λc=>ih (i+1) n c (by omega) (by omega)
  by_cases h1:q<65
  ·rw [A9,show Nat.ble 65 q=false by rw [Bool.eq_false_iff,ne_eq,Nat.ble_eq];omega]
   have h2:Nat.ble 128 q=false:=by rw [Bool.eq_false_iff,ne_eq,Nat.ble_eq];omega
   rw [show ltI (q:Int) (128:Int)=true from A9,h2]
   simp only [Bool.not_true,cond_false,Bool.false_and,Bool.false_or]
   cases b<;>simp only [cond_true,cond_false]<;>rw [go]
  ·rw [A7,show Nat.ble 65 q=true by rw [Nat.ble_eq];omega]
   simp only [Bool.not_false,cond_true,Bool.true_and]
   by_cases h2:90<q
   ·rw [A9,show Nat.ble q 90=false by rw [Bool.eq_false_iff,ne_eq,Nat.ble_eq];omega]
    simp only [Bool.not_true,cond_false,Bool.false_or]
    by_cases h3:q<128
    ·rw [show ltI (q:Int) (128:Int)=true from A9,show Nat.ble 128 q=false by rw [Bool.eq_false_iff,ne_eq,Nat.ble_eq];omega]
     cases b<;>simp only [cond_true,cond_false,Bool.false_or]<;>rw [go]
    ·rw [show ltI (q:Int) (128:Int)=false from A7,show Nat.ble 128 q=true by rw [Nat.ble_eq];omega]
     cases b<;>simp only [cond_true,cond_false,Bool.true_or,Bool.not_true,Bool.and_false]<;>rw [go]<;>simp
   ·rw [A7,show Nat.ble q 90=true by rw [Nat.ble_eq];omega]
    simp
theorem TZ:∀ (m:Nat) (s:By) (pts:List Nat) (n i b:Nat) (f:Bool),s.length<=m->pts.length<=256->(F0 s pts n i b f).1.length<=256:=by
 intro m
 induction m with
 | zero=>
  intro s pts n i b f hs hp
  obtain rfl:=List.length_eq_zero_iff.1 (Nat.le_zero.1 hs)
  rw [Z7]
  exact hp
 | succ m ih=>
  intro s pts n i b f hs hp
  by_cases h:s=[]
  ·grind
  ·by_cases hq:(C2 b s i 1 0).2.2=0
   ·rw [Ar h _ _ _ _ _ hq]
    have hlt:=Kg b s i 1 0 hq
    split
    ·split
     ·grind
     ·rename_i h2
      exact ih _ _ _ _ _ _ (by omega) (by rw [V9];omega)
    grind
   ·rw [Cw h _ _ _ _ _ hq]
    grind
theorem MN (s:By):(J8 s).1.length<=256:=by
 unfold J8
 split
 ·grind
 ·split
  ·grind
  ·split
   ·grind
   ·rename_i h
    exact TZ _ _ _ _ _ _ _ (Nat.le_refl _) (by rw [List.length_map,List.length_take];omega)
theorem VK {R:Type} {k0:Bool->Option R} (s:By) (h0:A1 s.length=true):Ac9 LF s k0=k0 (Al s):=by
 have hLF:=E5
 unfold Ac9 Al
 rw [h0,cond_true]
 by_cases h:(J8 s).2=0
 ·have e:(((J8 s).2:Int) != (0:Int))=false:=by rw [h];rfl
  rw [e,cond_false,Gf,B9,h]
  have hl:=MN s
  refine Eq.trans (VJ s _ (J8 s).1 (by omega) (J8 s).1.length 0 LF true (by omega) (by omega)) ?_
  rw [List.drop_zero]
  cases h1:(J8 s).1.any (λp=>Nat.ble 65 p&&Nat.ble p 90) with
  | true=>simp
  | false=>
   rw [if_neg (by simp),Ld,MS,MT]
   simp only [cond_true,vl,Bool.true_and,Bool.not_false]
   cases h2:(J8 s).1.any (λp=>Nat.ble 128 p) with
   | false=>simp
   | true=>
    simp only [Bool.not_true,Bool.not_false,cond_true,Bool.and_true,beq_self_eq_true,Bool.true_and]
    by_cases h3:(Gx (J8 s).1).2=0
    all_goals grind
 grind
theorem Ak5 {R:Type} {k0:Unit->Option R} {k1:By->Option R} (s:By) (hs:s.length<=1000000000):∀ (r i n:Nat),i+r=s.length->r<n->
  N3 LF n s (s.length:Int) (i:Int) k0 k1=if (s.drop i).all Q9 then k1 s else k0 ():=by
 intro r
 induction r with
 | zero=>
  intro i n hi hn
  obtain ⟨n,rfl⟩:∃ m,n=m+1:=⟨n-1,by omega⟩
  rw [N3]
  rw [A7,List.drop_of_length_le (by omega)]
  rfl
 | succ r ih=>
  intro i n hi hn
  obtain ⟨n,rfl⟩:∃ m,n=m+1:=⟨n-1,by omega⟩
  rw [N3]
  have e1:A2 ((i:Int)+1)=((i+1:Nat):Int):=by rw [A5];rfl
  rw [A9,L5,M6,L9 s i (by omega),e1,List.all_cons]
  simp only [cond_true]
  rw [ih (i+1) n (by omega) (by omega)]
  generalize s.getD i 0=b
  have hb:=Tz b
  have q1:((b.toNat:Int) != 45) = !(b==45):=congrArg _ (V3 b 45 (by omega))
  have q2:((b.toNat:Int) != 95) = !(b==95):=congrArg _ (V3 b 95 (by omega))
  rw [q1,q2]
  have t:∀ {x:Bool},Q9 b=x->(if (Q9 b&&(s.drop (i+1)).all Q9)=true then k1 s else k0 ())=if (x&&(s.drop (i+1)).all Q9)=true then k1 s else k0 ():=λh=>by rw [h]
  cases hl:Q9 b with
  | true=>
   rw [hb] at hl
   simp only [Bool.true_and]
   by_cases h1:b=45
   ·subst h1
    simp (disch:=decide) [ltI]
   ·by_cases h2:b=95
    ·subst h2
     simp (disch:=decide) [ltI]
    ·rcases hl with hl | hl | hl | hl
     ·rw [show ltI (b.toNat:Int) 97=false from A7,show ltI (122:Int) b.toNat=false from A7];rfl
     ·rw [show ltI (b.toNat:Int) 97=true from A9,show ltI (b.toNat:Int) 48=false from A7,show ltI (57:Int) b.toNat=false from A7];rfl
     ·exact absurd hl h1
     ·exact absurd hl h2
  | false=>
   have hn:¬ ((97<=b.toNat/\b.toNat<=122)\/(48<=b.toNat/\b.toNat<=57)\/b=45\/b=95):=λh=>by rw [hb.2 h] at hl;cases hl
   have n1:(b==45)=false:=by simpa using λh=>hn (.inr (.inr (.inl h)))
   have n2:(b==95)=false:=by simpa using λh=>hn (.inr (.inr (.inr h)))
   rw [n1,n2]
   simp only [Bool.not_false,cond_true,Bool.false_and,Bool.false_eq_true,if_false]
   by_cases h1:b.toNat<48
   ·rw [show ltI (b.toNat:Int) 97=true from A9,show ltI (b.toNat:Int) 48=true from A9];rfl
   ·by_cases h2:b.toNat<97
    ·rw [show ltI (b.toNat:Int) 97=true from A9,show ltI (b.toNat:Int) 48=false from A7,show ltI (57:Int) b.toNat=true from A9];rfl
    ·rw [show ltI (b.toNat:Int) 97=false from A7,show ltI (122:Int) b.toNat=true from A9,show ltI (b.toNat:Int) 48=false from A7,show ltI (57:Int) b.toNat=true from A9];rfl
theorem Ak6 {R:Type} {k0:Bool->Option R} (s:By) (h0:A1 s.length=true):Bj3 LF s k0=k0 (P3 s):=by
 have hs:=O0 h0
 have hLF:=E5
 unfold Bj3 P3
 by_cases h1:s=[]
 ·simp_all
 ·have hl:0<s.length:=List.length_pos_iff.2 h1
  have he:s.isEmpty=false:=by simpa using h1
  rw [A7,cond_false,he]
  by_cases h2:63<s.length
  ·rw [A9,show Nat.ble s.length 63=false by rw [Bool.eq_false_iff,ne_eq,Nat.ble_eq];omega]
   rfl
  ·rw [A7,cond_false,show Nat.ble s.length 63=true by rw [Nat.ble_eq];omega,L5]
   have q1:(bAt s 0==(45:Int))=(s.getD 0 0==45):=by rw [Ip];exact V3 _ 45 (by omega)
   have e1:A2 ((s.length:Int)-1)=((s.length-1:Nat):Int):=by rw [A5];omega
   rw [q1,e1]
   simp only [cond_true,vl]
   rw [L5,M6,show ((((s.getD (s.length-1) 0).toNat:Nat):Int)==45)=(s.getD (s.length-1) 0==45) from V3 _ 45 (by omega)]
   cases h3:(s.getD 0 0==45) with
   | true=>
    grind
   | false=>
    rw [show (s.getD 0 0 != 45)=true by unfold bne;rw [h3];rfl]
    simp only [cond_true,cond_false]
    cases h4:(s.getD (s.length-1) 0==45) with
    | true=>
     grind
    | false=>
     rw [show (s.getD (s.length-1) 0 != 45)=true by unfold bne;rw [h4];rfl]
     simp only [cond_false]
     refine Eq.trans (Ak5 s hs s.length 0 LF (by omega) (by omega)) ?_
     rw [List.drop_zero]
     cases h5:s.all Q9 with
     | false=>simp
     | true=>
      rw [if_pos rfl,h0,cond_true]
      simp only [Bool.not_false,Bool.true_and,Bool.and_true]
      show cond (!(xnB.isPrefixOf s)) _ _=_
      cases h6:xnB.isPrefixOf s with
      | false=>rfl
      | true=>
       have hc:Ye s xnB=s.drop 4:=by unfold Ye;rw [h6];rfl
       show cond (A1 (Ye s xnB).length) (k0 (Al (Ye s xnB))) none=_
       rw [hc,K7 (by rw [List.length_drop];omega)]
       rfl
abbrev B41 (kd:Int) (nm:By) (v4 a0 a1 a2 a3 a4 a5 a6 a7:Int):List PV:=[.s (.int .i64 kd),.s (.str nm),.s (.int .u32 v4),.s (.int .u16 a0),.s (.int .u16 a1),.s (.int .u16 a2),.s (.int .u16 a3),.s (.int .u16 a4),.s (.int .u16 a5),.s (.int .u16 a6),.s (.int .u16 a7)]
theorem NN {R:Type} {k0 k1:Unit->Option R}:∀ l:List By,(∀ x∈l,x.length<=1000000000)->Yp LF l k0 k1=if l.all P3 then k0 () else k1 ()
 | [],_=>rfl
 | x::r,h=>by
  rw [NM]
  unfold Vo
  rw [K7 (h x (by simp)),cond_true,List.all_cons]
  have ih:=NN (k0:=k0) (k1:=k1) r (λy hy=>h y (by simp [hy]))
  grind
theorem Bw9 (s:By) (h0:A1 s.length=true):∃ r H,hvn LF s (λ_=>rv (.s (.bool false)) [.box [.s (.bool false)]]) (λr0 b1=>rv (.s (.bool r0)) [.box [.s (.bool b1)],.box [.bad],.box [.bad],.box [.bad]])=rv r H/\r.stab [] H = .s (.bool (C5 s)):=by
 have hs:=O0 h0
 unfold hvn JH C5
 by_cases h1:253<s.length
 ·rw [A9,show Nat.ble s.length 253=false by rw [Bool.eq_false_iff,ne_eq,Nat.ble_eq];omega]
  exact ⟨_,_,rfl,rfl⟩
 ·rw [A7,cond_false,h0,cond_true,show Nat.ble s.length 253=true by rw [Nat.ble_eq];omega]
  cases h2:O2 s with
  | true=>exact ⟨_,_,rfl,rfl⟩
  | false=>
   rw [cond_false,show ((1:Nat)==1&&(0:Int)==(0:Int))=true from rfl,show ([46]:By).getD 0 0=46 from rfl,Bool.and_true,cond_true,NN _ (λx hx=>by have:=(Ks hx).2;omega)]
   cases h3:(pcs 46 s).all P3 with
   | true=>exact ⟨_,_,rfl,rfl⟩
   | false=>exact ⟨_,_,rfl,rfl⟩
theorem B51 (b0 b1 b2 b3 b4 b5 b6 b7:Nat):(n8 (b0:Int) b1 b2 b3 b4 b5 b6 b7==z8)=(((b0:Int)==0)&&(((b1:Int)==0)&&(((b2:Int)==0)&&(((b3:Int)==0)&&(((b4:Int)==0)&&(((b5:Int)==0)&&(((b6:Int)==0)&&(((b7:Int)==0)&&true)))))))):=by
 have e:n8 (b0:Int) b1 b2 b3 b4 b5 b6 b7=[b0,b1,b2,b3,b4,b5,b6,b7]:=rfl
 have q:∀ b:Nat,((b:Int)==0)=(b==0):=λb=>by grind
 rw [e]
 simp only [q,z8]
 rfl
theorem Ab7 (kd:Int) (nm:By) (v4 a0 a1 a2 a3 a4 a5 a6 a7:Int) (h0:A1 nm.length=true) (h1:ltN v4 4294967296=true) (h2:ok8 a0 a1 a2 a3 a4 a5 a6 a7=true) :
  ∃ r H,Ih LF kd nm v4 a0 a1 a2 a3 a4 a5 a6 a7 (λr0 n1 s2 n3 n4 n5 n6 n7 n8 n9 n10 n11 l12=>rv (.s (.bool r0)) [.box (B41 n1 s2 n3 n4 n5 n6 n7 n8 n9 n10 n11),.arr false 26 1 l12])=rv r H/\
   r.stab [] H = .s (.bool (M8 (mkH kd nm v4 (n8 a0 a1 a2 a3 a4 a5 a6 a7)))):=by
 obtain ⟨b0,b1,b2,b3,b4,b5,b6,b7,rfl,rfl,rfl,rfl,rfl,rfl,rfl,rfl,hb⟩:=Bk3 h2
 obtain ⟨v0,v1⟩:=H7.1 h1
 obtain ⟨v,rfl⟩:=Int.eq_ofNat_of_zero_le v0
 have qv:((v:Int)==0)=(v==0):=by
  rw [Bool.eq_iff_iff,beq_iff_eq,beq_iff_eq];omega
 have qn:(nm==([]:By))=nm.isEmpty:=by cases nm<;>rfl
 have hk:(mkH kd nm (v:Int) (n8 (b0:Int) b1 b2 b3 b4 b5 b6 b7)).kind=if ltN kd 4 then kd.toNat else 0:=rfl
 have hn:(mkH kd nm (v:Int) (n8 (b0:Int) b1 b2 b3 b4 b5 b6 b7)).name=nm:=rfl
 have hv:(mkH kd nm (v:Int) (n8 (b0:Int) b1 b2 b3 b4 b5 b6 b7)).v4=v:=Int.toNat_natCast v
 have h6:(mkH kd nm (v:Int) (n8 (b0:Int) b1 b2 b3 b4 b5 b6 b7)).v6=n8 (b0:Int) b1 b2 b3 b4 b5 b6 b7:=rfl
 unfold Ih M8
 rw [hk,hn,hv,h6,B51,qv,qn]
 by_cases k1:kd=1
 ·subst k1
  rw [show ((1:Int)==1)=true from rfl,cond_true,h0,cond_true,if_pos (by decide)]
  cases C5 nm with
  | false=>exact ⟨_,_,rfl,rfl⟩
  | true=>
   cases (v==0) with
   | false=>exact ⟨_,_,rfl,rfl⟩
   | true=>exact ⟨_,_,rfl,rfl⟩
 ·rw [show (kd==(1:Int))=false by simpa using k1,cond_false]
  by_cases k2:kd=2
  ·subst k2
   rw [show ((2:Int)==2)=true from rfl,cond_true,if_neg (by decide),if_pos (by decide)]
   cases nm.isEmpty with
   | false=>exact ⟨_,_,rfl,rfl⟩
   | true=>exact ⟨_,_,rfl,rfl⟩
  ·rw [show (kd==(2:Int))=false by simpa using k2,cond_false]
   by_cases k3:kd=3
   ·subst k3
    rw [show ((3:Int)==3)=true from rfl,cond_true,if_neg (by decide),if_neg (by decide),if_pos (by decide)]
    cases nm.isEmpty with
    | false=>exact ⟨_,_,rfl,rfl⟩
    | true=>exact ⟨_,_,rfl,rfl⟩
   ·rw [show (kd==(3:Int))=false by simpa using k3,cond_false]
    have hkk:(if ltN kd 4 then kd.toNat else 0)=0:=by
     split
     ·rename_i h
      have:=H7.1 h
      omega
     ·rfl
    rw [hkk]
    exact ⟨_,_,rfl,rfl⟩
theorem VM {R:Type} {k0:By->By->Int->Option R} (t p:By) (n:Int):A20 LF t p n k0=k0 t p n:=rfl
theorem Ao8 {R:Type} {k0:By->By->Option R} (t p:By):By6 LF t p k0=k0 t p:=rfl
theorem Ai3 {R:Type} {k0:By->Option R} (t:By):Bw6 LF t k0=k0 t:=rfl
theorem Ag8 {c:UInt8} {s:By} (h:c∉s):Lib.cut s [c]=(s,[],false):=by
 unfold Lib.cut
 rw [Mp h,if_neg (by decide)]
theorem Ay7 {c:UInt8} {p r:By} (h:c∉p):Lib.cut (p++c::r) [c]=(p,r,true):=by
 unfold Lib.cut
 rw [Sk h,Ge,Int.toNat_natCast,List.take_left,List.length_singleton]
 simp_all
theorem YX {σ R:Type} (yh:Yh σ) (c:UInt8):∀ (m:Nat) (t:By) (n:Nat) (s s':σ),t.length<=m->t.length<=1000000000->m<n->Q4 yh ((pcs c t).map λx=>([.s (.str x)]:List PV)) s=some s'->
  ∃ t' , (∃ s0:σ,∃ b:Bool,yh [.s (.str t')] s0=some (b,s')/\∀ (k0 k1:By->By->Int->σ->Option R),O4 yh LF n [c] t 0 s k0 k1=k0 [c] t' 0 s0)\/(∀ (k0 k1:By->By->Int->σ->Option R),O4 yh LF n [c] t 0 s k0 k1=k1 [c] t' 0 s'):=by
 intro m
 induction m with
 | zero=>
  intro t n s s' ht ht2 hn h
  obtain rfl:=List.length_eq_zero_iff.1 (Nat.le_zero.1 ht)
  obtain ⟨n,rfl⟩:∃ m,n=m+1:=⟨n-1,by omega⟩
  rw [Jo (by simp)] at h
  simp only [List.map_cons,List.map_nil,Q4] at h
  refine ⟨[],.inl ⟨s,?_⟩⟩
  have e:∀ (k0 k1:By->By->Int->σ->Option R),O4 yh LF (n+1) [c] [] 0 s k0 k1=k0 [c] [] 0 s:=λk0 k1=>by
   rw [O4]
   rw [Mp (by simp)]
   rfl
  cases hy:yh [.s (.str [])] s with
  | none=>rw [hy] at h;cases h
  | some q=>
   obtain ⟨b,s1⟩:=q
   rw [hy] at h
   have:s1=s':=by cases b<;>simpa using h
   subst this
   exact ⟨b,rfl,e⟩
 | succ m ih=>
  intro t n s s' ht ht2 hn h
  obtain ⟨n,rfl⟩:∃ m,n=m+1:=⟨n-1,by omega⟩
  rcases Et c t with hc | ⟨p,r,rfl,hc⟩
  ·rw [Jo hc] at h
   simp only [List.map_cons,List.map_nil,Q4] at h
   refine ⟨t,.inl ⟨s,?_⟩⟩
   have e:∀ (k0 k1:By->By->Int->σ->Option R),O4 yh LF (n+1) [c] t 0 s k0 k1=k0 [c] t 0 s:=λk0 k1=>by
    rw [O4]
    rw [Mp hc,K7 ht2]
    rfl
   cases hy:yh [.s (.str t)] s with
   | none=>rw [hy] at h;cases h
   | some q=>
    obtain ⟨b,s1⟩:=q
    rw [hy] at h
    have:s1=s':=by cases b<;>simpa using h
    subst this
    exact ⟨b,rfl,e⟩
  ·rw [Vw hc] at h
   simp only [List.map_cons,Q4] at h
   have hlen:(p++c::r).length=p.length+r.length+1:=by rw [List.length_append,List.length_cons];omega
   have e1:A2 ((p.length:Int)+0)=((p.length:Nat):Int):=by rw [A5];omega
   have e2:A2 ((p.length:Int)+(([c]:By).length:Int))=((p.length+1:Nat):Int):=by
    rw [E7 (by simp;omega) (by simp;omega)];simp
   have e3:cut (p++c::r) 0 (p.length:Int)=p:=by rw [Aq,Int.toNat_natCast,List.take_left]
   have e4:cut (p++c::r) ((p.length+1:Nat):Int) ((p++c::r).length:Int)=r:=by
    rw [N1,Int.toNat_natCast,show p++c::r=(p++[c])++r by simp,List.drop_left' (by simp)]
   have top:∀ (k0 k1:By->By->Int->σ->Option R),O4 yh LF (n+1) [c] (p++c::r) 0 s k0 k1=ydK (yh [.s (.str p)] s) λb s1=>cond (not b) (k1 [c] (p++c::r) 0 s1) (O4 yh LF n [c] r 0 s1 k0 k1):=λk0 k1=>by
    rw [O4]
    rw [Sk hc,K7 ht2,cond_true,A7,cond_false]
    simp only [vl,e1,e2,e3,e4]
    rw [Q5,cond_true,Q5]
    rfl
   cases hy:yh [.s (.str p)] s with
   | none=>rw [hy] at h;cases h
   | some q=>
    obtain ⟨b,s1⟩:=q
    rw [hy] at h top
    cases b with
    | false=>
     have:s1=s':=by simpa using h
     subst this
     exact ⟨p++c::r,.inr λk0 k1=>by rw [top];rfl⟩
    | true=>
     simp only at h
     obtain ⟨t',⟨s0,b,e,f⟩ | f⟩:=ih r n s1 s' (by omega) (by omega) (by omega) h
     ·exact ⟨t',.inl ⟨s0,b,e,λk0 k1=>by rw [top];exact f k0 k1⟩⟩
     ·exact ⟨t',.inr λk0 k1=>by rw [top];exact f k0 k1⟩
theorem YY {σ R:Type} (yh:Yh σ) (p t:By) (n:Int) (s s':σ) (h:(A1 t.length&&(p.length==1&&n==0))=true) (hr:Q4 yh ((pcs (p.getD 0 0) t).map λx=>([.s (.str x)]:List PV)) s=some s') :
  ∃ t',∀ (k0:By->By->Int->σ->Option R),PL yh LF p t n s k0=k0 p t' n s':=by
 have hLF:=E5
 simp only [Bool.and_eq_true,beq_iff_eq] at h
 obtain ⟨h1,h2,rfl⟩:=h
 obtain ⟨c,rfl⟩:=List.length_eq_one_iff.1 h2
 have ht:=O0 h1
 obtain ⟨t',⟨s0,b,e,f⟩ | f⟩:=YX (R:=R) yh c t.length t LF s s' (Nat.le_refl _) ht (by omega) hr
 ·refine ⟨t',λk0=>?_⟩
  unfold PL
  rw [show (((([c]:By).length:Nat):Int)==0)=false from rfl,cond_false]
  refine Eq.trans (f _ _) ?_
  rw [e]
  rfl
 ·refine ⟨t',λk0=>?_⟩
  unfold PL
  rw [show (((([c]:By).length:Nat):Int)==0)=false from rfl,cond_false]
  exact f _ _
theorem Yo {σ R:Type} (yh:Yh σ):∀ (l:List By) (t:By) (n:Nat) (s s':σ),VN t->pcs 46 t=l->l.length<n->Q4 yh ((Y6 l).map λx=>([.s (.str x)]:List PV)) s=some s'->
  ∃ t',∀ (k0:By->σ->Option R),X5 yh LF n t s k0=k0 t' s'
 | [],t,n,s,s',hv,hp,hn,hr=>absurd hp (Jn 46 t)
 | [x],t,n,s,s',hv,hp,hn,hr=>by
  obtain ⟨n,rfl⟩:∃ m,n=m+1:=⟨n-1,by omega⟩
  simp only [Y6,List.map_nil,Q4,Option.some.injEq] at hr
  subst hr
  have hno:(46:UInt8)∉t:=by
   intro h
   have h1:=Hk 46 t
   rw [hp] at h1
   have:=List.count_pos_iff.2 h
   simp at h1
   omega
  refine ⟨t,λk0=>?_⟩
  rw [X5]
  rw [Ag8 hno,K7 (by have:=hv.le;omega)]
  rfl
 | x::y::r,t,n,s,s',hv,hp,hn,hr=>by
  obtain ⟨n,rfl⟩:∃ m,n=m+1:=⟨n-1,by omega⟩
  obtain ⟨q1,q2,q3⟩:=hv.super hp
  have hx:(46:UInt8)∉x:=(Ks (s:=t) (x:=x) (by rw [hp];simp)).1
  simp only [Y6,List.map_cons,Q4] at hr
  have top:∀ (k0:By->σ->Option R),X5 yh LF (n+1) t s k0=ydK (yh [.s (.str (Lib.join (y::r) [46]))] s) λb s1=>cond (not b) (k0 t s1) (X5 yh LF n (Lib.join (y::r) [46]) s1 k0):=λk0=>by
   rw [X5]
   have:Lib.cut t [46]=(x,Lib.join (y::r) [46],true):=by rw [q1];exact Ay7 hx
   rw [this,K7 (by have:=hv.le;omega)]
   rfl
  cases hy:yh [.s (.str (Lib.join (y::r) [46]))] s with
  | none=>rw [hy] at hr;cases hr
  | some q=>
   obtain ⟨b,s1⟩:=q
   rw [hy] at hr top
   cases b with
   | false=>
    have:s1=s':=by simpa using hr
    subst this
    exact ⟨t,λk0=>by rw [top];rfl⟩
   | true=>
    simp only at hr
    obtain ⟨t',f⟩:=Yo yh (y::r) (Lib.join (y::r) [46]) n s1 s' q2 q3 (by simp only [List.length_cons] at hn ⊢;omega) hr
    exact ⟨t',λk0=>by rw [top];exact f k0⟩
theorem US {σ R:Type} (yh:Yh σ) (t:By) (s s':σ) (h:A1 t.length=true) (hr:Q4 yh ((E2 t).map λx=>([.s (.str x)]:List PV)) s=some s') :
  ∃ t',∀ (k0:By->σ->Option R),NJ yh LF t s k0=k0 t' s':=by
 have hLF:=E5
 have ht:=O0 h
 unfold E2 at hr
 cases hv:C5 t with
 | false=>
  rw [hv] at hr
  simp only [Bool.false_eq_true,if_false,List.map_nil,Q4,Option.some.injEq] at hr
  subst hr
  refine ⟨t,λk0=>?_⟩
  unfold NJ
  rw [h,hv]
  rfl
 | true=>
  rw [hv,if_pos rfl] at hr
  have hpl:=Hk 46 t
  have hcl:=Fw 46 t
  obtain ⟨t',f⟩:=Yo (R:=R) yh _ t LF s s' (Dt.1 hv) rfl (by omega) hr
  refine ⟨t',λk0=>?_⟩
  unfold NJ
  rw [h,hv]
  exact f _
set_option maxRecDepth 100000
def JG:List Ty:=[.int .i64,.str,.int .u32,.int .u16,.int .u16,.int .u16,.int .u16,.int .u16,.int .u16,.int .u16,.int .u16]
def UQ (kd:Int) (nm:By) (v4 a0 a1 a2 a3 a4 a5 a6 a7:Int):List SV:=[.int .i64 kd,.str nm,.int .u32 v4,.int .u16 a0,.int .u16 a1,.int .u16 a2,.int .u16 a3,.int .u16 a4,.int .u16 a5,.int .u16 a6,.int .u16 a7]
theorem Jw {x:SV} (h:(Ty.int .u16).of x):∃ n,x = .int .u16 n/\ltN n 65536=true:=by
 obtain ⟨n,rfl,h1,h2⟩:=h
 simp [IntKind.min,IntKind.max,IntKind.signed,IntKind.bits] at h1 h2
 exact ⟨n,rfl,H7.2 ⟨h1,by omega⟩⟩
theorem UR {l:List SV} (h:Ty.ofL JG l):∃ kd nm v4 a0 a1 a2 a3 a4 a5 a6 a7,l=UQ kd nm v4 a0 a1 a2 a3 a4 a5 a6 a7/\nm.length<=maxLen/\ltN v4 4294967296=true/\ok8 a0 a1 a2 a3 a4 a5 a6 a7=true/\(-9223372036854775808<=kd/\kd<9223372036854775808):=by
 simp only [JG,Ty.ofL] at h
 obtain ⟨_,_,rfl,⟨kd,rfl,k1,k2⟩,_,_,rfl,⟨nm,rfl,hn⟩,_,_,rfl,⟨v4,rfl,v1,v2⟩,_,_,rfl,h0,_,_,rfl,h1,_,_,rfl,h2,_,_,rfl,h3,_,_,rfl,h4,_,_,rfl,h5,_,_,rfl,h6,_,_,rfl,h7,rfl⟩:=h
 simp [IntKind.min,IntKind.max,IntKind.signed,IntKind.bits] at v1 v2 k1 k2
 obtain ⟨a0,rfl,q0⟩:=Jw h0
 obtain ⟨a1,rfl,q1⟩:=Jw h1
 obtain ⟨a2,rfl,q2⟩:=Jw h2
 obtain ⟨a3,rfl,q3⟩:=Jw h3
 obtain ⟨a4,rfl,q4⟩:=Jw h4
 obtain ⟨a5,rfl,q5⟩:=Jw h5
 obtain ⟨a6,rfl,q6⟩:=Jw h6
 obtain ⟨a7,rfl,q7⟩:=Jw h7
 exact ⟨kd,nm,v4,a0,a1,a2,a3,a4,a5,a6,a7,rfl,hn,H7.2 ⟨v1,by omega⟩,by simp [ok8,q0,q1,q2,q3,q4,q5,q6,q7],by omega⟩
theorem At9 {P:Program} {t:Nat} {v:PV} (h:Na P t v) (e:Bi P 20 t=some JG) (ha:Io P t=true) :
  ∃ kd nm v4 a0 a1 a2 a3 a4 a5 a6 a7,v = .agg ((UQ kd nm v4 a0 a1 a2 a3 a4 a5 a6 a7).map .s)/\nm.length<=maxLen/\ltN v4 4294967296=true/\ok8 a0 a1 a2 a3 a4 a5 a6 a7=true/\(-9223372036854775808<=kd/\kd<9223372036854775808):=by
 obtain ⟨tys,l,h1,h2,h3⟩:=h
 rw [e] at h1
 obtain rfl:=Option.some.inj h1
 obtain ⟨kd,nm,v4,a0,a1,a2,a3,a4,a5,a6,a7,rfl,q⟩:=UR h2
 rcases h3 with ⟨_,rfl⟩ | ⟨h3,_⟩
 ·exact ⟨kd,nm,v4,a0,a1,a2,a3,a4,a5,a6,a7,rfl,q⟩
 ·rw [ha] at h3;cases h3
def Tru (x:Option (PV × List Blk × Unit)):Prop:=∃ H,x=some (.s (.bool true),H,())
theorem Az4 {els:LL} (h:∀ el∈els,Ty.ofL [.str,.bool] el):els.all D1=true:=by
 rw [List.all_eq_true]
 intro el he
 have:=h el he
 simp only [Ty.ofL,Ty.of] at this
 obtain ⟨_,_,rfl,⟨l,rfl,_⟩,_,_,rfl,⟨b,rfl⟩,rfl⟩:=this
 rfl
theorem A36 {els:LL} (h:∀ el∈els,Ty.ofL [.str,.bool,.int .i64] el):els.all F1=true:=by
 rw [List.all_eq_true]
 intro el he
 have:=h el he
 simp only [Ty.ofL,Ty.of] at this
 obtain ⟨_,_,rfl,⟨l,rfl,_⟩,_,_,rfl,⟨b,rfl⟩,_,_,rfl,⟨n,rfl,h1,h2⟩,rfl⟩:=this
 have h1:-9223372036854775808<=n:=h1
 have h2:n<=9223372036854775807:=h2
 exact A05.2 ⟨h1,by omega⟩
theorem At8 {P:Program} {t:Nat} {v:PV} (h:Na P t v) (e:Bi P 20 t=some [.slice [.str,.bool]]) (ha:Io P t=false):∃ z l,v = .s (.sl z false 2 l)/\l.all D1=true/\N7 z l=true:=by
 obtain ⟨x,rfl,h5⟩:=IA h e ha
 simp only [Ty.of,List.length_cons,List.length_nil] at h5
 rcases h5 with rfl | ⟨els,rfl,hl,hall⟩
 ·exact ⟨true,[],rfl,rfl,rfl⟩
 ·exact ⟨false,els,rfl,Az4 hall,rfl⟩
theorem Au0 {P:Program} {t:Nat} {v:PV} (h:Na P t v) (e:Bi P 20 t=some [.slice [.str,.bool,.int .i64]]) (ha:Io P t=false):∃ z l,v = .s (.sl z false 3 l)/\l.all F1=true/\N7 z l=true:=by
 obtain ⟨x,rfl,h5⟩:=IA h e ha
 simp only [Ty.of,List.length_cons,List.length_nil] at h5
 rcases h5 with rfl | ⟨els,rfl,hl,hall⟩
 ·exact ⟨true,[],rfl,rfl,rfl⟩
 ·exact ⟨false,els,rfl,A36 hall,rfl⟩
theorem EN {n:Int} {l:LL} (hn:n<=1000) (h:Be n l=true):l.all smE=true/\A1 l.length=true:=by
 unfold Be at h
 rw [Bool.and_eq_true,List.all_eq_true] at h
 refine ⟨List.all_eq_true.2 λel he=>?_,?_⟩
 ·have:=h.2 el he
  rw [R5] at this
  unfold smE
  exact K7 (by simp at this;omega)
 ·have:=h.1
  rw [R5] at this
  exact K7 (by simp at this;omega)
end
section
open Go Go.Op
theorem Bj9 {E:List Ent} (h:Bl E=0):E.length<=1000/\(∀ e∈E,C5 e.1=true)/\Mn (E.map Prod.fst)=false:=by
 unfold Bl at h
 split at h
 ·cases h
 ·split at h
  ·cases h
  ·split at h
   ·cases h
   ·rename_i h1 h2 h3
    refine ⟨by omega,λe he=>?_,by simpa using h3⟩
    cases hv:C5 e.1 with
    | true=>rfl
    | false=>
     exact absurd (List.any_eq_true.2 ⟨e,he,by rw [hv];rfl⟩) h2
theorem Hd {E:List Ent} {e:Ent}:e∈isE E↔e∈E:=(Jd E).mem_iff
set_option maxRecDepth 100000
theorem Bo1 (h:By) (b:Bool) (s:By) (h0:A1 h.length=true) (h1:A1 s.length=true):∃ r H,A57 h b s=rv r H/\r.stab [] H=pB (Bc s (A23 h b)):=by
 unfold A57 Bn9 Bc A23
 rw [h0,h1]
 simp only [cond_true]
 cases C5 s<;>cases (h==s)<;>cases b<;>exact ⟨_,_,rfl,rfl⟩
theorem Bm7 (h:By) (b:Bool) (e:Int) (now:Int) (s:By) (h0:A1 h.length=true) (h1:A1 s.length=true):∃ r H,A44 h b e now s=rv r H/\r.stab [] H=pB (Mm now s (A26 h b e)):=by
 unfold A44 Bm5 Mm A26 NU
 rw [h0,h1]
 simp only [cond_true]
 cases (ltI now e)<;>cases C5 s<;>cases (h==s)<;>cases b<;>exact ⟨_,_,rfl,rfl⟩
theorem EE {R:Type} (z t:Bool) (E:List Ent) (s:By) (k0:By->Bool->Option R) (hs:(D6 E).all smE=true) (h1:A1 s.length=true) (hl:E.length<=1000000000):∀ (r i m:Nat) (b:Ent),i+r=E.length->r<m->
  Bp LF m z t (D6 E) s (i:Int) b.1 b.2 k0=k0 ((E.drop i).foldl (λb e=>if Bc s e&&Nat.blt b.1.length e.1.length then e else b) b).1 ((E.drop i).foldl (λb e=>if Bc s e&&Nat.blt b.1.length e.1.length then e else b) b).2
 | 0,i,m,b,hi,hm=>by
  obtain ⟨m,rfl⟩:∃ q,m=q+1:=⟨m-1,by omega⟩
  rw [Bp,E9 (by rw [D4];omega),List.drop_of_length_le (by omega)]
  rfl
 | r+1,i,m,b,hi,hm=>by
  obtain ⟨m,rfl⟩:∃ q,m=q+1:=⟨m-1,by omega⟩
  have hlt:i<E.length:=by omega
  have e2:A2 ((i:Int)+1)=((i+1:Nat):Int):=by rw [A5];rfl
  rw [Bp,C6 (by rw [D4];omega),K5 (by omega) (by rw [D4];omega),Int.toNat_natCast,Oy hlt,Oz hlt,Jb hlt,A01 hlt,Wc hs hlt,h1,e2,X3 noE hlt,List.foldl_cons]
  simp only [cond_true]
  have ih:=λb=>EE z t E s k0 hs h1 hl r (i+1) m b (by omega) (by omega)
  have eb:ltI (b.1.length:Int) ((E.getD i noE).1.length:Int)=Nat.blt b.1.length (E.getD i noE).1.length:=by
   rw [R5,Bool.eq_iff_iff,decide_eq_true_eq,Nat.blt_eq]
   omega
  rw [eb,show A23 (E.getD i noE).1 (E.getD i noE).2=E.getD i noE from rfl]
  cases c1:Bc s (E.getD i noE) with
  | false=>exact ih b
  | true=>
   cases c2:Nat.blt b.1.length (E.getD i noE).1.length with
   | false=>exact ih b
   | true=>exact ih (E.getD i noE)
theorem Bo4 (z t:Bool) (l:LL) (s:By) (h0:l.all D1=true) (h1:l.all smE=true) (h2:A1 l.length=true) (h3:A1 s.length=true) :
  ∃ r H,A58 z t l s=rv r H/\r.stab [0,0] H = .tup [.agg [pS (L0 (l.map A6) s).1,pB (L0 (l.map A6) s).2],pB (not (List.isEmpty (L0 (l.map A6) s).1))]:=by
 have hLF:=E5
 have hl:=O0 h2
 have hr:=Ec h0
 generalize hE:l.map A6=E at hr
 subst hr
 rw [D4] at hl
 unfold A58 Bo2
 have:=EE z t E s (λs'0 b'1=>some (PV.tup [.agg [pS s'0,pB b'1],pB (not (s'0==[]))],[(Blk.box [(PV.s (SV.str s'0)),(PV.s (SV.bool b'1))]),(Blk.box [(PV.s (SV.str s'0)),(PV.s (SV.bool b'1))])],())) h1 h3 hl E.length 0 LF noE (by omega) (by omega)
 rw [List.drop_zero] at this
 refine ⟨_,_,this,?_⟩
 rw [Kj] at hE
 show PV.tup [.agg [pS (L0 E s).1,pB (L0 E s).2],pB (not ((L0 E s).1==[]))]=_
 rw [show ((L0 E s).1==[])=(L0 E s).1.isEmpty by cases (L0 E s).1<;>rfl]
theorem DZ {R:Type} (now:Int) (z t:Bool) (T:List O6) (n5:Int) (s:By) (n7 n8 n9 n10 n11 n12 n13 n14 n15:Int) (s19:By) (b20:Bool) (k0:Int->By->Int->Int->Int->Int->Int->Int->Int->Int->Int->Int->By->Bool->By->Bool->Option R) (hs:(Y1 T).all smE=true) (h1:A1 s.length=true) (hl:T.length<=1000000000):∀ (r i m:Nat) (c:Lb),i+r=T.length->r<m->
  U6 LF m now z t (Y1 T) (i:Int) n5 s n7 n8 n9 n10 n11 n12 n13 n14 n15 c.1 c.2.1 c.2.2 s19 b20 k0 =
   (λc:Lb=>k0 n5 s n7 n8 n9 n10 n11 n12 n13 n14 n15 c.1 c.2.1 c.2.2 s19 b20) ((T.drop i).foldl (λc p=>if Mm now s p&&Nat.ble c.2.1.length p.1.length then (1,p.1,p.1==s) else c) c)
 | 0,i,m,b,hi,hm=>by
  obtain ⟨m,rfl⟩:∃ q,m=q+1:=⟨m-1,by omega⟩
  rw [U6,E9 (by rw [J3];omega),List.drop_of_length_le (by omega)]
  rfl
 | r+1,i,m,c,hi,hm=>by
  obtain ⟨m,rfl⟩:∃ q,m=q+1:=⟨m-1,by omega⟩
  have hlt:i<T.length:=by omega
  have e2:A2 ((i:Int)+1)=((i+1:Nat):Int):=by rw [A5];rfl
  rw [U6,C6 (by rw [J3];omega),K5 (by omega) (by rw [J3];omega),Int.toNat_natCast,Pa hlt,Pb hlt,Jc hlt,UM hlt,UL hlt,X3 noP hlt,List.foldl_cons]
  simp only [cond_true,vl]
  rw [Py hs hlt,h1]
  simp only [cond_true]
  have ih:=λc=>DZ now z t T n5 s n7 n8 n9 n10 n11 n12 n13 n14 n15 s19 b20 k0 hs h1 hl r (i+1) m c (by omega) (by omega)
  have eb:(!ltI ((T.getD i noP).1.length:Int) (c.2.1.length:Int))=Nat.ble c.2.1.length (T.getD i noP).1.length:=by
   rw [R5,Bool.eq_iff_iff,Bool.not_eq_true',decide_eq_false_iff_not,Nat.ble_eq]
   omega
  rw [eb,show A26 (T.getD i noP).1 (T.getD i noP).2.1 (T.getD i noP).2.2=T.getD i noP from rfl]
  unfold Pk
  rw [K5 (by omega) (by rw [J3];omega),Int.toNat_natCast,Pb hlt,Jc hlt]
  simp only [cond_true,cond_false,vl,e2]
  cases c1:Mm now s (T.getD i noP) with
  | false=>exact ih c
  | true=>
   cases c2:Nat.ble c.2.1.length (T.getD i noP).1.length with
   | false=>exact ih c
   | true=>exact ih (1,(T.getD i noP).1,(T.getD i noP).1==s)
theorem ON {R:Type} (now:Int) (z t:Bool) (T:List O6) (n5:Int) (s:By) (n7 n8 n9 n10 n11 n12 n13 n14 n15:Int) (s19:By) (b20:Bool) (k0:Int->By->Int->Int->Int->Int->Int->Int->Int->Int->Int->Int->By->Bool->By->Bool->Option R) (hs:(Y1 T).all smE=true) (h1:A1 s.length=true) (hl:T.length<=1000000000) (c:Lb) :
  U6 LF LF now z t (Y1 T) 0 n5 s n7 n8 n9 n10 n11 n12 n13 n14 n15 c.1 c.2.1 c.2.2 s19 b20 k0 =
   (λc:Lb=>k0 n5 s n7 n8 n9 n10 n11 n12 n13 n14 n15 c.1 c.2.1 c.2.2 s19 b20) (T.foldl (λc p=>if Mm now s p&&Nat.ble c.2.1.length p.1.length then (1,p.1,p.1==s) else c) c):=by
 have hLF:=E5
 have:=DZ now z t T n5 s n7 n8 n9 n10 n11 n12 n13 n14 n15 s19 b20 k0 hs h1 hl T.length 0 LF c (by omega) (by omega)
 rwa [List.drop_zero] at this
theorem Bn0 (now:Int) (tz tt:Bool) (t:LL) (lz lt:Bool) (l:LL) (kd:Int) (nm:By) (v4 a0 a1 a2 a3 a4 a5 a6 a7:Int) (h0:t.all F1=true) (h1:t.all smE=true) (h2:A1 t.length=true) (h3:l.all D1=true) (h4:l.all smE=true) (h5:A1 l.length=true) (g0:A1 nm.length=true) (g1:ltN v4 4294967296=true) (g2:ok8 a0 a1 a2 a3 a4 a5 a6 a7=true) :
  ∃ r H,A46 now tz tt t lz lt l kd nm v4 a0 a1 a2 a3 a4 a5 a6 a7=rv r H/\r.stab [] H=gC3 (Jp now (t.map B0) (l.map A6) kd (mkH kd nm v4 (n8 a0 a1 a2 a3 a4 a5 a6 a7))):=by
 have hLF:=E5
 have hl:=O0 h2
 have hr:=Pf h0
 generalize hT:t.map B0=T at hr
 subst hr
 rw [J3] at hl
 unfold A46 A45 Jp
 rw [g0,g1,g2,h3,h4,h5]
 simp only [cond_true,vl]
 by_cases hk:kd=1
 ·subst hk
  cases hv:M8 (mkH 1 nm v4 (n8 a0 a1 a2 a3 a4 a5 a6 a7)) with
  | false=>exact ⟨_,_,rfl,rfl⟩
  | true=>
   simp only [Bool.not_true,cond_true,cond_false,show ((1:Int) != 1)=false from rfl,show ((1:Int)==1)=true from rfl]
   show ∃ (r:PV) (H:List Blk),_/\r.stab [] H=gC3 (OO now T (l.map A6) nm)
   unfold OO
   generalize L0 (l.map A6) nm=b
   cases hb:b.1.isEmpty with
   | false=>
    simp only [Bool.not_false,cond_true,Bool.false_eq_true,if_false]
    exact ⟨_,_,ON now tz tt T 1 nm v4 a0 a1 a2 a3 a4 a5 a6 a7 b.1 b.2 _ h1 g0 hl (2,b.1,b.1==nm),rfl⟩
   | true=>
    simp only [Bool.not_true,cond_false,if_true]
    exact ⟨_,_,ON now tz tt T 1 nm v4 a0 a1 a2 a3 a4 a5 a6 a7 b.1 b.2 _ h1 g0 hl noC,rfl⟩
 ·rw [show (kd != 1)=true by simpa using hk,show (kd==1)=false by simpa using hk]
  cases hv:M8 (mkH kd nm v4 (n8 a0 a1 a2 a3 a4 a5 a6 a7))<;>exact ⟨_,_,rfl,rfl⟩
theorem DJ {R:Type} (z t:Bool) (T:List O6) (k0 k1:Unit->Option R) (hl:T.length<=1000000000):∀ (r i m:Nat),i+r=T.length->r<m->
  Hg LF m z t (Y1 T) (i:Int) k0 k1=cond ((Y1 (T.drop i)).all λel=>!ltI 300 (elS el).length) (k1 ()) (k0 ())
 | 0,i,m,hi,hm=>by
  obtain ⟨m,rfl⟩:∃ q,m=q+1:=⟨m-1,by omega⟩
  rw [Hg,E9 (by rw [J3];omega),List.drop_of_length_le (by omega)]
  rfl
 | r+1,i,m,hi,hm=>by
  obtain ⟨m,rfl⟩:∃ q,m=q+1:=⟨m-1,by omega⟩
  have hlt:i<T.length:=by omega
  have e2:A2 ((i:Int)+1)=((i+1:Nat):Int):=by rw [A5];rfl
  rw [Hg,C6 (by rw [J3];omega),K5 (by omega) (by rw [J3];omega),Int.toNat_natCast,Pb hlt,Jc hlt,e2,DJ z t T k0 k1 hl r (i+1) m (by omega) (by omega),X3 noP hlt]
  simp only [cond_true]
  show _=cond ((!ltI 300 ((T.getD i noP).1.length:Nat))&&(Y1 (T.drop (i+1))).all λel=>!ltI 300 (elS el).length) (k1 ()) (k0 ())
  cases ltI 300 ((T.getD i noP).1.length:Nat)<;>rfl
theorem Aj1 {R:Type} {k0:Bool->Option R} (z t:Bool) (l:LL) (n:Int) (h0:l.all F1=true) (hn:ltI n 1001=true):Bh2 LF z t l n k0=k0 (Be n l):=by
 have hLF:=E5
 rw [R5,decide_eq_true_eq] at hn
 have hr:=Pf h0
 generalize hE:l.map B0=T at hr
 subst hr
 unfold Bh2 Be
 cases c:ltI n ((Y1 T).length:Nat) with
 | true=>rfl
 | false=>
  rw [R5,decide_eq_false_iff_not,J3] at c
  have:=DJ z t T (λ_=>k0 false) (λ_=>k0 true) (by omega) T.length 0 LF (by omega) (by omega)
  rw [List.drop_zero] at this
  refine this.trans ?_
  rw [Bool.not_false,Bool.true_and]
  cases (Y1 T).all λel=>!ltI 300 (elS el).length<;>rfl
theorem DI {R:Type} (z t:Bool) (T:List Ent) (k0 k1:Unit->Option R) (hl:T.length<=1000000000):∀ (r i m:Nat),i+r=T.length->r<m->
  Hf LF m z t (D6 T) (i:Int) k0 k1=cond ((D6 (T.drop i)).all λel=>!ltI 300 (elS el).length) (k1 ()) (k0 ())
 | 0,i,m,hi,hm=>by
  obtain ⟨m,rfl⟩:∃ q,m=q+1:=⟨m-1,by omega⟩
  rw [Hf,E9 (by rw [D4];omega),List.drop_of_length_le (by omega)]
  rfl
 | r+1,i,m,hi,hm=>by
  obtain ⟨m,rfl⟩:∃ q,m=q+1:=⟨m-1,by omega⟩
  have hlt:i<T.length:=by omega
  have e2:A2 ((i:Int)+1)=((i+1:Nat):Int):=by rw [A5];rfl
  rw [Hf,C6 (by rw [D4];omega),K5 (by omega) (by rw [D4];omega),Int.toNat_natCast,Oz hlt,Jb hlt,e2,DI z t T k0 k1 hl r (i+1) m (by omega) (by omega),X3 noE hlt]
  simp only [cond_true]
  show _=cond ((!ltI 300 ((T.getD i noE).1.length:Nat))&&(D6 (T.drop (i+1))).all λel=>!ltI 300 (elS el).length) (k1 ()) (k0 ())
  cases ltI 300 ((T.getD i noE).1.length:Nat)<;>rfl
theorem Aj0 {R:Type} {k0:Bool->Option R} (z t:Bool) (l:LL) (n:Int) (h0:l.all D1=true) (hn:ltI n 1001=true):Bh0 LF z t l n k0=k0 (Be n l):=by
 have hLF:=E5
 rw [R5,decide_eq_true_eq] at hn
 have hr:=Ec h0
 generalize hE:l.map A6=T at hr
 subst hr
 unfold Bh0 Be
 cases c:ltI n ((D6 T).length:Nat) with
 | true=>rfl
 | false=>
  rw [R5,decide_eq_false_iff_not,D4] at c
  have:=DI z t T (λ_=>k0 false) (λ_=>k0 true) (by omega) T.length 0 LF (by omega) (by omega)
  rw [List.drop_zero] at this
  refine this.trans ?_
  rw [Bool.not_false,Bool.true_and]
  cases (D6 T).all λel=>!ltI 300 (elS el).length<;>rfl
theorem Vt (tz tt:Bool) (t:LL) (lz lt:Bool) (l:LL) (h0:t.all F1=true) (h1:t.all smE=true) (h2:A1 t.length=true) (h3:l.all D1=true) (h4:l.all smE=true) (h5:A1 l.length=true) (h6:N7 tz t=true) (h7:N7 lz l=true) {b:Bool} (hb:(X8 1000 (t.map B0)==0)=b) {c:Bool} (hc:(Bl (l.map A6)==0)=c) :
  ∃ r H,A22 tz tt t lz lt l=rv r H/\r.stabQ [0,0,0] [] H=cond b (cond c (.tup [.s (.sp [[.sl tz tz 3 t,.int .i64 1000]] 0 0),.s (.sp [[.sl lz lz 2 (D6 (isE (l.map A6)))]] 0 0),pB true]) (.tup [.s (.sp [[.sl tz tz 3 t,.int .i64 1000]] 0 0),.s .nilp,pB false]))
   (cond c (.tup [.s .nilp,.s (.sp [[.sl lz lz 2 (D6 (isE (l.map A6)))]] 0 0),pB false]) (.tup [.s .nilp,.s .nilp,pB false])):=by
 unfold A22 Bj2
 rw [h0,h1,h2,h3,h4,h5,h6,h7,hb,hc,show ((ltI 0 1000)&&(ltI 1000 1001))=true from rfl]
 simp only [cond_true,vl]
 cases b with
 | true=>
  cases c with
  | true=>exact ⟨_,_,rfl,rfl⟩
  | false=>
   have:Bl (l.map A6)≠0:=by simpa using hc
   rw [show (((Bl (l.map A6):Nat):Int)==0)=false by rw [beq_eq_false_iff_ne];omega]
   exact ⟨_,_,rfl,rfl⟩
 | false=>
  have:X8 1000 (t.map B0)≠0:=by simpa using hb
  rw [show (((X8 1000 (t.map B0):Nat):Int)==0)=false by rw [beq_eq_false_iff_ne];omega]
  cases c with
  | true=>exact ⟨_,_,rfl,rfl⟩
  | false=>exact ⟨_,_,rfl,rfl⟩
theorem Xr (l:List Ent) (s:By):(L0 l s=noE/\∀ x∈l,Bc s x=false)\/∃ x∈l,Bc s x=true/\L0 l s=x/\∀ y∈l,Bc s y=true->y.1.length<=x.1.length:=by
 have hb:=Gd (Bc s) (λx:Ent=>x.1.length) id (λx:Ent=>x.1.length) (λ_=>rfl) (λa b=>Nat.blt b a) (λa b h=>Nat.le_of_lt (U3.1 h)) (λa b h=>by
  apply Nat.not_lt.1;intro k;rw [U3.2 k] at h;cases h) l noE
 rcases hb with ⟨e,k⟩ | ⟨x,hx,c,e,_,m,_⟩
 ·refine .inl ⟨e,λx hx=>?_⟩
  cases c:Bc s x with
  | false=>rfl
  | true=>
   have h0:0<x.1.length:=List.length_pos_iff.2 (Fy (H9 c))
   have:=k x hx c
   rw [show Nat.blt noE.1.length x.1.length=true from U3.2 h0] at this;cases this
 ·exact .inr ⟨x,hx,c,e,m⟩
theorem RP {E:List Ent} (hd:Mn (E.map Prod.fst)=false) (s:By):L0 (isE E) s=L0 E s:=by
 rcases Xr (isE E) s with ⟨e1,k1⟩ | ⟨x,hx,c1,e1,m1⟩<;>rcases Xr E s with ⟨e2,k2⟩ | ⟨y,hy,c2,e2,m2⟩
 ·rw [e1,e2]
 ·rw [k1 y (Hd.2 hy)] at c2;cases c2
 ·rw [k2 x (Hd.1 hx)] at c1;cases c1
 ·rw [e1,e2]
  exact Ng (Ab9 hd) hx (Hd.2 hy) (Fx (H9 c1) (H9 c2) (Nat.le_antisymm (m2 x (Hd.1 hx) c1) (m1 y (Hd.2 hy) c2)))
theorem JO:∀ (prev:Option By) (T:List O6),JN prev T=0->(∀ p∈T,KB p.1 p.2.2=true)/\asc ((match prev with | none=>[] | some q=>[q])++T.map Prod.fst)=true
 | none,[],_=>⟨λp hp=>(by cases hp),rfl⟩
 | some q,[],_=>⟨λp hp=>(by cases hp),rfl⟩
 | prev,p::r,h=>by
  unfold JN at h
  cases hv:KB p.1 p.2.2 with
  | false=>rw [hv] at h;simp at h
  | true=>
   rw [hv,if_pos rfl] at h
   cases prev with
   | none=>
    obtain ⟨a,b⟩:=JO (some p.1) r h
    refine ⟨λx hx=>?_,b⟩
    rcases List.mem_cons.1 hx with rfl | hx
    ·exact hv
    ·exact a x hx
   | some q=>
    dsimp only at h
    cases hn:N5 q p.1 with
    | false=>rw [hn] at h;simp at h
    | true=>
     rw [hn,if_pos rfl] at h
     obtain ⟨a,b⟩:=JO (some p.1) r h
     refine ⟨λx hx=>?_,?_⟩
     ·rcases List.mem_cons.1 hx with rfl | hx
      ·exact hv
      ·exact a x hx
     ·show (N5 q p.1&&asc (p.1::r.map Prod.fst))=true
      rw [hn,Bool.true_and]
      exact b
theorem Bi9 {cp:Int} {T:List O6} (h:X8 cp T=0):(∀ p∈T,KB p.1 p.2.2=true)/\asc (T.map Prod.fst)=true:=by
 unfold X8 at h
 cases c:ltI cp (T.length:Nat) with
 | true=>rw [c] at h;cases h
 | false=>
  rw [c] at h
  exact JO none T h
theorem ZG {nm:By} {v4:Int} {a:List Nat} (h:M8 (mkH 1 nm v4 a)=true):C5 nm=true:=by
 unfold M8 mkH at h
 have h:(C5 nm=true/\v4<=0)/\a=z8:=by simpa [ltN] using h
 exact h.1.1
theorem MZ {now:Int} {T:List O6} {E:List Ent} (hT:asc (T.map Prod.fst)=true) (hE:Bl E=0) (kd:Int) (nm:By) (v4:Int) (a:List Nat):E0 now T (isE E) kd (mkH kd nm v4 a)=Jp now T E kd (mkH kd nm v4 a):=by
 obtain ⟨_,hv,hd⟩:=Bj9 hE
 unfold E0 Jp
 by_cases hk:kd=1
 ·subst hk
  rw [show ((1:Int)==1)=true from rfl,cond_true,cond_true]
  cases hh:M8 (mkH 1 nm v4 a) with
  | false=>rfl
  | true=>
   rw [cond_true,cond_true]
   show Da now T (isE E) nm=OO now T E nm
   rw [TX hT (Ab9 hd) (λx hx=>hv x (Hd.1 hx)) (ZG hh)]
   unfold OO
   rw [RP hd]
 ·rw [show (kd==1)=false by simpa using hk]
  rfl
theorem Ah8 (now:Int) (kd:Int) (h:LI):E0 now [] [] kd h=noC:=by
 unfold E0
 cases (kd==1) with
 | false=>rfl
 | true=>
  cases M8 h with
  | false=>rfl
  | true=>
   show Da now [] [] h.name=noC
   unfold Da
   rw [if_neg (by simp [atV,JF,bsB])]
   rw [List.find?_eq_none.2 λu hu=>by simp [atV,JF,bsB]]
theorem Az3 (l:List Ent):(D6 l).all D1=true:=by
 rw [List.all_eq_true]
 intro x hx
 obtain ⟨e,_,rfl⟩:=List.mem_map.1 hx
 rfl
theorem Bx1 {l:LL} (h0:l.all D1=true) (h1:l.all smE=true):(D6 (isE (l.map A6))).all smE=true:=by
 rw [Ec h0] at h1
 rw [List.all_eq_true] at h1 ⊢
 intro x hx
 obtain ⟨e,he,rfl⟩:=List.mem_map.1 hx
 exact h1 _ (List.mem_map.2 ⟨e,Hd.1 he,rfl⟩)
theorem Ai8 {l:LL} (h:A1 l.length=true):A1 (D6 (isE (l.map A6))).length=true:=by
 rw [D4,(Jd _).length_eq,List.length_map]
 exact h
end
section
open Go Go.Proofs
set_option maxRecDepth 100000
theorem A11 (now:Int) (tz:Bool) (t:LL) (lz:Bool) (l:LL) (kd:Int) (nm:By) (v4 a0 a1 a2 a3 a4 a5 a6 a7:Int) (ht:t.all F1=true) (hz:N7 tz t=true) (hl:l.all D1=true) (hlz:N7 lz l=true) (g1:ltN v4 4294967296=true) (g2:ok8 a0 a1 a2 a3 a4 a5 a6 a7=true) :
  Tru (evC (ME LF) 1 Unit noY 3 [pI now,.s (.sl tz false 3 t),.s (.sl lz false 2 l),.agg ((UQ kd nm v4 a0 a1 a2 a3 a4 a5 a6 a7).map .s)] [] ()):=by
 refine Eq.subst (motive:=Tru) (Bx4 (σ:=Unit) LF noY () 0 now tz false t lz false l kd nm v4 a0 a1 a2 a3 a4 a5 a6 a7).symm ?_
 unfold lcm
 rw [ht,hl]
 simp only [cond_true,show ltI 40 1001=true from rfl]
 cases c1:Be 40 t with
 | false=>exact ⟨_,rfl⟩
 | true=>
 cases c2:Be 40 l with
 | false=>exact ⟨_,rfl⟩
 | true=>
 rw [Bool.not_true,cond_false,cond_false]
 by_cases c3:(400:Int)<nm.length
 ·rw [C6 c3];exact ⟨_,rfl⟩
 obtain ⟨s1,s2⟩:=EN (by decide) c1
 obtain ⟨s3,s4⟩:=EN (by decide) c2
 have gn:A1 nm.length=true:=K7 (by omega)
 rw [A7,s1,s2,s3,s4,hz,hlz]
 simp only [cond_true,cond_false]
 cases c4:(X8 (1000:Int) (List.map B0 t)==0) with
 | false=>cases (Bl (List.map A6 l)==0)<;>exact ⟨_,rfl⟩
 | true=>
 cases c5:(Bl (List.map A6 l)==0) with
 | false=>exact ⟨_,rfl⟩
 | true=>
 have f1:=λT hT=>MZ (now:=now) (T:=T) (E:=List.map A6 l) hT (eq_of_beq c5) kd nm v4 (n8 a0 a1 a2 a3 a4 a5 a6 a7)
 have f2:=λT hT=>MZ (now:=now) (T:=T) (E:=[]) hT rfl kd nm v4 (n8 a0 a1 a2 a3 a4 a5 a6 a7)
 have hT:=(Bi9 (eq_of_beq c4)).2
 simp only [Az3,Bx1 hl s3,Ai8 s4,Kj,gn,g1,g2,cond_true,vl,List.map_nil,List.all_nil,f1 _ hT,f1 [] rfl,show E0 now (List.map B0 t) [] kd (mkH kd nm v4 (n8 a0 a1 a2 a3 a4 a5 a6 a7))=Jp now (List.map B0 t) [] kd (mkH kd nm v4 (n8 a0 a1 a2 a3 a4 a5 a6 a7)) from f2 _ hT,Ah8,beq_self_eq_true,Bool.and_true]
 exact ⟨_,rfl⟩
theorem Bh9 (args:List PV) (h:Gp Tryz.prog [3,22,23,28] args):∃ d Hc,evC (ME LF) d Unit noY 3 args [] ()=some (.s (.bool true),Hc,()):=by
 obtain ⟨v1,q1,rfl,h1,v2,q2,rfl,h2,v3,q3,rfl,h3,v4',q4,rfl,h4,rfl⟩:=h
 obtain ⟨now,rfl,_⟩:=Bb9 (k:=.i64) h1 (by kernel_rfl) (by kernel_rfl)
 obtain ⟨tz,t,rfl,ht,hz⟩:=Au0 h2 (by kernel_rfl) (by kernel_rfl)
 obtain ⟨lz,l,rfl,hl,hlz⟩:=At8 h3 (by kernel_rfl) (by kernel_rfl)
 obtain ⟨kd,nm,v4,a0,a1,a2,a3,a4,a5,a6,a7,rfl,_,g1,g2,_⟩:=At9 h4 (by kernel_rfl) (by kernel_rfl)
 exact ⟨1,A11 now tz t lz l kd nm v4 a0 a1 a2 a3 a4 a5 a6 a7 ht hz hl hlz g1 g2⟩
section
theorem Aq6:B1 Tryz.prog GX 181 Ka:=λargs ret Hc h=>by
 have:J1 (Ka args)=none:=by unfold Ka Wh;split<;>rfl
 rw [this] at h;cases h
theorem Ba0:B1 Tryz.prog GX 154 QU:=xf [] (SH LF) FY rfl trivial rfl (by kernel_rfl) follows λargs=>by
 unfold FY;split
 ·rename_i s p;exact λh0=>⟨rfl,rfl,rfl,_,_,(Bj1 LF noY () 0 s p).trans (Ak4 s p h0),rfl⟩
 ·trivial
theorem B06:B1 Tryz.prog GX 112 As0:=xf [] (RY LF) FK rfl ⟨Ba0,trivial⟩ rfl (by kernel_rfl) follows λargs=>by
 unfold FK;split
 ·rename_i s p;exact λh0=>⟨rfl,rfl,rfl,_,_,(Bg7 LF noY () 0 s p).trans (Ai2 s p h0),rfl⟩
 ·trivial
theorem Br3:B1 Tryz.prog GX 169 ZO:=xf [0,0] (IJ LF) Wj rfl ⟨Ba0,trivial⟩ rfl (by kernel_rfl) follows λargs=>by
 unfold Wj;split
 ·rename_i s p;exact λh0=>⟨rfl,rfl,rfl,_,_,(A12 LF noY () 0 s p).trans (VA s p h0),rfl⟩
 ·trivial
theorem B05:B1 Tryz.prog GX 130 Ar9:=xf [0,0] (RW LF) FG rfl ⟨Br3,trivial⟩ rfl (by kernel_rfl) follows λargs=>by
 unfold FG;split
 ·rename_i s p;exact λh0=>⟨rfl,rfl,rfl,_,_,(Bf0 LF noY () 0 s p).trans (Ag7 s p h0),rfl⟩
 ·trivial
theorem A94:B1 Tryz.prog GX 158 LP:=xf [1] (Cp LF) Qo rfl ⟨Aq6,B28,Ba6,trivial⟩ rfl (by kernel_rfl) follows λargs=>by
 unfold Qo;split
 ·rename_i s p v n;exact λh0=>λh1=>λh2=>λh3=>(let ⟨r,H,e,q⟩:=NH s p v n h0 h1 h2 h3;⟨rfl,rfl,rfl,r,H,(Ah9 LF noY () 0 s p v n).trans e,q⟩)
 ·trivial
theorem Ba7:B1 Tryz.prog GX 117 LT:=xf [1] (Xx LF) Ra rfl ⟨A94,trivial⟩ rfl (by kernel_rfl) follows λargs=>by
 unfold Ra;split
 ·rename_i s p;exact λh0=>λh1=>⟨rfl,rfl,rfl,_,_,(Ao9 LF noY () 0 s p).trans (PO s p h0 h1),rfl⟩
 ·trivial
theorem A95:B1 Tryz.prog GX 127 QN:=xf [] (RX LF) FJ rfl ⟨B06,trivial⟩ rfl (by kernel_rfl) follows λargs=>by
 unfold FJ;split
 ·rename_i s;exact λh0=>⟨rfl,rfl,rfl,_,_,(Bg6 LF noY () 0 s).trans (Ai0 s h0),rfl⟩
 ·trivial
theorem A93:B1 Tryz.prog GX 129 QM:=xf [0,0] (Q3 LF) FH rfl trivial rfl (by kernel_rfl) follows λargs=>by
 unfold FH;split
 ·rename_i s base;exact λh0=>λh1=>⟨rfl,rfl,rfl,_,_,(Bf6 LF noY () 0 s base).trans (Ah1 s base h0 h1),rfl⟩
 ·trivial
theorem B66:B1 Tryz.prog GX 128 Bt6:=xf [0,0] (Aw1 LF) QY rfl ⟨A95,A93,trivial⟩ rfl (by kernel_rfl) follows λargs=>by
 unfold QY;split
 ·rename_i s;exact λh0=>⟨rfl,rfl,rfl,_,_,(Bx7 LF noY () 0 s).trans (A30 s h0),rfl⟩
 ·trivial
theorem Br8:B1 Tryz.prog GX 126 ZS:=xf [1] (IN LF) Wp rfl ⟨Ba7,trivial⟩ rfl (by kernel_rfl) follows λargs=>by
 unfold Wp;split
 ·rename_i s;exact λh0=>⟨rfl,rfl,rfl,_,_,(A33 LF noY () 0 s).trans (WC s h0),rfl⟩
 ·trivial
theorem Aq7:B1 Tryz.prog GX 93 Qr:=xf [] (Ru LF) Lq rfl ⟨Br8,A95,B66,A93,trivial⟩ rfl (by kernel_rfl) follows λargs=>by
 unfold Lq;split
 ·rename_i s;exact λh0=>⟨rfl,rfl,rfl,_,_,(VV LF noY () 0 s).trans (JU s h0),rfl⟩
 ·trivial
theorem Aq8:B1 Tryz.prog GX 101 BI:=xf [] (Z5 LF) Lr rfl trivial rfl (by kernel_rfl) follows λargs=>by
 unfold Lr;split
 ·rename_i s;exact λh0=>⟨rfl,rfl,rfl,_,_,(XB LF noY () 0 s).trans (KH s h0),rfl⟩
 ·trivial
theorem QJ:B1 Tryz.prog GX 53 Xd:=xf [1] (Cs LF) Qz rfl trivial rfl (by kernel_rfl) follows λargs=>by
 unfold Qz;split
 ·rename_i s c;exact λh0=>λh1=>(let ⟨r,H,e,q⟩:=PE s c h0 h1;⟨rfl,rfl,rfl,r,H,(Ao1 LF noY () 0 s c).trans e,q⟩)
 ·trivial
theorem B22:B1 Tryz.prog GX 145 As8:=xf [] (Fc LF) GQ rfl trivial rfl (by kernel_rfl) follows λargs=>by
 unfold GQ;split
 ·rename_i b;exact λh0=>⟨rfl,rfl,rfl,_,_,(Bn2 LF noY () 0 b).trans (Am7 b h0),rfl⟩
 ·trivial
theorem B26:B1 Tryz.prog GX 102 At2:=xf [0,0] (L3 LF) GY rfl ⟨B22,trivial⟩ rfl (by kernel_rfl) follows λargs=>by
 unfold GY;split
 ·rename_i s;exact λh0=>⟨rfl,rfl,rfl,_,_,(Bo6 LF noY () 0 s).trans (An2 s h0),rfl⟩
 ·trivial
theorem Ba4:B1 Tryz.prog GX 100 LS:=xf [1] (Xv LF) Qx rfl ⟨QJ,trivial⟩ rfl (by kernel_rfl) follows λargs=>by
 unfold Qx;split
 ·rename_i s;exact λh0=>⟨rfl,rfl,rfl,_,_,(An5 LF noY () 0 s).trans (OU s h0),rfl⟩
 ·trivial
theorem ZJ:B1 Tryz.prog GX 68 Wz:=xf [] (Mj LF) Il rfl ⟨Ba4,Aq8,B26,trivial⟩ rfl (by kernel_rfl) follows λargs=>by
 unfold Il;split
 ·rename_i s;exact λh0=>⟨rfl,rfl,rfl,_,_,(OT LF noY () 0 s).trans (AY s h0),rfl⟩
 ·trivial
end
section
theorem QG:B1 Tryz.prog GX 184 Ik:=xf [] (Xu LF) Qu rfl trivial rfl (by kernel_rfl) follows λargs=>by
 unfold Qu;split
 ·rename_i n;exact ⟨rfl,rfl,rfl,_,_,(Am0 LF noY () 0 n).trans (OH n ),rfl⟩
 ·trivial
theorem QE:B1 Tryz.prog GX 186 Ij:=xf [] (R2 LF) Qs rfl trivial rfl (by kernel_rfl) follows λargs=>by
 unfold Qs;split
 ·rename_i d c f;exact λh0=>λh1=>λh2=>⟨rfl,rfl,rfl,_,_,(Al1 LF noY () 0 d c f).trans (OE d c f h0 h1 h2),rfl⟩
 ·trivial
theorem B17:B1 Tryz.prog GX 195 QZ:=xf [] (SM LF) GH rfl trivial rfl (by kernel_rfl) follows λargs=>by
 unfold GH;split
 ·rename_i d;exact λh0=>⟨rfl,rfl,rfl,_,_,(Bl1 LF noY () 0 d).trans (Al9 d h0),rfl⟩
 ·trivial
theorem B19:B1 Tryz.prog GX 202 RA:=xf [] (Fb LF) GN rfl trivial rfl (by kernel_rfl) follows λargs=>by
 unfold GN;split
 ·rename_i b;exact λh0=>⟨rfl,rfl,rfl,_,_,(Bm4 LF noY () 0 b).trans (Am3 b h0),rfl⟩
 ·trivial
end
section
theorem Ba2:B1 Tryz.prog GX 194 Wq:=by
 refine B1.fix (pf:=GL) _ (P4 (C₀:=SO LF) (K8.ok (l:=[]) rfl trivial) (F2 rfl (by kernel_rfl)) follows ?_)
 intro args ret Hc h
 unfold GL at h
 split at h
 ·rename_i b
  obtain ⟨rfl,rfl⟩:=H5 h
  have e:=(Bl9 LF noY () 0 b).trans (Am1 b )
  exact ⟨rfl,1,_,[],e,rfl,rfl⟩
 ·cases h
theorem Af9:Ti Tryz.prog GX 201 Kb:=by
 refine Ca (C₀:=IO LF) (K8.ok (l:=[]) rfl trivial) (F2 rfl (by kernel_rfl)) follows ?_
 intro args H ret Hc h
 unfold Kb at h
 split at h
 ·rename_i k b
  obtain ⟨h0,h⟩:=B4 h
  obtain ⟨h1,h⟩:=B4 h
  obtain ⟨rfl,rfl⟩:=H5 h
  refine ⟨rfl,rfl,λσ yh s=>?_⟩
  have e:=(A39 LF yh s 0 k b).trans (WO k b h0 h1)
  exact ⟨1,_,e,rfl⟩
 ·cases h
theorem B32:Ti Tryz.prog GX 185 GE:=by
 refine Ca (C₀:=Rv LF) (Dx (lx:=[(194,Wq),(195,QZ)]) (ly:=[(201,Kb)]) (ls:=[]) rfl rfl rfl ⟨Ba2,B17,trivial⟩ ⟨Af9,trivial⟩ trivial) (F2 rfl (by kernel_rfl)) follows ?_
 intro args H ret Hc h
 unfold GE at h
 split at h
 ·rename_i q b z l
  obtain ⟨h0,h⟩:=B4 h
  obtain ⟨h1,h⟩:=B4 h
  obtain ⟨h2,h⟩:=B4 h
  obtain ⟨rfl,rfl⟩:=H5 h
  obtain ⟨x0,x1,e0⟩:=Al3 q b z l h0 h1 h2
  exact ⟨rfl,rfl,λσ yh s=>⟨1,_,(Bk5 LF yh s 0 q b z l).trans (e0 _ _),rfl⟩⟩
 ·cases h
theorem B18:B1 Tryz.prog GX 161 As6:=by
 refine B1.fix (pf:=GI) _ (L8 [0,0] (C₀:=M3 LF) (Dx (lx:=[(184,Ik),(186,Ij)]) (ly:=[(185,GE)]) (ls:=[]) rfl rfl rfl ⟨QG,QE,trivial⟩ ⟨B32,trivial⟩ trivial) (F2 rfl (by kernel_rfl)) follows ?_)
 intro args ret Hc h
 unfold GI at h
 split at h
 ·rename_i p_z p_t p
  obtain ⟨h0,h⟩:=B4 h
  obtain ⟨rfl,rfl⟩:=H5 h
  obtain ⟨r,H,e,hs⟩:=Bl4 p_z p_t p h0
  exact ⟨rfl,rfl,rfl,1,r,H,(Bl2 LF noY () 0 p_z p_t p).trans e,hs⟩
 ·cases h
end
section
theorem B31:Ti Tryz.prog GX 198 FI:=by
 refine Ca (C₀:=Rt LF) (Dx (lx:=[(194,Wq),(202,RA)]) (ly:=[(201,Kb)]) (ls:=[]) rfl rfl rfl ⟨Ba2,B19,trivial⟩ ⟨Af9,trivial⟩ trivial) (F2 rfl (by kernel_rfl)) follows ?_
 intro args H ret Hc h
 unfold FI at h
 split at h
 ·rename_i rest n i b st z l
  obtain ⟨h0,h⟩:=B4 h
  obtain ⟨h1,h⟩:=B4 h
  obtain ⟨h2,h⟩:=B4 h
  obtain ⟨rfl,rfl⟩:=H5 h
  obtain ⟨x0,e0⟩:=Ah3 rest n i b st z l h0 h1 h2
  exact ⟨rfl,rfl,λσ yh s=>⟨1,_,(Bf7 LF yh s 0 rest n i b st z l).trans (e0 _ _),rfl⟩⟩
 ·cases h
theorem A96:B1 Tryz.prog GX 142 LQ:=xf [] (Cq LF) Qp rfl trivial rfl (by kernel_rfl) follows λargs=>by
 unfold Qp;split
 ·rename_i s c;exact λh0=>λh1=>⟨rfl,rfl,rfl,_,_,(Ai7 LF noY () 0 s c).trans (NP s c h0 h1),rfl⟩
 ·trivial
theorem Af7:B1 Tryz.prog GX 97 Vb:=xf [] (II LF) Wi rfl ⟨A96,trivial⟩ rfl (by kernel_rfl) follows λargs=>by
 unfold Wi;split
 ·rename_i s c;exact λh0=>λh1=>⟨rfl,rfl,rfl,_,_,(A10 LF noY () 0 s c).trans (UW s c h0 h1),rfl⟩
 ·trivial
end
end
section
open Go Go.Proofs Go.Sort
set_option maxRecDepth 100000
theorem AB {C:Cfg} {σ:Type} {I:σ->(Nat->Prop)->(Nat->Prop)->World->Prop} (hI:HI I) {Γ:Ctx} {Φ:Nat->Prop} {w w':World} {z v1:Bool} {E e1 s1:Nat} {l l' m:LL} {s:σ} (g cap:Nat) (Vs:List Value) (cur:Array Value)
  (hnf:Ja C E=false) (hH:HR Γ [.arr z E 1 l,.arr v1 e1 s1 m] w) (hi:I s Γ.St Φ w) (hd:∀ b g,Γ.nm b=some g->¬ Φ g)
  (hown:Γ.nm 0=some g\/g=w.heap.size) (hgl:g<w'.heap.size) (hoth:∀ k,k<w.heap.size->Γ.nm 0≠some k->w'.heap[k]? = w.heap[k]?) (hsz:w.heap.size<=w'.heap.size) (h1:w'.os=w.os) (h2:w'.tape=w.tape) (h3:w'.output=w.output)
  (hrow:w'.heap[g]? = some (.cells cur E (0,0))) (hE:Els Γ.St w' 1 l' Vs) (hl':l'≠[]) (hc:∀ q,q<Vs.length->cur[q]? = Vs[q]?) (hl:Vs.length<=cur.size) (hcap:l'.length<=cap) (hm:cap<=maxLen) (hcs:cur.size=cap) :
  Ao C I Γ [.arr z E 1 l,.arr v1 e1 s1 m] w Φ (.fl 0) [.arr z E 1 l',.arr v1 e1 s1 m] s (.slice (some ⟨g,0,none⟩) l'.length cap) w':=by
 have hblt:0<[Blk.arr z E 1 l,.arr v1 e1 s1 m].length:=by simp
 have hng:(Γ.re 0 (some g)).nm 0=some g:=by simp [Ctx.re]
 have hnf':¬ Fg C (A3 [Blk.arr z E 1 l,.arr v1 e1 s1 m] 0):=by simp [A3,Blk.shp,Fg,hnf]
 have hk:([Blk.arr z E 1 l,.arr v1 e1 s1 m].map (Blk.kill 0)).set 0 (.arr z E 1 l')=[.arr z E 1 l',.arr v1 e1 s1 m]:=rfl
 have hgS:¬ Γ.St g:=by
  rcases hown with h | h
  ·exact (hH.lt 0 g h).2.2
  ·intro hs
   have:=hH.stlt g hs
   omega
 obtain ⟨q1,q2,q3⟩:=KJ (C:=C) (y:=.arr z E 1 l') (ng:=some g) (w':=w') hH hblt hnf' (λk hk=>by
   simp only [Option.some.injEq] at hk;subst hk
   refine ⟨hgl,hgS,λc hc hc2=>?_⟩
   rcases hown with h | h
   ·exact hc (hH.inj c 0 _ hc2 h)
   ·have:=(hH.lt c _ hc2).2.1
    omega)
  (λk hk=>by
   simp only [Option.some.injEq] at hk;subst hk
   rcases hown with h | h
   ·exact .inl h
   ·exact .inr (by omega)) hoth hsz h1 h2 h3
  (BR.els hng hrow hE (by rintro ⟨_,h⟩;exact hl' h) hc hl) rfl
 rw [hk] at q1 q2
 refine ⟨_,Φ,q1.lift Φ,q2,?_,λc hc=>?_,?_,λb g' hb=>?_⟩
 ·refine .fl 0 g z E 1 l'.length cap rfl (λ_ h=>hl' (List.length_eq_zero_iff.1 h)) hng hcap hm ?_
  simp only [World.shape?,hrow,hcs,Nat.mul_one]
 ·simp only [PV.nms,List.mem_singleton] at hc
  subst hc
  simp
 ·refine hI.mono s Γ.St Φ w Γ.St w' hi (λ_ h=>h) (λk hk hp=>(hI.foot _ _ _ _ hi k hp).2 hk) (λk hk=>Nat.lt_of_lt_of_le (hH.stlt k hk) hsz) (λk hk=>?_) hsz h1 h2 h3
  rcases hk with hk | hk
  ·exact hoth k (hH.stlt k hk) (λh=>(hH.lt 0 k h).2.2 hk)
  ·exact hoth k (hI.foot _ _ _ _ hi k hk).1 (λh=>hd 0 k h hk)
 ·simp only [Ctx.re] at hb
  split at hb
  ·simp only [Option.some.injEq] at hb
   subst hb
   rcases hown with h | h
   ·exact hd 0 _ h
   ·intro hp
    have:=(hI.foot _ _ _ _ hi _ hp).1
    omega
  ·exact hd b g' hb
theorem Y5 {w:World} {g o e:Nat} {vs:List Value} {cur:Array Value} (hg:w.heap[g]? = some (.cells cur e (0,0))) (hle:o+vs.length<=cur.size) (h1:∀ v∈vs,v.oneCell'=true) :
  (w.setCells g o vs).heap[g]? = some (.cells (F3 cur.toList o vs).toArray e (0,0))/\(∀ k,k≠g->(w.setCells g o vs).heap[k]? = w.heap[k]?)/\(w.setCells g o vs).heap.size=w.heap.size/\(w.setCells g o vs).os=w.os/\(w.setCells g o vs).tape=w.tape/\(w.setCells g o vs).output=w.output:=by
 obtain ⟨w',r1,r2,r3,r4,r5,r6,r7,_⟩:=H8 (P:=Tryz.prog) (o:=o) hg hle h1
 have hcell:∀ j,j<vs.length->∃ v,w.cell? ⟨g,o+0+j,none⟩=some v:=λj hj=>by
  refine ⟨cur[o+j]'(by omega),?_⟩
  simp [World.cell?,hg,Array.getElem?_eq_getElem (show o+j<cur.size by omega)]
 have r:=run_storeCells_cells (P:=Tryz.prog) g o vs 0 w (λj hj=>by obtain ⟨v,h⟩:=hcell j hj;rw [h];rfl) (λj hj=>by simp [World.frozen?,hg]) h1
 rw [r] at r1
 simp only [Nat.add_zero,Result.ok.injEq,true_and] at r1
 rw [r1]
 exact ⟨r2,r3,r4,r5,r6,r7⟩
theorem Yq {St:Nat->Prop} {w:World} {l:LL} {cs:List Value} {i:Nat} {n:Int} (h:Els St w 1 l cs) (hi:i<=l.length):Els St w 1 (Hb l i n) (cs.take i++Value.int .i64 n::cs.drop i):=by
 have hlen:=h.1
 rw [Nat.mul_one] at hlen
 have h1:Els St w 1 (l.take i) (cs.take i):=by
  refine ⟨by rw [List.length_take,List.length_take,hlen,Nat.mul_one],λj hj=>?_⟩
  rw [List.length_take] at hj
  rw [List.getElem_take]
  obtain ⟨a,b⟩:=h.2 j (by omega)
  refine ⟨a,λk hk=>?_⟩
  obtain ⟨U,e,v⟩:=b k hk
  exact ⟨U,by rw [List.getElem?_take_of_lt (by omega)];exact e,v⟩
 have h2:Els St w 1 [[SV.int .i64 n]] [Value.int .i64 n]:=by
  refine ⟨rfl,λj hj=>?_⟩
  have:j=0:=by simpa using hj
  subst this
  refine ⟨rfl,λk hk=>?_⟩
  have:k=0:=by simpa using hk
  subst this
  exact ⟨_,rfl,.int _ _⟩
 have h3:Els St w 1 (l.drop i) (cs.drop i):=by
  refine ⟨by rw [List.length_drop,List.length_drop,hlen,Nat.mul_one],λj hj=>?_⟩
  rw [List.length_drop] at hj
  rw [List.getElem_drop]
  obtain ⟨a,b⟩:=h.2 (i+j) (by omega)
  refine ⟨a,λk hk=>?_⟩
  obtain ⟨U,e,v⟩:=b k hk
  exact ⟨U,by rw [List.getElem?_drop];rw [show i+(j*1+k)=(i+j)*1+k by omega];exact e,v⟩
 have:=(h1.append h2).append h3
 unfold Hb
 simpa using this
theorem Yr (l:LL) (i:Nat) (n:Int) (h:i<=l.length):(Hb l i n).length=l.length+1:=by
 unfold Hb
 rw [List.length_append,List.length_cons,List.length_take,List.length_drop]
 omega
theorem JL (l:LL) (i:Nat) (n:Int):Hb l i n≠[]:=by
 unfold Hb
 simp
theorem B33:Ti Tryz.prog GX 199 HN:=by
 intro C hP hG σ I yh yv hI hy args H s ret Hc hpf Γ Φ w Vs hyv hH hg hi hd hc hn
 unfold HN at hpf
 split at hpf
 ·rename_i i z l nn
  obtain ⟨h0,hpf⟩:=B4 hpf
  obtain ⟨h1,hpf⟩:=B4 hpf
  obtain ⟨rfl,rfl⟩:=H5 hpf
  obtain ⟨i0,i1⟩:=H7.1 h0
  obtain ⟨i,rfl⟩:=Int.eq_ofNat_of_zero_le i0
  have hl:=Nat.le_of_ble_eq_true h1
  have hil:i<=l.length:=by
   have:(i:Int)<((l.length+1:Nat):Int):=i1
   omega
  obtain ⟨S,X0,V,rfl,hs,hx,hv⟩:=hc.arr3
  obtain rfl:=hx.inv_int
  have hnf:Ja C 3=false:=by
   unfold Ja Cfg.sh
   rw [hP]
   kernel_rfl
  obtain ⟨g1,cur1,n1,n2,n3,n4,n5⟩:=hH.arr' (b:=1) rfl (by simp)
  have hvs:∃ cap,V = .slice (some ⟨g1,0,none⟩) 1 cap:=by
   cases hv with
   | flv _ e sz h=>simp [A3,Blk.shp] at h
   | fl _ g v e sz n cap h hv' hg' hcap hm hs'=>
    rw [n1] at hg'
    simp only [Option.some.injEq] at hg'
    subst hg'
    simp only [A3,List.getElem?_cons_succ,List.getElem?_cons_zero,Option.map_some,Blk.shp,Option.some.injEq,Shp.arr.injEq] at h
    obtain ⟨_,_,_,h4⟩:=h
    subst h4
    exact ⟨cap,rfl⟩
  obtain ⟨cap1,rfl⟩:=hvs
  obtain ⟨V1,p1,p2⟩:=n5 0 (by simp) 0 (by simp)
  have p3:V1 = .int .i64 nn:=by cases p2;rfl
  subst p3
  have hvcell:∀ j v,[Value.int .i64 nn][j]? = some v->w.cell? ⟨g1,0+j,none⟩=some v:=by
   intro j v hj
   have:j=0:=by
    have:=(List.getElem?_eq_some_iff.1 hj).1
    simpa using this
   subst this
   simp only [List.getElem?_cons_zero,Option.some.injEq] at hj
   subst hj
   simpa [World.cell?,n2] using p1
  have hv1:∀ v∈[Value.int .i64 nn],v.oneCell'=true:=by simp [Value.oneCell']
  rw [Int.toNat_natCast]
  refine An (fn:=Tryz.f199) (by kernel_rfl) (by kernel_rfl) (by kernel_rfl) ?_
  have grownEnd:∀ (base:Option Addr) (c:Nat) (cs:List Value),l.length<=c->c<l.length+1->cs.length=l.length->(base=none->l.length=0)->(∀ a,base=some a->∀ j v,cs[j]? = some v->w.cell? (a.add j)=some v)->Els Γ.St w 1 l cs->
    Calls Tryz.prog 199 #[.slice base l.length c,.int .i64 (l.length:Int),.slice (some ⟨g1,0,none⟩) 1 cap1] w λe w'=>∃ V,e = .returned V/\Ao C I Γ [.arr z 3 1 l,.arr false 3 1 [[SV.int .i64 nn]]] w Φ (.fl 0) [.arr z 3 1 (Hb l l.length nn),.arr false 3 1 [[SV.int .i64 nn]]] s V w':=by
   intro base c cs a1 a2 a3 a4 a5 a6
   refine (Any2.slices_Insert_int_end_grow Tryz.lays2_21 base l.length c g1 0 1 cap1 cs [.int .i64 nn] w (by omega) a1 a2 (by omega) a3 rfl a4 a5 hvcell hv1).mono ?_
   rintro e w' ⟨rfl,rfl⟩
   refine ⟨_,rfl,?_⟩
   obtain ⟨hge,hle⟩:=Ef (w:=w) (need:=l.length+1) (cap:=c) (e:=3) (by omega)
   have hE:=Yq (n:=nn) a6 (Nat.le_refl l.length)
   have hcsl:cs.take l.length++Value.int .i64 nn::cs.drop l.length=cs++[Value.int .i64 nn]:=by
    rw [List.take_of_length_le (by omega),List.drop_of_length_le (by omega)]
   rw [hcsl] at hE
   have hlen:=Yr l l.length nn (Nat.le_refl _)
   obtain ⟨r1,r2⟩:=Sg (olds:=cs) (Vs:=[Value.int .i64 nn]) (z:=(Value.int .i64 0).cells) (k:=grownCap w (l.length+1) c 3) (n:=l.length) (m:=1) (size:=1) rfl (by omega) rfl hge
   have hrowE:(cs.toArray++[Value.int .i64 nn].toArray)=(cs++[Value.int .i64 nn]).toArray:=by simp
   rw [hrowE] at r1 r2
   have key:∀ (row:Array Value) (kc:Nat),row.size=kc->(∀ q,q<(cs++[Value.int .i64 nn]).length->row[q]? = (cs++[Value.int .i64 nn])[q]?)->l.length+1<=kc->kc<=maxLen->
     Ao C I Γ [.arr z 3 1 l,.arr false 3 1 [[SV.int .i64 nn]]] w Φ (.fl 0) [.arr z 3 1 (Hb l l.length nn),.arr false 3 1 [[SV.int .i64 nn]]] s (.slice (some ⟨w.heap.size,0,none⟩) (l.length+1) kc) (w.drew.alloc (.cells row 3)):=by
    intro row kc b1 b2 b3 b4
    have hwh:(w.drew.alloc (.cells row 3)).heap=w.heap.push (.cells row 3):=rfl
    have:=AB (C:=C) (w':=w.drew.alloc (.cells row 3)) (l':=Hb l l.length nn) hI w.heap.size kc (cs++[Value.int .i64 nn]) row hnf hH hi hd (.inr rfl) (by rw [hwh];simp) (λk hk _=>F5 hwh hk) (by rw [hwh];simp) rfl rfl rfl (F4 hwh) (hE.mono (λg hg=>F5 hwh (hH.stlt g hg)) (λ_ h=>h)) (JL _ _ _) b2 (by rw [b1,List.length_append,List.length_singleton];omega) (by rw [hlen];exact b3) b4 b1
    rw [hlen] at this
    exact this
   exact key _ _ (r1.trans (Nat.mul_one _)) r2 hge hle
  have two:∀ (row:Array Value) (cs:List Value),cs.length=l.length->i<l.length->l.length+1<=row.size->(∀ q,q<i->row[q]? = cs[q]?)->
    ∀ q,q<(cs.take i++Value.int .i64 nn::cs.drop i).length->(F3 (F3 row.toList i [Value.int .i64 nn]) (i+1) (cs.drop i)).toArray[q]? = (cs.take i++Value.int .i64 nn::cs.drop i)[q]?:=by
   intro row cs a1 a2 a3 a4 q hq
   have hq':q<l.length+1:=by
    rw [List.length_append,List.length_cons,List.length_take,List.length_drop] at hq
    omega
   have ht:(cs.take i).length=i:=by rw [List.length_take];omega
   have hrl:row.toList.length=row.size:=Array.length_toList
   simp only [List.getElem?_toArray]
   rw [J6 _ _ _ (by rw [C1,List.length_drop,hrl];omega),J6 _ _ _ (by rw [List.length_singleton,hrl];omega)]
   by_cases h1:q<i
   ·rw [G7,G7,List.getElem?_append_left (by omega),List.getElem?_take_of_lt h1]
    simpa using a4 q h1
   ·by_cases h2:q=i
    ·subst h2
     rw [G7,if_pos (by rw [List.length_singleton];omega),List.getElem?_append_right (by omega),ht,Nat.sub_self]
     rfl
    ·rw [if_pos (by rw [List.length_drop];omega),List.getElem?_append_right (by omega),ht,show q-i=(q-(i+1))+1 by omega,List.getElem?_cons_succ]
  have grownMid:∀ (g c:Nat) (cs:List Value),i<l.length->l.length<=c->c<l.length+1->cs.length=l.length->(∀ j v,cs[j]? = some v->w.cell? ⟨g,0+j,none⟩=some v)->(∀ v∈cs,v.oneCell'=true)->Els Γ.St w 1 l cs->
    Calls Tryz.prog 199 #[.slice (some ⟨g,0,none⟩) l.length c,.int .i64 (i:Int),.slice (some ⟨g1,0,none⟩) 1 cap1] w λe w'=>∃ V,e = .returned V/\Ao C I Γ [.arr z 3 1 l,.arr false 3 1 [[SV.int .i64 nn]]] w Φ (.fl 0) [.arr z 3 1 (Hb l i nn),.arr false 3 1 [[SV.int .i64 nn]]] s V w':=by
   intro g c cs hi' a1 a2 a3 a4 a5 a6
   refine (Any2.slices_Insert_int_grow Tryz.lays2_21 g 0 l.length c i g1 0 1 cap1 cs [.int .i64 nn] w hi' (by omega) a1 a2 (by omega) a3 rfl a4 hvcell a5 hv1).mono ?_
   rintro e w' ⟨rfl,rfl⟩
   refine ⟨_,rfl,?_⟩
   obtain ⟨hge,hle⟩:=Ef (w:=w) (need:=l.length+1) (cap:=c) (e:=3) (by omega)
   have hE:=Yq (n:=nn) a6 hil
   have hlen:=Yr l i nn hil
   have key:∀ (row:Array Value) (kc:Nat),row.size=kc->(∀ q,q<i->row[q]? = cs[q]?)->l.length+1<=kc->kc<=maxLen->
     Ao C I Γ [.arr z 3 1 l,.arr false 3 1 [[SV.int .i64 nn]]] w Φ (.fl 0) [.arr z 3 1 (Hb l i nn),.arr false 3 1 [[SV.int .i64 nn]]] s (.slice (some ⟨w.heap.size,0,none⟩) (l.length+1) kc) (((w.alloc (.cells row 3)).drew.setCells w.heap.size i [Value.int .i64 nn]).drew.setCells w.heap.size (i+1) (cs.drop i)):=by
    intro row kc b1 b2 b3 b4
    have hwh:(w.alloc (.cells row 3)).drew.heap=w.heap.push (.cells row 3):=rfl
    obtain ⟨c1,c2,c3,c4,c5,c6⟩:=Y5 (w:=(w.alloc (.cells row 3)).drew) (o:=i) (vs:=[Value.int .i64 nn]) (F4 hwh) (by rw [List.length_singleton];omega) hv1
    generalize hw1:(w.alloc (.cells row 3)).drew.setCells w.heap.size i [Value.int .i64 nn]=w1 at *
    have hs1:(F3 row.toList i [Value.int .i64 nn]).toArray.size=kc:=by rw [List.size_toArray,C1];simpa using b1
    obtain ⟨d1,d2,d3,d4,d5,d6⟩:=Y5 (w:=w1.drew) (o:=i+1) (vs:=cs.drop i) c1 (by rw [hs1,List.length_drop];omega) (λv hv=>a5 v (List.mem_of_mem_drop hv))
    have hoth:∀ k,k<w.heap.size->(w1.drew.setCells w.heap.size (i+1) (cs.drop i)).heap[k]? = w.heap[k]?:=λk hk=>by
     rw [d2 k (by omega)]
     exact (c2 k (by omega)).trans (F5 hwh hk)
    have hsz:(w1.drew.setCells w.heap.size (i+1) (cs.drop i)).heap.size=w.heap.size+1:=by
     rw [d3]
     show w1.heap.size=_
     rw [c3,hwh]
     simp
    have:=AB (C:=C) (w':=w1.drew.setCells w.heap.size (i+1) (cs.drop i)) (l':=Hb l i nn) hI w.heap.size kc (cs.take i++Value.int .i64 nn::cs.drop i) _ hnf hH hi hd (.inr rfl) (by rw [hsz];omega) (λk hk _=>hoth k hk) (by rw [hsz];omega) (d4.trans c4) (d5.trans c5) (d6.trans c6) d1 (hE.mono (λg hg=>hoth g (hH.stlt g hg)) (λ_ h=>h)) (JL _ _ _) (two row cs a3 hi' (by omega) b2) (by rw [List.size_toArray,C1,List.length_append,List.length_cons,List.length_take,List.length_drop];simp only [List.size_toArray,C1] at hs1 ⊢;omega) (by rw [hlen];exact b3) b4 (by rw [List.size_toArray,C1];simpa using hs1)
    rw [hlen] at this
    exact this
   have hz1:(Value.int .i64 0).cells.size=1:=rfl
   have ht:(cs.take i).length=i:=by rw [List.length_take];omega
   refine key _ _ ?_ (λq hq=>?_) hge hle
   ·simp only [Array.size_append,List.size_toArray,size_zeroCells,hz1,Nat.mul_one,ht]
    have:l.length+1<=grownCap w (l.length+1) c 3:=hge
    show i+(l.length+1-i)+(grownCap w (l.length+1) c 3-(l.length+1))=grownCap w (l.length+1) c 3
    omega
   ·rw [Array.getElem?_append_left (by simp only [Array.size_append,List.size_toArray,ht];omega),Array.getElem?_append_left (by simp only [List.size_toArray,ht];omega),List.getElem?_toArray,List.getElem?_take_of_lt hq]
  have two':∀ (row:Array Value) (cs:List Value),cs.length=l.length->i<l.length->l.length+1<=row.size->(∀ q,q<i->row[q]? = cs[q]?)->
    ∀ q,q<(cs.take i++Value.int .i64 nn::cs.drop i).length->(F3 (F3 row.toList (i+1) (cs.drop i)) i [Value.int .i64 nn]).toArray[q]? = (cs.take i++Value.int .i64 nn::cs.drop i)[q]?:=by
   intro row cs a1 a2 a3 a4 q hq
   have hq':q<l.length+1:=by
    rw [List.length_append,List.length_cons,List.length_take,List.length_drop] at hq
    omega
   have ht:(cs.take i).length=i:=by rw [List.length_take];omega
   have hrl:row.toList.length=row.size:=Array.length_toList
   simp only [List.getElem?_toArray]
   rw [J6 _ _ _ (by rw [C1,List.length_singleton,hrl];omega),J6 _ _ _ (by rw [List.length_drop,hrl];omega)]
   by_cases h1:q<i
   ·rw [G7,G7,List.getElem?_append_left (by omega),List.getElem?_take_of_lt h1]
    simpa using a4 q h1
   ·by_cases h2:q=i
    ·subst h2
     rw [if_pos (by rw [List.length_singleton];omega),List.getElem?_append_right (by omega),ht,Nat.sub_self]
     rfl
    ·rw [if_neg (by rw [List.length_singleton];omega),if_pos (by rw [List.length_drop];omega),List.getElem?_append_right (by omega),ht,show q-i=(q-(i+1))+1 by omega,List.getElem?_cons_succ]
  cases hs with
  | flv _ e2 sz2 h'=>
   simp only [A3,List.getElem?_cons_zero,Option.map_some,Blk.shp,Option.some.injEq,Shp.arr.injEq] at h'
   obtain ⟨q1,q2,q3,h4⟩:=h'
   obtain rfl:=List.length_eq_zero_iff.1 h4
   obtain rfl:i=0:=by simpa using hil
   exact grownEnd none 0 [] (by simp) (by simp) rfl (λ_=>rfl) (λa h=>by cases h) ⟨rfl,λj hj=>by simp at hj⟩
  | fl _ g z' e2 sz2 n' cap h' hv' hg' hcap hm hs'=>
   simp only [A3,List.getElem?_cons_zero,Option.map_some,Blk.shp,Option.some.injEq,Shp.arr.injEq] at h'
   obtain ⟨rfl,rfl,rfl,rfl⟩:=h'
   have hne:¬ (z=true/\l=[]):=by rintro ⟨q1,q2⟩;exact hv' q1 (by rw [q2];rfl)
   obtain ⟨g',cur,hg2,hh,hsize,hlens,hels⟩:=hH.arr' (b:=0) rfl hne
   obtain rfl:g=g':=by
    rw [hg'] at hg2
    exact Option.some.inj hg2
   have hcs:cur.size=cap:=by
    have:=hs'
    simp only [World.shape?,hh,Option.some.injEq,Prod.mk.injEq,true_and,Nat.mul_one] at this
    exact this
   rw [Nat.mul_one] at hsize
   have hO:Els Γ.St w 1 l (cur.toList.take l.length):=by
    refine ⟨by rw [List.length_take,Array.length_toList (xs:=cur)];omega,λj hj=>⟨hlens j hj,λk hk=>?_⟩⟩
    obtain ⟨U,e1,u⟩:=hels j hj k hk
    refine ⟨U,?_,u⟩
    have hk':k<1:=by rw [<-hlens j hj];exact hk
    rw [List.getElem?_take,Ge]
    simpa using e1
   have hol:(cur.toList.take l.length).length=l.length:=by rw [List.length_take,Array.length_toList (xs:=cur)];omega
   have hcell:∀ j v,(cur.toList.take l.length)[j]? = some v->w.cell? ⟨g,0+j,none⟩=some v:=by
    intro j v hj
    have hj':j<l.length:=by
     have:=(List.getElem?_eq_some_iff.1 hj).1
     omega
    rw [List.getElem?_take,if_pos hj'] at hj
    simpa [World.cell?,hh] using hj
   have h1c:∀ v∈cur.toList.take l.length,v.oneCell'=true:=by
    intro v hv
    obtain ⟨j,hj,rfl⟩:=List.getElem_of_mem hv
    have hj':j<l.length:=by omega
    obtain ⟨_,u⟩:=hO.2 j hj'
    obtain ⟨U,e1,u2⟩:=u 0 (by rw [hlens j hj'];exact Nat.one_pos)
    rw [Nat.mul_one,Nat.add_zero,List.getElem?_eq_getElem hj] at e1
    cases e1
    exact u2.oneCell
   have hlen:=Yr l i nn hil
   have hE:=Yq (n:=nn) hO hil
   have hsome:∀ j,j<cap->(w.cell? ⟨g,j,none⟩).isSome=true:=by
    intro j hj
    simp only [World.cell?,hh]
    rw [Array.getElem?_eq_getElem (by omega)]
    rfl
   have hfrz:∀ j,w.frozen? ⟨g,j,none⟩=false:=λj=>by simp [World.frozen?,hh]
   have hng1:g1≠g:=λe=>by
    have:=hH.inj 1 0 g (by rw [<-e];exact n1) hg'
    omega
   have hmx:cap<=9223372036854775807:=by
    simp only [maxLen] at hm
    omega
   by_cases hroom:l.length+1<=cap
   ·have key:∀ (w':World) (row:List Value),w'.heap[g]? = some (.cells row.toArray 3 (0,0))->(∀ k,k≠g->w'.heap[k]? = w.heap[k]?)->w'.heap.size=w.heap.size->w'.os=w.os->w'.tape=w.tape->w'.output=w.output->row.length=cap->
      (∀ q,q<((cur.toList.take l.length).take i++Value.int .i64 nn::(cur.toList.take l.length).drop i).length->row.toArray[q]? = ((cur.toList.take l.length).take i++Value.int .i64 nn::(cur.toList.take l.length).drop i)[q]?)->
      Ao C I Γ [.arr z 3 1 l,.arr false 3 1 [[SV.int .i64 nn]]] w Φ (.fl 0) [.arr z 3 1 (Hb l i nn),.arr false 3 1 [[SV.int .i64 nn]]] s (.slice (some ⟨g,0,none⟩) (l.length+1) cap) w':=by
     intro w' row k1 k2 k3 k4 k5 k6 k7 k8
     have hgS:¬ Γ.St g:=(hH.lt 0 g hg').2.2
     have:=AB (C:=C) (w':=w') (l':=Hb l i nn) hI g cap ((cur.toList.take l.length).take i++Value.int .i64 nn::(cur.toList.take l.length).drop i) row.toArray hnf hH hi hd (.inl hg') (by rw [k3];exact (hH.lt 0 g hg').2.1) (λk hk hk2=>k2 k (λe=>hk2 (e ▸ hg'))) (by omega) k4 k5 k6 k1
      (hE.mono (λk hk=>k2 k (λe=>hgS (e ▸ hk))) (λ_ h=>h)) (JL _ _ _) k8
      (by rw [List.size_toArray,k7,List.length_append,List.length_cons,List.length_take,List.length_drop,hol];omega) (by rw [hlen];exact hroom) hm (by rw [List.size_toArray,k7])
     rw [hlen] at this
     exact this
    by_cases hie:i=l.length
    ·subst hie
     refine (Any2.slices_Insert_int_end_room Tryz.lays2_21 g 0 l.length cap g1 0 1 cap1 [.int .i64 nn] w (by omega) hroom hmx rfl (λj hj=>hsome _ (by omega)) (λj hj=>hfrz _) hvcell hv1).mono ?_
     rintro e w' ⟨rfl,rfl⟩
     refine ⟨_,rfl,?_⟩
     obtain ⟨c1,c2,c3,c4,c5,c6⟩:=Y5 (w:=w) (o:=0+l.length) (vs:=[Value.int .i64 nn]) hh (by rw [List.length_singleton];omega) hv1
     refine key _ _ c1 c2 c3 c4 c5 c6 (by rw [C1];simpa using hcs) (λq hq=>?_)
     rw [List.take_of_length_le (by omega),List.drop_of_length_le (by omega)] at hq ⊢
     rw [List.length_append,hol,List.length_singleton] at hq
     simp only [List.getElem?_toArray]
     rw [J6 _ _ _ (by rw [List.length_singleton,Array.length_toList (xs:=cur)];omega)]
     by_cases hq2:q<l.length
     ·rw [G7,List.getElem?_append_left (by omega),List.getElem?_take,if_pos hq2]
     ·obtain rfl:q=l.length:=by omega
      rw [if_pos (by rw [List.length_singleton];omega),List.getElem?_append_right (by omega),hol]
      simp
    ·have hi':i<l.length:=by omega
     refine (Any2.slices_Insert_int_shift Tryz.lays2_21 g 0 l.length cap i g1 0 1 cap1 (cur.toList.take l.length) [.int .i64 nn] w hi' (by omega) hroom hmx hng1 hol rfl hcell (λj hj=>hsome _ (by omega)) (λj hj=>hfrz _) hvcell h1c hv1 3 3 cur1.size cur.size (by simp [World.shape?,n2]) (by simp [World.shape?,hh]) (by omega) (by simp [World.frozen?,n2]) (by simp [World.frozen?,n2])).mono ?_
     rintro e w' ⟨rfl,rfl⟩
     refine ⟨_,rfl,?_⟩
     obtain ⟨c1,c2,c3,c4,c5,c6⟩:=Y5 (w:=w.drew) (o:=0+(i+1)) (vs:=(cur.toList.take l.length).drop i) hh (by rw [List.length_drop,hol];omega) (λv hv=>h1c v (List.mem_of_mem_drop hv))
     generalize hw1:w.drew.setCells g (0+(i+1)) ((cur.toList.take l.length).drop i)=w1 at *
     have hs1:(F3 cur.toList (0+(i+1)) ((cur.toList.take l.length).drop i)).toArray.size=cap:=by rw [List.size_toArray,C1];simpa using hcs
     obtain ⟨d1,d2,d3,d4,d5,d6⟩:=Y5 (w:=w1) (o:=0+i) (vs:=[Value.int .i64 nn]) c1 (by rw [hs1,List.length_singleton];omega) hv1
     refine key _ _ d1 (λk hk=>(d2 k hk).trans (c2 k hk)) (d3.trans c3) (d4.trans c4) (d5.trans c5) (d6.trans c6) (by rw [C1];simpa using hs1) ?_
     rw [Nat.zero_add,Nat.zero_add]
     exact two' cur _ hol hi' (by omega) (λq hq=>by rw [List.getElem?_take,Ge];simp)
   ·by_cases hie:i=l.length
    ·subst hie
     exact grownEnd (some ⟨g,0,none⟩) cap (cur.toList.take l.length) hcap (by omega) hol (λh=>by cases h) (λa h j v hj=>by
      obtain rfl:=Option.some.inj h
      rw [I6]
      exact hcell j v hj) hO
    ·exact grownMid g cap _ (by omega) hcap (by omega) hol hcell h1c hO
 ·cases hpf
end
section
open Go Go.Proofs
set_option maxRecDepth 100000
section
theorem Bs9:Ti Tryz.prog GX 189 Va:=by
 refine Ca (C₀:=IH LF) (Dx (lx:=[(186,Ij),(184,Ik)]) (ly:=[(198,FI),(199,HN)]) (ls:=[]) rfl rfl rfl ⟨QE,QG,trivial⟩ ⟨B31,B33,trivial⟩ trivial) (F2 rfl (by kernel_rfl)) follows ?_
 intro args H ret Hc h
 unfold Va at h
 split at h
 ·rename_i rest n i b st z l
  obtain ⟨h0,h⟩:=B4 h
  obtain ⟨h1,h⟩:=B4 h
  obtain ⟨h2,h⟩:=B4 h
  obtain ⟨h3,h⟩:=B4 h
  obtain ⟨h4,h⟩:=B4 h
  obtain ⟨rfl,rfl⟩:=H5 h
  refine ⟨rfl,rfl,λσ yh s=>?_⟩
  have e:=(Az1 LF yh s 0 rest n i b st z l).trans (UG rest n i b st z l h0 h1 h2 h3 h4)
  exact ⟨1,_,e,rfl⟩
 ·cases h
theorem B16:B1 Tryz.prog GX 170 As5:=by
 refine B1.fix (pf:=GG) _ (L8 [1,0] (C₀:=T5 LF) (Dx (lx:=[(97,Vb)]) (ly:=[(189,Va)]) (ls:=[]) rfl rfl rfl ⟨Af7,trivial⟩ ⟨Bs9,trivial⟩ trivial) (F2 rfl (by kernel_rfl)) follows ?_)
 intro args ret Hc h
 unfold GG at h
 split at h
 ·rename_i s
  obtain ⟨h0,h⟩:=B4 h
  obtain ⟨rfl,rfl⟩:=H5 h
  obtain ⟨r,H,e,hs⟩:=Bk9 s h0
  exact ⟨rfl,rfl,rfl,1,r,H,(Bk8 LF noY () 0 s).trans e,hs⟩
 ·cases h
end
end
section
open Go Go.Proofs Go.Sort
set_option maxRecDepth 100000
theorem Br2:B1 Tryz.prog GX 107 Nd:=λargs ret Hc h=>by
 have:J1 (Nd args)=none:=by unfold Nd LN;split<;>rfl
 rw [this] at h;cases h
theorem Bt0:LM Tryz.prog GX 106 Vc:=by
 refine Uo (C₀:=U4 LF) ((K8.ok (l:=[(107,Nd),(108,HJ)]) rfl ⟨Br2,Ba6,trivial⟩)) (F2 rfl (by kernel_rfl)) follows ?_
 intro args H L h σ yh s s' hr
 unfold Vc at h
 split at h
 ·rename_i p t n
  simp only [Option.some.injEq,Prod.mk.injEq] at h
  obtain ⟨h1,rfl⟩:=h
  obtain ⟨t',f⟩:=YY (R:=PV × List Blk × σ) yh p t n s s' h1 hr
  exact ⟨1,_,(A69 LF yh 0 p t n s).trans (f _)⟩
 ·cases h
end
section
open Go Go.Proofs
set_option maxRecDepth 100000
section
theorem Br6:B1 Tryz.prog GX 131 ZR:=xf [] (Gu LF) Wn rfl ⟨B16,B18,trivial⟩ rfl (by kernel_rfl) follows λargs=>by
 unfold Wn;split
 ·rename_i s;exact λh0=>⟨rfl,rfl,rfl,_,_,(A19 LF noY () 0 s).trans (VK s h0),rfl⟩
 ·trivial
theorem B13:B1 Tryz.prog GX 94 QX:=xf [] (Me LF) GB rfl ⟨B05,Br6,trivial⟩ rfl (by kernel_rfl) follows λargs=>by
 unfold GB;split
 ·rename_i s;exact λh0=>⟨rfl,rfl,rfl,_,_,(Bj4 LF noY () 0 s).trans (Ak6 s h0),rfl⟩
 ·trivial
theorem Br7:B1 Tryz.prog GX 81 FZ:=by
 refine B1.fix (pf:=Wo) _ (P4 (C₀:=IM LF) (K8.ok (l:=[]) rfl trivial) (F2 rfl (by kernel_rfl)) follows ?_)
 intro args ret Hc h
 unfold Wo at h
 split at h
 ·rename_i t p n
  obtain ⟨rfl,rfl⟩:=H5 h
  have e:=(A21 LF noY () 0 t p n).trans (VM t p n )
  exact ⟨rfl,1,_,[],e,rfl,rfl⟩
 ·cases h
theorem B30:B1 Tryz.prog GX 49 RF:=by
 refine B1.fix (pf:=HO) _ (P4 (C₀:=SX LF) (K8.ok (l:=[(81,FZ)]) rfl ⟨Br7,trivial⟩) (F2 rfl (by kernel_rfl)) follows ?_)
 intro args ret Hc h
 unfold HO at h
 split at h
 ·rename_i t p
  obtain ⟨rfl,rfl⟩:=H5 h
  have e:=(Bp5 LF noY () 0 t p).trans (Ao8 t p )
  exact ⟨rfl,1,_,[],e,rfl,rfl⟩
 ·cases h
theorem Af6:B1 Tryz.prog GX 59 BH:=by
 refine B1.fix (pf:=QO) _ (L8 [] (C₀:=It LF) (Dx (lx:=[(93,Qr),(49,RF),(94,QX)]) (ly:=[]) (ls:=[(106,Vc)]) rfl rfl rfl ⟨Aq7,B30,B13,trivial⟩ trivial ⟨Bt0,trivial⟩) (F2 rfl (by kernel_rfl)) follows ?_)
 intro args ret Hc h
 unfold QO at h
 split at h
 ·rename_i s
  obtain ⟨h0,h⟩:=B4 h
  obtain ⟨rfl,rfl⟩:=H5 h
  obtain ⟨r,H,e,hs⟩:=Bw9 s h0
  exact ⟨rfl,rfl,rfl,1,r,H,(Bw8 LF noY () 0 s).trans e,hs⟩
 ·cases h
theorem AK:B1 Tryz.prog GX 39 Ex:=xf [] (SC LF) FM rfl ⟨Af6,trivial⟩ rfl (by kernel_rfl) follows λargs=>by
 unfold FM;split
 ·rename_i kd nm v4 a0 a1 a2 a3 a4 a5 a6 a7;exact λh0=>λh1=>λh2=>(let ⟨r,H,e,q⟩:=Ab7 kd nm v4 a0 a1 a2 a3 a4 a5 a6 a7 h0 h1 h2;⟨rfl,rfl,rfl,r,H,(Bg9 LF noY () 0 kd nm v4 a0 a1 a2 a3 a4 a5 a6 a7).trans e,q⟩)
 ·trivial
theorem AJ:B1 Tryz.prog GX 41 Ew:=by
 refine B1.fix (pf:=FL) _ (P4 (C₀:=RZ LF) (K8.ok (l:=[]) rfl trivial) (F2 rfl (by kernel_rfl)) follows ?_)
 intro args ret Hc h
 unfold FL at h
 split at h
 ·rename_i t
  obtain ⟨rfl,rfl⟩:=H5 h
  have e:=(Bg8 LF noY () 0 t).trans (Ai3 t )
  exact ⟨rfl,1,_,[],e,rfl,rfl⟩
 ·cases h
end
section
theorem B15:B1 Tryz.prog GX 143 As4:=xf [] (SL LF) GD rfl trivial rfl (by kernel_rfl) follows λargs=>by
 unfold GD;split
 ·rename_i s;exact ⟨rfl,rfl,rfl,_,_,(Bj8 LF noY () 0 s).trans (Ak8 s ),rfl⟩
 ·trivial
theorem B14:B1 Tryz.prog GX 144 As3:=xf [] (SK LF) GC rfl trivial rfl (by kernel_rfl) follows λargs=>by
 unfold GC;split
 ·rename_i n;exact ⟨rfl,rfl,rfl,_,_,(Bj6 LF noY () 0 n).trans (Ak7 n ),rfl⟩
 ·trivial
theorem B64:B1 Tryz.prog GX 98 Bt3:=xf [] (Av9 LF) QL rfl ⟨B15,trivial⟩ rfl (by kernel_rfl) follows λargs=>by
 unfold QL;split
 ·rename_i s p;exact ⟨rfl,rfl,rfl,_,_,(Bv8 LF noY () 0 s p).trans (Ax2 s p ),rfl⟩
 ·trivial
theorem B63:B1 Tryz.prog GX 99 Bt2:=xf [] (Av8 LF) QK rfl ⟨B14,trivial⟩ rfl (by kernel_rfl) follows λargs=>by
 unfold QK;split
 ·rename_i n m;exact ⟨rfl,rfl,rfl,_,_,(Bv7 LF noY () 0 n m).trans (Ax1 n m ),rfl⟩
 ·trivial
theorem LA:B1 Tryz.prog GX 63 Qt:=xf [] (Mg LF) GF rfl ⟨Af7,B64,B63,trivial⟩ rfl (by kernel_rfl) follows λargs=>by
 unfold GF;split
 ·rename_i s p;exact λh0=>λh1=>⟨rfl,rfl,rfl,_,_,(Bk7 LF noY () 0 s p).trans (Al5 s p h0 h1),rfl⟩
 ·trivial
theorem ZK:B1 Tryz.prog GX 75 HG:=xf [] (SW LF) HH rfl trivial rfl (by kernel_rfl) follows λargs=>by
 unfold HH;split
 ·rename_i n m;exact ⟨rfl,rfl,rfl,_,_,(Bp2 LF noY () 0 n m).trans (Ao4 n m ),rfl⟩
 ·trivial
theorem Ba1:B1 Tryz.prog GX 45 GJ:=xf [] (SN LF) GK rfl ⟨Af6,trivial⟩ rfl (by kernel_rfl) follows λargs=>by
 unfold GK;split
 ·rename_i h b e;exact λh0=>(let ⟨rr,hH,ee,qq⟩:=Bl8 h b e h0;⟨rfl,rfl,rfl,rr,hH,(Bl7 LF noY () 0 h b e).trans ee,qq⟩)
 ·trivial
theorem B11:B1 Tryz.prog GX 58 As2:=xf [] (SG LF) FX rfl ⟨Af6,trivial⟩ rfl (by kernel_rfl) follows λargs=>by
 unfold FX;split
 ·rename_i h b;exact λh0=>(let ⟨rr,hH,ee,qq⟩:=Bi7 h b h0;⟨rfl,rfl,rfl,rr,hH,(Bi6 LF noY () 0 h b).trans ee,qq⟩)
 ·trivial
theorem B65:B1 Tryz.prog GX 66 Bt5:=xf [] (Aw0 LF) QS rfl ⟨LA,trivial⟩ rfl (by kernel_rfl) follows λargs=>by
 unfold QS;split
 ·rename_i h b s;exact λh0=>λh1=>(let ⟨rr,hH,ee,qq⟩:=Bx6 h b s h0 h1;⟨rfl,rfl,rfl,rr,hH,(Bx5 LF noY () 0 h b s).trans ee,qq⟩)
 ·trivial
theorem B67:B1 Tryz.prog GX 78 Bt7:=xf [] (Aw2 LF) RH rfl ⟨LA,trivial⟩ rfl (by kernel_rfl) follows λargs=>by
 unfold RH;split
 ·rename_i h b e s;exact λh0=>λh1=>(let ⟨rr,hH,ee,qq⟩:=Bz0 h b e s h0 h1;⟨rfl,rfl,rfl,rr,hH,(By9 LF noY () 0 h b e s).trans ee,qq⟩)
 ·trivial
theorem B09:B1 Tryz.prog GX 92 As1:=xf [] (Mc LF) FU rfl ⟨B11,trivial⟩ rfl (by kernel_rfl) follows λargs=>by
 unfold FU;split
 ·rename_i l_z l_t l;exact λh0=>λh1=>λh2=>⟨rfl,rfl,rfl,_,_,(Bi4 LF noY () 0 l_z l_t l).trans (Aj9 l_z l_t l h0 h1 h2),rfl⟩
 ·trivial
theorem A99:B1 Tryz.prog GX 57 FS:=xf [] (SE LF) FT rfl ⟨B09,trivial⟩ rfl (by kernel_rfl) follows λargs=>by
 unfold FT;split
 ·rename_i l_z l_t l;exact λh0=>λh1=>λh2=>⟨rfl,rfl,rfl,_,_,(Bi1 LF noY () 0 l_z l_t l).trans (Aj5 l_z l_t l h0 h1 h2),rfl⟩
 ·trivial
theorem A98:B1 Tryz.prog GX 60 FQ:=by
 refine B1.fix (pf:=FR) _ (P4 (C₀:=SD LF) (K8.ok (l:=[]) rfl trivial) (F2 rfl (by kernel_rfl)) follows ?_)
 intro args ret Hc h
 unfold FR at h
 split at h
 ·rename_i l_z l_t l
  obtain ⟨h0,h⟩:=B4 h
  obtain ⟨h1,h⟩:=B4 h
  obtain ⟨rfl,rfl⟩:=H5 h
  have e:=(Bh8 LF noY () 0 l_z l_t l).trans (Aj3 l_z l_t l h0 h1)
  exact ⟨rfl,1,_,[],e,rfl,rfl⟩
 ·cases h
theorem Ba9:B1 Tryz.prog GX 74 HQ:=by
 refine B1.fix (pf:=HS) _ (P4 (C₀:=SY LF) (K8.ok (l:=[]) rfl trivial) (F2 rfl (by kernel_rfl)) follows ?_)
 intro args ret Hc h
 unfold HS at h
 split at h
 ·rename_i l_z l_t l
  obtain ⟨h0,h⟩:=B4 h
  obtain ⟨h1,h⟩:=B4 h
  obtain ⟨rfl,rfl⟩:=H5 h
  have e:=(Bq1 LF noY () 0 l_z l_t l).trans (Ap5 l_z l_t l h0 h1)
  exact ⟨rfl,1,_,[],e,rfl,rfl⟩
 ·cases h
theorem A97:B1 Tryz.prog GX 65 QR:=xf [0,0] (Mb LF) FP rfl ⟨B65,trivial⟩ rfl (by kernel_rfl) follows λargs=>by
 unfold FP;split
 ·rename_i l_z l_t l q;exact λh0=>λh1=>λh2=>λh3=>⟨rfl,rfl,rfl,_,_,(Bh6 LF noY () 0 l_z l_t l q).trans (Aj2 l_z l_t l q h0 h1 h2 h3),rfl⟩
 ·trivial
theorem Ba8:B1 Tryz.prog GX 77 RG:=xf [0,0] (Ml LF) HP rfl ⟨B67,trivial⟩ rfl (by kernel_rfl) follows λargs=>by
 unfold HP;split
 ·rename_i l_z l_t l q;exact λh0=>λh1=>λh2=>λh3=>⟨rfl,rfl,rfl,_,_,(Bp9 LF noY () 0 l_z l_t l q).trans (Ap4 l_z l_t l q h0 h1 h2 h3),rfl⟩
 ·trivial
end
end
section
open Go
theorem Tp {x:List By} (h:x≠[]):Rx [] x = -1/\Rx x []=1:=by
 cases x with
 | nil=>exact absurd rfl h
 | cons a r=>exact ⟨rfl,rfl⟩
theorem Om (s:By):(G4 46 s = -1/\s.drop (G4 46 s+1).toNat=s/\rl s=[s])\/(0<=G4 46 s/\G4 46 s<s.length/\rl s=s.drop (G4 46 s+1).toNat::rl (s.take (G4 46 s).toNat)):=by
 rcases Ac s with ⟨h1,h2⟩ | ⟨p,q,rfl,h1,h2⟩
 ·exact .inl ⟨h2,by rw [h2];rfl,Zu h1⟩
 ·refine .inr ⟨by omega,by rw [h2];simp;omega,?_⟩
  rw [h2,Zv p h1,show ((p.length:Int)+1).toNat=p.length+1 by omega,Int.toNat_natCast,List.take_left]
  congr 1
  simp
theorem Ay2 (a b:By) (i k:Int) (hi:i=G4 46 a) (hk:k=G4 46 b) :
  (T9 (a.drop (i+1).toNat) (b.drop (k+1).toNat)≠0->M4 a b=T9 (a.drop (i+1).toNat) (b.drop (k+1).toNat))/\
  (T9 (a.drop (i+1).toNat) (b.drop (k+1).toNat)=0->(i<0\/k<0)->M4 a b=IZ (min i 0) (min k 0))/\
  (T9 (a.drop (i+1).toNat) (b.drop (k+1).toNat)=0->0<=i->0<=k->M4 a b=M4 (a.take i.toNat) (b.take k.toNat)):=by
 have hcmp:∀ x y:By,M4 x y=Rx (rl x) (rl y):=λx y=>rfl
 rw [hcmp,hcmp]
 rcases Om a with ⟨a1,a2,a3⟩ | ⟨a1,a2,a3⟩<;>rcases Om b with ⟨b1,b2,b3⟩ | ⟨b1,b2,b3⟩<;>rw [<-hi] at a1 a2<;>rw [<-hk] at b1 b2
 ·rw [a2,b2,a3,b3]
  refine ⟨λh=>N0 h,λh _=>?_,λ_ h=>by omega⟩
  rw [V7 h,M9,a1,b1]
  rfl
 ·rw [<-hk] at b3
  rw [a2,a3,b3]
  refine ⟨λh=>N0 h,λh _=>?_,λ_ h=>by omega⟩
  rw [V7 h,M9,(Tp (Ae3 _)).1,a1,Int.min_eq_right b1]
  rfl
 ·rw [<-hi] at a3
  rw [b2,b3,a3]
  refine ⟨λh=>N0 h,λh _=>?_,λ_ _ h=>by omega⟩
  rw [V7 h,M9,(Tp (Ae3 _)).2,b1,Int.min_eq_right a1]
  rfl
 ·rw [<-hi] at a3
  rw [<-hk] at b3
  rw [a3,b3]
  refine ⟨λh=>N0 h,λh hn=>by omega,λh _ _=>?_⟩
  rw [V7 h,M9]
end
section
open Go Go.Proofs Go.RowKit
set_option maxRecDepth 100000
theorem Bz3 (x:ByteArray) (w:World):Calls Tryz.prog 143 #[.string x] w λe w'=>e = .returned (.bool false)/\w'=w:=by
 go_enter Tryz.func143,Tryz.ntmps143
 go_wp2
 go_ret
 exact ⟨by simp,rfl⟩
theorem Bz2 (x:Int) (w:World):Calls Tryz.prog 144 #[.int .i64 x] w λe w'=>e = .returned (.bool false)/\w'=w:=by
 go_enter Tryz.func144,Tryz.ntmps144
 go_wp2
 go_ret
 exact ⟨by simp,rfl⟩
theorem Be8 (x y:Int):IZ x y=if x<y then -1 else if y<x then 1 else 0:=by
 unfold IZ
 rw [R5,R5]
 by_cases h:x<y<;>by_cases g:y<x<;>simp [h,g]
theorem B60 (x y:Int) (w:World):Calls Tryz.prog 99 #[.int .i64 x,.int .i64 y] w λe w'=>e = .returned (.int .i64 (IZ x y))/\w'=w:=by
 have e7:∀ args w,(callFunc 144 args).run Tryz.prog w = .ok (.enter 144 args) w:=enters_of Tryz.func144 (by kernel_rfl) rfl
 go_enter Tryz.func99,Tryz.ntmps99
 go_wp2_with (go_at_fn 144;refine (Bz2 _ _).mono ?_;rintro e w' ⟨rfl,hw⟩;rw [hw])
 all_goals (go_ret;refine ⟨?_,rfl⟩;rw [Be8];(repeat' split)<;>first | rfl | (exfalso;omega))
theorem Be7 (x y:ByteArray):T9 x.data.toList y.data.toList=if Op.bytesLess x.toList y.toList=true then -1 else if (!x.toList==y.toList)=true then 1 else 0:=by
 rw [ByteArray.toList_eq,ByteArray.toList_eq,<-Nj]
 generalize x.data.toList=a
 generalize y.data.toList=b
 unfold T9
 cases h:bytesLess a b with
 | true=>rfl
 | false=>
  have e:(!a==b)=bytesLess b a:=by
   rw [S8] at h ⊢
   have h:=of_decide_eq_false h
   by_cases hab:a=b
   ·subst hab;simp
   ·have:b<a:=by
     apply Decidable.byContradiction
     intro g
     exact hab (List.le_antisymm (List.not_lt.1 g) (List.not_lt.1 h))
    simp [hab,this]
  rw [e]
  cases bytesLess b a<;>rfl
theorem B61 (x y:ByteArray) (w:World):Calls Tryz.prog 98 #[.string x,.string y] w λe w'=>e = .returned (.int .i64 (T9 x.data.toList y.data.toList))/\w'=w:=by
 have e7:∀ args w,(callFunc 143 args).run Tryz.prog w = .ok (.enter 143 args) w:=enters_of Tryz.func143 (by kernel_rfl) rfl
 go_enter Tryz.func98,Tryz.ntmps98
 go_wp2_with (go_at_fn 143;refine (Bz3 _ _).mono ?_;rintro e w' ⟨rfl,hw⟩;rw [hw])
 all_goals (go_ret;refine ⟨?_,rfl⟩;rw [Be7];(try simp [*]))
theorem A09 (s:ByteArray):Lib.lastIndexByte s 46=G4 46 s.data.toList:=by
 have hsz:s.size=s.data.toList.length:=by rw [Array.length_toList];rfl
 have hb:∀ j (hj:j<s.data.toList.length),((s.data[j]!).toNat:Int)=46↔s.data.toList[j]=46:=λj hj=>by
  have hj':j<s.data.size:=by simpa using hj
  rw [getElem!_pos s.data j hj',Array.getElem_toList]
  constructor
  ·intro h
   exact UInt8.toNat_inj.1 (show s.data[j].toNat=46 by omega)
  ·intro h
   rw [h]
   rfl
 rcases Lib.lastIndexByte_spec s 46 with ⟨e,hn⟩ | ⟨i,hi,e,hc,hn⟩
 ·rw [e]
  rcases Ac s.data.toList with ⟨_,h2⟩ | ⟨p,q,h1,h2,h3⟩
  ·exact h2.symm
  ·have hp:p.length<s.data.toList.length:=by rw [h1];simp
   exact absurd ((hb p.length hp).2 (by simp [h1])) (hn p.length (by omega))
 ·rw [e]
  have hi':i<s.data.toList.length:=by omega
  have hci:=(hb i hi').1 hc
  rcases Ac s.data.toList with ⟨h1,_⟩ | ⟨p,q,h1,h2,h3⟩
  ·exact absurd (hci ▸ List.getElem_mem hi') h1
  ·rw [h3]
   have hp:p.length<s.data.toList.length:=by rw [h1];simp
   have hcp:=(hb p.length hp).2 (by simp [h1])
   by_cases h4:i<p.length
   ·exact absurd hcp (hn p.length h4 (by omega))
   ·by_cases h5:p.length<i
    ·refine absurd ?_ h2
     have:s.data.toList[i]? = some 46:=by rw [List.getElem?_eq_getElem hi',hci]
     rw [h1,List.getElem?_append_right (by omega),show i-p.length=(i-p.length-1)+1 by omega,List.getElem?_cons_succ] at this
     exact List.mem_of_getElem? this
    ·omega
theorem A88 (s:ByteArray) (hs:s.size<4611686018427387904) (w:World):Calls Tryz.prog 97 #[.string s,.int .u8 46] w λe w'=>e = .returned (.int .i64 (G4 46 s.data.toList))/\w'=w:=by
 rw [<-A09]
 exact Any.strings_LastIndexByte Tryz.lays149 s 46 hs w
theorem PS (s:ByteArray) (l:Int) (h0:0<=l) (h1:l<=s.size) (w:World):(Instr.sliceAt 9 (.string s) (some (.int .i64 l)) none none).run Tryz.prog w = .ok (.string (s.extract l.toNat s.size)) w:=by
 simp [Instr.sliceAt,Instr.slice,run_underlying Tryz.underlying9,Instr.sliceBounds,run_sliceBound,Result.andThen,h0,h1]
theorem A71 (s:ByteArray) (l:Int) (h0:0<=l) (h1:l<=s.size) (w:World):(Instr.sliceAt 9 (.string s) none (some (.int .i64 l)) none).run Tryz.prog w = .ok (.string (s.extract 0 l.toNat)) w:=by
 simp [Instr.sliceAt,Instr.slice,run_underlying Tryz.underlying9,Instr.sliceBounds,run_sliceBound,Result.andThen,h0,h1]
theorem MV (s:ByteArray) (n:Nat):(s.extract n s.size).data.toList=s.data.toList.drop n:=by
 rw [ByteArray.data_extract,Array.toList_extract]
 simp only [List.extract]
 exact List.take_of_length_le (by rw [List.length_drop,Array.length_toList];exact Nat.le_refl _)
theorem Az5 (s:ByteArray) (n:Nat):(s.extract 0 n).data.toList=s.data.toList.take n:=by
 rw [ByteArray.data_extract,Array.toList_extract]
 simp [List.extract]
set_option maxHeartbeats 4000000 in theorem Bz5 (a b:ByteArray) (ha:a.size<=1000000000) (hb:b.size<=1000000000) (w:World):Calls Tryz.prog 63 #[.string a,.string b] w λe w'=>e = .returned (.int .i64 (M4 a.data.toList b.data.toList))/\∃ q,w'=w.drewN q:=by
 have eL:∀ args w,(callFunc 97 args).run Tryz.prog w = .ok (.enter 97 args) w:=enters_of Tryz.func97 (by kernel_rfl) rfl
 have eS:∀ args w,(callFunc 98 args).run Tryz.prog w = .ok (.enter 98 args) w:=enters_of Tryz.func98 (by kernel_rfl) rfl
 have eI:∀ args w,(callFunc 99 args).run Tryz.prog w = .ok (.enter 99 args) w:=enters_of Tryz.func99 (by kernel_rfl) rfl
 go_enter Tryz.func63,Tryz.ntmps63
 go_wp2
 go_step3
 go_wp2
 try go_step3
 try go_wp2
 go_loopw [0,1] (λva vb wr=>∃ (x y:ByteArray) (n:Nat),va = .string x/\vb = .string y/\x.size<=1000000000/\y.size<=1000000000/\wr=w.drewN n/\Hid (M4 a.data.toList b.data.toList=M4 x.data.toList y.data.toList)) (λva _ _=>match va with | .string x=>x.size | _=>0)
 case atStart=>exact ⟨a,b,0,rfl,rfl,ha,hb,rfl,rfl⟩
 case round=>
  obtain ⟨x,y,n,rfl,rfl,hx,hy,hwr,hh⟩:=hrel
  obtain ⟨i,hi⟩:∃ i,i=G4 46 x.data.toList:=⟨_,rfl⟩
  obtain ⟨k,hk⟩:∃ k,k=G4 46 y.data.toList:=⟨_,rfl⟩
  have hxl:x.data.toList.length=x.size:=by rw [Array.length_toList];rfl
  have hyl:y.data.toList.length=y.size:=by rw [Array.length_toList];rfl
  have hi1:-1<=i/\i<x.size:=by rcases Om x.data.toList with ⟨h,_⟩ | ⟨h,h',_⟩<;>omega
  have hk1:-1<=k/\k<y.size:=by rcases Om y.data.toList with ⟨h,_⟩ | ⟨h,h',_⟩<;>omega
  obtain ⟨hi1,hi2⟩:=hi1
  obtain ⟨hk1,hk2⟩:=hk1
  have wx:∀ w,Calls Tryz.prog 97 #[.string x,.int .u8 46] w λe w'=>e = .returned (.int .i64 i)/\w'=w:=by rw [hi];exact A88 x (by omega)
  have wy:∀ w,Calls Tryz.prog 97 #[.string y,.int .u8 46] w λe w'=>e = .returned (.int .i64 k)/\w'=w:=by rw [hk];exact A88 y (by omega)
  have HI:Hid (i=G4 46 x.data.toList):=hi
  have HK:Hid (k=G4 46 y.data.toList):=hk
  have HW:Hid (wr=w.drewN n):=hwr
  clear hi hk hxl hyl hwr
  go_wp2_with (go_at_fn 97;refine (wx _).mono ?_;rintro e w' ⟨rfl,hw⟩;rw [hw])
  clear wx
  go_wp2_with (go_at_fn 97;refine (wy _).mono ?_;rintro e w' ⟨rfl,hw⟩;rw [hw])
  clear wy
  have ei:IntKind.i64.wrap (i+1)=i+1:=by simp [IntKind.wrap,IntKind.bits,IntKind.signed];omega
  have ek:IntKind.i64.wrap (k+1)=k+1:=by simp [IntKind.wrap,IntKind.bits,IntKind.signed];omega
  have s1:=PS x (i+1) (by omega) (by omega)
  have s2:=PS y (k+1) (by omega) (by omega)
  go_quiet (first | (go_at_call 98;exact Calls.quiet_of_same (B61 _ _ _)))
  rw [MV,MV]
  obtain ⟨c,hc⟩:∃ c,c=T9 (x.data.toList.drop (i+1).toNat) (y.data.toList.drop (k+1).toNat):=⟨_,rfl⟩
  rw [<-hc]
  have HC:Hid (c=T9 (x.data.toList.drop (i+1).toNat) (y.data.toList.drop (k+1).toNat)):=hc
  clear hc s1 s2 ei ek eS
  obtain ⟨w2,hw2⟩:∃ w2,w2=wr.drewN nq:=⟨_,rfl⟩
  rw [<-hw2]
  have HW2:Hid (w2=w.drewN (n+nq)):=by rw [hw2,HW.out,World.drewN_drewN];rfl
  clear hw2
  generalize n+nq=n2 at HW2
  have FIN:Hid (∀ v,v=M4 x.data.toList y.data.toList->(Ending.returned (.int .i64 v)=Ending.returned (.int .i64 (M4 a.data.toList b.data.toList))/\∃ m,w2=w.drewN m)):=λv hv=>⟨by rw [hh.out,hv],n2,HW2.out⟩
  have st:=Ay2 x.data.toList y.data.toList i k HI.out HK.out
  rw [<-HC.out] at st
  have ST:Hid (_/\_/\_):=st
  clear st
  go_wp2_with (go_at_fn 99;refine (B60 _ _ _).mono ?_;rintro e w' ⟨rfl,hw⟩;rw [hw])
  ·have hc0:c≠0:=by simpa using ‹(c != 0)=true›
   simp only [Exit.noGoto_ret]
   go_ret
   exact FIN.out _ (ST.out.1 hc0).symm
  ·have hc0:c=0:=by simpa using ‹(c != 0)=false›
   simp only [Exit.noGoto_ret]
   go_ret
   exact FIN.out _ (ST.out.2.1 hc0 (by omega)).symm
  ·have hc0:c=0:=by simpa using ‹(c != 0)=false›
   have s3:=A71 x i (by omega) (by omega)
   have s4:=A71 y k (by omega) (by omega)
   have E:=ST.out.2.2 hc0 (by omega) (by omega)
   have HE:Hid (M4 x.data.toList y.data.toList=M4 (x.data.toList.take i.toNat) (y.data.toList.take k.toNat)):=E
   clear E
   go_quiet (fail)
   go_wp2
   go_roundw
   case rel=>exact ⟨x.extract 0 i.toNat,y.extract 0 k.toNat,n2+nq,rfl,rfl,by simp [ByteArray.size_extract];omega,by simp [ByteArray.size_extract];omega,by rw [HW2.out,World.drewN_drewN],by rw [hh.out,HE.out,Az5,Az5];rfl⟩
   case measure=>simp [ByteArray.size_extract];omega
  ·have hc0:c=0:=by simpa using ‹(c != 0)=false›
   simp only [Exit.noGoto_ret]
   go_ret
   exact FIN.out _ (ST.out.2.1 hc0 (by omega)).symm
theorem A03 (w:World) (A B:Obj) (n:Nat):((w.alloc A).alloc B).drewN n=Sort.grow (w.drewN n) #[A,B]:=by
 have h:(w.heap.push A).push B=w.heap++#[A,B]:=by apply Array.toList_inj.1;simp
 show ({ (w.drewN n) with heap:=(w.heap.push A).push B }:World) = { (w.drewN n) with heap:=w.heap++#[A,B] }
 rw [h]
theorem Bz4 (a b:ByteArray) (p q:Bool) (ha:a.size<=1000000000) (hb:b.size<=1000000000) (w:World):Calls Tryz.prog 62 #[.agg #[.string a,.bool p],.agg #[.string b,.bool q]] w λe w'=>e = .returned (.int .i64 (M4 a.data.toList b.data.toList))/\∃ n os,w'=Sort.grow (w.drewN n) os:=by
 have eC:∀ args w,(callFunc 63 args).run Tryz.prog w = .ok (.enter 63 args) w:=enters_of Tryz.func63 (by kernel_rfl) rfl
 go_enter Tryz.func62,Tryz.ntmps62
 go_wp2_with (go_at_fn 63;refine (Bz5 _ _ ha hb _).mono ?_;rintro e w' ⟨rfl,m0,hw⟩;rw [hw])
 go_ret
 refine ⟨rfl,m0,#[.cells #[.string a,.bool p] 63,.cells #[.string b,.bool q] 63],?_⟩
 exact A03 _ _ _ _
end
end Go.Proofs.YtelhbgonncceeaaGreatDoor.E
namespace Go.Proofs
open Go.Shelf
def Tryz.sortEnt_ren:Go.Shelf.Ren:=⟨fun | 6=>61 | 15=>96 | 14=>95 | 28=>140 | 29=>141 | 20=>132 | 21=>133 | 22=>134 | 23=>135 | 24=>136 | 25=>137 | 26=>138 | 27=>139 | 46=>171 | 47=>172 | 48=>173 | 49=>174 | 50=>175 | 57=>190 | n=>n,fun | 22=>23 | 24=>63 | 25=>103 | 3=>3 | 39=>139 | 0=>0 | 53=>24 | 55=>168 | 4=>4 | 46=>161 | 45=>160 | 50=>84 | 5=>5 | 9=>9 | 66=>182 | 70=>186 | 76=>201 | 77=>202 | n=>n,fun | n=>n⟩
theorem Tryz.sortEnt:Go.Proofs.SlLaysF0.n6 Tryz.prog Tryz.sortEnt_ren:={
 mixed:=by kernel_rfl
 f6:=⟨Tryz.f61.name,by decide,Tryz.func61.trans (congrArg some (by kernel_rfl))⟩
 f14:=⟨Tryz.f95.name,by decide,Tryz.func95.trans (congrArg some (by kernel_rfl))⟩
 f15:=Tryz.func96.trans (congrArg some (by kernel_rfl))
 f20:=⟨Tryz.f132.name,by decide,Tryz.func132.trans (congrArg some (by kernel_rfl))⟩
 f21:=⟨Tryz.f133.name,by decide,Tryz.func133.trans (congrArg some (by kernel_rfl))⟩
 f22:=⟨Tryz.f134.name,by decide,Tryz.func134.trans (congrArg some (by kernel_rfl))⟩
 f23:=⟨Tryz.f135.name,by decide,Tryz.func135.trans (congrArg some (by kernel_rfl))⟩
 f24:=⟨Tryz.f136.name,by decide,Tryz.func136.trans (congrArg some (by kernel_rfl))⟩
 f25:=⟨Tryz.f137.name,by decide,Tryz.func137.trans (congrArg some (by kernel_rfl))⟩
 f26:=⟨Tryz.f138.name,by decide,Tryz.func138.trans (congrArg some (by kernel_rfl))⟩
 f27:=⟨Tryz.f139.name,by decide,Tryz.func139.trans (congrArg some (by kernel_rfl))⟩
 f28:=Tryz.func140.trans (congrArg some (by kernel_rfl))
 f29:=Tryz.func141.trans (congrArg some (by kernel_rfl))
 f46:=⟨Tryz.f171.name,by decide,Tryz.func171.trans (congrArg some (by kernel_rfl))⟩
 f47:=Tryz.func172.trans (congrArg some (by kernel_rfl))
 f48:=Tryz.func173.trans (congrArg some (by kernel_rfl))
 f49:=⟨Tryz.f174.name,by decide,Tryz.func174.trans (congrArg some (by kernel_rfl))⟩
 f50:=⟨Tryz.f175.name,by decide,Tryz.func175.trans (congrArg some (by kernel_rfl))⟩
 f57:=⟨Tryz.f190.name,by decide,Tryz.func190.trans (congrArg some (by kernel_rfl))⟩
 t0:=Tryz.underlying0
 a0:=Tryz.isAgg0
 z0:=Tryz.sizeOf0
 v0:=Tryz.zeroValue0
 t3:=Tryz.underlying3
 a3:=Tryz.isAgg3
 z3:=Tryz.sizeOf3
 v3:=Tryz.zeroValue3
 t4:=Tryz.underlying4
 a4:=Tryz.isAgg4
 z4:=Tryz.sizeOf4
 v4:=Tryz.zeroValue4
 t5:=Tryz.underlying5
 a5:=Tryz.isAgg5
 z5:=Tryz.sizeOf5
 v5:=Tryz.zeroValue5
 t9:=Tryz.underlying9
 a9:=Tryz.isAgg9
 z9:=Tryz.sizeOf9
 v9:=Tryz.zeroValue9
 t22:=Tryz.underlying23
 a22:=Tryz.isAgg23
 z22:=Tryz.sizeOf23
 v22:=Tryz.zeroValue23
 t25:=Tryz.underlying103
 a25:=Tryz.isAgg103
 z25:=Tryz.sizeOf103
 v25:=Tryz.zeroValue103
 t39:=Tryz.underlying139
 a39:=Tryz.isAgg139
 z39:=Tryz.sizeOf139
 v39:=Tryz.zeroValue139
 t45:=Tryz.underlying160
 a45:=Tryz.isAgg160
 z45:=Tryz.sizeOf160
 v45:=Tryz.zeroValue160
 t46:=Tryz.underlying161
 a46:=Tryz.isAgg161
 z46:=Tryz.sizeOf161
 v46:=Tryz.zeroValue161
 t50:=Tryz.underlying84
 a50:=Tryz.isAgg84
 z50:=Tryz.sizeOf84
 v50:=Tryz.zeroValue84
 t53:=Tryz.underlying24
 a53:=Tryz.isAgg24
 z53:=Tryz.sizeOf24
 v53:=Tryz.zeroValue24
 t55:=Tryz.underlying168
 a55:=Tryz.isAgg168
 z55:=Tryz.sizeOf168
 v55:=Tryz.zeroValue168
 t66:=Tryz.underlying182
 a66:=Tryz.isAgg182
 z66:=Tryz.sizeOf182
 v66:=Tryz.zeroValue182
 t70:=Tryz.underlying186
 a70:=Tryz.isAgg186
 z70:=Tryz.sizeOf186
 v70:=Tryz.zeroValue186
 t76:=Tryz.underlying201
 a76:=Tryz.isAgg201
 z76:=Tryz.sizeOf201
 v76:=Tryz.zeroValue201
 t77:=Tryz.underlying202
 a77:=Tryz.isAgg202
 z77:=Tryz.sizeOf202
 v77:=Tryz.zeroValue202 }
end Go.Proofs
namespace Go.Proofs.YtelhbgonncceeaaGreatDoor.E
set_option linter.all false
section
open Go Go.Proofs Go.RowKit Go.Sort
set_option maxRecDepth 100000
abbrev cfE:Lk->Lk->Int:=λx y=>M4 x.1.1 y.1.1
def Oe (e:Lk):List Value:=[.string ⟨e.1.1.toArray⟩,.bool e.1.2]
theorem Ay1 (blk off size:Nat) (w:World):CmpLays Tryz.prog 62 #[] Oe 2 cfE blk off size w:=by
 intro m os dk hs x y
 have h:=Bz4 ⟨x.1.1.toArray⟩ ⟨y.1.1.toArray⟩ x.1.2 y.1.2 (by have:=x.2;simpa [ByteArray.size] using this) (by have:=y.2;simpa [ByteArray.size] using this) (sortWorldK Oe 2 w blk off m dk os)
 exact h
theorem A41 {w:World} {blk e:Nat} {cur:Array Value} {fr:Nat × Nat} (h:w.heap[blk]? = some (.cells cur e fr)) (d:Array Lk) :
  (putRowK Oe 2 w blk 0 d).heap[blk]? = some (.cells (putCells id 0 (flatK Oe 2 d) cur) e fr)/\(∀ k,k≠blk->(putRowK Oe 2 w blk 0 d).heap[k]? = w.heap[k]?):=by
 unfold putRowK putRow mapBlock
 constructor
 ·simp only [Array.getElem?_modify,if_true,h,Option.map_some,onCells]
 ·intro k hk
  simp only [Array.getElem?_modify]
  rw [if_neg (λe=>hk e.symm)]
theorem Bm1 {cur:Array Value} {d:Array Lk} {i j:Nat} (hi:i<d.size) (hj:j<2) (hs:d.size*2<=cur.size):(putCells id 0 (flatK Oe 2 d) cur)[i*2+j]? = some ((Oe d[i]!)[j]!):=by
 have hlt:i*2+j<d.size*2:=by omega
 have hc:i*2+j<cur.size:=by omega
 unfold putCells
 rw [Array.getElem?_mapIdx,Array.getElem?_eq_getElem hc]
 simp only [Option.map_some,size_flatK,Nat.zero_le,true_and,Nat.zero_add,hlt,if_true,Nat.sub_zero,id]
 rw [get_flatK _ _ _ _ hlt,show (i*2+j) / 2=i by omega,show (i*2+j) % 2=j by omega]
theorem Ag0:LU Tryz.prog 61 Qq:=by
 intro St w x X els hx h
 generalize hp:Qq x els=pr at h ⊢
 obtain ⟨b,L⟩:=pr
 dsimp only at h ⊢
 unfold Qq at hp
 split at hp
 case h_2=>
  obtain ⟨rfl,_⟩:=Prod.mk.inj hp
  cases h
 have eX:X = .func (.func 62) #[] #[]:=by
  cases hx with
  | fn _ _ _ A B As Bs _ hA hB _ _ _ _=>
   have:A = #[]:=by simpa using hA
   have:B = #[]:=by simpa using hB
   simp_all
 subst eX
 obtain ⟨hb,hL⟩:=Prod.mk.inj hp
 rw [<-hb] at h
 simp only [Bool.and_eq_true] at h
 obtain ⟨h0,h1,h2⟩:=h
 have none':∀ (p:Option Addr) cap,L2 Tryz.prog ((callFunc 61 #[.slice p 0 cap,.func (.func 62) #[] #[]]).run Tryz.prog w) λV w'=>V=undef/\w'=w:=λp cap=>
  An (fn:=Tryz.f61) (by kernel_rfl) (by kernel_rfl) (by kernel_rfl) ((AnyF.slices_SortFunc_none Tryz.sortEnt p cap _ w).mono λe w' ⟨he,hw⟩=>⟨_,he,rfl,hw⟩)
 obtain ⟨E,rfl⟩:∃ E,els=D6 E:=⟨_,Ec h0⟩
 rw [Kj] at hL
 subst hL
 have hsm:=A68 h1
 have hlen:=(Dq hsm).length_eq
 refine ⟨λhn=>?_,?_⟩
 ·have hE:E=[]:=by
   cases E with
   | nil=>rfl
   | cons a r=>cases hn
  subst hE
  refine (none' none 0).mono λV w' ⟨hv,hw⟩=>⟨hv,?_,hw ▸ J2.refl _⟩
  have:R9 []=[]:=List.length_eq_zero_iff.1 hlen
  rw [this];rfl
 intro g0 cur e sz cap hg hcs hle hcap hst hlt hsz hcells
 by_cases hn:E=[]
 ·subst hn
  have hs0:R9 []=[]:=List.length_eq_zero_iff.1 hlen
  refine (none' _ cap).mono λV w' ⟨hv,hw⟩=>?_
  rw [hw]
  rw [hs0]
  exact ⟨hv,rfl,w,cur,hg,rfl,λ_ _=>rfl,rfl,rfl,rfl,rfl,λi h=>absurd h (Nat.not_lt_zero _),λi h=>absurd h (Nat.not_lt_zero _),J2.refl _⟩
 have hE:0<E.length:=List.length_pos_iff.2 hn
 have hel:∀ i (h:i<(D6 E).length),(D6 E)[i]=Uw (E[i]'(by simpa using h)):=λi h=>by simp [D6]
 have hs2:sz=2:=by
  have:=hsz 0 (by simpa using hE)
  rw [<-this,hel];rfl
 subst hs2
 obtain ⟨d,hd⟩:∃ d,(E.map mkS).toArray=d:=⟨_,rfl⟩
 have dsz:d.size=E.length:=by rw [<-hd];simp
 have dval:∀ i (hi:i<E.length),(d[i]!).1=E[i]:=λi hi=>by
  subst hd
  rw [getElem!_pos _ _ (by simpa using hi)]
  simp only [List.getElem_toArray,List.getElem_map]
  exact Ad5 (hsm _ (List.getElem_mem hi))
 have hcell:∀ t,t<d.size*2->cur[t]? = some ((Oe d[t / 2]!)[t % 2]!):=λt ht=>by
  have hi:t / 2<E.length:=by omega
  have hi':t / 2<(D6 E).length:=by simpa using hi
  have hl:((D6 E)[t / 2]).length=2:=by rw [hel];rfl
  obtain ⟨V,hV,hs⟩:=hcells (t / 2) hi' (t % 2) (by rw [hl];omega)
  rw [show t / 2*2+t % 2=t by omega] at hV
  have hx:((D6 E)[t / 2][t % 2]'(by rw [hl];omega))=(Uw E[t / 2])[t % 2]'(by show t % 2<2;omega):=by simp only [hel]
  rw [hx] at hs
  rw [hV]
  have dv:=dval _ hi
  rcases (show t % 2=0\/t % 2=1 by omega) with h | h
  ·have hs:VS St w (.str (E[t / 2]).1) V:=by simpa [h,Uw] using hs
   obtain ⟨s,hV2,hs2⟩:=hs.inv_str
   rw [hV2,h]
   show _=some (Value.string ⟨(d[t / 2]!).1.1.toArray⟩)
   rw [dv,<-hs2]
  ·have hs:VS St w (.bool (E[t / 2]).2) V:=by simpa [h,Uw] using hs
   rw [hs.inv_bool,h]
   show _=some (Value.bool (d[t / 2]!).1.2)
   rw [dv]
 have hH:HoldsK Oe 2 w g0 0 d:=λj hj=>by
  have hj':j<d.size*2:=by simpa using hj
  constructor
  ·simp only [World.cell?,hg,Nat.zero_add]
   rw [get_flatK _ _ _ _ hj']
   exact hcell j hj'
  ·simp [World.frozen?,hg]
 have hblk:g0<w.heap.size:=(Array.getElem?_eq_some_iff.1 hg).1
 have eg:∀ args w,(callFunc 62 args).run Tryz.prog w = .ok (.enter 62 args) w:=enters_of Tryz.func62 (by kernel_rfl) rfl
 have hm:cap<=9223372036854775807:=hcap
 have h2:(A1 (D6 E).length)=true:=h2
 have hb:d.size<4611686018427387904:=by
  have:=O0 h2
  rw [D4] at this
  omega
 have hh:=AnyQ.slices_SortFunc_eq Tryz.sortEnt 2 (λw=>by kernel_rfl) (λw=>by kernel_rfl) Oe (λ_=>rfl) (λx v hv=>by simp [Oe] at hv;rcases hv with rfl | rfl<;>rfl) cfE (PT λx:Lk=>x.1.1) 62 #[] g0 0 cap d w eg (Ay1 g0 0 d.size w) hH hblk hb
 have hsrt:=AD d
 have hS:R9 E=(Fo d).toList.map (·.1):=by unfold R9;rw [hd]
 have ssz:(Fo d).size=d.size:=hsrt.2.1
 rw [show (D6 E).length=d.size by rw [D4,dsz]]
 refine An (fn:=Tryz.f61) (by kernel_rfl) (by kernel_rfl) (by kernel_rfl) (hh.mono λe' w' ⟨he,n,os,hw⟩=>⟨_,he,rfl,by rw [D4,hlen,dsz],?_⟩)
 have hcur:cur.size=cap*2:=hcs
 have hcap2:d.size*2<=cur.size:=by
  have:(D6 E).length<=cap:=hle
  rw [D4] at this
  omega
 obtain ⟨p1,p2⟩:=A41 hg (Fo d)
 have hel2:∀ i (h:i<(D6 (R9 E)).length),(D6 (R9 E))[i]=Uw ((Fo d)[i]!).1:=λi h=>by
  have hi:i<(Fo d).size:=by rw [D4,hlen] at h;omega
  rw [getElem!_pos (Fo d) i hi]
  simp [D6,hS]
 refine ⟨putRowK Oe 2 w g0 0 (Fo d),putCells id 0 (flatK Oe 2 (Fo d)) cur,p1,by simp [putCells],p2,by simp [putRowK,putRow,mapBlock],rfl,rfl,rfl,λi h=>by rw [hel2];rfl,λi h j h'=>?_,?_⟩
 ·have hl:((D6 (R9 E))[i]).length=2:=by rw [hel2];rfl
  have hj:j<2:=by rw [<-hl];exact h'
  have hi:i<(Fo d).size:=by rw [D4,hlen] at h;omega
  refine ⟨_,Bm1 hi hj (by omega),?_⟩
  have hx:(D6 (R9 E))[i][j]=(Uw ((Fo d)[i]!).1)[j]'(by show j<2;exact hj):=by simp only [hel2]
  rw [hx]
  rcases (show j=0\/j=1 by omega) with rfl | rfl
  ·have:=VS.str (St:=St) (w:=putRowK Oe 2 w g0 0 (Fo d)) ⟨((Fo d)[i]!).1.1.toArray⟩
   exact this
  ·exact VS.bool _
 ·rw [hw]
  refine ⟨⟨λg hgl=>heap_grow_old _ _ hgl,by simp only [sortWorldK,grow,Array.size_append];exact Nat.le_add_right _ _⟩,rfl,rfl,rfl⟩
end
section
open Go Go.Proofs Go.Sort
set_option maxRecDepth 100000
theorem Qj:LM Tryz.prog GX 76 W8:=by
 refine Uo (C₀:=Kd LF) ((K8.ok (l:=[(59,BH),(50,RE)]) rfl ⟨Af6,B29,trivial⟩)) (F2 rfl (by kernel_rfl)) follows ?_
 intro args H L h σ yh s s' hr
 unfold W8 at h
 split at h
 ·rename_i t
  simp only [Option.some.injEq,Prod.mk.injEq] at h
  obtain ⟨h1,rfl⟩:=h
  obtain ⟨t',f⟩:=US (R:=PV × List Blk × σ) yh t s s' h1 hr
  exact ⟨1,_,(A04 LF yh 0 t s).trans (f _)⟩
 ·cases h
end
section
open Go Go.Proofs
set_option maxRecDepth 100000
section
theorem B10:B1 Tryz.prog GX 26 QT:=by
 refine B1.fix (pf:=FW) _ (Dw [0,0] [2] (C₀:=Md LF) (Bu5 (lx:=[(57,FS),(60,FQ)]) (ly:=[]) (ls:=[]) (lz:=[(61,Qq)]) rfl rfl rfl rfl ⟨A99,A98,trivial⟩ trivial trivial ⟨Ag0,trivial⟩) (F2 rfl (by kernel_rfl)) follows ?_)
 intro args ret Hc h
 unfold FW at h
 split at h
 ·rename_i l_z l_t l
  obtain ⟨h0,h⟩:=B4 h
  obtain ⟨h1,h⟩:=B4 h
  obtain ⟨h2,h⟩:=B4 h
  obtain ⟨h3,h⟩:=B4 h
  rcases Gn h with ⟨h4,h⟩ | ⟨h4,h⟩
  ·skip
   obtain ⟨rfl,rfl⟩:=H5 h
   obtain ⟨rr,hH,ee,qq⟩:=Ac7 l_z l_t l h0 h1 h2 h3 h4
   exact ⟨rfl,rfl,rfl,1,rr,hH,(Ac6 LF noY () 0 l_z l_t l).trans ee,qq⟩
  ·skip
   obtain ⟨rfl,rfl⟩:=H5 h
   obtain ⟨rr,hH,ee,qq⟩:=Ac7 l_z l_t l h0 h1 h2 h3 h4
   exact ⟨rfl,rfl,rfl,1,rr,hH,(Ac6 LF noY () 0 l_z l_t l).trans ee,qq⟩
 ·cases h
theorem Br9:B1 Tryz.prog GX 73 GM:=by
 refine B1.fix (pf:=Ws) _ (P4 (C₀:=IP LF) (K8.ok (l:=[]) rfl trivial) (F2 rfl (by kernel_rfl)) follows ?_)
 intro args ret Hc h
 unfold Ws at h
 split at h
 ·rename_i n
  obtain ⟨h0,h⟩:=B4 h
  obtain ⟨rfl,rfl⟩:=H5 h
  have e:=(A40 LF noY () 0 n).trans (WQ n h0)
  exact ⟨rfl,1,_,[],e,rfl,rfl⟩
 ·cases h
theorem Ba3:B1 Tryz.prog GX 38 Wr:=by
 refine B1.fix (pf:=Qv) _ (Dw [0,0] [3,0] (C₀:=Cr LF) (K8.ok (l:=[(73,GM),(45,GJ),(63,Qt),(74,HQ)]) rfl ⟨Br9,Ba1,LA,Ba9,trivial⟩) (F2 rfl (by kernel_rfl)) follows ?_)
 intro args ret Hc h
 unfold Qv at h
 split at h
 ·rename_i t_z t_t t cp
  obtain ⟨h0,h⟩:=B4 h
  obtain ⟨h1,h⟩:=B4 h
  obtain ⟨h2,h⟩:=B4 h
  obtain ⟨h3,h⟩:=B4 h
  obtain ⟨h4,h⟩:=B4 h
  rcases Gn h with ⟨h5,h⟩ | ⟨h5,h⟩
  ·skip
   obtain ⟨rfl,rfl⟩:=H5 h
   obtain ⟨rr,hH,ee,qq⟩:=DW t_z t_t t cp h0 h1 h2 h3 h4 h5
   exact ⟨rfl,rfl,rfl,1,rr,hH,(DV LF noY () 0 t_z t_t t cp).trans ee,qq⟩
  ·skip
   obtain ⟨rfl,rfl⟩:=H5 h
   obtain ⟨rr,hH,ee,qq⟩:=DW t_z t_t t cp h0 h1 h2 h3 h4 h5
   exact ⟨rfl,rfl,rfl,1,rr,hH,(DV LF noY () 0 t_z t_t t cp).trans ee,qq⟩
 ·cases h
theorem Br4:B1 Tryz.prog GX 28 ZP:=xf [0,0] (IK LF) Wl rfl ⟨A97,trivial⟩ rfl (by kernel_rfl) follows λargs=>by
 unfold Wl;split
 ·rename_i lz lt l q;exact λh0=>λh1=>λh2=>λh3=>(let ⟨rr,hH,ee,qq⟩:=A14 lz lt l q h0 h1 h2 h3;⟨rfl,rfl,rfl,rr,hH,(A13 LF noY () 0 lz lt l q).trans ee,qq⟩)
 ·trivial
theorem Br5:B1 Tryz.prog GX 28 ZQ:=xf [0,0] (IL LF) Wm rfl trivial rfl (by kernel_rfl) follows λargs=>by
 unfold Wm;split
 ·rename_i q;exact (let ⟨rr,hH,ee,qq⟩:=A17 q ; ⟨rfl,rfl,rfl,rr,hH,(A16 LF noY () 0 q).trans ee,qq⟩)
 ·trivial
theorem KZ:B1 Tryz.prog GX 28 Wk:=(Uz Br4 Br5)
theorem Bs5:B1 Tryz.prog GX 44 ZY:=xf [0,0] (IT LF) Xe rfl ⟨Ba8,trivial⟩ rfl (by kernel_rfl) follows λargs=>by
 unfold Xe;split
 ·rename_i tz tt t cp q;exact λh0=>λh1=>λh2=>λh3=>⟨rfl,rfl,rfl,_,_,(A74 LF noY () 0 tz tt t cp q).trans (ZA tz tt t cp q h0 h1 h2 h3),rfl⟩
 ·trivial
theorem Bs6:B1 Tryz.prog GX 44 ZZ:=xf [0,0] (IU LF) Xf rfl trivial rfl (by kernel_rfl) follows λargs=>by
 unfold Xf;split
 ·rename_i q;exact ⟨rfl,rfl,rfl,_,_,(A76 LF noY () 0 q).trans (ZB q ),rfl⟩
 ·trivial
theorem Bb0:B1 Tryz.prog GX 44 RJ:=(Uz Bs5 Bs6)
theorem Bs7:B1 Tryz.prog GX 20 Aa0:=xf [0,0] (IV LF) Xh rfl ⟨Bb0,trivial⟩ rfl (by kernel_rfl) follows λargs=>by
 unfold Xh;split
 ·rename_i tz tt t cp q;exact λh0=>λh1=>λh2=>λh3=>(let ⟨rr,hH,ee,qq⟩:=A78 tz tt t cp q h0 h1 h2 h3;⟨rfl,rfl,rfl,rr,hH,(A77 LF noY () 0 tz tt t cp q).trans ee,qq⟩)
 ·trivial
theorem Bs8:B1 Tryz.prog GX 20 Aa1:=xf [0,0] (IW LF) Xi rfl ⟨Bb0,trivial⟩ rfl (by kernel_rfl) follows λargs=>by
 unfold Xi;split
 ·rename_i q;exact (let ⟨rr,hH,ee,qq⟩:=A81 q ; ⟨rfl,rfl,rfl,rr,hH,(A80 LF noY () 0 q).trans ee,qq⟩)
 ·trivial
theorem LC:B1 Tryz.prog GX 20 Xg:=(Uz Bs7 Bs8)
theorem Bz7:B1 Tryz.prog GX 40 Ar1:=xf [0,0] (Ez LF) EW rfl ⟨LC,ZK,KZ,trivial⟩ rfl (by kernel_rfl) follows λargs=>by
 unfold EW;split
 ·rename_i now tz tt t cp lz lt l u ex;exact λh0=>λh1=>λh2=>λh3=>λh4=>λh5=>λh6=>(let ⟨rr,hH,ee,qq⟩:=Bc4 now tz tt t cp lz lt l u ex h0 h1 h2 h3 h4 h5 h6;⟨rfl,rfl,rfl,rr,hH,(Bc3 LF noY () 0 now tz tt t cp lz lt l u ex).trans ee,qq⟩)
 ·trivial
theorem Bz8:B1 Tryz.prog GX 40 Ar2:=xf [0,0] (RU LF) EX rfl ⟨LC,KZ,trivial⟩ rfl (by kernel_rfl) follows λargs=>by
 unfold EX;split
 ·rename_i now lz lt l u ex;exact λh0=>λh1=>λh2=>λh3=>(let ⟨rr,hH,ee,qq⟩:=Bc7 now lz lt l u ex h0 h1 h2 h3;⟨rfl,rfl,rfl,rr,hH,(Bc6 LF noY () 0 now lz lt l u ex).trans ee,qq⟩)
 ·trivial
theorem Bz9:B1 Tryz.prog GX 40 Ar3:=xf [0,0] (Fa LF) EY rfl ⟨LC,ZK,KZ,trivial⟩ rfl (by kernel_rfl) follows λargs=>by
 unfold EY;split
 ·rename_i now tz tt t cp u ex;exact λh0=>λh1=>λh2=>λh3=>(let ⟨rr,hH,ee,qq⟩:=Bd0 now tz tt t cp u ex h0 h1 h2 h3;⟨rfl,rfl,rfl,rr,hH,(Bc9 LF noY () 0 now tz tt t cp u ex).trans ee,qq⟩)
 ·trivial
theorem B00:B1 Tryz.prog GX 40 Ar4:=xf [0,0] (RV LF) EZ rfl ⟨LC,KZ,trivial⟩ rfl (by kernel_rfl) follows λargs=>by
 unfold EZ;split
 ·rename_i now u ex;exact λh0=>(let ⟨rr,hH,ee,qq⟩:=Bd3 now u ex h0;⟨rfl,rfl,rfl,rr,hH,(Bd2 LF noY () 0 now u ex).trans ee,qq⟩)
 ·trivial
theorem Af5:B1 Tryz.prog GX 40 Nc:=(Uz Bz7 (Uz Bz8 (Uz Bz9 B00)))
theorem B01:B1 Tryz.prog GX 15 Ar5:=by
 refine B1.fix (pf:=FC) _ (L8 [] (C₀:=Cl LF) (Dx (lx:=[(39,Ex),(40,Nc),(41,Ew)]) (ly:=[]) (ls:=[(76,W8)]) rfl rfl rfl ⟨AK,Af5,AJ,trivial⟩ trivial ⟨Qj,trivial⟩) (F2 rfl (by kernel_rfl)) follows ?_)
 intro args ret Hc h
 unfold FC at h
 split at h
 ·rename_i now tz tt t cp lz lt l kd nm v4 a0 a1 a2 a3 a4 a5 a6 a7
  obtain ⟨h0,h⟩:=B4 h
  obtain ⟨h1,h⟩:=B4 h
  obtain ⟨h2,h⟩:=B4 h
  obtain ⟨h3,h⟩:=B4 h
  obtain ⟨h4,h⟩:=B4 h
  obtain ⟨h5,h⟩:=B4 h
  obtain ⟨h6,h⟩:=B4 h
  obtain ⟨h7,h⟩:=B4 h
  obtain ⟨h8,h⟩:=B4 h
  obtain ⟨rfl,rfl⟩:=H5 h
  obtain ⟨rr,hH,ee,qq⟩:=Bd7 now tz tt t cp lz lt l kd nm v4 a0 a1 a2 a3 a4 a5 a6 a7 h0 h1 h2 h3 h4 h5 h6 h7 h8
  exact ⟨rfl,rfl,rfl,1,rr,hH,(Bd6 LF noY () 0 now tz tt t cp lz lt l kd nm v4 a0 a1 a2 a3 a4 a5 a6 a7).trans ee,qq⟩
 ·cases h
theorem B02:B1 Tryz.prog GX 15 Ar6:=by
 refine B1.fix (pf:=FD) _ (L8 [] (C₀:=Cm LF) (Dx (lx:=[(39,Ex),(40,Nc),(41,Ew)]) (ly:=[]) (ls:=[(76,W8)]) rfl rfl rfl ⟨AK,Af5,AJ,trivial⟩ trivial ⟨Qj,trivial⟩) (F2 rfl (by kernel_rfl)) follows ?_)
 intro args ret Hc h
 unfold FD at h
 split at h
 ·rename_i now lz lt l kd nm v4 a0 a1 a2 a3 a4 a5 a6 a7
  obtain ⟨h0,h⟩:=B4 h
  obtain ⟨h1,h⟩:=B4 h
  obtain ⟨h2,h⟩:=B4 h
  obtain ⟨h3,h⟩:=B4 h
  obtain ⟨h4,h⟩:=B4 h
  obtain ⟨h5,h⟩:=B4 h
  obtain ⟨rfl,rfl⟩:=H5 h
  obtain ⟨rr,hH,ee,qq⟩:=Be0 now lz lt l kd nm v4 a0 a1 a2 a3 a4 a5 a6 a7 h0 h1 h2 h3 h4 h5
  exact ⟨rfl,rfl,rfl,1,rr,hH,(Bd9 LF noY () 0 now lz lt l kd nm v4 a0 a1 a2 a3 a4 a5 a6 a7).trans ee,qq⟩
 ·cases h
theorem B03:B1 Tryz.prog GX 15 Ar7:=by
 refine B1.fix (pf:=FE) _ (L8 [] (C₀:=Cn LF) (Dx (lx:=[(39,Ex),(40,Nc),(41,Ew)]) (ly:=[]) (ls:=[(76,W8)]) rfl rfl rfl ⟨AK,Af5,AJ,trivial⟩ trivial ⟨Qj,trivial⟩) (F2 rfl (by kernel_rfl)) follows ?_)
 intro args ret Hc h
 unfold FE at h
 split at h
 ·rename_i now tz tt t cp kd nm v4 a0 a1 a2 a3 a4 a5 a6 a7
  obtain ⟨h0,h⟩:=B4 h
  obtain ⟨h1,h⟩:=B4 h
  obtain ⟨h2,h⟩:=B4 h
  obtain ⟨h3,h⟩:=B4 h
  obtain ⟨h4,h⟩:=B4 h
  obtain ⟨h5,h⟩:=B4 h
  obtain ⟨rfl,rfl⟩:=H5 h
  obtain ⟨rr,hH,ee,qq⟩:=Be3 now tz tt t cp kd nm v4 a0 a1 a2 a3 a4 a5 a6 a7 h0 h1 h2 h3 h4 h5
  exact ⟨rfl,rfl,rfl,1,rr,hH,(Be2 LF noY () 0 now tz tt t cp kd nm v4 a0 a1 a2 a3 a4 a5 a6 a7).trans ee,qq⟩
 ·cases h
theorem B04:B1 Tryz.prog GX 15 Ar8:=by
 refine B1.fix (pf:=FF) _ (L8 [] (C₀:=Co LF) (Dx (lx:=[(39,Ex),(40,Nc),(41,Ew)]) (ly:=[]) (ls:=[(76,W8)]) rfl rfl rfl ⟨AK,Af5,AJ,trivial⟩ trivial ⟨Qj,trivial⟩) (F2 rfl (by kernel_rfl)) follows ?_)
 intro args ret Hc h
 unfold FF at h
 split at h
 ·rename_i now kd nm v4 a0 a1 a2 a3 a4 a5 a6 a7
  obtain ⟨h0,h⟩:=B4 h
  obtain ⟨h1,h⟩:=B4 h
  obtain ⟨h2,h⟩:=B4 h
  obtain ⟨rfl,rfl⟩:=H5 h
  obtain ⟨rr,hH,ee,qq⟩:=Be6 now kd nm v4 a0 a1 a2 a3 a4 a5 a6 a7 h0 h1 h2
  exact ⟨rfl,rfl,rfl,1,rr,hH,(Be5 LF noY () 0 now kd nm v4 a0 a1 a2 a3 a4 a5 a6 a7).trans ee,qq⟩
 ·cases h
theorem QD:B1 Tryz.prog GX 15 Wf:=(Uz B01 (Uz B02 (Uz B03 B04)))
theorem Aq2:B1 Tryz.prog GX 17 BD:=xf [] (Ro LF) Lm rfl ⟨QD,trivial⟩ rfl (by kernel_rfl) follows λargs=>by
 unfold Lm;split
 ·rename_i now tz tt t cp lz lt l kd nm v4 a0 a1 a2 a3 a4 a5 a6 a7;exact λh0=>λh1=>λh2=>λh3=>λh4=>λh5=>λh6=>λh7=>λh8=>(let ⟨rr,hH,ee,qq⟩:=TO now tz tt t cp lz lt l kd nm v4 a0 a1 a2 a3 a4 a5 a6 a7 h0 h1 h2 h3 h4 h5 h6 h7 h8;⟨rfl,rfl,rfl,rr,hH,(TN LF noY () 0 now tz tt t cp lz lt l kd nm v4 a0 a1 a2 a3 a4 a5 a6 a7).trans ee,qq⟩)
 ·trivial
theorem Aq3:B1 Tryz.prog GX 17 BE:=xf [] (Rp LF) Ln rfl ⟨QD,trivial⟩ rfl (by kernel_rfl) follows λargs=>by
 unfold Ln;split
 ·rename_i now lz lt l kd nm v4 a0 a1 a2 a3 a4 a5 a6 a7;exact λh0=>λh1=>λh2=>λh3=>λh4=>λh5=>(let ⟨rr,hH,ee,qq⟩:=TQ now lz lt l kd nm v4 a0 a1 a2 a3 a4 a5 a6 a7 h0 h1 h2 h3 h4 h5;⟨rfl,rfl,rfl,rr,hH,(TP LF noY () 0 now lz lt l kd nm v4 a0 a1 a2 a3 a4 a5 a6 a7).trans ee,qq⟩)
 ·trivial
theorem Aq4:B1 Tryz.prog GX 17 BF:=xf [] (Rq LF) Lo rfl ⟨QD,trivial⟩ rfl (by kernel_rfl) follows λargs=>by
 unfold Lo;split
 ·rename_i now tz tt t cp kd nm v4 a0 a1 a2 a3 a4 a5 a6 a7;exact λh0=>λh1=>λh2=>λh3=>λh4=>λh5=>(let ⟨rr,hH,ee,qq⟩:=TS now tz tt t cp kd nm v4 a0 a1 a2 a3 a4 a5 a6 a7 h0 h1 h2 h3 h4 h5;⟨rfl,rfl,rfl,rr,hH,(TR LF noY () 0 now tz tt t cp kd nm v4 a0 a1 a2 a3 a4 a5 a6 a7).trans ee,qq⟩)
 ·trivial
theorem Aq5:B1 Tryz.prog GX 17 BG:=xf [] (Rs LF) Lp rfl ⟨QD,trivial⟩ rfl (by kernel_rfl) follows λargs=>by
 unfold Lp;split
 ·rename_i now kd nm v4 a0 a1 a2 a3 a4 a5 a6 a7;exact λh0=>λh1=>λh2=>(let ⟨rr,hH,ee,qq⟩:=TU now kd nm v4 a0 a1 a2 a3 a4 a5 a6 a7 h0 h1 h2;⟨rfl,rfl,rfl,rr,hH,(TT LF noY () 0 now kd nm v4 a0 a1 a2 a3 a4 a5 a6 a7).trans ee,qq⟩)
 ·trivial
theorem A92:B1 Tryz.prog GX 17 Wg:=(Uz Aq2 (Uz Aq3 (Uz Aq4 Aq5)))
end
section
variable {σ R : Type} (lf : Nat) (cl : D7) (yh : Yh σ) (s : σ) (k : Out -> St σ -> Option R)
noncomputable def Xw (lf:Nat):Cfg:=B8 lf [165] (A4 []) [] (A4 [(1,[2]),(0,[0])]) [] (A4 []) (some [2]) [] [] []
noncomputable def KN {R:Type} (lf:Nat) (n0:Int) (k0:Bool->Option R):Option R:=cond (not (ltI n0 0)) (cond (not (ltI 1114111 n0)) (cond (ltI n0 55296) (k0 true) (k0 (ltI 57343 n0))) (k0 false)) (k0 false)
theorem An6 (d:Nat) (n0):evC (Xw lf) (d+1) σ yh 165 [pI n0] [] s=KN lf n0 (λr0=>some (pB r0,[],s)):=by
 refine (evE (fn:=Tryz.f165) (by kernel_rfl)).trans ?_
 generalize evC (Xw lf) d=cl
 unfold KN;kernel_rfl
noncomputable abbrev Ir:Code:=D3 Tryz.f168
noncomputable def R3 (lf:Nat):Cfg:=B8 lf [168] (A4 [(6,[0,5,0])]) [] (A4 [(9,[6]),(8,[0,6]),(7,[0,6]),(6,[0,6,11]),(5,[0,6]),(4,[0]),(2,[0,0]),(3,[0,0]),(1,[0,0,6]),(0,[0,0,0])]) [] (A4 [(0,[0,6]),(1,[0,6])]) (some [6]) [] [] []
noncomputable def Ci {R:Type} (lf n:Nat) (delta0 kk1:Int) (k0:Int->Int->Option R):Option R:=match n with | 0=>none | n+1=>cond (ltI 455 delta0) (vl (A2 (Int.tdiv delta0 (35:Int))) λn'6=>vl (A2 (kk1+36)) λn'7=>Ci lf n n'6 n'7 k0) (k0 delta0 kk1)
theorem KF (n delta0 kk1):E6 0 ((R3 lf).keep 6) (bd (R3 lf) cl yh (cd [1,1,1,1,0,0,0] Ir)) n ⟨gp [(0,pI delta0),(6,pI kk1)] 23,[],s⟩ k =
 Ci lf n delta0 kk1 (λdelta0 kk1=>k (.exit 0) ⟨gp [(0,pI delta0),(6,pI kk1)] 23,[],s⟩):=by
 induction n generalizing delta0 kk1 with
 | zero=>rfl
 | succ n ih=>rw [Ci];simp only [<-ih];kernel_rfl
noncomputable def Ch {R:Type} (lf:Nat) (delta0 n1:Int) (k0:Int->Option R):Option R:=cond (n1 != 0) (vl (A2 (Int.tdiv delta0 n1)) λn'5=>Ci lf lf (A2 (delta0+n'5)) 0 (λdelta'8 kk'9=>vl (A2 ((36:Int)*delta'8)) λn'10=>vl (A2 (delta'8+38)) λn'11=>cond (n'11 != 0) (vl (A2 (Int.tdiv n'10 n'11)) λn'12=>k0 (A2 (kk'9+n'12))) none)) none
abbrev Uj (b:Code):Prop:=∀ (k:Out->St σ->Option R) delta0 n1,B2 (R3 lf) cl yh b ⟨gp [(0,pI delta0),(0,pI n1)] 29,[],s⟩ k=Ch lf delta0 n1 (λn0=>k .ret ⟨gp [(6,pI n0)] 24,[],s⟩)
theorem KE:Uj (R:=R) lf cl yh s (cd [1,1] Ir):=by
 intro k delta0 n1;unfold Ch;exact (Eq.trans (by kernel_rfl) (A0 (A8 λn'5=>((KF lf cl yh s (G8 0 (I4 (R3 lf) cl yh (cd [1,1,1,1,1] Ir) k)) lf (A2 (delta0+n'5)) 0).trans (by kernel_rfl))) rfl))
noncomputable def Zp {R:Type} (lf:Nat) (delta0 n1:Int) (first2:Bool) (k0:Int->Option R):Option R:=cond first2 (vl (A2 (Int.tdiv delta0 (700:Int))) λn'2=>Ch lf n'2 n1 (λn'13=>k0 n'13)) (vl (A2 (Int.tdiv delta0 (2:Int))) λn'3=>Ch lf n'3 n1 (λn'14=>k0 n'14))
theorem Am4 (b_11:Code) (h_radapt_j0:Uj (R:=PV × List Blk × σ) lf cl yh s b_11) (delta0 n1:Int) (first2:Bool):B2 (R3 lf) cl yh (cd [] (R1 [1,1] b_11 Ir)) ⟨[pI delta0,pI n1,pB first2]++tps 28,[],s⟩ (H4 (R3 lf) Tryz.f168)=Zp lf delta0 n1 first2 (λr0=>some (pI r0,[],s)):=by
 unfold Zp;exact let K0:=(H4 (R3 lf) Tryz.f168);(Eq.trans (by kernel_rfl) (A0 (A8 λn'2=>((h_radapt_j0 K0 n'2 n1).trans (by kernel_rfl))) (A8 λn'3=>((h_radapt_j0 K0 n'3 n1).trans (by kernel_rfl)))))
theorem Am5 (d:Nat) (delta0 n1 first2):evC (R3 lf) (d+1) σ yh 168 [pI delta0,pI n1,pB first2] [] s=Zp lf delta0 n1 first2 (λr0=>some (pI r0,[],s)):=
 (evE (fn:=Tryz.f168) (by kernel_rfl)).trans (Eq.trans (by kernel_rfl) (Am4 lf (evC (R3 lf) d) yh s (cd [1,1] Ir) (KE lf (evC (R3 lf) d) yh s) delta0 n1 first2))
noncomputable def SU (lf:Nat):Cfg:=B8 lf [166] (A4 []) [] (A4 [(1,[4]),(0,[0,0])]) [] (A4 []) (some [4]) [] [] []
noncomputable def Bo8 {R:Type} (lf:Nat) (kk0 bias1:Int) (k0:Int->Option R):Option R:=vl (A2 ((36:Int)*(A2 (kk0+1)))) λn'0=>vl (if ((if ((A2 (n'0-bias1))<(26:Int)) then (A2 (n'0-bias1)) else (26:Int)) > (1:Int)) then (if ((A2 (n'0-bias1))<(26:Int)) then (A2 (n'0-bias1)) else (26:Int)) else (1:Int)) λn'1=>k0 n'1
theorem Bo9 (d:Nat) (kk0 bias1):evC (SU lf) (d+1) σ yh 166 [pI kk0,pI bias1] [] s=Bo8 lf kk0 bias1 (λr0=>some (pI r0,[],s)):=by
 refine (evE (fn:=Tryz.f166) (by kernel_rfl)).trans ?_
 generalize evC (SU lf) d=cl
 unfold Bo8;kernel_rfl
noncomputable def IQ (lf:Nat):Cfg:=B8 lf [167] (A4 []) [] (A4 [(3,[2]),(2,[2]),(1,[0,3]),(0,[0])]) [] (A4 []) (some [2]) [] [] []
noncomputable def Ae1 {R:Type} (lf:Nat) (d0:Int) (k0:Int->Option R):Option R:=cond (ltI d0 26) (vl (wu8 (A2 ((97:Int)+d0))) λn'0=>k0 n'0) (vl (A2 ((A2 ((48:Int)+d0))-26)) λn'1=>k0 (wu8 n'1))
theorem A47 (d:Nat) (d0):evC (IQ lf) (d+1) σ yh 167 [pI d0] [] s=Ae1 lf d0 (λr0=>some (p8 r0,[],s)):=by
 refine (evE (fn:=Tryz.f167) (by kernel_rfl)).trans ?_
 generalize evC (IQ lf) d=cl
 unfold Ae1;kernel_rfl
noncomputable abbrev Ly:Code:=D3 Tryz.f176
noncomputable def Fd (lf:Nat):Cfg:=B8 lf [176] (A4 []) [] (A4 [(7,[2]),(2,[2]),(4,[2]),(6,[2]),(5,[0,22]),(3,[0,12]),(1,[0,2]),(0,[0])]) [] (A4 [(0,[])]) (some [2]) [] [] []
noncomputable def Ps {R:Type} (b0:Int) (b1:Bool) (k0:Int->Option R) (k1:Int->Bool->Option R):Option R:=cond b1 (vl (A2 (wu8 (b0-65))) λn'1=>k0 n'1) (cond (not (ltI b0 48)) (cond (not (ltI 57 b0)) (vl (A2 (wu8 (b0-48))) λn'2=>vl (A2 (n'2+26)) λn'3=>k0 n'3) (k1 b0 (not (ltI 57 b0)))) (k1 b0 false))
abbrev EL (b:Code):Prop:=∀ (k:Out->St σ->Option R) b0 b1,B2 (Fd lf) cl yh b ⟨gp [(0,p8 b0),(12,pB b1)] 20,[],s⟩ k=Ps b0 b1 (λn0=>k .ret ⟨gp [(2,pI n0)] 31,[],s⟩) (λb0 b1=>k .normal ⟨gp [(0,p8 b0),(22,pB b1)] 10,[],s⟩)
theorem YP:EL (R:=R) lf cl yh s (cd [1,0,0,1,1,1] Ly):=by
 intro k b0 b1;unfold Ps;kernel_rfl
noncomputable def Pt {R:Type} (b0:Int) (b1:Bool) (k0:Int->Option R) (k1:Int->Bool->Option R):Option R:=cond b1 (vl (A2 (wu8 (b0-97))) λn'0=>k0 n'0) (cond (not (ltI b0 65)) (Ps b0 (not (ltI 90 b0)) (λn'4=>k0 n'4) (λb'5 b'6=>k1 b'5 b'6)) (Ps b0 false (λn'7=>k0 n'7) (λb'8 b'9=>k1 b'8 b'9)))
abbrev Tb (b:Code):Prop:=∀ (k:Out->St σ->Option R) b0 b1,B2 (Fd lf) cl yh b ⟨gp [(0,p8 b0),(2,pB b1)] 30,[],s⟩ k=Pt b0 b1 (λn0=>k .ret ⟨gp [(2,pI n0)] 31,[],s⟩) (λb0 b1=>k .normal ⟨gp [(0,p8 b0),(22,pB b1)] 10,[],s⟩)
theorem YR (b_100111:Code) (h_rval_j0:EL (R:=R) lf cl yh s b_100111):Tb (R:=R) lf cl yh s (cd [1,0,0,1] (R1 [1,0,0,1,1,1] b_100111 Ly)):=by
 intro k b0 b1;unfold Pt;simp only [<-h_rval_j0 k];kernel_rfl
theorem YS:Tb (R:=R) lf cl yh s (cd [1,0,0,1] Ly):=by
 intro k b0 b1;exact Eq.trans (by kernel_rfl) (YR lf cl yh s (cd [1,0,0,1,1,1] Ly) (YP lf cl yh s) k b0 b1)
noncomputable def A65 {R:Type} (lf:Nat) (b0:Int) (k0:Int->Option R):Option R:=cond (not (ltI b0 97)) (Pt b0 (not (ltI 122 b0)) (λn'10=>k0 n'10) (λb'11 b'12=>k0 (-1))) (Pt b0 false (λn'13=>k0 n'13) (λb'14 b'15=>k0 (-1)))
theorem Bp0 (b_1001:Code) (h_rval_j1:Tb (R:=PV × List Blk × σ) lf cl yh s b_1001) (b0:Int):B2 (Fd lf) cl yh (cd [] (R1 [1,0,0,1] b_1001 Ly)) ⟨[p8 b0]++tps 33,[],s⟩ (H4 (Fd lf) Tryz.f176)=A65 lf b0 (λr0=>some (pI r0,[],s)):=by
 unfold A65;exact let K0:=(G8 0 (I4 (Fd lf) cl yh (cd [1,1] Ly) (H4 (Fd lf) Tryz.f176)));(Eq.trans (by kernel_rfl) (A0 ((h_rval_j1 K0 b0 (not (ltI 122 b0))).trans (by kernel_rfl)) ((h_rval_j1 K0 b0 false).trans (by kernel_rfl))))
theorem Bp1 (d:Nat) (b0):evC (Fd lf) (d+1) σ yh 176 [p8 b0] [] s=A65 lf b0 (λr0=>some (pI r0,[],s)):=
 (evE (fn:=Tryz.f176) (by kernel_rfl)).trans (Eq.trans (by kernel_rfl) (Bp0 lf (evC (Fd lf) d) yh s (cd [1,0,0,1] Ly) (YS lf (evC (Fd lf) d) yh s) b0))
noncomputable abbrev W9:Code:=D3 Tryz.f125
noncomputable def J5 (lf:Nat):Cfg:=B8 lf [125] (A4 [(32,[0,1,0,0,1,0,0,0,0,2,0,0]),(25,[0,1,0,0,1,0,0,0,0,2]),(18,[0,1,0,0,1,0,0,0,0,0,0]),(15,[0,1,0,0,1,0,0,0,0]),(5,[0,1,0,0,0])]) [(165,Xb),(166,RD),(167,ZT),(168,Wt)] (A4 [(43,[2,0]),(42,[0,3,1,0,0,0,0]),(41,[0,3,1,0,0,0,0]),(26,[0,3,1,0,0,0,0,2]),(40,[0,3,1,0,0,0,0,2]),(39,[0,3,1,0,0,0,0,2]),(38,[0,3,1,0,0,1,2]),(37,[0,3,1,0,0,0,3]),(36,[0,3,1,0,0,0,0,2,0,0]),(35,[0,3,1,0,0,0,0,2,0,0]),(34,[0,3,1,0,0,0,0,2,0,0,0]),(33,[0,3,1,0,0,0,0,2,0,0,0]),(32,[0,3,1,0,0,0,0,2,0,0,94]),(31,[0,3,1,0,0,0,0,2,0,0]),(30,[0,3,1,0,0,0,0,2,0]),(29,[0,3,1,0,0,0,0,2,90]),(28,[0,3,1,0,0,0,0,2]),(27,[0,3,1,0,0,0,0,2,82]),(25,[0,3,1,0,0,0,0,2,74]),(24,[0,3,1,0,0,0,0,2]),(23,[0,3,1,0,0,0,0]),(22,[0,3,1,0,1,0,0]),(19,[0,3,1,0,0,0,0,0,0]),(21,[0,3,1,0,0,0,0,0,0]),(20,[0,3,1,0,0,0,0,0,0,56]),(18,[0,3,1,0,0,0,0,0,0,48]),(17,[0,3,1,0,0,0,0,0,0]),(16,[0,3,1,0,0,0,0,0]),(15,[0,3,1,0,0,0,0,46]),(14,[0,3,1,0,0,0,0]),(13,[0,3,1,0]),(12,[0,3,1,0,42]),(11,[0,3,1,0]),(6,[0,3,0]),(10,[0,3,0]),(9,[0,3,0,30]),(8,[2,0]),(7,[0,3,0,25]),(5,[0,3,0,17]),(4,[0,3,0]),(3,[0,3]),(2,[2,0]),(1,[0,18]),(0,[0])]) [165,166,167,168] (A4 [(2,[4]),(3,[0,3,1,0,0,0,0]),(6,[0,3,1,0,0,0,0]),(7,[0,3,1,0,0,0,0,2]),(8,[0,3,1,0,0,0,3,0]),(9,[0,3,1,0,0,0,0,2,0,0]),(4,[0,3,1,0,0,0,0,0]),(5,[0,3,1,0,0,0,0,0,0]),(0,[0,3]),(1,[0,3,0])]) (some [2,0]) [] [] []
noncomputable def O9 {R:Type} (lf n:Nat) (points_z0 points_t1:Bool) (points2:LL) (i3:Int) (l4:LL) (k0:LL->Option R) (k1:Bool->Bool->LL->LL->Option R):Option R:=match n with | 0=>none | n+1=>cond (ltI i3 (points2.length:Int)) (cond (inR i3 points2.length) (cond (okE Gk points2 (Int.toNat i3) 0) (vl (gE points2 (Int.toNat i3) 0) λn'1=>cond (not (ptI n'1)) (k0 l4) (cond (inR i3 points2.length) (cond (okE Gk points2 (Int.toNat i3) 0) (vl (gE points2 (Int.toNat i3) 0) λn'3=>cond (ltI n'3 128) (cond (inR i3 points2.length) (cond (okE Gk points2 (Int.toNat i3) 0) (vl (gE points2 (Int.toNat i3) 0) λn'4=>cond (G0 (l4.length+1)) (O9 lf n points_z0 points_t1 points2 (A2 (i3+1)) (l4++[[(SV.int .u8 (wu8 n'4))]]) k0 k1) none) none) none) (O9 lf n points_z0 points_t1 points2 (A2 (i3+1)) l4 k0 k1)) none) none)) none) none) (k1 points_z0 points_t1 points2 l4)
theorem XJ (n points_z0 points_t1 points2 i3 l4):E6 1 ((J5 lf).keep 5) (bd (J5 lf) cl yh (cd [1,1,1,0,1,0,0] W9)) n ⟨gp [(0,.s (.sl points_z0 points_t1 1 points2)),(3,.fl 0),(0,pI i3)] 148,[.arr true 5 1 l4],s⟩ k =
 O9 lf n points_z0 points_t1 points2 i3 l4 (λl0=>k .ret ⟨gp [(2,pS ([]:List UInt8)),(0,pI (2:Int))] 150,[.arr true 5 1 l0],s⟩) (λpoints_z0 points_t1 points2 l3=>k (.exit 0) ⟨gp [(0,.s (.sl points_z0 points_t1 1 points2)),(3,.fl 0)] 149,[.arr true 5 1 l3],s⟩):=by
 induction n generalizing points_z0 points_t1 points2 i3 l4 with
 | zero=>rfl
 | succ n ih=>rw [O9];simp only [<-ih];kernel_rfl
noncomputable def En {R:Type} (lf n:Nat) (points_z0 points_t1:Bool) (points2:LL) (done3 basic4 n5 delta6 bias7 least8 i9:Int) (l10:LL) (k0:Bool->Bool->LL->Int->Int->Int->Int->Int->Int->LL->Option R):Option R:=match n with | 0=>none | n+1=>cond (ltI i9 (points2.length:Int)) (cond (inR i9 points2.length) (cond (okE Gk points2 (Int.toNat i9) 0) (vl (gE points2 (Int.toNat i9) 0) λn'14=>cond (not (ltI n'14 n5)) (cond (inR i9 points2.length) (cond (okE Gk points2 (Int.toNat i9) 0) (vl (gE points2 (Int.toNat i9) 0) λn'15=>vl (if (n'15<least8) then n'15 else least8) λn'16=>En lf n points_z0 points_t1 points2 done3 basic4 n5 delta6 bias7 n'16 (A2 (i9+1)) l10 k0) none) none) (En lf n points_z0 points_t1 points2 done3 basic4 n5 delta6 bias7 least8 (A2 (i9+1)) l10 k0)) none) none) (k0 points_z0 points_t1 points2 done3 basic4 n5 delta6 bias7 least8 l10)
theorem XK (n points_z0 points_t1 points2 done3 basic4 n5 delta6 bias7 least8 i9 l10):E6 1 ((J5 lf).keep 18) (bd (J5 lf) cl yh (cd [1,1,1,1,1,1,1,0,0,0,1,0,1,0,1,0,0] W9)) n ⟨gp [(0,.s (.sl points_z0 points_t1 1 points2)),(3,.fl 0),(1,pI done3),(0,pI basic4),(0,pI n5),(0,pI delta6),(0,pI bias7),(0,pI least8),(0,pI i9)] 141,[.arr true 5 1 l10],s⟩ k =
 En lf n points_z0 points_t1 points2 done3 basic4 n5 delta6 bias7 least8 i9 l10 (λpoints_z0 points_t1 points2 done3 basic4 n5 delta6 bias7 least8 l9=>k (.exit 4) ⟨gp [(0,.s (.sl points_z0 points_t1 1 points2)),(3,.fl 0),(1,pI done3),(0,pI basic4),(0,pI n5),(0,pI delta6),(0,pI bias7),(0,pI least8)] 142,[.arr true 5 1 l9],s⟩):=by
 induction n generalizing points_z0 points_t1 points2 done3 basic4 n5 delta6 bias7 least8 i9 l10 with
 | zero=>rfl
 | succ n ih=>rw [En];simp only [<-ih];kernel_rfl
noncomputable def Bn {R:Type} (lf n:Nat) (points_z0 points_t1:Bool) (points2:LL) (done3 basic4 n5 delta6 bias7 i8 q9 kk10:Int) (l11:LL) (k0:Bool->Bool->LL->Int->Int->Int->Int->Int->Int->LL->Option R):Option R:=match n with | 0=>none | n+1=>cond (ltN kk10 10000000000) (cond (ltN bias7 1000000) (vl (I5 (Int.mul (36:Int) kk10) bias7) λn'40=>cond (not (ltI q9 n'40)) (cond (ltN kk10 10000000000) (cond (ltN bias7 1000000) (vl (I5 (Int.mul (36:Int) kk10) bias7) λn'42=>vl (A2 ((36:Int)-n'42)) λn'46=>cond (n'46 != 0) (vl (Int.tmod (A2 (q9-n'42)) n'46) λn'47=>cond (ltN (A2 (n'42+n'47)) 36) (vl (↑(UInt8.toNat (U0 (Int.toNat (A2 (n'42+n'47))))):Int) λn'48=>cond (G0 (l11.length+1)) (vl (A2 ((36:Int)-n'42)) λn'49=>cond (n'49 != 0) (vl (A2 (Int.tdiv (A2 (q9-n'42)) n'49)) λn'50=>vl (A2 (kk10+1)) λn'51=>Bn lf n points_z0 points_t1 points2 done3 basic4 n5 delta6 bias7 i8 n'50 n'51 (l11++[[(SV.int .u8 n'48)]]) k0) none) none) none) none) none) none) (k0 points_z0 points_t1 points2 done3 basic4 n5 delta6 i8 q9 l11)) none) none
theorem Zs (n points_z0 points_t1 points2 done3 basic4 n5 delta6 bias7 i8 q9 kk10 l11):E6 1 ((J5 lf).keep 32) (bd (J5 lf) cl yh (cd [1,1,1,1,1,1,1,0,0,0,1,0,1,1,1,1,0,1,0,0,1,0,0,1,1,1,1,0,0,0] W9)) n ⟨gp [(0,.s (.sl points_z0 points_t1 1 points2)),(3,.fl 0),(1,pI done3),(0,pI basic4),(0,pI n5),(0,pI delta6),(0,pI bias7),(2,pI i8),(0,pI q9),(0,pI kk10)] 138,[.arr true 5 1 l11],s⟩ k =
 Bn lf n points_z0 points_t1 points2 done3 basic4 n5 delta6 bias7 i8 q9 kk10 l11 (λpoints_z0 points_t1 points2 done3 basic4 n5 delta6 i7 q8 l9=>k (.exit 8) ⟨gp [(0,.s (.sl points_z0 points_t1 1 points2)),(3,.fl 0),(1,pI done3),(0,pI basic4),(0,pI n5),(0,pI delta6),(3,pI i7),(0,pI q8)] 139,[.arr true 5 1 l9],s⟩):=by
 induction n generalizing points_z0 points_t1 points2 done3 basic4 n5 delta6 bias7 i8 q9 kk10 l11 with
 | zero=>rfl
 | succ n ih=>rw [Bn];simp only [<-ih];kernel_rfl
noncomputable def U7 {R:Type} (lf n:Nat) (points_z0 points_t1:Bool) (points2:LL) (done3 basic4 n5 delta6 bias7 i8:Int) (l9:LL) (k0:Bool->Bool->LL->Int->Int->Int->Int->Int->LL->Option R):Option R:=match n with | 0=>none | n+1=>cond (ltI i8 (points2.length:Int)) (cond (inR i8 points2.length) (cond (okE Gk points2 (Int.toNat i8) 0) (vl (gE points2 (Int.toNat i8) 0) λn'33=>cond (ltI n'33 n5) (vl (A2 (delta6+1)) λn'34=>cond (inR i8 points2.length) (cond (okE Gk points2 (Int.toNat i8) 0) (vl (gE points2 (Int.toNat i8) 0) λn'36=>cond (n'36 != n5) (U7 lf n points_z0 points_t1 points2 done3 basic4 n5 n'34 bias7 (A2 (i8+1)) l9 k0) (Bn lf lf points_z0 points_t1 points2 done3 basic4 n5 n'34 bias7 i8 n'34 0 l9 (λpoints_z'52 points_t'53 points'54 done'55 basic'56 n'57 delta'58 i'59 q'60 l'61=>cond (ltN q'60 36) (vl (↑(UInt8.toNat (U0 (Int.toNat q'60))):Int) λn'63=>cond (G0 (l'61.length+1)) (vl (A2 (done'55+1)) λn'64=>cond (ltN delta'58 1152921504606846976) (cond (ltN n'64 1000000) (cond (ltI 0 n'64) (vl (↑(M0 (Int.toNat delta'58) (Int.toNat n'64) (done'55==basic'56)):Int) λn'65=>vl (A2 (done'55+1)) λn'66=>vl (A2 (i'59+1)) λn'67=>U7 lf n points_z'52 points_t'53 points'54 n'66 basic'56 n'57 0 n'65 n'67 (l'61++[[(SV.int .u8 n'63)]]) k0) none) none) none) none) none))) none) none) (cond (inR i8 points2.length) (cond (okE Gk points2 (Int.toNat i8) 0) (vl (gE points2 (Int.toNat i8) 0) λn'38=>cond (n'38 != n5) (U7 lf n points_z0 points_t1 points2 done3 basic4 n5 delta6 bias7 (A2 (i8+1)) l9 k0) (Bn lf lf points_z0 points_t1 points2 done3 basic4 n5 delta6 bias7 i8 delta6 0 l9 (λpoints_z'68 points_t'69 points'70 done'71 basic'72 n'73 delta'74 i'75 q'76 l'77=>cond (ltN q'76 36) (vl (↑(UInt8.toNat (U0 (Int.toNat q'76))):Int) λn'79=>cond (G0 (l'77.length+1)) (vl (A2 (done'71+1)) λn'80=>cond (ltN delta'74 1152921504606846976) (cond (ltN n'80 1000000) (cond (ltI 0 n'80) (vl (↑(M0 (Int.toNat delta'74) (Int.toNat n'80) (done'71==basic'72)):Int) λn'81=>vl (A2 (done'71+1)) λn'82=>vl (A2 (i'75+1)) λn'83=>U7 lf n points_z'68 points_t'69 points'70 n'82 basic'72 n'73 0 n'81 n'83 (l'77++[[(SV.int .u8 n'79)]]) k0) none) none) none) none) none))) none) none)) none) none) (k0 points_z0 points_t1 points2 done3 basic4 n5 delta6 bias7 l9)
theorem XL (n points_z0 points_t1 points2 done3 basic4 n5 delta6 bias7 i8 l9):E6 1 ((J5 lf).keep 25) (bd (J5 lf) cl yh (cd [1,1,1,1,1,1,1,0,0,0,1,0,1,1,1,1,0,1,0,0] W9)) n ⟨gp [(0,.s (.sl points_z0 points_t1 1 points2)),(3,.fl 0),(1,pI done3),(0,pI basic4),(0,pI n5),(0,pI delta6),(0,pI bias7),(2,pI i8)] 140,[.arr true 5 1 l9],s⟩ k =
 U7 lf n points_z0 points_t1 points2 done3 basic4 n5 delta6 bias7 i8 l9 (λpoints_z0 points_t1 points2 done3 basic4 n5 delta6 bias7 l8=>k (.exit 6) ⟨gp [(0,.s (.sl points_z0 points_t1 1 points2)),(3,.fl 0),(1,pI done3),(0,pI basic4),(0,pI n5),(0,pI delta6),(0,pI bias7)] 143,[.arr true 5 1 l8],s⟩):=by
 induction n generalizing points_z0 points_t1 points2 done3 basic4 n5 delta6 bias7 i8 l9 with
 | zero=>rfl
 | succ n ih=>rw [U7];exact let K0:=(G8 8 (I4 (J5 lf) cl yh (cd [1,1,1,1,1,1,1,0,0,0,1,0,1,1,1,1,0,1,0,0,1,0,0,1,1,1,1,1] W9) (G8 7 (I4 (J5 lf) cl yh (cd [1,1,1,1,1,1,1,0,0,0,1,0,1,1,1,1,0,1,0,0,1,1] W9) (lpK 1 ((J5 lf).keep 25) (bd (J5 lf) cl yh (cd [1,1,1,1,1,1,1,0,0,0,1,0,1,1,1,1,0,1,0,0] W9)) n k)))));(Eq.trans (by kernel_rfl) (A0 (A0 (A0 (A8 λn'33=>(A0 (A8 λn'34=>(A0 (A0 (A8 λn'36=>(A0 (ih points_z0 points_t1 points2 done3 basic4 n5 n'34 bias7 (A2 (i8+1)) l9) ((Zs lf cl yh s K0 lf points_z0 points_t1 points2 done3 basic4 n5 n'34 bias7 i8 n'34 0 l9).trans (congr rfl (Bg3 λpoints_z'52 points_t'53 points'54 done'55 basic'56 n'57 delta'58 i'59 q'60 l'61=>(Eq.trans (by kernel_rfl) (A0 (A8 λn'63=>(A0 (A8 λn'64=>(A0 (A0 (A0 (A8 λn'65=>(A8 λn'66=>(A8 λn'67=>(ih points_z'52 points_t'53 points'54 n'66 basic'56 n'57 0 n'65 n'67 (l'61++[[(SV.int .u8 n'63)]]))))) rfl) rfl) rfl)) rfl)) rfl))))))) rfl) rfl)) (A0 (A0 (A8 λn'38=>(A0 (ih points_z0 points_t1 points2 done3 basic4 n5 delta6 bias7 (A2 (i8+1)) l9) ((Zs lf cl yh s K0 lf points_z0 points_t1 points2 done3 basic4 n5 delta6 bias7 i8 delta6 0 l9).trans (congr rfl (Bg3 λpoints_z'68 points_t'69 points'70 done'71 basic'72 n'73 delta'74 i'75 q'76 l'77=>(Eq.trans (by kernel_rfl) (A0 (A8 λn'79=>(A0 (A8 λn'80=>(A0 (A0 (A0 (A8 λn'81=>(A8 λn'82=>(A8 λn'83=>(ih points_z'68 points_t'69 points'70 n'82 basic'72 n'73 0 n'81 n'83 (l'77++[[(SV.int .u8 n'79)]]))))) rfl) rfl) rfl)) rfl)) rfl))))))) rfl) rfl))) rfl) rfl) rfl))
noncomputable def Bo {R:Type} (lf n:Nat) (points_z0 points_t1:Bool) (points2:LL) (done3 basic4 n5 delta6 bias7:Int) (l8:LL) (k0:LL->Option R):Option R:=match n with | 0=>none | n+1=>cond (ltI done3 (points2.length:Int)) (En lf lf points_z0 points_t1 points2 done3 basic4 n5 delta6 bias7 1073741824 0 l8 (λpoints_z'17 points_t'18 points'19 done'20 basic'21 n'22 delta'23 bias'24 least'25 l'26=>vl (A2 (done'20+1)) λn'29=>vl (A2 ((A2 (least'25-n'22))*n'29)) λn'30=>U7 lf lf points_z'17 points_t'18 points'19 done'20 basic'21 least'25 (A2 (delta'23+n'30)) bias'24 0 l'26 (λpoints_z'84 points_t'85 points'86 done'87 basic'88 n'89 delta'90 bias'91 l'92=>vl (A2 (delta'90+1)) λn'93=>vl (A2 (n'89+1)) λn'94=>Bo lf n points_z'84 points_t'85 points'86 done'87 basic'88 n'94 n'93 bias'91 l'92 k0))) (k0 l8)
theorem Zt (n points_z0 points_t1 points2 done3 basic4 n5 delta6 bias7 l8):E6 1 ((J5 lf).keep 15) (bd (J5 lf) cl yh (cd [1,1,1,1,1,1,1,0,0,0] W9)) n ⟨gp [(0,.s (.sl points_z0 points_t1 1 points2)),(3,.fl 0),(1,pI done3),(0,pI basic4),(0,pI n5),(0,pI delta6),(0,pI bias7)] 143,[.arr true 5 1 l8],s⟩ k =
 Bo lf n points_z0 points_t1 points2 done3 basic4 n5 delta6 bias7 l8 (λl0=>k (.exit 2) ⟨gp [(4,.fl 0)] 149,[.arr true 5 1 l0],s⟩):=by
 induction n generalizing points_z0 points_t1 points2 done3 basic4 n5 delta6 bias7 l8 with
 | zero=>rfl
 | succ n ih=>rw [Bo];exact (Eq.trans (by kernel_rfl) (A0 ((XK lf cl yh s (G8 4 (I4 (J5 lf) cl yh (cd [1,1,1,1,1,1,1,0,0,0,1,0,1,1] W9) (G8 3 (lpK 1 ((J5 lf).keep 15) (bd (J5 lf) cl yh (cd [1,1,1,1,1,1,1,0,0,0] W9)) n k)))) lf points_z0 points_t1 points2 done3 basic4 n5 delta6 bias7 1073741824 0 l8).trans (congr rfl (Bg3 λpoints_z'17 points_t'18 points'19 done'20 basic'21 n'22 delta'23 bias'24 least'25 l'26=>(Eq.trans (by kernel_rfl) (A8 λn'29=>(A8 λn'30=>((XL lf cl yh s (G8 6 (I4 (J5 lf) cl yh (cd [1,1,1,1,1,1,1,0,0,0,1,0,1,1,1,1,1] W9) (G8 3 (lpK 1 ((J5 lf).keep 15) (bd (J5 lf) cl yh (cd [1,1,1,1,1,1,1,0,0,0] W9)) n k)))) lf points_z'17 points_t'18 points'19 done'20 basic'21 least'25 (A2 (delta'23+n'30)) bias'24 0 l'26).trans (congr rfl (fx9 λpoints_z'84 points_t'85 points'86 done'87 basic'88 n'89 delta'90 bias'91 l'92=>(Eq.trans (by kernel_rfl) (A8 λn'93=>(A8 λn'94=>(ih points_z'84 points_t'85 points'86 done'87 basic'88 n'94 n'93 bias'91 l'92))))))))))))) rfl))
noncomputable def OP {R:Type} (lf:Nat) (points_z0 points_t1:Bool) (points2:LL) (k0:Unit->Option R) (k1:By->Int->LL->Option R):Option R:=cond (ltI 256 (points2.length:Int)) (k0 ()) (O9 lf lf points_z0 points_t1 points2 0 [] (λl'5=>k1 ([]:List UInt8) 2 l'5) (λpoints_z'6 points_t'7 points'8 l'9=>vl (l'9.length:Int) λn'12=>vl (l'9.length:Int) λn'13=>cond (ltI 0 n'13) (cond (G0 (l'9.length+1)) (Bo lf lf points_z'6 points_t'7 points'8 n'12 n'13 128 0 72 (l'9++[[(SV.int .u8 (45:Int))]]) (λl'95=>cond (List.all l'95 JM) (k1 (List.map AP l'95) 0 l'95) none)) none) (Bo lf lf points_z'6 points_t'7 points'8 n'12 n'13 128 0 72 l'9 (λl'96=>cond (List.all l'96 JM) (k1 (List.map AP l'96) 0 l'96) none))))
theorem Bn4 (d:Nat) (points_z0 points_t1 points2):evC (J5 lf) (d+1) σ yh 125 [.s (.sl points_z0 points_t1 1 points2)] [] s=OP lf points_z0 points_t1 points2 (λ_=>some (.tup [pS ([]:List UInt8),pI (3:Int)],[],s)) (λr0 r1 l2=>some (.tup [pS r0,pI r1],[.arr true 5 1 l2],s)):=by
 refine (evE (fn:=Tryz.f125) (by kernel_rfl)).trans ?_
 generalize evC (J5 lf) d=cl
 unfold OP;exact let K0:=(G8 2 (I4 (J5 lf) cl yh (cd [1,1,1,1,1,1,1,1] W9) (H4 (J5 lf) Tryz.f125)));(Eq.trans (by kernel_rfl) (A0 rfl ((XJ lf cl yh s (G8 0 (I4 (J5 lf) cl yh (cd [1,1,1,1] W9) (H4 (J5 lf) Tryz.f125))) lf points_z0 points_t1 points2 0 []).trans (congr (congr rfl (by kernel_rfl)) (fx4 λpoints_z'6 points_t'7 points'8 l'9=>(Eq.trans (by kernel_rfl) (A8 λn'12=>(A8 λn'13=>(A0 (A0 ((Zt lf cl yh s K0 lf points_z'6 points_t'7 points'8 n'12 n'13 128 0 72 (l'9++[[(SV.int .u8 (45:Int))]])).trans (by kernel_rfl)) rfl) ((Zt lf cl yh s K0 lf points_z'6 points_t'7 points'8 n'12 n'13 128 0 72 l'9).trans (by kernel_rfl)))))))))))
noncomputable abbrev S7:Code:=D3 Tryz.f146
noncomputable def G5 (lf:Nat):Cfg:=B8 lf [146] (A4 [(27,[0,1,0,2,1,0,0,0,0,0,0,0]),(23,[0,1,0,2,1,0,0,0,0]),(13,[0,1,0,0,1,0]),(5,[0,1,0,0,0])]) [(176,At3),(166,RD),(168,Wt),(165,Xb)] (A4 [(51,[2,0]),(50,[0,5,1,0,0,0,0]),(49,[2,0]),(48,[0,5,1,0,0,0,0,118]),(47,[0,5,1,0,0,0,0]),(46,[2,0]),(45,[0,5,1,0,0,0,0,103]),(44,[0,5,1,0,0,0,0]),(43,[0,5,1,0,0,0,0]),(42,[0,5,1,0,0,0,0]),(41,[0,5,1,0,0,0]),(26,[0,5,1,0,0,0,0,0,0,0]),(40,[2,0]),(39,[0,5,1,0,0,0,0,0,0,0,77]),(38,[0,5,1,0,0,0,0,0,0,0]),(37,[0,5,1,0,0,0,0,0,0,0,1,69]),(36,[0,5,1,0,0,0,0,0,0,0,0,0]),(35,[2,0]),(34,[0,5,1,0,0,0,0,0,0,0,0,64]),(33,[0,5,1,0,0,0,0,0,0,0,0]),(32,[2,0]),(31,[0,5,1,0,0,0,0,0,0,0,0,57]),(30,[0,5,1,0,0,0,0,0,0,0,0]),(29,[0,5,1,0,0,0,0,0,0,0,0]),(28,[2,0]),(27,[0,5,1,0,0,0,0,0,0,0,50]),(25,[0,5,1,0,0,0,0,0,0,0]),(24,[0,5,1,0,0,0,0,0,0]),(23,[0,5,1,0,0,0,0,46]),(22,[0,5,1,0,0,0,0]),(21,[0,5,1,0,0,0]),(20,[0,5,1]),(19,[0,5,1,44]),(18,[0,3,1,1]),(17,[2,0]),(16,[0,3,1,43]),(14,[0,3,1,0]),(15,[0,3,1,0]),(13,[0,3,1,0,30]),(12,[0,3,1,0]),(11,[0,3,1]),(6,[0,3,0]),(10,[0,3,0]),(9,[0,3,0,28]),(8,[2,0]),(7,[0,3,0,24]),(5,[0,3,0,18]),(4,[0,3,0]),(3,[0,3]),(2,[2,0]),(1,[0,19]),(0,[0])]) [176,166,168,165] (A4 [(4,[6]),(5,[0,5,1,0,0,0,0]),(6,[0,5,1,0,0,1,0]),(7,[0,5,1,0,0,0,0,0,0,0]),(2,[0,3,1]),(3,[0,3,1,0]),(0,[0,3]),(1,[0,3,0])]) (some [2,0]) [] [] [] (rw:=[(47,6)])
noncomputable def Ax {R:Type} (lf n:Nat) (s0:By) (cut1 i2:Int) (k0:Unit->Option R) (k1:By->Int->Option R):Option R:=match n with | 0=>none | n+1=>cond (ltI i2 (s0.length:Int)) (cond (inR i2 s0.length) (cond (not (ltI (bAt s0 i2) (128:Int))) (k0 ()) (cond (inR i2 s0.length) (cond ((bAt s0 i2)==45) (Ax lf n s0 i2 (A2 (i2+1)) k0 k1) (Ax lf n s0 cut1 (A2 (i2+1)) k0 k1)) none)) none) (k1 s0 cut1)
theorem OW (n s0 cut1 i2):E6 0 ((G5 lf).keep 5) (bd (G5 lf) cl yh (cd [1,1,1,0,1,0,0] S7)) n ⟨gp [(0,pS s0),(3,pI cut1),(0,pI i2)] 129,[],s⟩ k =
 Ax lf n s0 cut1 i2 (λ_=>k .ret ⟨gp [(2,.fl 0),(0,pI (4:Int))] 131,[.arr true 3 1 []],s⟩) (λs0 cut1=>k (.exit 0) ⟨gp [(0,pS s0),(3,pI cut1)] 130,[],s⟩):=by
 induction n generalizing s0 cut1 i2 with
 | zero=>rfl
 | succ n ih=>rw [Ax];simp only [<-ih];kernel_rfl
noncomputable def Dl {R:Type} (lf n:Nat) (s0:By) (cut1 i2:Int) (l3:LL) (k0:By->Int->LL->Option R):Option R:=match n with | 0=>none | n+1=>cond (ltI i2 cut1) (cond (inR i2 s0.length) (cond (G0 (l3.length+1)) (Dl lf n s0 cut1 (A2 (i2+1)) (l3++[[(SV.int .i64 (A2 (bAt s0 i2)))]]) k0) none) none) (k0 s0 cut1 l3)
theorem OX (n s0 cut1 i2 l3):E6 1 ((G5 lf).keep 13) (bd (G5 lf) cl yh (cd [1,1,1,1,1,0,1,0,0] S7)) n ⟨gp [(0,pS s0),(3,pI cut1),(1,.fl 0),(0,pI i2)] 127,[.arr true 3 1 l3],s⟩ k =
 Dl lf n s0 cut1 i2 l3 (λs0 cut1 l2=>k (.exit 2) ⟨gp [(0,pS s0),(3,pI cut1),(1,.fl 0)] 128,[.arr true 3 1 l2],s⟩):=by
 induction n generalizing s0 cut1 i2 l3 with
 | zero=>rfl
 | succ n ih=>rw [Dl];simp only [<-ih];kernel_rfl
noncomputable def P7 {R:Type} (lf n:Nat) (s0:By) (out1:LL) (at2 n3 i4 bias5 old6 w7 kk8:Int) (l9:LL) (k0:Int->LL->Option R) (k1:By->LL->Int->Int->Int->Int->LL->Option R):Option R:=match n with | 0=>none | n+1=>cond (not (ltI at2 (s0.length:Int))) (k0 4 l9) (cond (inR at2 s0.length) (cond (inR (bAt s0 at2) 256) (vl (C3 (u8n (bAt s0 at2))) λn'8=>cond (ltI n'8 0) (k0 4 l9) (vl (A2 (i4+(A2 (n'8*w7)))) λn'10=>cond (ltI 1099511627776 n'10) (k0 19 l9) (cond (ltN kk8 10000000000) (cond (ltN bias5 1000000) (vl (I5 (Int.mul (36:Int) kk8) bias5) λn'12=>cond (ltI n'8 n'12) (k1 s0 out1 (A2 (at2+1)) n3 n'10 old6 l9) (vl (A2 ((36:Int)-n'12)) λn'13=>cond (ltI 1099511627776 (A2 (w7*n'13))) (k0 19 l9) (P7 lf n s0 out1 (A2 (at2+1)) n3 n'10 bias5 old6 (A2 (w7*n'13)) (A2 (kk8+1)) l9 k0 k1))) none) none))) none) none)
theorem OY (n s0 out1 at2 n3 i4 bias5 old6 w7 kk8 l9):E6 1 ((G5 lf).keep 27) (bd (G5 lf) cl yh (cd [1,1,1,1,1,1,1,1,1,1,1,0,0,0,1,0,1,0,1,0,0] S7)) n ⟨gp [(0,pS s0),(5,.s (.sl false false 1 out1)),(1,pI at2),(0,pI n3),(0,pI i4),(0,pI bias5),(0,pB false),(0,pI old6),(0,pI w7),(0,pI kk8)] 119,[.arr true 3 1 l9],s⟩ k =
 P7 lf n s0 out1 at2 n3 i4 bias5 old6 w7 kk8 l9 (λn0 l1=>k .ret ⟨gp [(2,.fl 1),(0,pI n0)] 131,[.arr true 3 1 l1,.arr true 3 1 []],s⟩) (λs0 out1 at2 n3 i4 old5 l6=>k (.exit 6) ⟨gp [(0,pS s0),(5,.s (.sl false false 1 out1)),(1,pI at2),(0,pI n3),(0,pI i4),(1,pB false),(0,pI old5)] 121,[.arr true 3 1 l6],s⟩):=by
 induction n generalizing s0 out1 at2 n3 i4 bias5 old6 w7 kk8 l9 with
 | zero=>rfl
 | succ n ih=>rw [P7];simp only [<-ih];kernel_rfl
noncomputable def L1 {R:Type} (lf n:Nat) (s0:By) (out1:LL) (at2 n3 i4 bias5:Int) (l6:LL) (k0:Int->LL->Option R) (k1:LL->LL->Option R) (k2:LL->LL->Option R):Option R:=match n with | 0=>none | n+1=>cond (ltI at2 (s0.length:Int)) (P7 lf lf s0 out1 at2 n3 i4 bias5 i4 1 0 l6 (λn'14 l'15=>k0 n'14 l'15) (λs'16 out'17 at'18 n'19 i'20 old'21 l'22=>vl (A2 ((out'17.length:Int)+1)) λn'25=>cond (ltN (A2 (i'20-old'21)) 1152921504606846976) (cond (ltN n'25 1000000) (cond (ltI 0 n'25) (vl (↑(M0 (Int.toNat (A2 (i'20-old'21))) (Int.toNat n'25) false):Int) λn'26=>vl (A2 ((out'17.length:Int)+1)) λn'29=>cond (n'29 != 0) (vl (A2 (Int.tdiv i'20 n'29)) λn'30=>vl (A2 ((out'17.length:Int)+1)) λn'32=>cond (n'32 != 0) (cond (not (ptI (A2 (n'19+n'30)))) (k0 2 l'22) (cond (P2 0 (Int.tmod i'20 n'32) out'17.length) (vl (cut out'17 0 (Int.tmod i'20 n'32)) λl'33=>cond (P2 (Int.tmod i'20 n'32) (out'17.length:Int) out'17.length) (vl (cut out'17 (Int.tmod i'20 n'32) (out'17.length:Int)) λl'34=>cond (G0 (0+l'33.length)) (cond (G0 (l'33.length+1)) (cond (G0 ((List.length (l'33++[[(SV.int .i64 (A2 (n'19+n'30)))]]))+l'34.length)) (cond (ltI 256 (↑(List.length ((l'33++[[(SV.int .i64 (A2 (n'19+n'30)))]])++l'34)):Int)) (k1 l'22 ((l'33++[[(SV.int .i64 (A2 (n'19+n'30)))]])++l'34)) (vl (A2 ((Int.tmod i'20 n'32)+1)) λn'35=>L1 lf n s'16 ((l'33++[[(SV.int .i64 (A2 (n'19+n'30)))]])++l'34) at'18 (A2 (n'19+n'30)) n'35 n'26 l'22 k0 k1 k2)) none) none) none) none) none)) none) none) none) none) none)) (k2 out1 l6)
theorem OZ (n s0 out1 at2 n3 i4 bias5 l6):E6 1 ((G5 lf).keep 23) (bd (G5 lf) cl yh (cd [1,1,1,1,1,1,1,1,1,1,1,0,0,0] S7)) n ⟨gp [(0,pS s0),(5,.s (.sl false false 1 out1)),(1,pI at2),(0,pI n3),(0,pI i4),(0,pI bias5),(0,pB false)] 122,[.arr true 3 1 l6],s⟩ k =
 L1 lf n s0 out1 at2 n3 i4 bias5 l6 (λn0 l1=>k .ret ⟨gp [(2,.fl 1),(0,pI n0)] 131,[.arr true 3 1 l1,.arr true 3 1 []],s⟩) (λl0 l1=>k .ret ⟨gp [(2,.fl 2),(0,pI (3:Int))] 131,[.arr true 3 1 l0,.arr false 3 1 l1,.arr true 3 1 []],s⟩) (λout0 l1=>k (.exit 4) ⟨gp [(6,.s (.sl false false 1 out0))] 128,[.arr true 3 1 l1],s⟩):=by
 induction n generalizing s0 out1 at2 n3 i4 bias5 l6 with
 | zero=>rfl
 | succ n ih=>rw [L1];exact (Eq.trans (by kernel_rfl) (A0 ((OY lf cl yh s (G8 6 (I4 (G5 lf) cl yh (cd [1,1,1,1,1,1,1,1,1,1,1,0,0,0,1,0,1,1] S7) (G8 5 (lpK 1 ((G5 lf).keep 23) (bd (G5 lf) cl yh (cd [1,1,1,1,1,1,1,1,1,1,1,0,0,0] S7)) n k)))) lf s0 out1 at2 n3 i4 bias5 i4 1 0 l6).trans (congr (congr rfl (by kernel_rfl)) (fx7 λs'16 out'17 at'18 n'19 i'20 old'21 l'22=>(Eq.trans (by kernel_rfl) (A8 λn'25=>(A0 (A0 (A0 (A8 λn'26=>(A8 λn'29=>(A0 (A8 λn'30=>(A8 λn'32=>(A0 (A0 rfl (A0 (A8 λl'33=>(A0 (A8 λl'34=>(A0 (A0 (A0 (A0 rfl (A8 λn'35=>(ih s'16 ((l'33++[[(SV.int .i64 (A2 (n'19+n'30)))]])++l'34) at'18 (A2 (n'19+n'30)) n'35 n'26 l'22))) rfl) rfl) rfl)) rfl)) rfl)) rfl))) rfl))) rfl) rfl) rfl)))))) rfl))
noncomputable def P8 {R:Type} (lf n:Nat) (s0:By) (at1 i2 w3 kk4:Int) (l5:LL) (k0:Int->LL->Option R) (k1:By->Int->Int->LL->Option R):Option R:=match n with | 0=>none | n+1=>cond (not (ltI at1 (s0.length:Int))) (k0 4 l5) (cond (inR at1 s0.length) (cond (inR (bAt s0 at1) 256) (vl (C3 (u8n (bAt s0 at1))) λn'37=>cond (ltI n'37 0) (k0 4 l5) (vl (A2 (i2+(A2 (n'37*w3)))) λn'39=>cond (ltI 1099511627776 n'39) (k0 19 l5) (cond (ltN kk4 10000000000) (cond (ltN 72 1000000) (vl (I5 (Int.mul (36:Int) kk4) (72:Int)) λn'41=>cond (ltI n'37 n'41) (k1 s0 (A2 (at1+1)) n'39 l5) (vl (A2 ((36:Int)-n'41)) λn'42=>cond (ltI 1099511627776 (A2 (w3*n'42))) (k0 19 l5) (P8 lf n s0 (A2 (at1+1)) n'39 (A2 (w3*n'42)) (A2 (kk4+1)) l5 k0 k1))) none) none))) none) none)
theorem PA (n s0 at1 i2 w3 kk4 l5):E6 1 ((G5 lf).keep 27) (bd (G5 lf) cl yh (cd [1,1,1,1,1,1,1,1,1,1,1,0,0,0,1,0,1,0,1,0,0] S7)) n ⟨gp [(0,pS s0),(5,.fl 0),(1,pI at1),(0,pI (128:Int)),(0,pI i2),(0,pI (72:Int)),(0,pB true),(0,pI (0:Int)),(0,pI w3),(0,pI kk4)] 119,[.arr true 3 1 l5],s⟩ k =
 P8 lf n s0 at1 i2 w3 kk4 l5 (λn0 l1=>k .ret ⟨gp [(2,.fl 1),(0,pI n0)] 131,[.arr true 3 1 l1,.arr true 3 1 []],s⟩) (λs0 at1 i2 l3=>k (.exit 6) ⟨gp [(0,pS s0),(5,.fl 0),(1,pI at1),(0,pI (128:Int)),(0,pI i2),(1,pB true),(0,pI (0:Int))] 121,[.arr true 3 1 l3],s⟩):=by
 induction n generalizing s0 at1 i2 w3 kk4 l5 with
 | zero=>rfl
 | succ n ih=>rw [P8];simp only [<-ih];kernel_rfl
noncomputable def I2 {R:Type} (lf n:Nat) (s0:By) (at1:Int) (l2:LL) (k0:Int->LL->Option R) (k1:LL->LL->Option R) (k2:LL->LL->Option R) (k3:LL->Option R):Option R:=match n with | 0=>none | n+1=>cond (ltI at1 (s0.length:Int)) (P8 lf lf s0 at1 0 1 0 l2 (λn'43 l'44=>k0 n'43 l'44) (λs'45 at'46 i'47 l'48=>vl (A2 (i'47-0)) λn'52=>vl (A2 ((l'48.length:Int)+1)) λn'53=>cond (ltN n'52 1152921504606846976) (cond (ltN n'53 1000000) (cond (ltI 0 n'53) (vl (↑(M0 (Int.toNat n'52) (Int.toNat n'53) true):Int) λn'54=>vl (A2 ((l'48.length:Int)+1)) λn'58=>cond (n'58 != 0) (vl (A2 (Int.tdiv i'47 n'58)) λn'59=>vl (A2 ((128:Int)+n'59)) λn'60=>vl (A2 ((l'48.length:Int)+1)) λn'62=>cond (n'62 != 0) (cond (not (ptI n'60)) (k0 2 l'48) (cond (P2 0 (Int.tmod i'47 n'62) l'48.length) (cond (P2 (Int.tmod i'47 n'62) (l'48.length:Int) l'48.length) (cond (G0 (0+(List.length (List.take ((Int.toNat (Int.tmod i'47 n'62))-0) (List.drop 0 l'48))))) (cond (G0 ((List.length (List.take ((Int.toNat (Int.tmod i'47 n'62))-0) (List.drop 0 l'48)))+1)) (vl ((List.take ((Int.toNat (Int.tmod i'47 n'62))-0) (List.drop 0 l'48))++[[(SV.int .i64 n'60)]]) λl'63=>cond (G0 (l'63.length+(List.length (List.take ((Int.toNat (l'48.length:Int))-(Int.toNat (Int.tmod i'47 n'62))) (List.drop (Int.toNat (Int.tmod i'47 n'62)) l'48))))) (vl (l'63++(List.take ((Int.toNat (l'48.length:Int))-(Int.toNat (Int.tmod i'47 n'62))) (List.drop (Int.toNat (Int.tmod i'47 n'62)) l'48))) λl'64=>cond (ltI 256 (l'64.length:Int)) (k1 l'48 l'64) (vl (A2 ((Int.tmod i'47 n'62)+1)) λn'65=>L1 lf n s'45 l'64 at'46 n'60 n'65 n'54 l'48 (λn'66 l'67=>k0 n'66 l'67) (λl'68 l'69=>k1 l'68 l'69) (λout'70 l'71=>k2 out'70 l'71))) none) none) none) none) none)) none) none) none) none) none)) (k3 l2)
theorem Um (n s0 at1 l2):E6 1 ((G5 lf).keep 23) (bd (G5 lf) cl yh (cd [1,1,1,1,1,1,1,1,1,1,1,0,0,0] S7)) n ⟨gp [(0,pS s0),(5,.fl 0),(1,pI at1),(0,pI (128:Int)),(0,pI (0:Int)),(0,pI (72:Int)),(0,pB true)] 122,[.arr true 3 1 l2],s⟩ k =
 I2 lf n s0 at1 l2 (λn0 l1=>k .ret ⟨gp [(2,.fl 1),(0,pI n0)] 131,[.arr true 3 1 l1,.arr true 3 1 []],s⟩) (λl0 l1=>k .ret ⟨gp [(2,.fl 2),(0,pI (3:Int))] 131,[.arr true 3 1 l0,.arr false 3 1 l1,.arr true 3 1 []],s⟩) (λout0 l1=>k (.exit 4) ⟨gp [(6,.s (.sl false false 1 out0))] 128,[.arr true 3 1 l1],s⟩) (λl0=>k (.exit 4) ⟨gp [(6,.fl 0)] 128,[.arr true 3 1 l0],s⟩):=by
 induction n generalizing s0 at1 l2 with
 | zero=>rfl
 | succ n ih=>rw [I2];exact (Eq.trans (by kernel_rfl) (A0 ((PA lf cl yh s (G8 6 (I4 (G5 lf) cl yh (cd [1,1,1,1,1,1,1,1,1,1,1,0,0,0,1,0,1,1] S7) (G8 5 (lpK 1 ((G5 lf).keep 23) (bd (G5 lf) cl yh (cd [1,1,1,1,1,1,1,1,1,1,1,0,0,0] S7)) n k)))) lf s0 at1 0 1 0 l2).trans (congr (congr rfl (by kernel_rfl)) (fx4 λs'45 at'46 i'47 l'48=>(Eq.trans (by kernel_rfl) (A8 λn'52=>(A8 λn'53=>(A0 (A0 (A0 (A8 λn'54=>(A8 λn'58=>(A0 (A8 λn'59=>(A8 λn'60=>(A8 λn'62=>(A0 (A0 rfl (A0 (A0 (A0 (A0 (A8 λl'63=>(A0 (A8 λl'64=>(A0 rfl (A8 λn'65=>((OZ lf cl yh s k n s'45 l'64 at'46 n'60 n'65 n'54 l'48).trans (congr (congr (congr rfl (fx2 λn'66 l'67=>rfl)) (fx2 λl'68 l'69=>rfl)) (fx2 λout'70 l'71=>rfl)))))) rfl)) rfl) rfl) rfl) rfl)) rfl)))) rfl))) rfl) rfl) rfl))))))) rfl))
noncomputable def Ae6 {R:Type} (lf:Nat) (s0:By) (k0:Int->LL->Option R) (k1:Int->LL->Option R) (k2:LL->LL->Option R) (k3:LL->LL->Option R):Option R:=cond (ltI 1024 (s0.length:Int)) (k0 3 []) (Ax lf lf s0 0 0 (λ_=>k0 4 []) (λs'0 cut'1=>Dl lf lf s'0 cut'1 0 [] (λs'2 cut'3 l'4=>cond (ltI 256 (l'4.length:Int)) (k1 3 l'4) (cond (ltI 0 cut'3) (vl (A2 (cut'3+1)) λn'6=>I2 lf lf s'2 n'6 l'4 (λn'72 l'73=>k1 n'72 l'73) (λl'74 l'75=>k2 l'74 l'75) (λout'76 l'77=>k3 out'76 l'77) (λl'78=>k0 0 l'78)) (I2 lf lf s'2 cut'3 l'4 (λn'79 l'80=>k1 n'79 l'80) (λl'81 l'82=>k2 l'81 l'82) (λout'83 l'84=>k3 out'83 l'84) (λl'85=>k0 0 l'85))))))
theorem A62 (d:Nat) (s0):evC (G5 lf) (d+1) σ yh 146 [pS s0] [] s=Ae6 lf s0 (λr0 l1=>some (.tup [.fl 0,pI r0],[.arr true 3 1 l1],s)) (λr0 l1=>some (.tup [.fl 1,pI r0],[.arr true 3 1 l1,.arr true 3 1 []],s)) (λl0 l1=>some (.tup [.fl 2,pI (3:Int)],[.arr true 3 1 l0,.arr false 3 1 l1,.arr true 3 1 []],s)) (λr0 l1=>some (.tup [.s (.sl false false 1 r0),pI (0:Int)],[.arr true 3 1 l1],s)):=by
 refine (evE (fn:=Tryz.f146) (by kernel_rfl)).trans ?_
 generalize evC (G5 lf) d=cl
 unfold Ae6;exact let K0:=(G8 4 (I4 (G5 lf) cl yh (cd [1,1,1,1,1,1,1,1,1,1,1,1] S7) (H4 (G5 lf) Tryz.f146)));(Eq.trans (by kernel_rfl) (A0 rfl ((OW lf cl yh s (G8 0 (I4 (G5 lf) cl yh (cd [1,1,1,1] S7) (H4 (G5 lf) Tryz.f146))) lf s0 0 0).trans (congr (congr rfl (by kernel_rfl)) (fx2 λs'0 cut'1=>(Eq.trans (by kernel_rfl) ((OX lf cl yh s (G8 2 (I4 (G5 lf) cl yh (cd [1,1,1,1,1,1] S7) (H4 (G5 lf) Tryz.f146))) lf s'0 cut'1 0 []).trans (congr rfl (fx3 λs'2 cut'3 l'4=>(Eq.trans (by kernel_rfl) (A0 rfl (A0 (A8 λn'6=>((Um lf cl yh s K0 lf s'2 n'6 l'4).trans (by kernel_rfl))) ((Um lf cl yh s K0 lf s'2 cut'3 l'4).trans (by kernel_rfl))))))))))))))
noncomputable def KP {R:Type} (lf n:Nat) (s0:By) (i1 v2:Int) (l3:LL) (k0:By->Int->Int->LL->Option R):Option R:=match n with | 0=>none | n+1=>k0 s0 i1 v2 l3
noncomputable def KO {R:Type} (lf:Nat) (s0:By) (i1 b2:Int) (l4:LL) (k0:LL->Option R) (k1:By->Int->LL->Option R):Option R:=vl (A2 ((s0.length:Int)-i1)) λn'1=>cond (ltI n'1 1) (k0 l4) (KP lf lf s0 i1 b2 l4 (λs'2 i'3 v'4 l'5=>cond (ltI v'4 0) (k0 l'5) (cond (not (ptI v'4)) (k0 l'5) (cond (G0 (l'5.length+1)) (k1 s'2 (A2 (i'3+1)) (l'5++[[(SV.int .i64 v'4)]])) none))))
noncomputable def Pp {R:Type} (s0:By) (i1 b2:Int) (b3:Bool) (l4:LL) (k0:By->Int->Int->Int->Int->LL->Option R) (k1:LL->Option R):Option R:=cond b3 (vl (A2 (b2-224)) λn'11=>k0 s0 i1 3 n'11 2048 l4) (cond (not (ltI b2 240)) (cond (ltI b2 245) (vl (A2 (b2-240)) λn'12=>k0 s0 i1 4 n'12 65536 l4) (k1 l4)) (k1 l4))
noncomputable def Pq {R:Type} (s0:By) (i1 b2:Int) (b3:Bool) (l4:LL) (k0:By->Int->Int->Int->Int->LL->Option R) (k1:LL->Option R):Option R:=cond b3 (vl (A2 (b2-192)) λn'10=>k0 s0 i1 2 n'10 128 l4) (cond (not (ltI b2 224)) (Pp s0 i1 b2 (ltI b2 240) l4 (λs'13 i'14 n'15 v'16 least'17 l'18=>k0 s'13 i'14 n'15 v'16 least'17 l'18) (λl'19=>k1 l'19)) (Pp s0 i1 b2 false l4 (λs'20 i'21 n'22 v'23 least'24 l'25=>k0 s'20 i'21 n'22 v'23 least'24 l'25) (λl'26=>k1 l'26)))
noncomputable def Hp {R:Type} (lf n:Nat) (s0:By) (i1 n2 v3 least4 kk5:Int) (l6:LL) (k0:LL->Option R) (k1:By->Int->Int->Int->Int->LL->Option R):Option R:=match n with | 0=>none | n+1=>cond (ltI kk5 n2) (cond (inR (A2 (i1+kk5)) s0.length) (vl (bAt s0 (A2 (i1+kk5))) λn'37=>cond (ltI (A2 n'37) (128:Int)) (k0 l6) (cond (ltI 191 (A2 n'37)) (k0 l6) (vl (A2 ((A2 (v3*64))+(A2 n'37))) λn'38=>vl (A2 (n'38-128)) λn'39=>Hp lf n s0 i1 n2 n'39 least4 (A2 (kk5+1)) l6 k0 k1))) none) (k1 s0 i1 n2 v3 least4 l6)
noncomputable def Ep {R:Type} (lf:Nat) (s0:By) (i1 n2 v3 least4:Int) (l5:LL) (k0:LL->Option R) (k1:By->Int->LL->Option R):Option R:=vl (A2 ((s0.length:Int)-i1)) λn'35=>cond (ltI n'35 n2) (k0 l5) (Hp lf lf s0 i1 n2 v3 least4 1 l5 (λl'40=>k0 l'40) (λs'41 i'42 n'43 v'44 least'45 l'46=>cond (ltI v'44 least'45) (k0 l'46) (cond (not (ptI v'44)) (k0 l'46) (cond (G0 (l'46.length+1)) (k1 s'41 (A2 (i'42+n'43)) (l'46++[[(SV.int .i64 v'44)]])) none))))
noncomputable def Y2 {R:Type} (lf n:Nat) (s0:By) (i1:Int) (l2:LL) (k0:LL->Option R) (k1:LL->Option R):Option R:=match n with | 0=>none | n+1=>cond (ltI i1 (s0.length:Int)) (cond (inR i1 s0.length) (cond (ltI (A2 (bAt s0 i1)) (128:Int)) (KO lf s0 i1 (A2 (bAt s0 i1)) l2 (λl'6=>k0 l'6) (λs'7 i'8 l'9=>Y2 lf n s'7 i'8 l'9 k0 k1)) (cond (not (ltI (A2 (bAt s0 i1)) (194:Int))) (Pq s0 i1 (A2 (bAt s0 i1)) (ltI (A2 (bAt s0 i1)) (224:Int)) l2 (λs'27 i'28 n'29 v'30 least'31 l'32=>Ep lf s'27 i'28 n'29 v'30 least'31 l'32 (λl'47=>k0 l'47) (λs'48 i'49 l'50=>Y2 lf n s'48 i'49 l'50 k0 k1)) (λl'33=>k0 l'33)) (Pq s0 i1 (A2 (bAt s0 i1)) false l2 (λs'51 i'52 n'53 v'54 least'55 l'56=>Ep lf s'51 i'52 n'53 v'54 least'55 l'56 (λl'58=>k0 l'58) (λs'59 i'60 l'61=>Y2 lf n s'59 i'60 l'61 k0 k1)) (λl'57=>k0 l'57)))) none) (k1 l2)
noncomputable def B77 {R:Type} (lf:Nat) (s0:By) (k0:LL->Option R) (k1:LL->Option R):Option R:=Y2 lf lf s0 0 [] (λl'62=>k0 l'62) (λl'63=>k1 l'63)
noncomputable abbrev Aa7:Code:=D3 Tryz.f103
noncomputable def Gw (lf:Nat):Cfg:=B8 lf [103] (A4 [(6,[0,1,0,1,0])]) [(146,ZW),(125,As9)] (A4 [(12,[2]),(11,[0,4,1,0]),(7,[0,2,1,0]),(10,[2]),(9,[0,2,1,0,34]),(8,[0,2,1,0]),(6,[0,2,1,0,12]),(5,[0,2,1,0]),(4,[0,2,1]),(3,[2]),(2,[0,2,11]),(1,[0,2,0]),(0,[0])]) [125] (A4 [(0,[0,2,1]),(1,[0,2,1,0])]) (some [2]) [] [] []
noncomputable def R8 {R:Type} (lf n:Nat) (rest0:By) (p_z1:Bool) (p2:LL) (other3:Bool) (i4:Int) (k0:Unit->Option R) (k1:By->Bool->LL->Bool->Option R):Option R:=match n with | 0=>none | n+1=>cond (ltI i4 (p2.length:Int)) (cond other3 (cond (inR i4 p2.length) (cond (okE Gk p2 (Int.toNat i4) 0) (cond (not (ltI (gE p2 (Int.toNat i4) 0) (65:Int))) (cond (inR i4 p2.length) (cond (okE Gk p2 (Int.toNat i4) 0) (cond (not (ltI 90 (gE p2 (Int.toNat i4) 0))) (k0 ()) (R8 lf n rest0 p_z1 p2 true (A2 (i4+1)) k0 k1)) none) none) (R8 lf n rest0 p_z1 p2 true (A2 (i4+1)) k0 k1)) none) none) (cond (inR i4 p2.length) (cond (okE Gk p2 (Int.toNat i4) 0) (cond (inR i4 p2.length) (cond (okE Gk p2 (Int.toNat i4) 0) (cond (not (ltI (gE p2 (Int.toNat i4) 0) (65:Int))) (cond (inR i4 p2.length) (cond (okE Gk p2 (Int.toNat i4) 0) (cond (not (ltI 90 (gE p2 (Int.toNat i4) 0))) (k0 ()) (R8 lf n rest0 p_z1 p2 (not (ltI (gE p2 (Int.toNat i4) 0) (128:Int))) (A2 (i4+1)) k0 k1)) none) none) (R8 lf n rest0 p_z1 p2 (not (ltI (gE p2 (Int.toNat i4) 0) (128:Int))) (A2 (i4+1)) k0 k1)) none) none) none) none)) (k1 rest0 p_z1 p2 other3)
theorem PC (n rest0 p_z1 p2 other3 i4):E6 0 ((Gw lf).keep 6) (bd (Gw lf) cl yh (cd [1,1,1,1,0,1,0,0] Aa7)) n ⟨gp [(0,pS rest0),(2,.s (.sl p_z1 p_z1 1 p2)),(1,pB other3),(0,pI i4)] 50,[],s⟩ k =
 R8 lf n rest0 p_z1 p2 other3 i4 (λ_=>k .ret ⟨gp [(2,pB false)] 54,[],s⟩) (λrest0 p_z1 p2 other3=>k (.exit 0) ⟨gp [(0,pS rest0),(2,.s (.sl p_z1 p_z1 1 p2)),(1,pB other3)] 51,[],s⟩):=by
 induction n generalizing rest0 p_z1 p2 other3 i4 with
 | zero=>rfl
 | succ n ih=>rw [R8];simp only [<-ih];kernel_rfl
noncomputable def Ae7 {R:Type} (lf:Nat) (rest0:By) (k0:Bool->Option R):Option R:=cond (A1 rest0.length) (vl (↑((J8 rest0)).2:Int) λn'1=>cond (n'1 != 0) (k0 false) (R8 lf lf rest0 (List.isEmpty ((J8 rest0)).1) (Ss ((J8 rest0)).1) false 0 (λ_=>k0 false) (λrest'2 p_z'3 p'4 other'5=>cond (List.all p'4 Ok) (vl ((Y9 (List.map elI p'4))).1 λs'8=>vl (↑((Y9 (List.map elI p'4))).2:Int) λn'9=>cond (n'9==0) (cond (s'8==rest'2) (k0 other'5) (k0 false)) (k0 false)) none))) none
theorem A64 (d:Nat) (rest0):evC (Gw lf) (d+1) σ yh 103 [pS rest0] [] s=Ae7 lf rest0 (λr0=>some (pB r0,[],s)):=by
 refine (evE (fn:=Tryz.f103) (by kernel_rfl)).trans ?_
 generalize evC (Gw lf) d=cl
 unfold Ae7;exact (Eq.trans (by kernel_rfl) (A0 (A8 λn'1=>(A0 rfl ((PC lf cl yh s (G8 0 (I4 (Gw lf) cl yh (cd [1,1,1,1,1] Aa7) (H4 (Gw lf) Tryz.f103))) lf rest0 (List.isEmpty ((J8 rest0)).1) (Ss ((J8 rest0)).1) false 0).trans (by kernel_rfl)))) rfl))
noncomputable abbrev Aa6:Code:=D3 Tryz.f69
noncomputable def Gv (lf:Nat):Cfg:=B8 lf [69] (A4 [(4,[0,1,0])]) [(103,ZX)] (A4 [(9,[2]),(5,[0,2]),(8,[2]),(7,[0,2,52]),(6,[0,2,0]),(4,[0,2,24]),(3,[0,2]),(2,[2]),(1,[0,23]),(0,[0])]) [103] (A4 [(0,[0]),(1,[0,2])]) (some [2]) [] [] []
noncomputable def K2 {R:Type} (lf n:Nat) (s0:By) (i1:Int) (k0:Unit->Option R) (k1:By->Option R):Option R:=match n with | 0=>none | n+1=>cond (ltI i1 (s0.length:Int)) (cond (inR i1 s0.length) (cond (not (ltI (bAt s0 i1) (97:Int))) (cond (not (ltI 122 (bAt s0 i1))) (K2 lf n s0 (A2 (i1+1)) k0 k1) (cond (not (ltI (bAt s0 i1) (48:Int))) (cond (not (ltI 57 (bAt s0 i1))) (K2 lf n s0 (A2 (i1+1)) k0 k1) (cond ((bAt s0 i1)==45) (K2 lf n s0 (A2 (i1+1)) k0 k1) (cond (not ((bAt s0 i1)==95)) (k0 ()) (K2 lf n s0 (A2 (i1+1)) k0 k1)))) (cond ((bAt s0 i1)==45) (K2 lf n s0 (A2 (i1+1)) k0 k1) (cond (not ((bAt s0 i1)==95)) (k0 ()) (K2 lf n s0 (A2 (i1+1)) k0 k1))))) (cond (not (ltI (bAt s0 i1) (48:Int))) (cond (not (ltI 57 (bAt s0 i1))) (K2 lf n s0 (A2 (i1+1)) k0 k1) (cond ((bAt s0 i1)==45) (K2 lf n s0 (A2 (i1+1)) k0 k1) (cond (not ((bAt s0 i1)==95)) (k0 ()) (K2 lf n s0 (A2 (i1+1)) k0 k1)))) (cond ((bAt s0 i1)==45) (K2 lf n s0 (A2 (i1+1)) k0 k1) (cond (not ((bAt s0 i1)==95)) (k0 ()) (K2 lf n s0 (A2 (i1+1)) k0 k1))))) none) (k1 s0)
theorem OR (n s0 i1):E6 0 ((Gv lf).keep 4) (bd (Gv lf) cl yh (cd [1,1,0,1,0,0] Aa6)) n ⟨gp [(0,pS s0),(2,pI i1)] 66,[],s⟩ k =
 K2 lf n s0 i1 (λ_=>k .ret ⟨gp [(2,pB false)] 67,[],s⟩) (λs0=>k (.exit 0) ⟨gp [(0,pS s0)] 69,[],s⟩):=by
 induction n generalizing s0 i1 with
 | zero=>rfl
 | succ n ih=>rw [K2];simp only [<-ih];kernel_rfl
noncomputable def Ae4 {R:Type} (lf:Nat) (s0:By) (k0:Bool->Option R):Option R:=cond (s0==[]) (k0 false) (cond (ltI 63 (s0.length:Int)) (k0 false) (cond (inR 0 s0.length) (cond ((bAt s0 (0:Int))==45) (k0 false) (vl (A2 ((s0.length:Int)-1)) λn'1=>cond (inR n'1 s0.length) (cond ((bAt s0 n'1)==45) (k0 false) (K2 lf lf s0 0 (λ_=>k0 false) (λs'2=>cond (ltI (s'2.length:Int) (4:Int)) (k0 true) (cond (P2 0 (4:Int) s'2.length) (vl (cut s'2 0 (4:Int)) λs'3=>cond (not (s'3==[120,110,45,45])) (k0 true) (cond (P2 4 (s'2.length:Int) s'2.length) (vl (cut s'2 4 (s'2.length:Int)) λs'4=>cond (A1 s'4.length) (k0 (Al s'4)) none) none)) none)))) none)) none))
theorem A59 (d:Nat) (s0):evC (Gv lf) (d+1) σ yh 69 [pS s0] [] s=Ae4 lf s0 (λr0=>some (pB r0,[],s)):=by
 refine (evE (fn:=Tryz.f69) (by kernel_rfl)).trans ?_
 generalize evC (Gv lf) d=cl
 unfold Ae4;exact (Eq.trans (by kernel_rfl) (A0 rfl (A0 rfl (A0 (A0 rfl (A8 λn'1=>(A0 (A0 rfl ((OR lf cl yh s (G8 0 (I4 (Gv lf) cl yh (cd [1,1,1] Aa6) (H4 (Gv lf) Tryz.f69))) lf s0 0).trans (by kernel_rfl))) rfl))) rfl))))
end
theorem PB {R:Type} {k0:Bool->Option R} (n:Int):KN LF n k0=k0 (ptI n):=by
 unfold KN
 by_cases h:n<0
 ·rw [C6 h]
  have:ptI n=false:=by
   cases n with
   | ofNat m=>exact absurd h (by simp)
   | negSucc m=>rfl
  grind
 ·obtain ⟨m,rfl⟩:=Int.eq_ofNat_of_zero_le (show 0<=n by omega)
  rw [A7,Hm]
  unfold R0
  by_cases h1:1114111<m
  ·rw [A9]
   have:Nat.ble m 1114111=false:=by rw [Bool.eq_false_iff,ne_eq,Nat.ble_eq];omega
   grind
  ·rw [A7]
   have:Nat.ble m 1114111=true:=by rw [Nat.ble_eq];omega
   rw [this]
   by_cases h2:m<55296
   ·rw [A9]
    have:Nat.blt m 55296=true:=by rw [Nat.blt_eq];omega
    grind
   ·rw [A7]
    have e:Nat.blt m 55296=false:=by rw [Bool.eq_false_iff,ne_eq,Nat.blt_eq];omega
    rw [e]
    simp only [Bool.not_false,cond_true,cond_false,Bool.false_or,Bool.true_and]
    congr 1
theorem OK {R:Type} {k0:Int->Int->Option R}:∀ (d n k:Nat),d<2305843009213693952->d<n->k+d<=4611686018427387904->
  ∃ d' k',d'<=455/\k'<=k+d/\Rd d k=k'+36*d' / (d'+38)/\Ci LF n (d:Int) (k:Int) k0=k0 (d':Int) (k':Int):=by
 intro d
 induction d using Nat.strongRecOn with
 | _ d ih=>
  intro n k hd hn hk
  obtain ⟨n,rfl⟩:∃ m,n=m+1:=⟨n-1,by omega⟩
  rw [Ci]
  by_cases h:455<d
  ·obtain ⟨d',k',h1,h2,h3,h4⟩:=ih (d / 35) (by omega) n (k+36) (by omega) (by omega) (by omega)
   refine ⟨d',k',h1,by omega,by rw [Xk h];exact h3,?_⟩
   have e:Int.tdiv (d:Int) 35=((d / 35:Nat):Int):=K3 d 35
   have e1:A2 ((d / 35:Nat):Int)=((d / 35:Nat):Int):=A5
   have e2:A2 ((k:Int)+36)=((k+36:Nat):Int):=by rw [A5];rfl
   rw [A9]
   simp only [cond_true,vl,e,e1,e2]
   exact h4
  ·refine ⟨d,k,by omega,by omega,Ls h,?_⟩
   rw [A7]
   rfl
theorem OL {R:Type} {k0:Int->Option R} (d c:Int) (f:Bool) (h0:ltN d 1152921504606846976=true) (h1:ltN c 1000000=true) (h2:ltI 0 c=true):Zp LF d c f k0=k0 (M0 d.toNat c.toNat f:Nat):=by
 obtain ⟨hd0,hd1⟩:=H7.1 h0
 obtain ⟨hc0,hc1⟩:=H7.1 h1
 obtain ⟨d,rfl⟩:=Int.eq_ofNat_of_zero_le hd0
 obtain ⟨c,rfl⟩:=Int.eq_ofNat_of_zero_le hc0
 have hc:=Ad0.1 h2
 have hLF:=E5
 have key:∀ x:Nat,x<1152921504606846976->Ch LF (x:Int) (c:Int) k0=k0 ((Rd (x+x / c) 0:Nat):Int):=by
  intro x hx
  have hxc:x / c<=x:=Nat.div_le_self _ _
  unfold Ch
  have e1:Int.tdiv (x:Int) (c:Int)=((x / c:Nat):Int):=K3 x c
  generalize x / c=q at *
  have e2:A2 (q:Int)=(q:Int):=A5
  have e3:A2 ((x:Int)+(q:Int))=((x+q:Nat):Int):=by rw [A5];rfl
  rw [show ((c:Int) != 0)=true by simp;omega]
  simp only [cond_true,vl,e1,e2,e3]
  obtain ⟨d',k',g1,g2,g3,g4⟩:=OK (R:=R) (k0:=λdelta'7 k'8=>vl (A2 ((36)*delta'7)) λn'9=>vl (A2 (delta'7+(38))) λn'10=>cond (n'10 != (0)) (vl (A2 (Int.tdiv n'9 n'10)) λn'11=>k0 (A2 (k'8+n'11))) none) (x+q) LF 0 (by omega) (by omega) (by omega)
  refine Eq.trans g4 ?_
  have hq:36*d' / (d'+38)<=36*d':=Nat.div_le_self _ _
  have f1:A2 (36*(d':Int))=((36*d':Nat):Int):=by rw [A5];rfl
  have f2:A2 ((d':Int)+38)=((d'+38:Nat):Int):=by rw [A5];rfl
  have f3:Int.tdiv ((36*d':Nat):Int) ((d'+38:Nat):Int)=((36*d' / (d'+38):Nat):Int):=K3 _ _
  have f4:A2 ((36*d' / (d'+38):Nat):Int)=((36*d' / (d'+38):Nat):Int):=A5
  have f5:A2 ((k':Int)+((36*d' / (d'+38):Nat):Int))=((k'+36*d' / (d'+38):Nat):Int):=by rw [A5];rfl
  simp only [vl,f1,f2,f3,f4,f5]
  rw [show (((d'+38:Nat):Int) != 0)=true by simp;omega,g3]
  rfl
 unfold Zp M0
 rw [Int.toNat_natCast,Int.toNat_natCast]
 cases f with
 | true=>
  have e1:Int.tdiv (d:Int) 700=((d / 700:Nat):Int):=K3 d 700
  have e2:A2 ((d / 700:Nat):Int)=((d / 700:Nat):Int):=A5
  simp only [cond_true,vl,e1,e2,if_true]
  exact key _ (by omega)
 | false=>
  have e1:Int.tdiv (d:Int) 2=((d / 2:Nat):Int):=K3 d 2
  have e2:A2 ((d / 2:Nat):Int)=((d / 2:Nat):Int):=A5
  simp only [cond_false,vl,e1,e2,Bool.false_eq_true,if_false]
  exact key _ (by omega)
theorem WX {R:Type} {k0:Int->Option R} (d:Int) (h0:ltN d 36=true):Ae1 LF d k0=k0 ((U0 d.toNat).toNat:Nat):=by
 obtain ⟨hd0,hd1⟩:=H7.1 h0
 obtain ⟨d,rfl⟩:=Int.eq_ofNat_of_zero_le hd0
 unfold Ae1
 rw [Int.toNat_natCast,CW (by omega)]
 by_cases h:d<26
 ·rw [A9,if_pos h]
  simp only [cond_true,vl]
  congr 1
  rw [A5,Z3]
  rfl
 ·rw [A7,if_neg h]
  simp only [cond_false,vl]
  congr 1
  rw [E7 (n:=48+(d:Int)) (by omega) (by omega),A5,Z3]
  omega
theorem Ao3 {R:Type} {k0:Int->Option R} (b:Int) (h0:inR b 256=true):A65 LF b k0=k0 (C3 (u8n b)):=by
 simp only [inR,Bool.and_eq_true,decide_eq_true_eq] at h0
 have hc:b=((u8n b).toNat:Int):=by
  unfold u8n
  simp
  omega
 generalize u8n b=c at *
 subst hc
 have hbt:=c.toNat_lt
 unfold A65 C3
 simp only [Pt,Ps,vl]
 rcases Ut c with ⟨h1,h2,e⟩ | ⟨h1,h2,e⟩ | ⟨h1,h2,e⟩ | ⟨h1,h2,h3,e⟩
 ·have e2:A2 (wu8 ((c.toNat:Int)-97))=((c.toNat-97:Nat):Int):=by
   rw [Z3,A5];omega
  simp (disch:=omega) only [C6,E9,Bool.not_true,Bool.not_false,cond_false,cond_true,e2,e]
 ·have e2:A2 (wu8 ((c.toNat:Int)-65))=((c.toNat-65:Nat):Int):=by
   rw [Z3,A5];omega
  simp (disch:=omega) only [C6,E9,Bool.not_true,Bool.not_false,cond_false,cond_true,e2,e]
 ·have e2:A2 (A2 (wu8 ((c.toNat:Int)-48))+26)=((c.toNat-22:Nat):Int):=by
   rw [Z3,E7 (n:=(c.toNat:Int)-48) (by omega) (by omega),A5];omega
  simp (disch:=omega) only [C6,E9,Bool.not_true,Bool.not_false,cond_false,cond_true,e2,e]
 ·rw [e]
  by_cases c1:c.toNat<48
  ·simp (disch:=omega) only [C6,E9,Bool.not_true,Bool.not_false,cond_false,cond_true]
  ·by_cases c2:c.toNat<65
   ·simp (disch:=omega) only [C6,E9,Bool.not_true,Bool.not_false,cond_false,cond_true]
   ·by_cases c3:c.toNat<97
    ·simp (disch:=omega) only [C6,E9,Bool.not_true,Bool.not_false,cond_false,cond_true]
    ·simp (disch:=omega) only [C6,E9,Bool.not_true,Bool.not_false,cond_false,cond_true]
theorem Ao2 {R:Type} {k0:Int->Option R} (k b:Int) (h0:ltN k 10000000000=true) (h1:ltN b 1000000=true):Bo8 LF k b k0=k0 (I5 (Int.mul 36 k) b):=by
 obtain ⟨k1,k2⟩:=H7.1 h0
 obtain ⟨b1,b2⟩:=H7.1 h1
 unfold Bo8 I5
 have e1:A2 (k+1)=k+1:=A5
 have e2:A2 ((36:Int)*(k+1))=36*(k+1):=A5
 have e3:A2 (36*(k+1)-b)=36*(k+1)-b:=A5
 grind
theorem A51 (z t:Bool) (pts:LL) (done basic nn delta i:Int) (b:Nat) (hb:b<1000000):∀ (r q k n:Nat) (l:LL),q<10 ^ r->q<1152921504606846976->k+r<=1000->r<n->l.length+r<=200000->
  ∃ (q':Nat) (pre:By),q'<36/\L4 q k b=pre++[U0 q']/\∀ (R:Type) (k0:Bool->Bool->LL->Int->Int->Int->Int->Int->Int->LL->Option R),Bn LF n z t pts done basic nn delta (b:Int) i (q:Int) (k:Int) l k0=k0 z t pts done basic nn delta i (q':Int) (l++pre.map F7):=by
 have hthr:∀ k:Nat,I5 (Int.mul 36 (k:Int)) (b:Int)=(thr k b:Int):=λk=>by
  rw [show Int.mul 36 (k:Int)=((36*k:Nat):Int) from rfl,Qe]
 have fin:∀ (q k n:Nat) (l:LL),q<thr k b->k<=1000->∃ (q':Nat) (pre:By),q'<36/\L4 q k b=pre++[U0 q']/\∀ (R:Type) (k0:Bool->Bool->LL->Int->Int->Int->Int->Int->Int->LL->Option R),Bn LF (n+1) z t pts done basic nn delta (b:Int) i (q:Int) (k:Int) l k0=k0 z t pts done basic nn delta i (q':Int) (l++pre.map F7):=by
  intro q k n l hq hk
  have ht:=Q1 k b
  refine ⟨q,[],by omega,by rw [Ki hq];rfl,λR k0=>?_⟩
  rw [Bn]
  have hq':ltI (q:Int) (thr k b:Int)=true:=A9
  rw [L6,L6,hthr]
  grind
 intro r
 induction r with
 | zero=>
  intro q k n l h _ hk hn hl
  have ht:=Q1 k b
  obtain ⟨n,rfl⟩:∃ m,n=m+1:=⟨n-1,by omega⟩
  exact fin q k n l (by simp at h;omega) (by omega)
 | succ r ih=>
  intro q k n l h hq60 hk hn hl
  have ht:=Q1 k b
  obtain ⟨n,rfl⟩:∃ m,n=m+1:=⟨n-1,by omega⟩
  by_cases hq:q<thr k b
  ·exact fin q k n l hq (by omega)
  ·have hd:(q-thr k b) / (36-thr k b)<10 ^ r:=JB (by omega) (by rw [Nat.pow_succ] at h;omega)
   have hd2:(q-thr k b) / (36-thr k b)<=q:=Nat.le_trans (Nat.div_le_self _ _) (by omega)
   have hm2:(q-thr k b) % (36-thr k b)<36-thr k b:=Nat.mod_lt _ (by omega)
   obtain ⟨q',pre,e0,e1,e⟩:=ih ((q-thr k b) / (36-thr k b)) (k+1) n (l++[F7 (U0 (thr k b+(q-thr k b) % (36-thr k b)))]) hd (by omega) (by omega) (by omega) (by rw [List.length_append,List.length_singleton];omega)
   refine ⟨q',U0 (thr k b+(q-thr k b) % (36-thr k b))::pre,e0,by rw [Sa hq,e1];rfl,λR k0=>?_⟩
   rw [Bn]
   have c1:A2 ((q:Int)-(thr k b:Int))=((q-thr k b:Nat):Int):=by rw [A5];omega
   have c2:A2 ((36:Int)-(thr k b:Int))=((36-thr k b:Nat):Int):=by rw [A5];omega
   have c3:Int.tmod ((q-thr k b:Nat):Int) ((36-thr k b:Nat):Int)=(((q-thr k b) % (36-thr k b):Nat):Int):=Gm _ _
   have c4:Int.tdiv ((q-thr k b:Nat):Int) ((36-thr k b:Nat):Int)=(((q-thr k b) / (36-thr k b):Nat):Int):=K3 _ _
   have c7:((((36-thr k b:Nat):Int)) != 0)=true:=by rw [bne_iff_ne];omega
   have c8:A2 ((k:Int)+1)=((k+1:Nat):Int):=by rw [A5];rfl
   have hq':ltI (q:Int) (thr k b:Int)=false:=A7
   rw [L6,L6,hthr]
   simp only [vl,hq',c1,c2,c3,c4,c7,c8,cond_true,cond_false,Bool.not_false]
   generalize hA:(q-thr k b) / (36-thr k b)=A at *
   generalize hB:(q-thr k b) % (36-thr k b)=B at *
   have c5:A2 ((thr k b:Int)+(B:Int))=((thr k b+B:Nat):Int):=by rw [A5];rfl
   have c6:A2 (A:Int)=(A:Int):=A5
   rw [c5,c6,L6,G2 (by omega),Int.toNat_natCast]
   refine Eq.trans (e R k0) ?_
   simp [List.append_assoc,F7]
theorem Bn5 (z t:Bool) (pts:List Nat) (basic m:Nat) (hm:m<=1114112) (hl:pts.length<=256):∀ (r i n:Nat) (s:LH),i+r=pts.length->r<n->s.delta+r<=1000000000000->s.bias<=500->s.out.length+20*r<=90000->s.done+r<=1000->basic<=256->
  (∀ (R:Type) (k0:Bool->Bool->LL->Int->Int->Int->Int->Int->LL->Option R),U7 LF n z t (B3 pts) (s.done:Int) (basic:Int) (m:Int) (s.delta:Int) (s.bias:Int) (i:Int) (s.out.map F7) k0 =
   k0 z t (B3 pts) ((F8 m basic (pts.drop i) s).done:Int) (basic:Int) (m:Int) ((F8 m basic (pts.drop i) s).delta:Int) ((F8 m basic (pts.drop i) s).bias:Int) ((F8 m basic (pts.drop i) s).out.map F7))/\
  (F8 m basic (pts.drop i) s).bias<=500/\(F8 m basic (pts.drop i) s).out.length<=s.out.length+20*(pts.drop i).countP (· == m)/\(F8 m basic (pts.drop i) s).done=s.done+(pts.drop i).countP (· == m)/\
  (F8 m basic (pts.drop i) s).delta<=(if 0<(pts.drop i).countP (· == m) then r else s.delta+r):=by
 have hLF:=E5
 intro r
 induction r with
 | zero=>
  intro i n s hi hn h1 h2 h3 h4 hb
  obtain ⟨n,rfl⟩:∃ m,n=m+1:=⟨n-1,by omega⟩
  rw [List.drop_of_length_le (by omega)]
  refine ⟨λR k0=>?_,h2,by simp [F8],by simp [F8],by simp [F8]⟩
  rw [U7]
  rw [B9,A7]
  rfl
 | succ r ih=>
  intro i n s hi hn h1 h2 h3 h4 hb
  obtain ⟨n,rfl⟩:∃ m,n=m+1:=⟨n-1,by omega⟩
  rw [Od pts i (by omega)]
  have hg:=Sf pts i (by omega)
  have ok:=Ko (l:=pts) (i:=i) (by omega)
  have hin:inR (i:Int) (B3 pts).length=true:=K5 (by omega) (by rw [B9];omega)
  have hlt:ltI (i:Int) ((B3 pts).length:Int)=true:=C6 (by rw [B9];omega)
  generalize pts.getD i 0=p at *
  have e1:A2 ((i:Int)+1)=((i+1:Nat):Int):=by rw [A5];rfl
  have e2:A2 ((s.delta:Int)+1)=((s.delta+1:Nat):Int):=by rw [A5];rfl
  have e3:A2 ((s.done:Int)+1)=((s.done+1:Nat):Int):=by rw [A5];rfl
  by_cases hp:p<m
  ·have hne:(p==m)=false:=by rw [beq_eq_false_iff_ne];omega
   have hs:F8 m basic (p::pts.drop (i+1)) s=F8 m basic (pts.drop (i+1)) { s with delta:=s.delta+1 }:=by rw [F8,if_pos hp]
   obtain ⟨q1,q2,q3,q4,q5⟩:=ih (i+1) n { s with delta:=s.delta+1 } (by omega) (by omega) (by simp only;omega) h2 (by simp only;omega) (by simp only;omega) hb
   rw [hs,List.countP_cons_of_neg (by rw [hne];simp)]
   refine ⟨λR k0=>?_,q2,q3,q4,?_⟩
   ·rw [U7]
    rw [Int.toNat_natCast]
    simp only [hin,hlt,ok,cond_true,vl,hg,e1,e2]
    rw [A9,cond_true,show ((p:Int) != (m:Int))=true by rw [bne_iff_ne];omega,cond_true]
    exact q1 R k0
   ·simp only at q5
    split at q5<;>split<;>omega
  ·by_cases hq:p=m
   ·subst hq
    have hn20:=CY (q:=s.delta) (k:=0) (b:=s.bias) (by omega)
    have had:=Im s.delta (s.done+1) (s.done==basic) (by omega)
    have hs:F8 p basic (p::pts.drop (i+1)) s=F8 p basic (pts.drop (i+1)) { delta:=0,bias:=M0 s.delta (s.done+1) (s.done==basic),done:=s.done+1,out:=s.out++L4 s.delta 0 s.bias }:=by rw [F8,if_neg hp,if_pos rfl]
    obtain ⟨q1,q2,q3,q4,q5⟩:=ih (i+1) n { delta:=0,bias:=M0 s.delta (s.done+1) (s.done==basic),done:=s.done+1,out:=s.out++L4 s.delta 0 s.bias } (by omega) (by omega) (by simp only;omega) had (by simp only [List.length_append];omega) (by simp only;omega) hb
    obtain ⟨q',pre,f1,f2,f3⟩:=A51 z t (B3 pts) (s.done:Int) (basic:Int) (p:Int) (s.delta:Int) (i:Int) s.bias (by omega) 19 s.delta 0 LF (s.out.map F7) (by omega) (by omega) (by omega) (by omega) (by rw [List.length_map];omega)
    rw [hs,List.countP_cons_of_pos (by simp)]
    refine ⟨λR k0=>?_,q2,?_,?_,?_⟩
    ·rw [U7]
     have hbeq:((s.done:Int)==(basic:Int))=(s.done==basic):=by
      rw [Bool.eq_iff_iff,beq_iff_eq,beq_iff_eq];omega
     rw [Int.toNat_natCast]
     simp only [hin,hlt,ok,cond_true,vl,hg,e1,e3]
     rw [A7,cond_false,bne_self_eq_false,cond_false]
     refine Eq.trans (f3 R _) ?_
     have hpl:pre.length+1=(L4 s.delta 0 s.bias).length:=by rw [f2];simp
     rw [L6,Int.toNat_natCast,G2 (by rw [List.length_append,List.length_map,List.length_map];omega)]
     simp only [vl,cond_true,e1,e3]
     rw [L6,L6,A9,hbeq]
     simp only [cond_true,Int.toNat_natCast]
     have hrow:s.out.map F7++pre.map F7++[[SV.int .u8 (((U0 q').toNat:Nat):Int)]]=(s.out++L4 s.delta 0 s.bias).map F7:=by
      rw [f2,List.map_append,List.map_append,List.append_assoc];rfl
     rw [hrow]
     exact q1 R k0
    ·simp only [List.length_append] at q3;omega
    ·simp only at q4;omega
    ·simp only at q5
     rw [Ge]
     split at q5<;>omega
   ·have hne:(p==m)=false:=by rw [beq_eq_false_iff_ne];omega
    have hs:F8 m basic (p::pts.drop (i+1)) s=F8 m basic (pts.drop (i+1)) s:=by rw [F8,if_neg hp,if_neg hq]
    obtain ⟨q1,q2,q3,q4,q5⟩:=ih (i+1) n s (by omega) (by omega) (by omega) h2 (by omega) (by omega) hb
    rw [hs,List.countP_cons_of_neg (by rw [hne];simp)]
    refine ⟨λR k0=>?_,q2,q3,q4,?_⟩
    ·rw [U7]
     rw [Int.toNat_natCast]
     simp only [hin,hlt,ok,cond_true,vl,hg,e1]
     rw [A7,cond_false,show ((p:Int) != (m:Int))=true by rw [bne_iff_ne];omega,cond_true]
     exact q1 R k0
    ·split at q5<;>split<;>omega
theorem XM {R:Type} {k0:Bool->Bool->LL->Int->Int->Int->Int->Int->Int->LL->Option R} (z t:Bool) (pts:List Nat) (hl:pts.length<=256) (n0:Nat) (basic delta bias done:Int) (l:LL):∀ (r i n m:Nat),i+r=pts.length->r<n->
  En LF n z t (B3 pts) done basic (n0:Int) delta bias (m:Int) (i:Int) l k0=k0 z t (B3 pts) done basic (n0:Int) delta bias ((G9 n0 (pts.drop i) m:Nat):Int) l:=by
 intro r
 induction r with
 | zero=>
  intro i n m hi hn
  obtain ⟨n,rfl⟩:∃ m,n=m+1:=⟨n-1,by omega⟩
  rw [En]
  rw [B9,A7,List.drop_of_length_le (by omega)]
  rfl
 | succ r ih=>
  intro i n m hi hn
  obtain ⟨n,rfl⟩:∃ m,n=m+1:=⟨n-1,by omega⟩
  have hg:=Sf pts i (by omega)
  have ok:=Ko (l:=pts) (i:=i) (by omega)
  have hin:inR (i:Int) (B3 pts).length=true:=K5 (by omega) (by rw [B9];omega)
  have hlt:ltI (i:Int) ((B3 pts).length:Int)=true:=C6 (by rw [B9];omega)
  rw [En,Od pts i (by omega)]
  generalize pts.getD i 0=p at *
  have e1:A2 ((i:Int)+1)=((i+1:Nat):Int):=by rw [A5];rfl
  rw [Int.toNat_natCast]
  simp only [hin,hlt,ok,cond_true,vl,hg,e1,G9]
  by_cases h:n0<=p
  ·rw [if_pos h,A7,Bool.not_false,cond_true]
   have:(if (p:Int)<(m:Int) then (p:Int) else (m:Int))=((min m p:Nat):Int):=by split<;>omega
   rw [this]
   exact ih (i+1) n (min m p) (by omega) (by omega)
  ·rw [if_neg h,A9,Bool.not_true,cond_false]
   exact ih (i+1) n m (by omega) (by omega)
theorem A52 (z t:Bool) (pts:List Nat) (basic:Nat) (hl:pts.length<=256) (hb:basic<=256) (hall:∀ p∈pts,p<=1114111):∀ (f n n':Nat) (s:LH),s.done=pts.countP (λp=>decide (p<n))->pts.length<=s.done+f->f<n'->s.delta<=300->s.bias<=500->s.out.length+20*(pts.length-s.done)<=80000->n<=1114112->
  ∀ (R:Type) (k0:LL->Option R),Bo LF n' z t (B3 pts) (s.done:Int) (basic:Int) (n:Int) (s.delta:Int) (s.bias:Int) (s.out.map F7) k0=k0 ((T6 pts basic f n s).out.map F7):=by
 intro f
 have hLF:=E5
 induction f with
 | zero=>
  intro n n' s hd hf hn h1 h2 h3 h4 R k0
  obtain ⟨n',rfl⟩:∃ m,n'=m+1:=⟨n'-1,by omega⟩
  rw [Bo]
  rw [B9,A7]
  rfl
 | succ f ih=>
  intro n n' s hd hf hn h1 h2 h3 h4 R k0
  obtain ⟨n',rfl⟩:∃ m,n'=m+1:=⟨n'-1,by omega⟩
  rw [Bo]
  rw [B9]
  have hcl:pts.countP (λp=>decide (p<n))<=pts.length:=List.countP_le_length
  by_cases hlt:s.done<pts.length
  ·obtain ⟨p0,hp0,hp1⟩:=Ay3 (n:=n) (l:=pts) (by omega)
   obtain ⟨g1,g2,g3⟩:=Ei n pts 1114112
   obtain ⟨b1,b2,b3⟩:=Ei n pts 1073741824
   have g4:=g3 p0 hp0 hp1
   have b4:=b3 p0 hp0 hp1
   have g5:=hall p0 hp0
   have hmem:G9 n pts 1114112∈pts/\n<=G9 n pts 1114112:=by grind
   have bmem:G9 n pts 1073741824∈pts/\n<=G9 n pts 1073741824:=by grind
   have heq:G9 n pts 1073741824=G9 n pts 1114112:=by grind
   have he:T6 pts basic (f+1) n s=T6 pts basic f (G9 n pts 1114112+1) { F8 (G9 n pts 1114112) basic pts { s with delta:=s.delta+(G9 n pts 1114112-n)*(s.done+1) } with delta:=(F8 (G9 n pts 1114112) basic pts { s with delta:=s.delta+(G9 n pts 1114112-n)*(s.done+1) }).delta+1 }:=by
    rw [T6,if_pos hlt]
   rw [he,A9,cond_true]
   have hleast:=λ(K:Bool->Bool->LL->Int->Int->Int->Int->Int->Int->LL->Option R)=>XM (k0:=K) z t pts hl n (basic:Int) (s.delta:Int) (s.bias:Int) (s.done:Int) (s.out.map F7) pts.length 0 LF 1073741824 (by omega) (by omega)
   rw [List.drop_zero,heq] at hleast
   refine Eq.trans (hleast _) ?_
   clear hleast heq b1 b2 b3 b4 bmem
   generalize G9 n pts 1114112=m at *
   have hmul:(m-n)*(s.done+1)<=1114112*256:=Nat.mul_le_mul (by omega) (by omega)
   have e1:A2 ((s.done:Int)+1)=((s.done+1:Nat):Int):=by rw [A5];rfl
   have e2:A2 ((m:Int)-(n:Int))=((m-n:Nat):Int):=by rw [A5];omega
   have e3:A2 (((m-n:Nat):Int)*((s.done+1:Nat):Int))=(((m-n)*(s.done+1):Nat):Int):=by
    rw [<-Int.natCast_mul]
    exact A5
   have e4:A2 ((s.delta:Int)+(((m-n)*(s.done+1):Nat):Int))=((s.delta+(m-n)*(s.done+1):Nat):Int):=by
    rw [A5];rfl
   simp only [vl,e1,e2,e3,e4]
   have hin:=Bn5 z t pts basic m (by omega) hl pts.length 0 LF { s with delta:=s.delta+(m-n)*(s.done+1) } (by omega) (by omega) (by simp only;omega) h2 (by simp only;omega) (by simp only;omega) hb
   rw [List.drop_zero] at hin
   obtain ⟨q1,q2,q3,q4,q5⟩:=hin
   refine Eq.trans (q1 R _) ?_
   have hcnt:0<pts.countP (· == m):=List.countP_pos_iff.2 ⟨m,hmem.1,by simp⟩
   rw [if_pos hcnt] at q5
   have hstep:=Yd hmem.2 pts g3
   generalize F8 m basic pts { s with delta:=s.delta+(m-n)*(s.done+1) } = s' at *
   simp only at q3 q4
   have e5:A2 ((s'.delta:Int)+1)=((s'.delta+1:Nat):Int):=by rw [A5];rfl
   have e6:A2 ((m:Int)+1)=((m+1:Nat):Int):=by rw [A5];rfl
   have hcl2:pts.countP (λp=>decide (p<m+1))<=pts.length:=List.countP_le_length
   simp only [e5,e6]
   exact ih (m+1) n' { s' with delta:=s'.delta+1 } (by simp only;omega) (by simp only;omega) (by omega) (by simp only;omega) q2 (by simp only;omega) (by omega) R k0
  ·rw [A7]
   rw [T6,if_neg hlt]
   rfl
theorem XH (z t:Bool) (P:List Int) (hl:P.length<=256):∀ (r i n:Nat) (out:By),i+r=P.length->r<n->out.length+r<=1000->
  ((P.drop i).all ptI=true->∀ (R:Type) (k0:LL->Option R) (k1:Bool->Bool->LL->LL->Option R),O9 LF n z t (U8 P) (i:Int) (out.map F7) k0 k1=k1 z t (U8 P) ((out++Q2 (P.drop i)).map F7))/\
  ((P.drop i).all ptI=false->∃ l,∀ (R:Type) (k0:LL->Option R) (k1:Bool->Bool->LL->LL->Option R),O9 LF n z t (U8 P) (i:Int) (out.map F7) k0 k1=k0 l):=by
 intro r
 induction r with
 | zero=>
  intro i n out hi hn ho
  obtain ⟨n,rfl⟩:∃ m,n=m+1:=⟨n-1,by omega⟩
  rw [List.drop_of_length_le (by omega)]
  refine ⟨λ_ R k0 k1=>?_,λh=>(by cases h)⟩
  rw [O9]
  rw [P5,A7]
  simp [Q2]
 | succ r ih=>
  intro i n out hi hn ho
  obtain ⟨n,rfl⟩:∃ m,n=m+1:=⟨n-1,by omega⟩
  have hg:=UK P i (by omega)
  have ok:=JV (l:=P) (i:=i) (by omega)
  have hin:inR (i:Int) (U8 P).length=true:=K5 (by omega) (by rw [P5];omega)
  have hlt:ltI (i:Int) ((U8 P).length:Int)=true:=C6 (by rw [P5];omega)
  rw [MQ P i (by omega)]
  generalize P.getD i 0=x at *
  have e1:A2 ((i:Int)+1)=((i+1:Nat):Int):=by rw [A5];rfl
  cases hx:ptI x with
  | false=>
   refine ⟨λh=>?_,λ_=>⟨out.map F7,λR k0 k1=>?_⟩⟩
   ·rw [List.all_cons,hx] at h;cases h
   ·rw [O9]
    rw [Int.toNat_natCast]
    simp only [hin,hlt,ok,cond_true,vl,hg,hx,Bool.not_false]
  | true=>
   obtain ⟨p0,p1⟩:=Mu hx
   rw [List.all_cons,hx,Bool.true_and]
   by_cases h128:x<128
   ·have hbs:Q2 (x::P.drop (i+1))=UInt8.ofNat x.toNat::Q2 (P.drop (i+1)):=by
     unfold Q2;rw [List.filter_cons_of_pos (by simpa using h128)];rfl
    have hrow:out.map F7++[[SV.int .u8 (wu8 x)]]=(out++[UInt8.ofNat x.toNat]).map F7:=by rw [A86 x p0 h128];simp
    obtain ⟨q1,q2⟩:=ih (i+1) n (out++[UInt8.ofNat x.toNat]) (by omega) (by omega) (by simp;omega)
    have step:∀ (R:Type) (k0:LL->Option R) (k1:Bool->Bool->LL->LL->Option R),O9 LF (n+1) z t (U8 P) (i:Int) (out.map F7) k0 k1=O9 LF n z t (U8 P) ((i+1:Nat):Int) ((out++[UInt8.ofNat x.toNat]).map F7) k0 k1:=by
     intro R k0 k1
     rw [O9]
     rw [Int.toNat_natCast]
     simp only [hin,hlt,ok,cond_true,vl,hg,hx,Bool.not_true,cond_false,e1]
     rw [C6 h128,List.length_map,G2 (by omega),hrow]
     rfl
    refine ⟨λh R k0 k1=>?_,λh=>?_⟩
    ·rw [step,q1 h,hbs];simp
    ·obtain ⟨l,e⟩:=q2 h
     exact ⟨l,λR k0 k1=>by rw [step];exact e R k0 k1⟩
   ·have hbs:Q2 (x::P.drop (i+1))=Q2 (P.drop (i+1)):=by
     unfold Q2;rw [List.filter_cons_of_neg (by simpa using h128)]
    obtain ⟨q1,q2⟩:=ih (i+1) n out (by omega) (by omega) (by omega)
    have step:∀ (R:Type) (k0:LL->Option R) (k1:Bool->Bool->LL->LL->Option R),O9 LF (n+1) z t (U8 P) (i:Int) (out.map F7) k0 k1=O9 LF n z t (U8 P) ((i+1:Nat):Int) (out.map F7) k0 k1:=by
     intro R k0 k1
     rw [O9]
     rw [Int.toNat_natCast]
     simp only [hin,hlt,ok,cond_true,vl,hg,hx,Bool.not_true,cond_false,e1]
     rw [A7]
     rfl
    refine ⟨λh R k0 k1=>?_,λh=>?_⟩
    ·rw [step,q1 h,hbs]
    ·obtain ⟨l,e⟩:=q2 h
     exact ⟨l,λR k0 k1=>by rw [step];exact e R k0 k1⟩
theorem XI (z t:Bool) (P:List Int):(Y9 P=([],3)/\∀ (R:Type) (k0:Unit->Option R) (k1:By->Int->LL->Option R),OP LF z t (U8 P) k0 k1=k0 ())\/
  (∃ l,∀ (R:Type) (k0:Unit->Option R) (k1:By->Int->LL->Option R),OP LF z t (U8 P) k0 k1=k1 (Y9 P).1 ((Y9 P).2:Nat) l):=by
 have hLF:=E5
 by_cases hl:256<P.length
 ·refine .inl ⟨by unfold Y9;rw [if_pos hl],λR k0 k1=>?_⟩
  unfold OP
  rw [P5,A9]
  rfl
 ·right
  obtain ⟨q1,q2⟩:=XH z t P (by omega) P.length 0 LF [] (by omega) (by omega) (by simp;omega)
  rw [List.drop_zero] at q1 q2
  cases ha:P.all ptI with
  | false=>
   obtain ⟨l,e⟩:=q2 ha
   refine ⟨l,λR k0 k1=>?_⟩
   unfold OP
   rw [P5,A7,cond_false]
   refine Eq.trans (e R _ _) ?_
   unfold Y9
   rw [if_neg hl,ha]
   rfl
  | true=>
   obtain ⟨pts,rfl,hp1,hp2⟩:=Ae0 ha
   rw [List.length_map] at hl
   have hen:Y9 (pts.map λn:Nat=>(n:Int))=Gx pts:=by
    unfold Y9
    rw [List.length_map,if_neg hl,ha]
    simp [Function.comp_def]
   have hbl:=Xp pts
   have hbc:pts.countP (λp=>decide (p<128))<=pts.length:=List.countP_le_length
   have main:∀ (o:By),o.length<=300->∀ (R:Type) (k0:LL->Option R),Bo LF LF z t (B3 pts) ((F6 pts).length:Int) ((F6 pts).length:Int) 128 0 72 (o.map F7) k0=k0 ((T6 pts (F6 pts).length 256 128 { delta:=0,bias:=72,done:=(F6 pts).length,out:=o }).out.map F7):=by
    intro o ho R k0
    exact A52 z t pts (F6 pts).length (by omega) (by omega) hp2 256 128 LF { delta:=0,bias:=72,done:=(F6 pts).length,out:=o } hbl (by simp only;omega) (by omega) (by simp) (by simp) (by simp only;omega) (by omega) R k0
   have he2:Gx pts=((T6 pts (F6 pts).length 256 128 { delta:=0,bias:=72,done:=(F6 pts).length,out:=if (F6 pts).isEmpty then [] else F6 pts++[45] }).out,0):=by
    unfold Gx
    grind
   refine ⟨(Gx pts).1.map F7,λR k0 k1=>?_⟩
   unfold OP
   rw [P5,List.length_map,A7,cond_false,hen]
   have q1':=q1 ha R
   refine Eq.trans (q1' _ _) ?_
   rw [List.nil_append,Xq,Kn]
   simp only [vl,List.length_map]
   by_cases hbe:F6 pts=[]
   ·rw [hbe,List.length_nil,A7,cond_false]
    have mm:=main [] (by simp) R
    rw [hbe,List.length_nil] at mm
    rw [List.map_nil] at mm
    refine Eq.trans (mm _) ?_
    rw [hbe] at he2
    rw [he2]
    simp only [List.isEmpty_nil,if_true,List.length_nil]
    rw [Nf,Ot]
    rfl
   ·have hpos:0<(F6 pts).length:=List.length_pos_iff.2 hbe
    rw [A9,cond_true,G2 (by omega),cond_true]
    have hrow:(F6 pts).map F7++[[SV.int .u8 (45:Int)]]=(F6 pts++[45]).map F7:=by rw [List.map_append];rfl
    rw [hrow]
    refine Eq.trans (main (F6 pts++[45]) (by simp;omega) R _) ?_
    rw [he2,if_neg (by simpa using hbe)]
    rw [Nf,Ot]
    rfl
theorem Bn6 (z t:Bool) (p:LL) (h0:p.all Ok=true):∃ r H,OP LF z t p (λ_=>rv (.tup [.s (.str []),.s (.int .i64 3)]) []) (λr0 r1 l=>rv (.tup [.s (.str r0),.s (.int .i64 r1)]) [.arr true 5 1 l])=rv r H/\
  r.stab [0,0] H = .tup [.s (.str (Y9 (p.map elI)).1),.s (.int .i64 ((Y9 (p.map elI)).2:Nat))]:=by
 obtain ⟨P,rfl⟩:=Ab8 h0
 rw [MR]
 rcases XI z t P with ⟨h1,h2⟩ | ⟨l,h2⟩
 ·exact ⟨_,_,h2 _ _ _,by rw [h1];rfl⟩
 ·exact ⟨_,_,h2 _ _ _,rfl⟩
theorem YH {R:Type} {k0:Unit->Option R} {k1:By->Int->Option R} (s:By) (hs:s.length<=1000000):∀ (r i n cut:Nat),i+r=s.length->r<n->
  Ax LF n s (cut:Int) (i:Int) k0 k1=if (s.drop i).any (λb=>Nat.ble 128 b.toNat) then k0 () else k1 s ((if 45∈s.drop i then i+E3 (s.drop i) else cut:Nat):Int):=by
 intro r
 induction r with
 | zero=>
  intro i n cut hi hn
  obtain ⟨n,rfl⟩:∃ m,n=m+1:=⟨n-1,by omega⟩
  rw [Ax]
  rw [A7,List.drop_of_length_le (by omega)]
  rfl
 | succ r ih=>
  intro i n cut hi hn
  obtain ⟨n,rfl⟩:∃ m,n=m+1:=⟨n-1,by omega⟩
  rw [Ax]
  have e1:A2 ((i:Int)+1)=((i+1:Nat):Int):=by rw [A5];rfl
  rw [A9,L5,M6,L9 s i (by omega),e1,List.any_cons]
  simp only [cond_true]
  generalize s.getD i 0=b
  by_cases h:128<=b.toNat
  ·rw [A7,Nat.ble_eq_true_of_le h]
   rfl
  ·have:Nat.ble 128 b.toNat=false:=by rw [Bool.eq_false_iff,ne_eq,Nat.ble_eq];exact h
   rw [A9,this,Bool.false_or,Bool.not_true,cond_false]
   have hb:((b.toNat:Int)==45)=(b==45):=V3 b 45 (by omega)
   rw [hb]
   by_cases h45:b=45
   ·subst h45
    rw [show ((45:UInt8)==45)=true from rfl,cond_true]
    refine (ih (i+1) n i (by omega) (by omega)).trans ?_
    have hm:(45:UInt8)∈45::s.drop (i+1):=by simp
    rw [if_pos hm]
    have:(if (45:UInt8)∈s.drop (i+1) then i+1+E3 (s.drop (i+1)) else i)=i+E3 (45::s.drop (i+1)):=by
     rw [E3]
     grind
    rw [this]
   ·rw [show (b==45)=false from beq_eq_false_iff_ne.2 h45,cond_false]
    refine (ih (i+1) n cut (by omega) (by omega)).trans ?_
    have hm:((45:UInt8)∈b::s.drop (i+1))↔((45:UInt8)∈s.drop (i+1)):=by simp [Ne.symm h45]
    have:(if (45:UInt8)∈s.drop (i+1) then i+1+E3 (s.drop (i+1)) else cut)=(if (45:UInt8)∈b::s.drop (i+1) then i+E3 (b::s.drop (i+1)) else cut):=by
     by_cases q:(45:UInt8)∈s.drop (i+1)
     ·rw [if_pos q,if_pos (hm.2 q),E3,if_pos q];omega
     grind
    rw [this]
theorem YC {R:Type} {k0:By->Int->LL->Option R} (s:By) (hs:s.length<=1000000) (k:Nat) (hk:k<=s.length):∀ (r i n:Nat) (l:List Nat),i+r=k->r<n->l.length=i->
  Dl LF n s (k:Int) (i:Int) (B3 l) k0=k0 s (k:Int) (B3 (l++((s.take k).drop i).map (·.toNat))):=by
 intro r
 induction r with
 | zero=>
  intro i n l hi hn hl
  obtain ⟨n,rfl⟩:∃ m,n=m+1:=⟨n-1,by omega⟩
  rw [Dl]
  rw [A7,List.drop_of_length_le (by rw [List.length_take];omega)]
  simp
 | succ r ih=>
  intro i n l hi hn hl
  obtain ⟨n,rfl⟩:∃ m,n=m+1:=⟨n-1,by omega⟩
  rw [Dl]
  have e1:A2 ((i:Int)+1)=((i+1:Nat):Int):=by rw [A5];rfl
  have hd:(s.take k).drop i=s.getD i 0::(s.take k).drop (i+1):=by
   rw [L9 (s.take k) i (by rw [List.length_take];omega)]
   congr 1
   rw [List.getD_eq_getElem?_getD,List.getD_eq_getElem?_getD,List.getElem?_take_of_lt (by omega)]
  rw [A9,L5,M6,hd,B9,G2 (by omega),e1]
  simp only [cond_true]
  generalize s.getD i 0=b
  have hb:=b.toNat_lt
  have e2:A2 (b.toNat:Int)=(b.toNat:Int):=A5
  have hrow:B3 l++[[SV.int .i64 (A2 (b.toNat:Int))]]=B3 (l++[b.toNat]):=by rw [e2,Ji];rfl
  rw [hrow]
  refine (ih (i+1) n _ (by omega) (by omega) (by simp;omega)).trans ?_
  simp
theorem YF (s:By) (hs:s.length<=1000000) (out:LL) (n3 b old:Int) (l:LL) (hb0:0<=b) (hb1:b<1000000):∀ (r p n k:Nat) (i w:Int),p+r=s.length->r<n->0<=i->i<=1099511627776->0<=w->w<=1099511627776->k+r<=10000000->
  ((O5 b (s.drop p) i w ((36*k:Nat):Int)).1=0->∃ p',p<p'/\p'<=s.length/\(O5 b (s.drop p) i w ((36*k:Nat):Int)).2.1=s.drop p'/\∀ (R:Type) (k0:Int->LL->Option R) (k1:By->LL->Int->Int->Int->Int->LL->Option R),P7 LF n s out (p:Int) n3 i b old w (k:Int) l k0 k1=k1 s out (p':Int) n3 (O5 b (s.drop p) i w ((36*k:Nat):Int)).2.2 old l)/\
  ((O5 b (s.drop p) i w ((36*k:Nat):Int)).1≠0->∀ (R:Type) (k0:Int->LL->Option R) (k1:By->LL->Int->Int->Int->Int->LL->Option R),P7 LF n s out (p:Int) n3 i b old w (k:Int) l k0 k1=k0 (O5 b (s.drop p) i w ((36*k:Nat):Int)).1 l):=by
 intro r
 induction r with
 | zero=>
  intro p n k i w hp hn hi hi1 hw hw1 hk
  obtain ⟨n,rfl⟩:∃ m,n=m+1:=⟨n-1,by omega⟩
  rw [List.drop_of_length_le (by omega)]
  refine ⟨λh=>by simp [O5] at h,λ_ R k0 k1=>?_⟩
  rw [P7]
  rw [A7]
  rfl
 | succ r ih=>
  intro p n k i w hp hn hi hi1 hw hw1 hk
  obtain ⟨n,rfl⟩:∃ m,n=m+1:=⟨n-1,by omega⟩
  have hc:=L9 s p (by omega)
  have hbt:=M6 s p
  rw [hc]
  generalize s.getD p 0=c at *
  have hv:=Bz c
  have ht:=Hr ((36*k:Nat):Int) b
  have e0:Int.mul 36 (k:Int)=((36*k:Nat):Int):=rfl
  have e6:A2 ((p:Int)+1)=((p+1:Nat):Int):=by rw [A5];rfl
  have e7:A2 ((k:Int)+1)=((k+1:Nat):Int):=by rw [A5];rfl
  have start:∀ (R:Type) (k0:Int->LL->Option R) (k1:By->LL->Int->Int->Int->Int->LL->Option R),P7 LF (n+1) s out (p:Int) n3 i b old w (k:Int) l k0 k1 =
    cond (ltI (C3 c) 0) (k0 4 l)
     (vl (A2 (i+(A2 (C3 c*w)))) λn10=>cond (ltI 1099511627776 n10) (k0 19 l)
      (cond (ltI (C3 c) (I5 ((36*k:Nat):Int) b)) (k1 s out ((p+1:Nat):Int) n3 n10 old l)
       (vl (A2 (36-(I5 ((36*k:Nat):Int) b))) λn13=>cond (ltI 1099511627776 (A2 (w*n13))) (k0 19 l) (P7 LF n s out ((p+1:Nat):Int) n3 n10 b old (A2 (w*n13)) ((k+1:Nat):Int) l k0 k1)))):=by
   intro R k0 k1
   rw [P7]
   have hcl:=c.toNat_lt
   rw [A9,L5,hbt,L5,We,L6,L6,e0,e6,e7]
   rfl
  unfold O5
  by_cases h1:C3 c<0
  ·rw [if_pos h1]
   refine ⟨λh=>by simp at h,λ_ R k0 k1=>?_⟩
   rw [start,C6 h1]
   rfl
  ·rw [if_neg h1]
   have hm:=Af (by omega) hv.2 hw hw1
   have e1:A2 (C3 c*w)=C3 c*w:=A5
   have e2:A2 (i+C3 c*w)=i+C3 c*w:=A5
   by_cases h2:1099511627776<i+C3 c*w
   ·rw [if_pos h2]
    refine ⟨λh=>by simp at h,λ_ R k0 k1=>?_⟩
    rw [start,A7,e1,e2]
    simp only [vl,cond_false]
    rw [C6 h2]
    rfl
   ·rw [if_neg h2]
    by_cases h3:C3 c<I5 ((36*k:Nat):Int) b
    ·rw [if_pos h3]
     refine ⟨λ_=>⟨p+1,by omega,by omega,rfl,λR k0 k1=>?_⟩,λh=>absurd rfl h⟩
     rw [start,A7,e1,e2]
     simp only [vl,cond_false]
     rw [A7,C6 h3]
     rfl
    ·rw [if_neg h3]
     have e3:A2 (36-I5 ((36*k:Nat):Int) b)=36-I5 ((36*k:Nat):Int) b:=A5
     have hm2:=Af (x:=36-I5 ((36*k:Nat):Int) b) (by omega) (by omega) hw hw1
     rw [Int.mul_comm] at hm2
     have e4:A2 (w*(36-I5 ((36*k:Nat):Int) b))=w*(36-I5 ((36*k:Nat):Int) b):=A5
     by_cases h4:1099511627776<w*(36-I5 ((36*k:Nat):Int) b)
     ·rw [if_pos h4]
      refine ⟨λh=>by simp at h,λ_ R k0 k1=>?_⟩
      rw [start,A7,e1,e2]
      simp only [vl,cond_false]
      rw [A7,A7,e3,e4,C6 h4]
      rfl
     ·rw [if_neg h4]
      have ek:((36*k:Nat):Int)+36=((36*(k+1):Nat):Int):=by omega
      rw [ek]
      obtain ⟨q1,q2⟩:=ih (p+1) n (k+1) (i+C3 c*w) (w*(36-I5 ((36*k:Nat):Int) b)) (by omega) (by omega) (by omega) (by omega) (by omega) (by omega) (by omega)
      have st2:∀ (R:Type) (k0:Int->LL->Option R) (k1:By->LL->Int->Int->Int->Int->LL->Option R),P7 LF (n+1) s out (p:Int) n3 i b old w (k:Int) l k0 k1=P7 LF n s out ((p+1:Nat):Int) n3 (i+C3 c*w) b old (w*(36-I5 ((36*k:Nat):Int) b)) ((k+1:Nat):Int) l k0 k1:=by simp_all
      refine ⟨λh=>?_,λh R k0 k1=>by rw [st2];exact q2 h R k0 k1⟩
      obtain ⟨p',g1,g2,g3,g4⟩:=q1 h
      exact ⟨p',by omega,g2,g3,λR k0 k1=>by rw [st2];exact g4 R k0 k1⟩
theorem YG (s:By) (hs:s.length<=1000000) (l:LL):∀ (r p n k:Nat) (i w:Int),p+r=s.length->r<n->0<=i->i<=1099511627776->0<=w->w<=1099511627776->k+r<=10000000->
  ((O5 72 (s.drop p) i w ((36*k:Nat):Int)).1=0->∃ p',p<p'/\p'<=s.length/\(O5 72 (s.drop p) i w ((36*k:Nat):Int)).2.1=s.drop p'/\∀ (R:Type) (k0:Int->LL->Option R) (k1:By->Int->Int->LL->Option R),P8 LF n s (p:Int) i w (k:Int) l k0 k1=k1 s (p':Int) (O5 72 (s.drop p) i w ((36*k:Nat):Int)).2.2 l)/\
  ((O5 72 (s.drop p) i w ((36*k:Nat):Int)).1≠0->∀ (R:Type) (k0:Int->LL->Option R) (k1:By->Int->Int->LL->Option R),P8 LF n s (p:Int) i w (k:Int) l k0 k1=k0 (O5 72 (s.drop p) i w ((36*k:Nat):Int)).1 l):=by
 intro r
 induction r with
 | zero=>
  intro p n k i w hp hn hi hi1 hw hw1 hk
  obtain ⟨n,rfl⟩:∃ m,n=m+1:=⟨n-1,by omega⟩
  rw [List.drop_of_length_le (by omega)]
  refine ⟨λh=>by simp [O5] at h,λ_ R k0 k1=>?_⟩
  rw [P8]
  rw [A7]
  rfl
 | succ r ih=>
  intro p n k i w hp hn hi hi1 hw hw1 hk
  obtain ⟨n,rfl⟩:∃ m,n=m+1:=⟨n-1,by omega⟩
  have hc:=L9 s p (by omega)
  have hbt:=M6 s p
  rw [hc]
  generalize s.getD p 0=c at *
  have hv:=Bz c
  have ht:=Hr ((36*k:Nat):Int) 72
  have e0:Int.mul 36 (k:Int)=((36*k:Nat):Int):=rfl
  have e6:A2 ((p:Int)+1)=((p+1:Nat):Int):=by rw [A5];rfl
  have e7:A2 ((k:Int)+1)=((k+1:Nat):Int):=by rw [A5];rfl
  have start:∀ (R:Type) (k0:Int->LL->Option R) (k1:By->Int->Int->LL->Option R),P8 LF (n+1) s (p:Int) i w (k:Int) l k0 k1 =
    cond (ltI (C3 c) 0) (k0 4 l)
     (vl (A2 (i+(A2 (C3 c*w)))) λn10=>cond (ltI 1099511627776 n10) (k0 19 l)
      (cond (ltI (C3 c) (I5 ((36*k:Nat):Int) 72)) (k1 s ((p+1:Nat):Int) n10 l)
       (vl (A2 (36-(I5 ((36*k:Nat):Int) 72))) λn13=>cond (ltI 1099511627776 (A2 (w*n13))) (k0 19 l) (P8 LF n s ((p+1:Nat):Int) n10 (A2 (w*n13)) ((k+1:Nat):Int) l k0 k1)))):=by
   intro R k0 k1
   rw [P8]
   have hcl:=c.toNat_lt
   rw [A9,L5,hbt,L5,We,L6,L6,e0,e6,e7]
   rfl
  unfold O5
  by_cases h1:C3 c<0
  ·rw [if_pos h1]
   refine ⟨λh=>by simp at h,λ_ R k0 k1=>?_⟩
   rw [start,C6 h1]
   rfl
  ·rw [if_neg h1]
   have hm:=Af (by omega) hv.2 hw hw1
   have e1:A2 (C3 c*w)=C3 c*w:=A5
   have e2:A2 (i+C3 c*w)=i+C3 c*w:=A5
   by_cases h2:1099511627776<i+C3 c*w
   ·rw [if_pos h2]
    refine ⟨λh=>by simp at h,λ_ R k0 k1=>?_⟩
    rw [start,A7,e1,e2]
    simp only [vl,cond_false]
    rw [C6 h2]
    rfl
   ·rw [if_neg h2]
    by_cases h3:C3 c<I5 ((36*k:Nat):Int) 72
    ·rw [if_pos h3]
     refine ⟨λ_=>⟨p+1,by omega,by omega,rfl,λR k0 k1=>?_⟩,λh=>absurd rfl h⟩
     rw [start,A7,e1,e2]
     simp only [vl,cond_false]
     rw [A7,C6 h3]
     rfl
    ·rw [if_neg h3]
     have e3:A2 (36-I5 ((36*k:Nat):Int) 72)=36-I5 ((36*k:Nat):Int) 72:=A5
     have hm2:=Af (x:=36-I5 ((36*k:Nat):Int) 72) (by omega) (by omega) hw hw1
     rw [Int.mul_comm] at hm2
     have e4:A2 (w*(36-I5 ((36*k:Nat):Int) 72))=w*(36-I5 ((36*k:Nat):Int) 72):=A5
     by_cases h4:1099511627776<w*(36-I5 ((36*k:Nat):Int) 72)
     ·rw [if_pos h4]
      refine ⟨λh=>by simp at h,λ_ R k0 k1=>?_⟩
      rw [start,A7,e1,e2]
      simp only [vl,cond_false]
      rw [A7,A7,e3,e4,C6 h4]
      rfl
     ·rw [if_neg h4]
      have ek:((36*k:Nat):Int)+36=((36*(k+1):Nat):Int):=by omega
      rw [ek]
      obtain ⟨q1,q2⟩:=ih (p+1) n (k+1) (i+C3 c*w) (w*(36-I5 ((36*k:Nat):Int) 72)) (by omega) (by omega) (by omega) (by omega) (by omega) (by omega) (by omega)
      have st2:∀ (R:Type) (k0:Int->LL->Option R) (k1:By->Int->Int->LL->Option R),P8 LF (n+1) s (p:Int) i w (k:Int) l k0 k1=P8 LF n s ((p+1:Nat):Int) (i+C3 c*w) (w*(36-I5 ((36*k:Nat):Int) 72)) ((k+1:Nat):Int) l k0 k1:=by simp_all
      refine ⟨λh=>?_,λh R k0 k1=>by rw [st2];exact q2 h R k0 k1⟩
      obtain ⟨p',g1,g2,g3,g4⟩:=q1 h
      exact ⟨p',by omega,g2,g3,λR k0 k1=>by rw [st2];exact g4 R k0 k1⟩
theorem DT (l:List Nat) (k:Nat):(B3 l).take k=B3 (l.take k):=by unfold B3;rw [List.map_take]
theorem DR (l:List Nat) (k:Nat):(B3 l).drop k=B3 (l.drop k):=by unfold B3;rw [List.map_drop]
theorem YE (s:By) (hs:s.length<=1000000) (l:LL):∀ (r p f:Nat) (pts:List Nat) (n i b:Nat),p+r=s.length->r<f->pts.length<=256->n<=1114111->i<=1000->b<=500->
  ((F0 (s.drop p) pts n i b false).2=0->∀ (R:Type) (k0:Int->LL->Option R) (k1 k2:LL->LL->Option R),L1 LF f s (B3 pts) (p:Int) (n:Int) (i:Int) (b:Int) l k0 k1 k2=k2 (B3 (F0 (s.drop p) pts n i b false).1) l)/\
  ((F0 (s.drop p) pts n i b false).2≠0->(F0 (s.drop p) pts n i b false).1=[]/\((∀ (R:Type) (k0:Int->LL->Option R) (k1 k2:LL->LL->Option R),L1 LF f s (B3 pts) (p:Int) (n:Int) (i:Int) (b:Int) l k0 k1 k2=k0 ((F0 (s.drop p) pts n i b false).2:Nat) l)\/
   ((F0 (s.drop p) pts n i b false).2=3/\∃ l',∀ (R:Type) (k0:Int->LL->Option R) (k1 k2:LL->LL->Option R),L1 LF f s (B3 pts) (p:Int) (n:Int) (i:Int) (b:Int) l k0 k1 k2=k1 l l'))):=by
 have hLF:=E5
 intro r
 induction r using Nat.strongRecOn with
 | _ r ih=>
  intro p f pts n i b hp hf h2 h3 h4 h5
  obtain ⟨f,rfl⟩:∃ m,f=m+1:=⟨f-1,by omega⟩
  by_cases hr:r=0
  ·rw [List.drop_of_length_le (by omega),Z7]
   refine ⟨λ_ R k0 k1 k2=>?_,λh=>absurd rfl h⟩
   rw [L1]
   rw [A7]
   rfl
  ·have hne:s.drop p≠[]:=λh=>by
    have:=congrArg List.length h
    rw [List.length_drop] at this
    simp at this
    omega
   obtain ⟨g1,g2⟩:=YF s hs (B3 pts) (n:Int) (b:Int) (i:Int) l (by omega) (by omega) r p LF 0 (i:Int) 1 hp (by omega) (by omega) (by omega) (by omega) (by omega) (by omega)
   obtain ⟨d1,d2⟩:=Oc b (s.drop p) i 1 0
   have e36:O5 (b:Int) (s.drop p) (i:Int) 1 ((36*0:Nat):Int)=O5 (b:Int) (s.drop p) (i:Int) ((1:Nat):Int) ((36*0:Nat):Int):=rfl
   rw [e36] at g1 g2
   by_cases he:(C2 b (s.drop p) i 1 0).2.2=0
   ·rw [Ar hne pts n i b false he]
    have d3:=d2 he
    have hz:(O5 (b:Int) (s.drop p) (i:Int) ((1:Nat):Int) ((36*0:Nat):Int)).1=0:=by rw [d1,he];rfl
    obtain ⟨p',a1,a2,a3,a4⟩:=g1 hz
    obtain ⟨q1,q2,_⟩:=Ob (b:Int) (s.drop p) (i:Int) ((1:Nat):Int) ((36*0:Nat):Int) (by omega) (by omega) (by omega) hz
    rw [d3] at q1 q2 a3 a4
    simp only at q1 q2 a3 a4
    rw [a3]
    generalize (C2 b (s.drop p) i 1 0).1=X at *
    have el:A2 (((B3 pts).length:Int)+1)=((pts.length+1:Nat):Int):=by rw [B9,A5];rfl
    have e1:A2 ((X:Int)-(i:Int))=((X-i:Nat):Int):=by rw [A5];omega
    have ed:Int.tdiv (X:Int) ((pts.length+1:Nat):Int)=((X / (pts.length+1):Nat):Int):=K3 _ _
    have em:Int.tmod (X:Int) ((pts.length+1:Nat):Int)=((X % (pts.length+1):Nat):Int):=Gm _ _
    have hdv:X / (pts.length+1)<=X:=Nat.div_le_self _ _
    have hmod:=Nat.mod_lt X (show 0<pts.length+1 by omega)
    have had:=Im (X-i) (pts.length+1) false (by omega)
    generalize hQ:X / (pts.length+1)=Q at *
    generalize hM:X % (pts.length+1)=M at *
    have e2:A2 (Q:Int)=(Q:Int):=A5
    have e3:A2 ((n:Int)+(Q:Int))=((n+Q:Nat):Int):=by rw [A5];rfl
    have e4:A2 ((M:Int)+1)=((M+1:Nat):Int):=by rw [A5];rfl
    have hnz:(((pts.length+1:Nat):Int) != 0)=true:=by rw [bne_iff_ne];omega
    have c1:cut (B3 pts) 0 (M:Int)=B3 (pts.take M):=by rw [Aq,Int.toNat_natCast,DT]
    have c2:cut (B3 pts) (M:Int) ((B3 pts).length:Int)=B3 (pts.drop M):=by rw [N1,Int.toNat_natCast,DR]
    have hrow:∀ N:Nat,B3 (pts.take M)++[[SV.int .i64 (N:Int)]]++B3 (pts.drop M)=B3 (P6 pts M N):=λN=>by
     unfold P6
     rw [Ji,List.append_assoc]
     rfl
    have start:∀ (R:Type) (k0:Int->LL->Option R) (k1 k2:LL->LL->Option R),L1 LF (f+1) s (B3 pts) (p:Int) (n:Int) (i:Int) (b:Int) l k0 k1 k2 =
      cond (not (R0 (n+Q))) (k0 2 l) (cond (ltI 256 ((pts.length+1:Nat):Int)) (k1 l (B3 (P6 pts M (n+Q))))
       (L1 LF f s (B3 (P6 pts M (n+Q))) (p':Int) ((n+Q:Nat):Int) ((M+1:Nat):Int) ((M0 (X-i) (pts.length+1) false:Nat):Int) l k0 k1 k2)):=by
     intro R k0 k1 k2
     rw [L1]
     rw [A9,cond_true]
     refine (a4 R _ _).trans ?_
     have s1:P2 (0:Int) (M:Int) (B3 pts).length=true:=V2 (by omega) (by omega) (by rw [B9];omega)
     have s2:P2 (M:Int) ((B3 pts).length:Int) (B3 pts).length=true:=V2 (by omega) (by rw [B9];omega) (by omega)
     have t1:ltN ((X-i:Nat):Int) 1152921504606846976=true:=L6
     have t2:ltN ((pts.length+1:Nat):Int) 1000000=true:=L6
     have t3:ltI 0 ((pts.length+1:Nat):Int)=true:=A9
     have l1:(B3 (pts.take M)).length=M:=by rw [B9,List.length_take];omega
     have l2:(B3 (pts.drop M)).length=pts.length-M:=by rw [B9,List.length_drop]
     have r1:G0 (0+(B3 (pts.take M)).length)=true:=G2 (by omega)
     have r2:G0 ((B3 (pts.take M)).length+1)=true:=G2 (by omega)
     have r3:G0 ((B3 (pts.take M)++[[SV.int .i64 ((n+Q:Nat):Int)]]).length+(B3 (pts.drop M)).length)=true:=G2 (by rw [List.length_append,List.length_singleton];omega)
     have l3:(B3 (P6 pts M (n+Q))).length=pts.length+1:=by rw [B9,V9]
     simp only [vl,el,e1,ed,em,e2,e3,e4,hnz,s1,s2,t1,t2,t3,c1,c2,r1,r2,r3,hrow,l3,cond_true,Int.toNat_natCast,Hm]
    cases hpt:R0 (n+Q) with
    | false=>
     rw [if_neg (by simp)]
     refine ⟨λh=>by simp at h,λ_=>⟨rfl,.inl λR k0 k1 k2=>?_⟩⟩
     rw [start,hpt]
     rfl
    | true=>
     rw [if_pos rfl]
     by_cases hc:256<pts.length+1
     ·rw [if_pos hc]
      refine ⟨λh=>by simp at h,λ_=>⟨rfl,.inr ⟨rfl,B3 (P6 pts M (n+Q)),λR k0 k1 k2=>?_⟩⟩⟩
      rw [start,hpt,A9]
      rfl
     ·rw [if_neg hc]
      have hn':n+Q<=1114111:=by
       unfold R0 at hpt
       simp only [Bool.and_eq_true,Nat.ble_eq] at hpt
       exact hpt.1
      have st2:∀ (R:Type) (k0:Int->LL->Option R) (k1 k2:LL->LL->Option R),L1 LF (f+1) s (B3 pts) (p:Int) (n:Int) (i:Int) (b:Int) l k0 k1 k2=L1 LF f s (B3 (P6 pts M (n+Q))) (p':Int) ((n+Q:Nat):Int) ((M+1:Nat):Int) ((M0 (X-i) (pts.length+1) false:Nat):Int) l k0 k1 k2:=by
       intro R k0 k1 k2
       rw [start,hpt,A7]
       rfl
      obtain ⟨z1,z2⟩:=ih (s.length-p') (by omega) p' f (P6 pts M (n+Q)) (n+Q) (M+1) (M0 (X-i) (pts.length+1) false) (by omega) (by omega) (by rw [V9];omega) hn' (by omega) had
      refine ⟨λh R k0 k1 k2=>by rw [st2];exact z1 h R k0 k1 k2,λh=>?_⟩
      obtain ⟨y1,y2⟩:=z2 h
      refine ⟨y1,?_⟩
      rcases y2 with y2 | ⟨y2,l',y3⟩
      ·exact .inl λR k0 k1 k2=>by rw [st2];exact y2 R k0 k1 k2
      ·exact .inr ⟨y2,l',λR k0 k1 k2=>by rw [st2];exact y3 R k0 k1 k2⟩
   ·rw [Cw hne pts n i b false he]
    clear g1 d2
    refine ⟨λh=>absurd h he,λ_=>⟨rfl,.inl λR k0 k1 k2=>?_⟩⟩
    rw [L1]
    rw [A9,cond_true]
    have hfst:=congrArg Prod.fst d1
    simp only at hfst
    refine (g2 (by rw [hfst];omega) R _ _).trans ?_
    rw [hfst]
theorem Ag9:∀ (r:Nat) (s:By) (pts:List Nat) (n i b:Nat) (f:Bool),s.length<=r->0<pts.length->(F0 s pts n i b f).2=0->(F0 s pts n i b f).1≠[]:=by
 intro r
 induction r with
 | zero=>
  intro s pts n i b f hr hp h
  obtain rfl:=List.length_eq_zero_iff.1 (Nat.le_zero.1 hr)
  rw [Z7]
  grind
 | succ r ih=>
  intro s pts n i b f hr hp h
  by_cases hs:s=[]
  ·grind
  ·by_cases he:(C2 b s i 1 0).2.2=0
   ·rw [Ar hs pts n i b f he] at h ⊢
    split at h
    ·rename_i h1
     rw [if_pos h1]
     split at h
     ·omega
     ·rename_i h2
      rw [if_neg h2]
      have hlt:=Kg b s i 1 0 he
      exact ih _ _ _ _ _ _ (by omega) (by rw [V9];omega) h
    omega
   ·rw [Cw hs pts n i b f he] at h
    omega
theorem YD (s:By) (hs:s.length<=1000000) (p:Nat) (pts:List Nat) (h2:pts.length<=256) (hp:p<=s.length) :
  (s.drop p=[]/\∀ (R:Type) (k0:Int->LL->Option R) (k1 k2:LL->LL->Option R) (k3:LL->Option R),I2 LF LF s (p:Int) (B3 pts) k0 k1 k2 k3=k3 (B3 pts))\/
  ((F0 (s.drop p) pts 128 0 72 true).2=0/\(F0 (s.drop p) pts 128 0 72 true).1≠[]/\∀ (R:Type) (k0:Int->LL->Option R) (k1 k2:LL->LL->Option R) (k3:LL->Option R),I2 LF LF s (p:Int) (B3 pts) k0 k1 k2 k3=k2 (B3 (F0 (s.drop p) pts 128 0 72 true).1) (B3 pts))\/
  ((F0 (s.drop p) pts 128 0 72 true).1=[]/\((∀ (R:Type) (k0:Int->LL->Option R) (k1 k2:LL->LL->Option R) (k3:LL->Option R),I2 LF LF s (p:Int) (B3 pts) k0 k1 k2 k3=k0 ((F0 (s.drop p) pts 128 0 72 true).2:Nat) (B3 pts))\/
   ((F0 (s.drop p) pts 128 0 72 true).2=3/\∃ l',∀ (R:Type) (k0:Int->LL->Option R) (k1 k2:LL->LL->Option R) (k3:LL->Option R),I2 LF LF s (p:Int) (B3 pts) k0 k1 k2 k3=k1 (B3 pts) l'))):=by
 have hLF:=E5
 obtain ⟨f,hf⟩:∃ m,LF=m+1:=⟨LF-1,by omega⟩
 by_cases hr:s.length<=p
 ·refine .inl ⟨List.drop_of_length_le hr,λR k0 k1 k2 k3=>?_⟩
  have e:I2 LF LF s (p:Int) (B3 pts) k0 k1 k2 k3=I2 LF (f+1) s (p:Int) (B3 pts) k0 k1 k2 k3:=by rw [<-hf]
  rw [e,I2]
  rw [A7]
  rfl
 ·right
  have hne:s.drop p≠[]:=λh=>by
   have:=congrArg List.length h
   grind
  obtain ⟨g1,g2⟩:=YG s hs (B3 pts) (s.length-p) p LF 0 0 1 (by omega) (by omega) (by omega) (by omega) (by omega) (by omega) (by omega)
  obtain ⟨d1,d2⟩:=Oc 72 (s.drop p) 0 1 0
  have e36:O5 72 (s.drop p) 0 1 ((36*0:Nat):Int)=O5 ((72:Nat):Int) (s.drop p) ((0:Nat):Int) ((1:Nat):Int) ((36*0:Nat):Int):=rfl
  rw [e36] at g1 g2
  by_cases he:(C2 72 (s.drop p) 0 1 0).2.2=0
  ·rw [Ar hne pts 128 0 72 true he]
   have d3:=d2 he
   have hz:(O5 ((72:Nat):Int) (s.drop p) ((0:Nat):Int) ((1:Nat):Int) ((36*0:Nat):Int)).1=0:=by grind
   obtain ⟨p',a1,a2,a3,a4⟩:=g1 hz
   obtain ⟨q1,q2,_⟩:=Ob ((72:Nat):Int) (s.drop p) ((0:Nat):Int) ((1:Nat):Int) ((36*0:Nat):Int) (by omega) (by omega) (by omega) hz
   rw [d3] at q1 q2 a3 a4
   simp only at q1 q2 a3 a4
   clear g1 g2 d1 d2 d3 hz e36
   rw [a3]
   generalize (C2 72 (s.drop p) 0 1 0).1=X at *
   have el:A2 (((B3 pts).length:Int)+1)=((pts.length+1:Nat):Int):=by rw [B9,A5];rfl
   have e1:A2 ((X:Int)-0)=(X:Int):=by rw [A5];omega
   have ed:Int.tdiv (X:Int) ((pts.length+1:Nat):Int)=((X / (pts.length+1):Nat):Int):=K3 _ _
   have em:Int.tmod (X:Int) ((pts.length+1:Nat):Int)=((X % (pts.length+1):Nat):Int):=Gm _ _
   have hdv:X / (pts.length+1)<=X:=Nat.div_le_self _ _
   have hmod:=Nat.mod_lt X (show 0<pts.length+1 by omega)
   have had:=Im X (pts.length+1) true (by omega)
   generalize hQ:X / (pts.length+1)=Q at *
   generalize hM:X % (pts.length+1)=M at *
   have e2:A2 (Q:Int)=(Q:Int):=A5
   have e3:A2 ((128:Int)+(Q:Int))=((128+Q:Nat):Int):=by rw [A5];rfl
   have e4:A2 ((M:Int)+1)=((M+1:Nat):Int):=by rw [A5];rfl
   have hnz:(((pts.length+1:Nat):Int) != 0)=true:=by rw [bne_iff_ne];omega
   have c1:List.take (M-0) (List.drop 0 (B3 pts))=B3 (pts.take M):=by rw [Nat.sub_zero,List.drop_zero,DT]
   have c2:List.take ((B3 pts).length-M) (List.drop M (B3 pts))=B3 (pts.drop M):=by
    rw [List.take_of_length_le (by rw [List.length_drop];omega),DR]
   have hrow:∀ N:Nat,B3 (pts.take M)++[[SV.int .i64 (N:Int)]]++B3 (pts.drop M)=B3 (P6 pts M N):=λN=>by
    unfold P6
    rw [Ji,List.append_assoc]
    rfl
   have start:∀ (R:Type) (k0:Int->LL->Option R) (k1 k2:LL->LL->Option R) (k3:LL->Option R),I2 LF LF s (p:Int) (B3 pts) k0 k1 k2 k3 =
     cond (not (R0 (128+Q))) (k0 2 (B3 pts)) (cond (ltI 256 ((pts.length+1:Nat):Int)) (k1 (B3 pts) (B3 (P6 pts M (128+Q))))
      (L1 LF f s (B3 (P6 pts M (128+Q))) (p':Int) ((128+Q:Nat):Int) ((M+1:Nat):Int) ((M0 X (pts.length+1) true:Nat):Int) (B3 pts) k0 k1 k2)):=by
    intro R k0 k1 k2 k3
    have e:I2 LF LF s (p:Int) (B3 pts) k0 k1 k2 k3=I2 LF (f+1) s (p:Int) (B3 pts) k0 k1 k2 k3:=by rw [<-hf]
    rw [e,I2]
    rw [A9,cond_true]
    refine (a4 R _ _).trans ?_
    have s1:P2 (0:Int) (M:Int) (B3 pts).length=true:=V2 (by omega) (by omega) (by rw [B9];omega)
    have s2:P2 (M:Int) ((B3 pts).length:Int) (B3 pts).length=true:=V2 (by omega) (by rw [B9];omega) (by omega)
    have t1:ltN (X:Int) 1152921504606846976=true:=L6
    have t2:ltN ((pts.length+1:Nat):Int) 1000000=true:=L6
    have t3:ltI 0 ((pts.length+1:Nat):Int)=true:=A9
    have l1:(B3 (pts.take M)).length=M:=by rw [B9,List.length_take];omega
    have l2:(B3 (pts.drop M)).length=pts.length-M:=by rw [B9,List.length_drop]
    have r1:G0 (0+(B3 (pts.take M)).length)=true:=G2 (by omega)
    have r2:G0 ((B3 (pts.take M)).length+1)=true:=G2 (by omega)
    have r3:G0 ((B3 (pts.take M)++[[SV.int .i64 ((128+Q:Nat):Int)]]).length+(B3 (pts.drop M)).length)=true:=G2 (by rw [List.length_append,List.length_singleton];omega)
    have l3:(B3 (P6 pts M (128+Q))).length=pts.length+1:=by rw [B9,V9]
    simp only [vl,el,e1,ed,em,e2,e3,e4,hnz,s1,s2,t1,t2,t3,Int.toNat_natCast,c1,c2,r1,r2,r3,hrow,l3,cond_true,Hm]
   cases hpt:R0 (128+Q) with
   | false=>
    rw [if_neg (by simp)]
    refine .inr ⟨rfl,.inl λR k0 k1 k2 k3=>?_⟩
    rw [start,hpt]
    rfl
   | true=>
    rw [if_pos rfl]
    by_cases hc:256<pts.length+1
    ·rw [if_pos hc]
     refine .inr ⟨rfl,.inr ⟨rfl,B3 (P6 pts M (128+Q)),λR k0 k1 k2 k3=>?_⟩⟩
     rw [start,hpt,A9]
     rfl
    ·rw [if_neg hc]
     have hn':128+Q<=1114111:=by
      unfold R0 at hpt
      simp_all
     have st2:∀ (R:Type) (k0:Int->LL->Option R) (k1 k2:LL->LL->Option R) (k3:LL->Option R),I2 LF LF s (p:Int) (B3 pts) k0 k1 k2 k3=L1 LF f s (B3 (P6 pts M (128+Q))) (p':Int) ((128+Q:Nat):Int) ((M+1:Nat):Int) ((M0 X (pts.length+1) true:Nat):Int) (B3 pts) k0 k1 k2:=by
      intro R k0 k1 k2 k3
      rw [start,hpt,A7]
      rfl
     obtain ⟨z1,z2⟩:=YE s hs (B3 pts) (s.length-p') p' f (P6 pts M (128+Q)) (128+Q) (M+1) (M0 X (pts.length+1) true) (by omega) (by omega) (by rw [V9];omega) hn' (by omega) had
     have hX:X-0=X:=Nat.sub_zero X
     rw [hX]
     by_cases hz:(F0 (s.drop p') (P6 pts M (128+Q)) (128+Q) (M+1) (M0 X (pts.length+1) true) false).2=0
     ·refine .inl ⟨hz,?_,λR k0 k1 k2 k3=>by rw [st2];exact z1 hz R k0 k1 k2⟩
      exact Ag9 _ _ _ _ _ _ _ (Nat.le_refl _) (by rw [V9];omega) hz
     ·obtain ⟨y1,y2⟩:=z2 hz
      refine .inr ⟨y1,?_⟩
      rcases y2 with y2 | ⟨y2,l',y3⟩
      ·exact .inl λR k0 k1 k2 k3=>by rw [st2];exact y2 R k0 k1 k2
      ·exact .inr ⟨y2,l',λR k0 k1 k2 k3=>by rw [st2];exact y3 R k0 k1 k2⟩
  ·rw [Cw hne pts 128 0 72 true he]
   clear g1 d2
   refine .inr ⟨rfl,.inl λR k0 k1 k2 k3=>?_⟩
   have e:I2 LF LF s (p:Int) (B3 pts) k0 k1 k2 k3=I2 LF (f+1) s (p:Int) (B3 pts) k0 k1 k2 k3:=by rw [<-hf]
   rw [e,I2]
   rw [A9,cond_true]
   have hfst:=congrArg Prod.fst d1
   simp only at hfst
   refine (g2 (by rw [hfst];omega) R _ _).trans ?_
   rw [hfst]
theorem A63 (s:By) (h0:A1 s.length=true):∃ r H,Ae6 LF s (λr0 l1=>rv (.tup [.fl 0,.s (.int .i64 r0)]) [.arr true 3 1 l1]) (λr0 l1=>rv (.tup [.fl 1,.s (.int .i64 r0)]) [.arr true 3 1 l1,.arr true 3 1 []]) (λl0 l1=>rv (.tup [.fl 2,.s (.int .i64 (3:Int))]) [.arr true 3 1 l0,.arr false 3 1 l1,.arr true 3 1 []]) (λr0 l1=>rv (.tup [.s (.sl false false 1 r0),.s (.int .i64 (0:Int))]) [.arr true 3 1 l1])=rv r H/\
  r.stab [1,0] H = .tup [.s (.sl (J8 s).1.isEmpty (J8 s).1.isEmpty 1 (Ss (J8 s).1)),.s (.int .i64 ((J8 s).2:Nat))]:=by
 have hLF:=E5
 unfold Ae6 J8
 by_cases hl:1024<s.length
 ·rw [if_pos hl,A9]
  exact ⟨_,_,rfl,rfl⟩
 ·rw [if_neg hl,A7,cond_false]
  have asc:=λ(R:Type) (K0:Unit->Option R) (K1:By->Int->Option R)=>YH (k0:=K0) (k1:=K1) s (by omega) s.length 0 LF 0 (by omega) (by omega)
  rw [List.drop_zero] at asc
  cases ha:s.any (λb=>Nat.ble 128 b.toNat) with
  | true=>
   rw [if_pos rfl]
   refine ⟨.tup [.fl 0,.s (.int .i64 4)],[.arr true 3 1 []],(asc _ _ _).trans ?_,rfl⟩
   rw [ha,if_pos rfl]
  | false=>
   rw [if_neg (by simp)]
   obtain ⟨d1,d2⟩:=Jf s
   have hlt:=Jg s
   have hcut:(if (45:UInt8)∈s then 0+E3 s else 0)=E3 s:=by
    split
    ·omega
    ·rename_i h;exact (d2 h).2.symm
   rw [ha,hcut] at asc
   have hcopy:=λ(R:Type) (K:By->Int->LL->Option R)=>YC (k0:=K) s (by omega) (E3 s) (by omega) (E3 s) 0 LF [] (by omega) (by omega) rfl
   rw [List.drop_zero] at hcopy
   have hlen:((s.take (E3 s)).map (·.toNat)).length=E3 s:=by rw [List.length_map,List.length_take];omega
   generalize hm:E3 s=m at *
   generalize hpts:(s.take m).map (·.toNat)=pts at *
   by_cases h256:256<m
   ·rw [if_pos h256]
    refine ⟨.tup [.fl 1,.s (.int .i64 3)],[.arr true 3 1 (B3 pts),.arr true 3 1 []],(asc _ _ _).trans ?_,rfl⟩
    rw [if_neg (by simp)]
    refine (hcopy _ _).trans ?_
    rw [List.nil_append,B9,hlen,A9]
    rfl
   ·rw [if_neg h256]
    have fin:∀ p:Nat,p<=s.length->∀ (X:Option (PV × List Blk × Unit)),X=I2 LF LF s (p:Int) (B3 pts) (λr0 l1=>rv (.tup [.fl 1,.s (.int .i64 r0)]) [.arr true 3 1 l1,.arr true 3 1 []]) (λl0 l1=>rv (.tup [.fl 2,.s (.int .i64 (3:Int))]) [.arr true 3 1 l0,.arr false 3 1 l1,.arr true 3 1 []]) (λr0 l1=>rv (.tup [.s (.sl false false 1 r0),.s (.int .i64 (0:Int))]) [.arr true 3 1 l1]) (λl=>rv (.tup [.fl 0,.s (.int .i64 0)]) [.arr true 3 1 l])->
      ∃ r H,X=rv r H/\r.stab [1,0] H = .tup [.s (.sl (F0 (s.drop p) pts 128 0 72 true).1.isEmpty (F0 (s.drop p) pts 128 0 72 true).1.isEmpty 1 (Ss (F0 (s.drop p) pts 128 0 72 true).1)),.s (.int .i64 ((F0 (s.drop p) pts 128 0 72 true).2:Nat))]:=by
     intro p hp X hX
     rcases YD s (by omega) p pts (by omega) hp with ⟨e1,e2⟩ | ⟨e1,e3,e2⟩ | ⟨e1,e2 | ⟨e3,l',e2⟩⟩
     ·refine ⟨_,_,hX.trans (e2 _ _ _ _ _),?_⟩
      rw [e1,Z7,Gf]
      simp [PV.stab,Iy,Se,PV.snap,I9,Ow]
     ·refine ⟨_,_,hX.trans (e2 _ _ _ _ _),?_⟩
      rw [e1,Gf]
      have:(F0 (s.drop p) pts 128 0 72 true).1.isEmpty=false:=by
       cases h:(F0 (s.drop p) pts 128 0 72 true).1 with
       | nil=>exact absurd h e3
       | cons a r=>rfl
      rw [this]
      rfl
     ·refine ⟨_,_,hX.trans (e2 _ _ _ _ _),?_⟩
      rw [e1]
      rfl
     ·refine ⟨_,_,hX.trans (e2 _ _ _ _ _),?_⟩
      rw [e1,e3]
      rfl
    by_cases hz:m=0
    ·subst hz
     rw [if_pos rfl]
     have:=fin 0 (by omega) _ rfl
     rw [List.drop_zero] at this
     obtain ⟨r,H,g1,g2⟩:=this
     refine ⟨r,H,(asc _ _ _).trans ?_,g2⟩
     rw [if_neg (by simp)]
     refine (hcopy _ _).trans ?_
     rw [List.nil_append,B9,hlen,A7,cond_false,A7,cond_false]
     exact g1
    ·rw [if_neg hz]
     obtain ⟨r,H,g1,g2⟩:=fin (m+1) (by omega) _ rfl
     refine ⟨r,H,(asc _ _ _).trans ?_,g2⟩
     rw [if_neg (by simp)]
     refine (hcopy _ _).trans ?_
     have e1:A2 ((m:Int)+1)=((m+1:Nat):Int):=by rw [A5];rfl
     rw [List.nil_append,B9,hlen,A7,cond_false,A9,cond_true,e1]
     exact g1
theorem T2 {R:Type} {k0:LL->Option R} {k1:By->Int->Int->Int->Int->LL->Option R} (s:By) (hs:s.length<=1000000000) (n i m v least kk:Nat) (l:LL) (hk:kk<m) (hm:m<=4) (hi:i+kk<s.length) (hv:v<=100000) (hn:0<n) :
  Hp LF n s i m v least kk l k0 k1=if 128<=(s.getD (i+kk) 0).toNat/\(s.getD (i+kk) 0).toNat<=191 then Hp LF (n-1) s i m ((v*64+(s.getD (i+kk) 0).toNat-128:Nat):Int) least ((kk+1:Nat):Int) l k0 k1 else k0 l:=by
 have hb:=(s.getD (i+kk) 0).toNat_lt
 obtain ⟨n,rfl⟩:∃ m,n=m+1:=⟨n-1,by omega⟩
 rw [Hp]
 have e1:A2 ((i:Int)+kk)=((i+kk:Nat):Int):=by rw [A5];rfl
 have e2:A2 ((kk:Int)+1)=((kk+1:Nat):Int):=by rw [A5];rfl
 rw [A9,e1,e2,L5,M6]
 generalize (s.getD (i+kk) 0).toNat=b at *
 simp only [cond_true,vl]
 rw [E7 (n:=(b:Int)) (by omega) (by omega),Nat.add_sub_cancel]
 by_cases h1:b<128
 ·rw [A9,G7]
  rfl
 ·rw [A7,cond_false]
  by_cases h2:191<b
  ·rw [A9,G7]
   rfl
  ·rw [A7,cond_false,Ge]
   have e3:A2 (A2 (A2 ((v:Int)*64)+(b:Int))-128)=((v*64+b-128:Nat):Int):=by
    rw [E7 (n:=(v:Int)*64) (by omega) (by omega),E7 (n:=(v:Int)*64+b) (by omega) (by omega),A5]
    omega
   rw [e3]
theorem Js {R:Type} {k0:LL->Option R} {k1:By->Int->Int->Int->Int->LL->Option R} (s:By) (n i m v least:Nat) (l:LL) (hn:0<n) :
  Hp LF n s i m v least m l k0 k1=k1 s i m v least l:=by
 obtain ⟨n,rfl⟩:∃ m,n=m+1:=⟨n-1,by omega⟩
 rw [Hp]
 rw [A7]
 rfl
theorem Kz {R:Type} {k0:LL->Option R} {k1:By->Int->LL->Option R} (s:By) (hs:s.length<=1000000000) (i m v least:Nat) (P:List Nat) (hP:P.length<=1000000000) (hi:i+m<=s.length) (hv:v<=10000000) (hm:m<=4) :
  cond (ltI (v:Int) (least:Int)) (k0 (B3 P)) (cond (not (ptI v)) (k0 (B3 P)) (cond (G0 ((B3 P).length+1)) (k1 s (A2 ((i:Int)+m)) (B3 P++[[SV.int .i64 (v:Int)]])) none)) =
   if least<=v/\R0 v=true then k1 s ((i+m:Nat):Int) (B3 (P++[v])) else k0 (B3 P):=by
 have e1:A2 ((i:Int)+m)=((i+m:Nat):Int):=by rw [A5];rfl
 rw [e1,B9,G2 (by omega),Ji,show ptI (v:Int)=R0 v from rfl]
 by_cases h:v<least
 ·rw [A9,G7]
  rfl
 ·rw [A7,cond_false]
  cases hp:R0 v with
  | false=>rw [if_neg (by simp)];rfl
  | true=>rw [if_pos ⟨by omega,rfl⟩];rfl
theorem An7 {R:Type} {k0:LL->Option R} {k1:By->Int->LL->Option R} (s:By) (hs:s.length<=1000000000) (i v least:Nat) (P:List Nat) (hP:P.length<=1000000000) (hi:i<s.length) (hv:v<=32) :
  Ep LF s i 2 v least (B3 P) k0 k1=if 2<=s.length-i/\128<=(s.getD (i+1) 0).toNat/\(s.getD (i+1) 0).toNat<=191 then
   (if least<=v*64+(s.getD (i+1) 0).toNat-128/\R0 (v*64+(s.getD (i+1) 0).toNat-128)=true then k1 s ((i+2:Nat):Int) (B3 (P++[v*64+(s.getD (i+1) 0).toNat-128])) else k0 (B3 P)) else k0 (B3 P):=by
 have hb:=(s.getD (i+1) 0).toNat_lt
 have hLF:=E5
 unfold Ep
 have e1:A2 ((s.length:Int)-i)=((s.length-i:Nat):Int):=by rw [A5];omega
 rw [e1]
 simp only [vl]
 by_cases h:s.length-i<2
 ·rw [A9,G7]
  rfl
 ·rw [A7,cond_false]
  refine Eq.trans (T2 s hs LF i 2 v least 1 (B3 P) (by omega) (by omega) (by omega) (by omega) (by omega)) ?_
  generalize (s.getD (i+1) 0).toNat=b at *
  by_cases h1:128<=b/\b<=191
  ·rw [if_pos h1,if_pos ⟨by omega,h1⟩]
   refine Eq.trans (Js s (LF-1) i 2 _ least (B3 P) (by omega)) ?_
   exact Kz s hs i 2 _ least P hP (by omega) (by omega) (by omega)
  ·rw [if_neg h1,if_neg (λh=>h1 h.2)]
theorem An8 {R:Type} {k0:LL->Option R} {k1:By->Int->LL->Option R} (s:By) (hs:s.length<=1000000000) (i v least:Nat) (P:List Nat) (hP:P.length<=1000000000) (hi:i<s.length) (hv:v<=32) :
  Ep LF s i 3 v least (B3 P) k0 k1=if 3<=s.length-i/\(128<=(s.getD (i+1) 0).toNat/\(s.getD (i+1) 0).toNat<=191)/\(128<=(s.getD (i+2) 0).toNat/\(s.getD (i+2) 0).toNat<=191) then
   (if least<=(v*64+(s.getD (i+1) 0).toNat-128)*64+(s.getD (i+2) 0).toNat-128/\R0 ((v*64+(s.getD (i+1) 0).toNat-128)*64+(s.getD (i+2) 0).toNat-128)=true then k1 s ((i+3:Nat):Int) (B3 (P++[(v*64+(s.getD (i+1) 0).toNat-128)*64+(s.getD (i+2) 0).toNat-128])) else k0 (B3 P)) else k0 (B3 P):=by
 have hb:=(s.getD (i+1) 0).toNat_lt
 have hb2:=(s.getD (i+2) 0).toNat_lt
 have hLF:=E5
 unfold Ep
 have e1:A2 ((s.length:Int)-i)=((s.length-i:Nat):Int):=by rw [A5];omega
 rw [e1]
 simp only [vl]
 by_cases h:s.length-i<3
 ·rw [A9,G7]
  rfl
 ·rw [A7,cond_false]
  refine Eq.trans (T2 s hs LF i 3 v least 1 (B3 P) (by omega) (by omega) (by omega) (by omega) (by omega)) ?_
  by_cases h1:128<=(s.getD (i+1) 0).toNat/\(s.getD (i+1) 0).toNat<=191
  ·rw [if_pos h1]
   refine Eq.trans (T2 s hs (LF-1) i 3 _ least 2 (B3 P) (by omega) (by omega) (by omega) (by omega) (by omega)) ?_
   by_cases h2:128<=(s.getD (i+2) 0).toNat/\(s.getD (i+2) 0).toNat<=191
   ·rw [if_pos h2,if_pos ⟨by omega,h1,h2⟩]
    refine Eq.trans (Js s (LF-2) i 3 _ least (B3 P) (by omega)) ?_
    exact Kz s hs i 3 _ least P hP (by omega) (by omega) (by omega)
   ·rw [if_neg h2,if_neg (λh=>h2 h.2.2)]
  ·rw [if_neg h1,if_neg (λh=>h1 h.2.1)]
theorem An9 {R:Type} {k0:LL->Option R} {k1:By->Int->LL->Option R} (s:By) (hs:s.length<=1000000000) (i v least:Nat) (P:List Nat) (hP:P.length<=1000000000) (hi:i<s.length) (hv:v<=20) :
  Ep LF s i 4 v least (B3 P) k0 k1=if 4<=s.length-i/\(128<=(s.getD (i+1) 0).toNat/\(s.getD (i+1) 0).toNat<=191)/\(128<=(s.getD (i+2) 0).toNat/\(s.getD (i+2) 0).toNat<=191)/\(128<=(s.getD (i+3) 0).toNat/\(s.getD (i+3) 0).toNat<=191) then
   (if least<=((v*64+(s.getD (i+1) 0).toNat-128)*64+(s.getD (i+2) 0).toNat-128)*64+(s.getD (i+3) 0).toNat-128/\R0 (((v*64+(s.getD (i+1) 0).toNat-128)*64+(s.getD (i+2) 0).toNat-128)*64+(s.getD (i+3) 0).toNat-128)=true then k1 s ((i+4:Nat):Int) (B3 (P++[((v*64+(s.getD (i+1) 0).toNat-128)*64+(s.getD (i+2) 0).toNat-128)*64+(s.getD (i+3) 0).toNat-128])) else k0 (B3 P)) else k0 (B3 P):=by
 have hb:=(s.getD (i+1) 0).toNat_lt
 have hb2:=(s.getD (i+2) 0).toNat_lt
 have hb3:=(s.getD (i+3) 0).toNat_lt
 have hLF:=E5
 unfold Ep
 have e1:A2 ((s.length:Int)-i)=((s.length-i:Nat):Int):=by rw [A5];omega
 rw [e1]
 simp only [vl]
 by_cases h:s.length-i<4
 ·rw [A9,G7]
  rfl
 ·rw [A7,cond_false]
  refine Eq.trans (T2 s hs LF i 4 v least 1 (B3 P) (by omega) (by omega) (by omega) (by omega) (by omega)) ?_
  by_cases h1:128<=(s.getD (i+1) 0).toNat/\(s.getD (i+1) 0).toNat<=191
  ·rw [if_pos h1]
   refine Eq.trans (T2 s hs (LF-1) i 4 _ least 2 (B3 P) (by omega) (by omega) (by omega) (by omega) (by omega)) ?_
   by_cases h2:128<=(s.getD (i+2) 0).toNat/\(s.getD (i+2) 0).toNat<=191
   ·rw [if_pos h2]
    refine Eq.trans (T2 s hs (LF-2) i 4 _ least 3 (B3 P) (by omega) (by omega) (by omega) (by omega) (by omega)) ?_
    by_cases h3:128<=(s.getD (i+3) 0).toNat/\(s.getD (i+3) 0).toNat<=191
    ·rw [if_pos h3,if_pos ⟨by omega,h1,h2,h3⟩]
     refine Eq.trans (Js s (LF-3) i 4 _ least (B3 P) (by omega)) ?_
     exact Kz s hs i 4 _ least P hP (by omega) (by omega) (by omega)
    ·rw [if_neg h3,if_neg (λh=>h3 h.2.2.2)]
   ·rw [if_neg h2,if_neg (λh=>h2 h.2.2.1)]
  ·rw [if_neg h1,if_neg (λh=>h1 h.2.1)]
theorem YL {R:Type} {k0:By->Int->Int->LL->Option R} (n:Nat) (hn:0<n) (s:By) (i v:Int) (l:LL):KP LF n s i v l k0=k0 s i v l:=by
 obtain ⟨n,rfl⟩:∃ m,n=m+1:=⟨n-1,by omega⟩
 rw [KP]
theorem YK {R:Type} {k0:LL->Option R} {k1:By->Int->LL->Option R} (s:By) (hs:s.length<=1000000000) (i v:Nat) (P:List Nat) (hP:P.length<=1000000000) (hi:i<s.length) (hv:v<128) :
  KO LF s i v (B3 P) k0 k1=k1 s ((i+1:Nat):Int) (B3 (P++[v])):=by
 unfold KO
 have e1:A2 ((s.length:Int)-i)=((s.length-i:Nat):Int):=by rw [A5];omega
 rw [e1]
 simp only [vl]
 rw [A7,cond_false]
 refine Eq.trans (show _=cond (ltI (v:Int) ((0:Nat):Int)) (k0 (B3 P)) (cond (not (ptI v)) (k0 (B3 P)) (cond (G0 ((B3 P).length+1)) (k1 s (A2 ((i:Int)+(1:Nat))) (B3 P++[[SV.int .i64 (v:Int)]])) none)) from YL LF (by have:=E5;omega) _ _ _ _) ?_
 rw [Kz s hs i 1 v 0 P hP (by omega) (by omega) (by omega),if_pos]
 refine ⟨Nat.zero_le _,?_⟩
 simp only [R0,Bool.and_eq_true,Bool.or_eq_true,Nat.ble_eq,Nat.blt_eq]
 omega
theorem A07 {v:Nat} (h:v<2048):R0 v=true:=by
 simp only [R0,Bool.and_eq_true,Bool.or_eq_true,Nat.ble_eq,Nat.blt_eq]
 omega
theorem YM {R:Type} {k0 k1:LL->Option R} (s:By) (hs:s.length<=1000000000) (n i:Nat) (P:List Nat) (hP:P.length<=1000000000) (hi:i<s.length) :
  Y2 LF (n+1) s i (B3 P) k0 k1=if (Lib.decodeL (s.drop i)).1=65533/\(Lib.decodeL (s.drop i)).2=1 then k0 (B3 P) else Y2 LF n s ((i+(Lib.decodeL (s.drop i)).2:Nat):Int) (B3 (P++[(Lib.decodeL (s.drop i)).1])) k0 k1:=by
 have g:∀ k,(s.drop i).getD k 0=s.getD (i+k) 0:=λk=>by grind
 have hd:Lib.decodeL (s.drop i)=Lib.decodeN (s.length-i) (s.getD i 0).toNat (s.getD (i+1) 0).toNat (s.getD (i+2) 0).toNat (s.getD (i+3) 0).toNat:=by
  rw [Lib.decodeL_N,g,g,g,g,List.length_drop]
  rfl
 have l0:=(s.getD i 0).toNat_lt
 have l1:=(s.getD (i+1) 0).toNat_lt
 have l2:=(s.getD (i+2) 0).toNat_lt
 have l3:=(s.getD (i+3) 0).toNat_lt
 rw [hd]
 rw [Y2,A9,L5,M6,E7 (n:=((s.getD i 0).toNat:Int)) (by omega) (by omega)]
 simp only [cond_true]
 generalize (s.getD i 0).toNat=b at *
 by_cases h1:b<128
 ·rw [A9,cond_true]
  have e:Lib.decodeN (s.length-i) b (s.getD (i+1) 0).toNat (s.getD (i+2) 0).toNat (s.getD (i+3) 0).toNat=(b,1):=by unfold Lib.decodeN;rw [if_pos h1]
  rw [e]
  simp only
  rw [G7]
  exact YK s hs i b P hP hi h1
 ·rw [E9 (show (128:Int)<=b by omega),cond_false]
  by_cases h2:b<194
  ·rw [C6 (show (b:Int)<194 by omega)]
   have e:Lib.decodeN (s.length-i) b (s.getD (i+1) 0).toNat (s.getD (i+2) 0).toNat (s.getD (i+3) 0).toNat=(65533,1):=by
    unfold Lib.decodeN
    grind
   rw [e,if_pos ⟨rfl,rfl⟩]
   simp only [Bool.not_true,cond_false]
   unfold Pq
   unfold Pp
   rw [cond_false,C6 (show (b:Int)<224 by omega),C6 (show (b:Int)<240 by omega)]
   rfl
  ·rw [E9 (show (194:Int)<=b by omega)]
   simp only [Bool.not_false,cond_true]
   by_cases h3:b<224
   ·rw [C6 (show (b:Int)<224 by omega)]
    unfold Pq
    have e1:A2 ((b:Int)-192)=((b-192:Nat):Int):=by rw [A5];omega
    rw [cond_true,e1,B73 _ _ _ _ _ ⟨by omega,h3⟩ l1]
    simp only [vl]
    refine Eq.trans (An7 s hs i (b-192) 128 P hP hi (by omega)) ?_
    by_cases hc:2<=s.length-i/\128<=(s.getD (i+1) 0).toNat/\(s.getD (i+1) 0).toNat<=191
    ·rw [if_pos hc,if_pos hc]
     simp only
     rw [if_pos ⟨by omega,A07 (by omega)⟩,G7]
    ·rw [if_neg hc,if_neg hc,if_pos ⟨rfl,rfl⟩]
   ·rw [E9 (show (224:Int)<=b by omega)]
    unfold Pq
    rw [cond_false,E9 (show (224:Int)<=b by omega)]
    simp only [Bool.not_false,cond_true]
    by_cases h4:b<240
    ·rw [C6 (show (b:Int)<240 by omega)]
     unfold Pp
     have e1:A2 ((b:Int)-224)=((b-224:Nat):Int):=by rw [A5];omega
     rw [cond_true,e1,B74 _ _ _ _ _ ⟨by omega,h4⟩ l1 l2]
     simp only [vl]
     refine Eq.trans (An8 s hs i (b-224) 2048 P hP hi (by omega)) ?_
     by_cases hc:3<=s.length-i/\(128<=(s.getD (i+1) 0).toNat/\(s.getD (i+1) 0).toNat<=191)/\(128<=(s.getD (i+2) 0).toNat/\(s.getD (i+2) 0).toNat<=191)
     ·rw [if_pos hc,if_pos hc]
      split
      ·simp only;rw [G7]
      ·rw [if_pos ⟨rfl,rfl⟩]
     ·rw [if_neg hc,if_neg hc,if_pos ⟨rfl,rfl⟩]
    ·rw [E9 (show (240:Int)<=b by omega)]
     unfold Pp
     rw [cond_false,E9 (show (240:Int)<=b by omega)]
     simp only [Bool.not_false,cond_true]
     by_cases h5:b<245
     ·rw [C6 (show (b:Int)<245 by omega),cond_true]
      have e1:A2 ((b:Int)-240)=((b-240:Nat):Int):=by rw [A5];omega
      rw [e1,B75 _ _ _ _ _ ⟨by omega,h5⟩ l1 l2 l3]
      simp only [vl]
      refine Eq.trans (An9 s hs i (b-240) 65536 P hP hi (by omega)) ?_
      by_cases hc:4<=s.length-i/\(128<=(s.getD (i+1) 0).toNat/\(s.getD (i+1) 0).toNat<=191)/\(128<=(s.getD (i+2) 0).toNat/\(s.getD (i+2) 0).toNat<=191)/\(128<=(s.getD (i+3) 0).toNat/\(s.getD (i+3) 0).toNat<=191)
      ·rw [if_pos hc,if_pos hc]
       split
       ·simp only;rw [G7]
       ·rw [if_pos ⟨rfl,rfl⟩]
      ·rw [if_neg hc,if_neg hc,if_pos ⟨rfl,rfl⟩]
     ·rw [E9 (show (245:Int)<=b by omega),cond_false]
      have e:Lib.decodeN (s.length-i) b (s.getD (i+1) 0).toNat (s.getD (i+2) 0).toNat (s.getD (i+3) 0).toNat=(65533,1):=by
       unfold Lib.decodeN
       grind
      rw [e,if_pos ⟨rfl,rfl⟩]
theorem Ao0 (s:By) (hs:s.length<=1000000000):∀ (r i n:Nat) (P:List Nat),i+r=s.length->r<n->P.length<=i->
  (Sv (s.drop i)=none->∃ l,∀ (R:Type) (k0 k1:LL->Option R),Y2 LF n s i (B3 P) k0 k1=k0 l)/\
  (∀ q,Sv (s.drop i)=some q->∀ (R:Type) (k0 k1:LL->Option R),Y2 LF n s i (B3 P) k0 k1=k1 (B3 (P++q))):=by
 intro r
 induction r using Nat.strongRecOn with
 | _ r ih=>
  intro i n P hi hn hP
  obtain ⟨n,rfl⟩:∃ m,n=m+1:=⟨n-1,by omega⟩
  by_cases hr:i<s.length
  ·have hne:s.drop i≠[]:=by rw [ne_eq,<-List.length_eq_zero_iff,List.length_drop];omega
   have hst:=λ(R:Type) (k0 k1:LL->Option R)=>YM (k0:=k0) (k1:=k1) s hs n i P (by omega) hr
   have hw:=Lib.decodeL_width (s.drop i)
   have hle:=Lib.decodeL_le (s.drop i) hne
   rw [List.length_drop] at hle
   rw [Am2 _ hne]
   by_cases hbad:(Lib.decodeL (s.drop i)).1=65533/\(Lib.decodeL (s.drop i)).2=1
   ·rw [if_pos hbad]
    refine ⟨λ_=>⟨B3 P,λR k0 k1=>?_⟩,λq hq=>by cases hq⟩
    refine (hst R k0 k1).trans ?_
    rw [if_pos hbad]
   ·rw [if_neg hbad,List.drop_drop]
    obtain ⟨w1,w2⟩:=ih (r-(Lib.decodeL (s.drop i)).2) (by omega) (i+(Lib.decodeL (s.drop i)).2) n (P++[(Lib.decodeL (s.drop i)).1]) (by omega) (by omega) (by rw [List.length_append,List.length_singleton];omega)
    constructor
    ·intro h
     cases hq:Sv (s.drop (i+(Lib.decodeL (s.drop i)).2)) with
     | some q=>rw [hq] at h;cases h
     | none=>
      obtain ⟨l,e⟩:=w1 hq
      refine ⟨l,λR k0 k1=>?_⟩
      refine (hst R k0 k1).trans ?_
      rw [if_neg hbad]
      exact e R k0 k1
    ·intro q h R k0 k1
     cases hq:Sv (s.drop (i+(Lib.decodeL (s.drop i)).2)) with
     | none=>rw [hq] at h;cases h
     | some q'=>
      rw [hq] at h
      simp only [Option.map_some,Option.some.injEq] at h
      subst h
      refine (hst R k0 k1).trans ?_
      rw [if_neg hbad]
      refine (w2 q' hq R k0 k1).trans ?_
      rw [List.append_assoc]
      rfl
  ·have hnil:s.drop i=[]:=by rw [<-List.length_eq_zero_iff,List.length_drop];omega
   have e:∀ (R:Type) (k0 k1:LL->Option R),Y2 LF (n+1) s i (B3 P) k0 k1=k1 (B3 P):=λR k0 k1=>by
    rw [Y2]
    rw [A7]
    rfl
   rw [hnil,show Sv []=some [] from rfl]
   refine ⟨λh=>(by cases h),λq hq R k0 k1=>?_⟩
   simp only [Option.some.injEq] at hq
   subst hq
   rw [List.append_nil]
   exact e R k0 k1
theorem B70 (s:By) (h0:A1 s.length=true):∃ r H,B77 LF s (λl0=>rv (.tup [.fl 1,.s (.bool false)]) [.arr true 3 1 l0,.arr true 3 1 []]) (λl0=>rv (.tup [.fl 0,.s (.bool true)]) [.arr true 3 1 l0])=rv r H/\
  r.stab [1,0] H = .tup [.s (.sl (Bm0 s).isEmpty (Bm0 s).isEmpty 1 (Ss (Bm0 s))),.s (.bool (Sv s).isSome)]:=by
 have hs:=O0 h0
 obtain ⟨w1,w2⟩:=Ao0 s hs s.length 0 LF [] (by omega) (by have:=E5;omega) (Nat.zero_le _)
 rw [List.drop_zero] at w1 w2
 unfold Bm0
 cases hp:Sv s with
 | none=>
  obtain ⟨l,e⟩:=w1 hp
  exact ⟨_,_,e _ _ _,rfl⟩
 | some q=>
  refine ⟨_,_,w2 q hp _ _ _,?_⟩
  cases q<;>rfl
theorem YI {R:Type} {k0:Unit->Option R} {k1:By->Bool->LL->Bool->Option R} (s:By) (z:Bool) (p:List Nat) (hp:p.length<=1000000000):∀ (r i n:Nat) (b:Bool),i+r=p.length->r<n->
  R8 LF n s z (B3 p) b (i:Int) k0 k1=if (p.drop i).any (λp=>Nat.ble 65 p&&Nat.ble p 90) then k0 () else k1 s z (B3 p) (b || ((p.drop i).any λp=>Nat.ble 128 p)):=by
 intro r
 induction r with
 | zero=>
  intro i n b hi hn
  obtain ⟨n,rfl⟩:∃ m,n=m+1:=⟨n-1,by omega⟩
  rw [R8]
  rw [B9,A7,List.drop_of_length_le (by omega)]
  simp
 | succ r ih=>
  intro i n b hi hn
  obtain ⟨n,rfl⟩:∃ m,n=m+1:=⟨n-1,by omega⟩
  rw [R8]
  have e1:A2 ((i:Int)+1)=((i+1:Nat):Int):=by rw [A5];rfl
  have hd:p.drop i=p.getD i 0::p.drop (i+1):=by
   rw [List.getD_eq_getElem?_getD,List.getElem?_eq_getElem (by omega),Option.getD_some,List.getElem_cons_drop]
  rw [B9,A9,L5,Int.toNat_natCast,Ko (by omega),Sf _ _ (by omega),hd,List.any_cons,List.any_cons,e1]
  simp only [cond_true]
  generalize p.getD i 0=q
  have go:∀ c:Bool,R8 LF n s z (B3 p) c ((i+1:Nat):Int) k0 k1=_:=λc=>ih (i+1) n c (by omega) (by omega)
  simp only [go]
  by_cases h1:q<65
  ·rw [show ltI (q:Int) (65:Int)=true from A9,show Nat.ble 65 q=false by rw [Bool.eq_false_iff,ne_eq,Nat.ble_eq];omega]
   have h2:Nat.ble 128 q=false:=by rw [Bool.eq_false_iff,ne_eq,Nat.ble_eq];omega
   rw [show ltI (q:Int) (128:Int)=true from A9,h2]
   cases b<;>simp
  ·rw [show ltI (q:Int) (65:Int)=false from A7,show Nat.ble 65 q=true by rw [Nat.ble_eq];omega]
   by_cases h2:90<q
   ·rw [show ltI (90:Int) (q:Int)=true from A9,show Nat.ble q 90=false by rw [Bool.eq_false_iff,ne_eq,Nat.ble_eq];omega]
    by_cases h3:q<128
    ·rw [show ltI (q:Int) (128:Int)=true from A9,show Nat.ble 128 q=false by rw [Bool.eq_false_iff,ne_eq,Nat.ble_eq];omega]
     cases b<;>simp
    ·rw [show ltI (q:Int) (128:Int)=false from A7,show Nat.ble 128 q=true by rw [Nat.ble_eq];omega]
     cases b<;>simp
   ·rw [show ltI (90:Int) (q:Int)=false from A7,show Nat.ble q 90=true by rw [Nat.ble_eq];omega]
    cases b<;>simp
theorem YJ {R:Type} {k0:Bool->Option R} (s:By) (h0:A1 s.length=true):Ae7 LF s k0=k0 (Al s):=by
 have hLF:=E5
 unfold Ae7 Al
 rw [h0,cond_true]
 simp only [vl]
 by_cases h:(J8 s).2=0
 ·have e:(((J8 s).2:Int) != (0:Int))=false:=by rw [h];rfl
  rw [e,cond_false,Gf,h]
  have hl:=MN s
  refine Eq.trans (YI s _ (J8 s).1 (by omega) (J8 s).1.length 0 LF false (by omega) (by omega)) ?_
  rw [List.drop_zero]
  cases h1:(J8 s).1.any (λp=>Nat.ble 65 p&&Nat.ble p 90) with
  | true=>simp
  | false=>
   rw [if_neg (by simp),Ld,MS,MT]
   simp only [cond_true,vl,Bool.false_or,Bool.not_false]
   by_cases h3:(Gx (J8 s).1).2=0
   all_goals grind
 grind
theorem XR {R:Type} {k0:Unit->Option R} {k1:By->Option R} (s:By) (hs:s.length<=1000000000):∀ (r i n:Nat),i+r=s.length->r<n->
  K2 LF n s (i:Int) k0 k1=if (s.drop i).all Q9 then k1 s else k0 ():=by
 intro r
 induction r with
 | zero=>
  intro i n hi hn
  obtain ⟨n,rfl⟩:∃ m,n=m+1:=⟨n-1,by omega⟩
  rw [K2]
  rw [A7,List.drop_of_length_le (by omega)]
  rfl
 | succ r ih=>
  intro i n hi hn
  obtain ⟨n,rfl⟩:∃ m,n=m+1:=⟨n-1,by omega⟩
  rw [K2]
  have e1:A2 ((i:Int)+1)=((i+1:Nat):Int):=by rw [A5];rfl
  rw [A9,L5,M6,L9 s i (by omega),e1,List.all_cons]
  simp only [cond_true]
  rw [ih (i+1) n (by omega) (by omega)]
  generalize s.getD i 0=b
  have hb:=Tz b
  have q1:((b.toNat:Int)==45)=(b==45):=V3 b 45 (by omega)
  have q2:((b.toNat:Int)==95)=(b==95):=V3 b 95 (by omega)
  rw [q1,q2]
  cases hl:Q9 b with
  | true=>
   rw [hb] at hl
   simp only [Bool.true_and]
   by_cases h1:b=45
   ·subst h1
    simp (disch:=decide) [ltI]
   ·by_cases h2:b=95
    ·subst h2
     simp (disch:=decide) [ltI]
    ·rcases hl with hl | hl | hl | hl
     ·rw [show ltI (b.toNat:Int) 97=false from A7,show ltI (122:Int) b.toNat=false from A7];rfl
     ·rw [show ltI (b.toNat:Int) 97=true from A9,show ltI (b.toNat:Int) 48=false from A7,show ltI (57:Int) b.toNat=false from A7];rfl
     ·exact absurd hl h1
     ·exact absurd hl h2
  | false=>
   have hn:¬ ((97<=b.toNat/\b.toNat<=122)\/(48<=b.toNat/\b.toNat<=57)\/b=45\/b=95):=λh=>by rw [hb.2 h] at hl;cases hl
   have n1:(b==45)=false:=by simpa using λh=>hn (.inr (.inr (.inl h)))
   have n2:(b==95)=false:=by simpa using λh=>hn (.inr (.inr (.inr h)))
   rw [n1,n2]
   simp only [Bool.not_false,cond_true,cond_false,Bool.false_and,Bool.false_eq_true,if_false]
   by_cases h1:b.toNat<48
   ·rw [show ltI (b.toNat:Int) 97=true from A9,show ltI (b.toNat:Int) 48=true from A9];rfl
   ·by_cases h2:b.toNat<97
    ·rw [show ltI (b.toNat:Int) 97=true from A9,show ltI (b.toNat:Int) 48=false from A7,show ltI (57:Int) b.toNat=true from A9];rfl
    ·rw [show ltI (b.toNat:Int) 97=false from A7,show ltI (122:Int) b.toNat=true from A9,show ltI (b.toNat:Int) 48=false from A7,show ltI (57:Int) b.toNat=true from A9];rfl
theorem A73 (s:By) (h:4<=s.length):(s.take 4==([120,110,45,45]:List UInt8))=xnB.isPrefixOf s:=by
 match s,h with
 | a::b::c::d::t,_=>
  simp only [List.take_succ_cons,List.take_zero,xnB,List.isPrefixOf,Bool.and_true]
  rw [show ((a::b::c::d::[])==([120,110,45,45]:List UInt8))=(a==120&&(b==110&&(c==45&&(d==45&&true)))) from rfl,Bool.and_true]
  rw [Bool.eq_iff_iff]
  simp only [Bool.and_eq_true,beq_iff_eq]
  exact ⟨λh=>⟨h.1.symm,h.2.1.symm,h.2.2.1.symm,h.2.2.2.symm⟩,λh=>⟨h.1.symm,h.2.1.symm,h.2.2.1.symm,h.2.2.2.symm⟩⟩
theorem XS {R:Type} {k0:Bool->Option R} (s:By) (h0:A1 s.length=true):Ae4 LF s k0=k0 (P3 s):=by
 have hs:=O0 h0
 have hLF:=E5
 unfold Ae4 P3
 by_cases h1:s=[]
 ·grind
 ·have hl:0<s.length:=List.length_pos_iff.2 h1
  have he:s.isEmpty=false:=by simpa using h1
  have he2:(s==([]:List UInt8))=false:=by simpa using h1
  rw [he2,cond_false,he]
  by_cases h2:63<s.length
  ·rw [A9,show Nat.ble s.length 63=false by rw [Bool.eq_false_iff,ne_eq,Nat.ble_eq];omega]
   rfl
  ·rw [A7,cond_false,show Nat.ble s.length 63=true by rw [Nat.ble_eq];omega,L5]
   have q1:(bAt s 0==(45:Int))=(s.getD 0 0==45):=by rw [Ip];exact V3 _ 45 (by omega)
   have e1:A2 ((s.length:Int)-1)=((s.length-1:Nat):Int):=by rw [A5];omega
   rw [q1,e1]
   simp only [cond_true,vl]
   rw [L5,M6,show ((((s.getD (s.length-1) 0).toNat:Nat):Int)==45)=(s.getD (s.length-1) 0==45) from V3 _ 45 (by omega)]
   cases h3:(s.getD 0 0==45) with
   | true=>
    grind
   | false=>
    rw [show (s.getD 0 0 != 45)=true by unfold bne;rw [h3];rfl]
    simp only [cond_true,cond_false]
    cases h4:(s.getD (s.length-1) 0==45) with
    | true=>
     grind
    | false=>
     rw [show (s.getD (s.length-1) 0 != 45)=true by unfold bne;rw [h4];rfl]
     simp only [cond_false]
     refine Eq.trans (XR s hs s.length 0 LF (by omega) (by omega)) ?_
     rw [List.drop_zero]
     cases h5:s.all Q9 with
     | false=>simp
     | true=>
      rw [if_pos rfl]
      simp only [Bool.not_false,Bool.true_and,Bool.and_true]
      by_cases h6:s.length<4
      ·rw [A9]
       have:xnB.isPrefixOf s=false:=by
        rw [Bool.eq_false_iff,ne_eq,List.isPrefixOf_iff_prefix]
        intro h
        have:=h.length_le
        simp only [xnB,List.length_cons,List.length_nil] at this
        omega
       grind
      ·rw [A7,cond_false,Q5,cond_true,Aq]
       have ht:(List.take (Int.toNat 4) s==([120,110,45,45]:List UInt8))=xnB.isPrefixOf s:=A73 s (by omega)
       rw [ht]
       cases h7:xnB.isPrefixOf s with
       | false=>rfl
       | true=>
        rw [Q5,N1]
        simp only [Bool.not_true,cond_false,cond_true]
        rw [K7 (by rw [List.length_drop];omega)]
        rfl
section
variable {σ R : Type} (lf : Nat) (cl : D7) (yh : Yh σ) (s : σ) (k : Out -> St σ -> Option R)
noncomputable def OQ {R:Type} (lf n:Nat) (s0:By) (i1:Int) (l2:LL) (k0:LL->Option R) (k1:LL->Option R):Option R:=match n with | 0=>none | n+1=>cond (ltI i1 (s0.length:Int)) (cond (inR i1 s0.length) (cond ((bAt s0 i1) != 37) (cond (inR i1 s0.length) (cond (G0 (l2.length+1)) (OQ lf n s0 (A2 (i1+1)) (l2++[[(SV.int .u8 (bAt s0 i1))]]) k0 k1) none) none) (vl (A2 ((s0.length:Int)-i1)) λn'3=>cond (ltI n'3 3) (k0 l2) (cond (inR (A2 (i1+1)) s0.length) (vl (bAt s0 (A2 (i1+1))) λn'4=>cond (inR n'4 256) (cond (ltI (Bf4 (u8n n'4)) (0:Int)) (k0 l2) (cond (inR (A2 (i1+2)) s0.length) (vl (bAt s0 (A2 (i1+2))) λn'5=>cond (inR n'5 256) (cond (ltI (Bf4 (u8n n'5)) (0:Int)) (k0 l2) (cond (inR (A2 (i1+1)) s0.length) (vl (bAt s0 (A2 (i1+1))) λn'6=>cond (inR n'6 256) (vl (A2 ((16:Int)*(Bf4 (u8n n'6)))) λn'7=>cond (inR (A2 (i1+2)) s0.length) (vl (bAt s0 (A2 (i1+2))) λn'8=>cond (inR n'8 256) (vl (A2 (n'7+(Bf4 (u8n n'8)))) λn'9=>cond (G0 (l2.length+1)) (vl (A2 ((A2 (i1+2))+1)) λn'10=>OQ lf n s0 n'10 (l2++[[(SV.int .u8 (wu8 n'9))]]) k0 k1) none) none) none) none) none)) none) none)) none) none))) none) (k1 l2)
noncomputable abbrev Av2:Code:=D3 Tryz.f32
noncomputable def Mh (lf:Nat):Cfg:=B8 lf [32] (A4 [(5,[2,0,0])]) [(68,Wz),(53,Xd),(69,ZV)] (A4 [(9,[2]),(6,[3,0]),(8,[2]),(7,[3,0,24]),(5,[3,0,16]),(4,[3,0]),(3,[3]),(2,[2]),(1,[0,14]),(0,[0])]) [68,69] (A4 [(0,[]),(1,[3,0])]) (some [2]) [] [] []
noncomputable def Ho {R:Type} (lf n:Nat) (p0:LL) (i1:Int) (k0:Unit->Option R) (k1:Unit->Option R):Option R:=match n with | 0=>none | n+1=>cond (ltI i1 (p0.length:Int)) (cond (inR i1 p0.length) (cond (okE Dy p0 (Int.toNat i1) 0) (cond (A1 (List.length (gX p0 (Int.toNat i1) 0))) (cond (not (P3 (gX p0 (Int.toNat i1) 0))) (k0 ()) (Ho lf n p0 (A2 (i1+1)) k0 k1)) none) none) none) (k1 ())
theorem XP (n p0 i1):E6 0 ((Mh lf).keep 5) (bd (Mh lf) cl yh (cd [1,1,1,0,1,0,0] Av2)) n ⟨gp [(3,.s (.sl false false 1 p0)),(0,pI i1)] 25,[],s⟩ k =
 Ho lf n p0 i1 (λ_=>k .ret ⟨gp [(2,pB false)] 27,[],s⟩) (λ_=>k (.exit 0) ⟨gp [] 30,[],s⟩):=by
 induction n generalizing p0 i1 with
 | zero=>rfl
 | succ n ih=>rw [Ho];simp only [<-ih];kernel_rfl
noncomputable def Bn7 {R:Type} (lf:Nat) (name0:By) (k0:Bool->Option R):Option R:=cond (name0==[]) (k0 false) (cond (ltI 253 (name0.length:Int)) (k0 false) (cond (A1 name0.length) (cond (O2 name0) (k0 false) (cond (A1 name0.length) (vl (J0 (pcs (u8n (46:Int)) name0)) λl'1=>Ho lf lf l'1 0 (λ_=>k0 false) (λ_=>k0 true)) none)) none))
theorem Bn8 (d:Nat) (name0):evC (Mh lf) (d+1) σ yh 32 [pS name0] [] s=Bn7 lf name0 (λr0=>some (pB r0,[],s)):=by
 refine (evE (fn:=Tryz.f32) (by kernel_rfl)).trans ?_
 generalize evC (Mh lf) d=cl
 unfold Bn7;exact (Eq.trans (by kernel_rfl) (A0 rfl (A0 rfl (A0 (A0 rfl (A0 (A8 λl'1=>((XP lf cl yh s (G8 0 (I4 (Mh lf) cl yh (cd [1,1,1,1] Av2) (H4 (Mh lf) Tryz.f32))) lf l'1 0).trans (by kernel_rfl))) rfl)) rfl))))
noncomputable def IS (lf:Nat):Cfg:=B8 lf [42] (A4 []) [(32,Wx)] (A4 [(9,[2]),(4,[2]),(6,[2]),(8,[2]),(7,[1,32]),(5,[1,1,2,16]),(3,[1,1,2,0]),(2,[1,1,2]),(1,[1,1]),(0,[1])]) [32] (A4 [(0,[])]) (some [2]) [] [] []
noncomputable def A54 {R:Type} (lf:Nat) (h0:Int) (h1:By) (h2 h3 h4 h5 h6 h7 h8 h9 h10:Int) (k0:Bool->Int->By->Int->Int->Int->Int->Int->Int->Int->Int->Int->LL->Option R):Option R:=cond (h0==1) (cond (A1 h1.length) (cond (C5 h1) (cond (h2==0) (k0 ((h3==0)&&((h4==0)&&((h5==0)&&((h6==0)&&((h7==0)&&((h8==0)&&((h9==0)&&((h10==0)&&true)))))))) h0 h1 h2 h3 h4 h5 h6 h7 h8 h9 h10 (List.replicate 8 [(SV.int .u16 (0:Int))])) (k0 false h0 h1 h2 h3 h4 h5 h6 h7 h8 h9 h10 (List.replicate 8 [(SV.int .u16 (0:Int))]))) (k0 false h0 h1 h2 h3 h4 h5 h6 h7 h8 h9 h10 (List.replicate 8 [(SV.int .u16 (0:Int))]))) none) (cond (h0==2) (cond (h1==[]) (k0 ((h3==0)&&((h4==0)&&((h5==0)&&((h6==0)&&((h7==0)&&((h8==0)&&((h9==0)&&((h10==0)&&true)))))))) h0 h1 h2 h3 h4 h5 h6 h7 h8 h9 h10 (List.replicate 8 [(SV.int .u16 (0:Int))])) (k0 false h0 h1 h2 h3 h4 h5 h6 h7 h8 h9 h10 (List.replicate 8 [(SV.int .u16 (0:Int))]))) (cond (h0==3) (cond (h1==[]) (k0 (h2==0) h0 h1 h2 h3 h4 h5 h6 h7 h8 h9 h10 (List.replicate 8 [(SV.int .u16 (0:Int))])) (k0 false h0 h1 h2 h3 h4 h5 h6 h7 h8 h9 h10 (List.replicate 8 [(SV.int .u16 (0:Int))]))) (k0 false h0 h1 h2 h3 h4 h5 h6 h7 h8 h9 h10 (List.replicate 8 [(SV.int .u16 (0:Int))]))))
theorem A55 (d:Nat) (h0 h1 h2 h3 h4 h5 h6 h7 h8 h9 h10):evC (IS lf) (d+1) σ yh 42 [.agg [pI h0,pS h1,p32 h2,p16 h3,p16 h4,p16 h5,p16 h6,p16 h7,p16 h8,p16 h9,p16 h10]] [] s=A54 lf h0 h1 h2 h3 h4 h5 h6 h7 h8 h9 h10 (λr0 n1 s2 n3 n4 n5 n6 n7 n8v n9 n10 n11 l12=>some (pB r0,[.box [pI n1,pS s2,p32 n3,p16 n4,p16 n5,p16 n6,p16 n7,p16 n8v,p16 n9,p16 n10,p16 n11],.arr false 26 1 l12],s)):=by
 refine (evE (fn:=Tryz.f42) (by kernel_rfl)).trans ?_
 generalize evC (IS lf) d=cl
 unfold A54;kernel_rfl
noncomputable def IR (lf:Nat):Cfg:=B8 lf [19] (A4 []) [(32,Wx)] (A4 [(3,[4]),(2,[4]),(1,[0,0,10]),(0,[0,0])]) [32] (A4 []) (some [4]) [] [] []
noncomputable def Ae2 {R:Type} (lf:Nat) (super0 name1:By) (k0:Bool->Option R):Option R:=cond (A1 super0.length) (cond (not (C5 super0)) (k0 false) (cond (A1 name1.length) (cond (not (C5 name1)) (k0 false) (cond (super0==name1) (k0 true) (cond (ltI (super0.length:Int) (name1.length:Int)) (vl (A2 ((name1.length:Int)-(super0.length:Int))) λn'0=>cond (P2 (A2 (n'0-1)) (name1.length:Int) name1.length) (vl (cut name1 (A2 (n'0-1)) (name1.length:Int)) λs'1=>cond (Ax0 1 super0.length) (vl (([46]:List UInt8)++super0) λs'2=>k0 (s'1==s'2)) none) none) (k0 false)))) none)) none
theorem A53 (d:Nat) (super0 name1):evC (IR lf) (d+1) σ yh 19 [pS super0,pS name1] [] s=Ae2 lf super0 name1 (λr0=>some (pB r0,[],s)):=by
 refine (evE (fn:=Tryz.f19) (by kernel_rfl)).trans ?_
 generalize evC (IR lf) d=cl
 unfold Ae2;kernel_rfl
end
theorem An0 {R:Type} {k0 k1:Unit->Option R} (l:List By) (hl:l.length<=1000000001) (h:∀ x∈l,x.length<=1000000000):∀ (r i n:Nat),i+r=l.length->r<n->
  Ho LF n (J0 l) (i:Int) k0 k1=if (l.drop i).all P3 then k1 () else k0 ():=by
 intro r
 induction r with
 | zero=>
  intro i n hi hn
  obtain ⟨n,rfl⟩:∃ m,n=m+1:=⟨n-1,by omega⟩
  rw [Ho]
  rw [U2,A7,List.drop_of_length_le (by omega)]
  rfl
 | succ r ih=>
  intro i n hi hn
  obtain ⟨n,rfl⟩:∃ m,n=m+1:=⟨n-1,by omega⟩
  rw [Ho]
  have e1:A2 ((i:Int)+1)=((i+1:Nat):Int):=by rw [A5];rfl
  have hd:l.drop i=l.getD i []::l.drop (i+1):=by
   rw [List.getD_eq_getElem?_getD,List.getElem?_eq_getElem (by omega),Option.getD_some,List.getElem_cons_drop]
  have hx:(l.getD i []).length<=1000000000:=h _ (by
   rw [List.getD_eq_getElem?_getD,List.getElem?_eq_getElem (by omega),Option.getD_some];exact List.getElem_mem _)
  rw [U2,A9,L5,Int.toNat_natCast,Gg (by omega),Kk,K7 hx,hd,List.all_cons,e1]
  simp only [cond_true]
  rw [ih (i+1) n (by omega) (by omega)]
  cases P3 (l.getD i []) with
  | true=>rw [Bool.true_and];rfl
  | false=>rfl
theorem An1 {R:Type} {k0:Bool->Option R} (s:By) (h0:A1 s.length=true):Bn7 LF s k0=k0 (C5 s):=by
 have hs:=O0 h0
 have hLF:=E5
 unfold Bn7
 by_cases hnil:s=[]
 ·subst hnil
  rfl
 ·have he:(s==([]:By))=false:=by simpa using hnil
  rw [he,cond_false]
  unfold C5
  by_cases h1:253<s.length
  ·rw [A9,show Nat.ble s.length 253=false by rw [Bool.eq_false_iff,ne_eq,Nat.ble_eq];omega]
   rfl
  ·rw [A7,cond_false,h0,cond_true,show Nat.ble s.length 253=true by rw [Nat.ble_eq];omega]
   cases h2:O2 s with
   | true=>rfl
   | false=>
    rw [cond_false,cond_true]
    have hpl:=Hk 46 s
    have hcl:=Fw 46 s
    refine Eq.trans (An0 (pcs 46 s) (by omega) (λx hx=>by have:=(Ks hx).2;omega) (pcs 46 s).length 0 LF (by omega) (by omega)) ?_
    grind
theorem A56 (kd:Int) (nm:By) (v4 a0 a1 a2 a3 a4 a5 a6 a7:Int) (h0:A1 nm.length=true) (h1:ltN v4 4294967296=true) (h2:ok8 a0 a1 a2 a3 a4 a5 a6 a7=true) :
  ∃ r H,A54 LF kd nm v4 a0 a1 a2 a3 a4 a5 a6 a7 (λr0 n1 s2 n3 n4 n5 n6 n7 n8 n9 n10 n11 l12=>rv (.s (.bool r0)) [.box (B41 n1 s2 n3 n4 n5 n6 n7 n8 n9 n10 n11),.arr false 26 1 l12])=rv r H/\
   r.stab [] H = .s (.bool (M8 (mkH kd nm v4 (n8 a0 a1 a2 a3 a4 a5 a6 a7)))):=Ab7 kd nm v4 a0 a1 a2 a3 a4 a5 a6 a7 h0 h1 h2
theorem Bp7 (p s:By):p.isSuffixOf s=(Nat.ble p.length s.length&&s.drop (s.length-p.length)==p):=by
 rw [Bool.eq_iff_iff,List.isSuffixOf_iff_suffix,Bool.and_eq_true,Nat.ble_eq,beq_iff_eq]
 constructor
 ·rintro ⟨t,rfl⟩
  simp_all
 ·rintro ⟨h1,h2⟩
  rw [<-h2]
  exact List.drop_suffix _ _
theorem XO {R:Type} {k0:Bool->Option R} (p s:By) (h0:A1 p.length=true) (h1:A1 s.length=true):Ae2 LF p s k0=k0 (D2 p s):=by
 have hp:=O0 h0
 have hs:=O0 h1
 unfold Ae2 D2
 rw [h0,h1,Bd4 (by omega)]
 cases C5 p with
 | false=>rfl
 | true=>
  cases C5 s with
  | false=>rfl
  | true=>
   simp only [Bool.not_true,cond_false,cond_true,Bool.true_and]
   cases (p==s) with
   | true=>rfl
   | false=>
    rw [Bp7,List.length_cons]
    by_cases h:p.length<s.length
    ·have e1:A2 (A2 ((s.length:Int)-p.length)-1)=((s.length-(p.length+1):Nat):Int):=by
      rw [E7 (n:=(s.length:Int)-p.length) (by omega) (by omega),A5];omega
     rw [A9]
     simp only [vl,cond_true,cond_false]
     rw [e1,Q5,N1,Int.toNat_natCast,show Nat.ble (p.length+1) s.length=true by rw [Nat.ble_eq];omega]
     rfl
    ·rw [A7,show Nat.ble (p.length+1) s.length=false by rw [Bool.eq_false_iff,ne_eq,Nat.ble_eq];omega]
     rfl
end
end Go.Proofs.YtelhbgonncceeaaGreatDoor.E
