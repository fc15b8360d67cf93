/-
  Parts of the proof, merged by a program of the prover's own; no condition.
-/
import Derived.Test.YtbpokbigoebocaaGreatDoorKCN3
import Derived.Lib.JoinLaws
import Derived.Lib.TrimAscii
import Derived.Shelf.Abstract
import Derived.Shelf.RegionOpenPlain
import Derived.Shelf.SlSortCmp.Insertion
import Derived.Shelf.Spec.SlicesInsert
import Derived.Shelf.Spec.SlicesInsertGrow
import Derived.Sort.AssemblyPlain
import Derived.Test.YtbpokbigoebocaaGreatDoorProg
import Derived.WalkKit
import Derived.WalkMore
namespace Go.Proofs.YtbpokbigoebocaaGreatDoor.E
set_option linter.all false
section
open Go Go.Proofs
theorem A56 {a0 a1 a2 a3 a4 a5 a6 a7:Int} (h:ok8 a0 a1 a2 a3 a4 a5 a6 a7=true):∃ b0 b1 b2 b3 b4 b5 b6 b7:Nat,a0=b0/\a1=b1/\a2=b2/\a3=b3/\a4=b4/\a5=b5/\a6=b6/\a7=b7/\b0<65536/\b1<65536/\b2<65536/\b3<65536/\b4<65536/\b5<65536/\b6<65536/\b7<65536:=by
 simp only [ok8,List.all_cons,List.all_nil,Bool.and_true,Bool.and_eq_true,G4] at h
 exact ⟨a0.toNat,a1.toNat,a2.toNat,a3.toNat,a4.toNat,a5.toNat,a6.toNat,a7.toNat,by omega,by omega,by omega,by omega,by omega,by omega,by omega,by omega,by omega,by omega,by omega,by omega,by omega,by omega,by omega,by omega⟩
theorem Tt (n:Nat):ptI (n:Int)=Jc n:=rfl
theorem ME {R:Type} {k0:Bool->Option R} (n:Int):HX LF n k0=k0 (ptI n):=by
 unfold HX
 by_cases h:n<0
 ·rw [H5 h]
  have:ptI n=false:=by
   cases n with
   | ofNat m=>exact absurd h (by simp)
   | negSucc m=>rfl
  grind
 ·obtain ⟨m,rfl⟩:=Int.eq_ofNat_of_zero_le (show 0<=n by omega)
  rw [B6,Tt]
  unfold Jc
  by_cases h1:1114111<m
  ·rw [C7]
   have:Nat.ble m 1114111=false:=by rw [Bool.eq_false_iff,ne_eq,Nat.ble_eq];omega
   grind
  ·rw [B6]
   have:Nat.ble m 1114111=true:=by rw [Nat.ble_eq];omega
   rw [this]
   by_cases h2:m<55296
   ·rw [C7]
    have:Nat.blt m 55296=true:=by rw [Nat.blt_eq];omega
    grind
   ·rw [B6]
    have e:Nat.blt m 55296=false:=by rw [Bool.eq_false_iff,ne_eq,Nat.blt_eq];omega
    rw [e]
    simp only [Bool.not_false,cond_true,cond_false,Bool.false_or,Bool.true_and]
    congr 1
theorem JA {d k:Nat} (h:455<d):Uw d k=Uw (d / 35) (k+36):=by rw [Uw,dif_pos h]
theorem Ux {d k:Nat} (h:¬ 455<d):Uw d k=k+36*d / (d+38):=by rw [Uw,dif_neg h]
theorem MA {R:Type} {k0:Int->Int->Option R}:∀ (d n k:Nat),d<2305843009213693952->d<n->k+d<=4611686018427387904->
  ∃ d' k',d'<=455/\k'<=k+d/\Uw d k=k'+36*d' / (d'+38)/\Bi LF n (d:Int) (k:Int) k0=k0 (d':Int) (k':Int):=by
 intro d
 induction d using Nat.strongRecOn with
 | _ d ih=>
  intro n k hd hn hk
  obtain ⟨n,rfl⟩:∃ m,n=m+1:=⟨n-1,by omega⟩
  rw [Bi]
  by_cases h:455<d
  ·obtain ⟨d',k',h1,h2,h3,h4⟩:=ih (d / 35) (by omega) n (k+36) (by omega) (by omega) (by omega)
   refine ⟨d',k',h1,by omega,by rw [JA h];exact h3,?_⟩
   have e:Int.tdiv (d:Int) 35=((d / 35:Nat):Int):=W3 d 35
   have e1:A5 ((d / 35:Nat):Int)=((d / 35:Nat):Int):=B1
   have e2:A5 ((k:Int)+36)=((k+36:Nat):Int):=by rw [B1];rfl
   rw [C7]
   simp only [cond_true,vl,e,e1,e2]
   exact h4
  ·refine ⟨d,k,by omega,by omega,Ux h,?_⟩
   rw [B6]
   rfl
theorem MB {R:Type} {k0:Int->Option R} (d c:Int) (f:Bool) (h0:ltN d 1152921504606846976=true) (h1:ltN c 1000000=true) (h2:ltI 0 c=true):Xb LF d c f k0=k0 (Bl d.toNat c.toNat f:Nat):=by
 obtain ⟨hd0,hd1⟩:=G4.1 h0
 obtain ⟨hc0,hc1⟩:=G4.1 h1
 obtain ⟨d,rfl⟩:=Int.eq_ofNat_of_zero_le hd0
 obtain ⟨c,rfl⟩:=Int.eq_ofNat_of_zero_le hc0
 have hc:=A45.1 h2
 have hLF:=K9
 have key:∀ x:Nat,x<1152921504606846976->Bh LF (x:Int) (c:Int) k0=k0 ((Uw (x+x / c) 0:Nat):Int):=by
  intro x hx
  have hxc:x / c<=x:=Nat.div_le_self _ _
  unfold Bh
  have e1:Int.tdiv (x:Int) (c:Int)=((x / c:Nat):Int):=W3 x c
  generalize x / c=q at *
  have e2:A5 (q:Int)=(q:Int):=B1
  have e3:A5 ((x:Int)+(q:Int))=((x+q:Nat):Int):=by rw [B1];rfl
  rw [show ((c:Int) != 0)=true by simp;omega]
  simp only [cond_true,vl,e1,e2,e3]
  obtain ⟨d',k',g1,g2,g3,g4⟩:=MA (R:=R) (k0:=λdelta'7 k'8=>vl (A5 ((36)*delta'7)) λn'9=>vl (A5 (delta'7+(38))) λn'10=>cond (n'10 != (0)) (vl (A5 (Int.tdiv n'9 n'10)) λn'11=>k0 (A5 (k'8+n'11))) none) (x+q) LF 0 (by omega) (by omega) (by omega)
  refine Eq.trans g4 ?_
  have hq:36*d' / (d'+38)<=36*d':=Nat.div_le_self _ _
  have f1:A5 (36*(d':Int))=((36*d':Nat):Int):=by rw [B1];rfl
  have f2:A5 ((d':Int)+38)=((d'+38:Nat):Int):=by rw [B1];rfl
  have f3:Int.tdiv ((36*d':Nat):Int) ((d'+38:Nat):Int)=((36*d' / (d'+38):Nat):Int):=W3 _ _
  have f4:A5 ((36*d' / (d'+38):Nat):Int)=((36*d' / (d'+38):Nat):Int):=B1
  have f5:A5 ((k':Int)+((36*d' / (d'+38):Nat):Int))=((k'+36*d' / (d'+38):Nat):Int):=by rw [B1];rfl
  simp only [vl,f1,f2,f3,f4,f5]
  rw [show (((d'+38:Nat):Int) != 0)=true by simp;omega,g3]
  rfl
 unfold Xb Bl
 rw [Int.toNat_natCast,Int.toNat_natCast]
 cases f with
 | true=>
  have e1:Int.tdiv (d:Int) 700=((d / 700:Nat):Int):=W3 d 700
  have e2:A5 ((d / 700:Nat):Int)=((d / 700:Nat):Int):=B1
  simp only [cond_true,vl,e1,e2,if_true]
  exact key _ (by omega)
 | false=>
  have e1:Int.tdiv (d:Int) 2=((d / 2:Nat):Int):=W3 d 2
  have e2:A5 ((d / 2:Nat):Int)=((d / 2:Nat):Int):=B1
  simp only [cond_false,vl,e1,e2,Bool.false_eq_true,if_false]
  exact key _ (by omega)
theorem XU {d:Nat} (h:d<36):(Ha d).toNat=if d<26 then 97+d else 22+d:=by
 unfold Ha
 split<;>simp<;>omega
theorem Aa5 {R:Type} {k0:Int->Option R} (d:Int) (h0:ltN d 36=true):A63 LF d k0=k0 ((Ha d.toNat).toNat:Nat):=by
 obtain ⟨hd0,hd1⟩:=G4.1 h0
 obtain ⟨d,rfl⟩:=Int.eq_ofNat_of_zero_le hd0
 unfold A63
 rw [Int.toNat_natCast,XU (by omega)]
 by_cases h:d<26
 ·rw [C7,if_pos h]
  simp only [cond_true,vl]
  congr 1
  rw [B1,Jn]
  rfl
 ·rw [B6,if_neg h]
  simp only [cond_false,vl]
  congr 1
  rw [R5 (n:=48+(d:Int)) (by omega) (by omega),B1,Jn]
  omega
theorem NE (b:UInt8):(97<=b.toNat/\b.toNat<=122/\Gm b=some (b.toNat-97))\/(65<=b.toNat/\b.toNat<=90/\Gm b=some (b.toNat-65))\/(48<=b.toNat/\b.toNat<=57/\Gm b=some (b.toNat-22))\/(¬(97<=b.toNat/\b.toNat<=122)/\¬(65<=b.toNat/\b.toNat<=90)/\¬(48<=b.toNat/\b.toNat<=57)/\Gm b=none):=by
 unfold Gm
 grind
theorem Ab1 {R:Type} {k0:Int->Option R} (b:Int) (h0:inR b 256=true):Ar5 LF b k0=k0 (G1 (u8n b)):=by
 simp only [inR,Bool.and_eq_true,decide_eq_true_eq] at h0
 have hc:b=((u8n b).toNat:Int):=by
  unfold u8n
  simp
  omega
 generalize u8n b=c at *
 subst hc
 have hbt:=c.toNat_lt
 unfold Ar5 G1
 simp only [My,Mx,vl]
 rcases NE c with ⟨h1,h2,e⟩ | ⟨h1,h2,e⟩ | ⟨h1,h2,e⟩ | ⟨h1,h2,h3,e⟩
 ·have e2:A5 (wu8 ((c.toNat:Int)-97))=((c.toNat-97:Nat):Int):=by
   rw [Jn,B1];omega
  simp (disch:=omega) only [H5,L8,Bool.not_true,Bool.not_false,cond_false,cond_true,e2,e]
 ·have e2:A5 (wu8 ((c.toNat:Int)-65))=((c.toNat-65:Nat):Int):=by
   rw [Jn,B1];omega
  simp (disch:=omega) only [H5,L8,Bool.not_true,Bool.not_false,cond_false,cond_true,e2,e]
 ·have e2:A5 (A5 (wu8 ((c.toNat:Int)-48))+26)=((c.toNat-22:Nat):Int):=by
   rw [Jn,R5 (n:=(c.toNat:Int)-48) (by omega) (by omega),B1];omega
  simp (disch:=omega) only [H5,L8,Bool.not_true,Bool.not_false,cond_false,cond_true,e2,e]
 ·rw [e]
  by_cases c1:c.toNat<48
  ·simp (disch:=omega) only [H5,L8,Bool.not_true,Bool.not_false,cond_false,cond_true]
  ·by_cases c2:c.toNat<65
   ·simp (disch:=omega) only [H5,L8,Bool.not_true,Bool.not_false,cond_false,cond_true]
   ·by_cases c3:c.toNat<97
    ·simp (disch:=omega) only [H5,L8,Bool.not_true,Bool.not_false,cond_false,cond_true]
    ·simp (disch:=omega) only [H5,L8,Bool.not_true,Bool.not_false,cond_false,cond_true]
set_option maxRecDepth 100000
section
variable {σ R : Type} (lf : Nat) (cl : D0) (yh : Yh σ) (s : σ) (k : Out -> St σ -> Option R)
noncomputable def PD (lf:Nat):Cfg:=C0 lf [103] (A3 []) [] (A3 [(2,[2]),(1,[1,1]),(0,[1])]) [] (A3 []) (some [2]) [] [] []
noncomputable def Bi2 {R:Type} (lf:Nat) (b:Int) (k0:Int->Option R):Option R:=k0 b
theorem A71 (d:Nat) (b):evC (PD lf) (d+1) σ yh 103 [pI b] [] s=Bi2 lf b (λn0=>some (.fnr (Fn.func 112) [] [.ptr 1 0 0,.ptr 0 0 0],[.box [pI n0],.box [pI (0:Int)]],s)):=by
 refine (evE (fn:=Tryz.f103) (by kernel_rfl)).trans ?_
 generalize evC (PD lf) d=cl
 unfold Bi2;kernel_rfl
noncomputable def FN (lf:Nat):Cfg:=C0 lf [112] (A3 []) [] (A3 [(2,[2]),(1,[0,0]),(0,[0,0])]) [] (A3 []) (some [2]) [] [] []
noncomputable def WT {R:Type} (lf:Nat) (k b:Int) (k0:Int->Int->Int->Option R):Option R:=vl (A5 ((A5 (k+36))-b)) λn'0=>vl (if ((26:Int)<(if ((1:Int) > n'0) then (1:Int) else n'0)) then (26:Int) else (if ((1:Int) > n'0) then (1:Int) else n'0)) λn'1=>k0 n'1 (A5 (k+36)) b
theorem Ar1 (d:Nat) (k b):evC (FN lf) (d+1) σ yh 112 [.ptr 0 0 0,.ptr 1 0 0] [.box [pI k],.box [pI b]] s=WT lf k b (λr0 n1 n2=>some (pI r0,[.box [pI n1],.box [pI n2]],s)):=by
 refine (evE (fn:=Tryz.f112) (by kernel_rfl)).trans ?_
 generalize evC (FN lf) d=cl
 unfold WT;kernel_rfl
noncomputable abbrev Be9:Code:=E6 Tryz.f92
noncomputable def Pc (lf:Nat):Cfg:=C0 lf [92] (A3 [(2,[0,0,4,0])]) [(103,Un),(104,NW)] (A3 [(6,[0,0,5]),(5,[0,0,5,0]),(4,[6]),(3,[0,0,5,0,6]),(2,[0,0,5,0]),(1,[0,0,5]),(0,[0,0,0])]) [104] (A3 [(0,[6]),(1,[0,0,5])]) (some [6]) [(112,Hy)] [] [112]
noncomputable def Df {R:Type} (lf n:Nat) (q0:Int) (z1:Bool) (l2:LL) (n3 n4:Int) (k0:Bool->LL->Int->Int->Option R):Option R:=match n with | 0=>none | n+1=>cond (ltN n4 1000000000000) (cond (ltN n3 1000000) (cond (ltI q0 (S9 n4 n3)) (cond (ltN q0 36) (vl (↑(UInt8.toNat (Ha (Int.toNat q0))):Int) λn'1=>cond (Q5 (l2.length+1)) (k0 z1 (l2++[[(SV.int .u8 n'1)]]) n3 (Int.add n4 (36:Int))) none) none) (vl (A5 (q0-(S9 n4 n3))) λn'2=>vl (A5 ((36:Int)-(S9 n4 n3))) λn'3=>cond (n'3 != 0) (vl (A5 ((S9 n4 n3)+(Int.tmod n'2 n'3))) λn'4=>cond (ltN n'4 36) (vl (↑(UInt8.toNat (Ha (Int.toNat n'4))):Int) λn'5=>cond (Q5 (l2.length+1)) (vl (A5 (q0-(S9 n4 n3))) λn'6=>vl (A5 ((36:Int)-(S9 n4 n3))) λn'7=>cond (n'7 != 0) (vl (A5 (Int.tdiv n'6 n'7)) λn'8=>Df lf n n'8 z1 (l2++[[(SV.int .u8 n'5)]]) n3 (Int.add n4 (36:Int)) k0) none) none) none) none)) none) none
theorem TE (n q0 z1 l2 n3 n4):H4 3 ((Pc lf).keep 2) (bd (Pc lf) cl yh (cd [1,1,0,0] Be9)) n ⟨gp [(0,.fl 0),(0,pI q0),(5,.fnr (Fn.func 112) [] [.ptr 2 0 0,.ptr 1 0 0])] 31,[.arr z1 5 1 l2,.box [pI n3],.box [pI n4]],s⟩ k =
 Df lf n q0 z1 l2 n3 n4 (λz0 l1 n2 n3=>k .ret ⟨gp [(6,.fl 0)] 32,[.arr z0 5 1 l1,.box [pI n2],.box [pI n3]],s⟩):=by
 induction n generalizing q0 z1 l2 n3 n4 with
 | zero=>rfl
 | succ n ih=>rw [Df];simp only [<-ih];kernel_rfl
noncomputable def Bi0 {R:Type} (lf:Nat) (q b:Int) (z:Bool) (l:LL) (k0:Bool->LL->Int->Int->Option R):Option R:=Df lf lf q z l b 0 (λz'9 l'10 n'11 n'12=>k0 z'9 l'10 n'11 n'12)
theorem A58 (d:Nat) (q b z l):evC (Pc lf) (d+1) σ yh 92 [.fl 0,pI q,pI b] [.arr z 5 1 l] s=Bi0 lf q b z l (λz0 l1 n2 n3=>some (.fl 0,[.arr z0 5 1 l1,.box [pI n2],.box [pI n3]],s)):=by
 refine (evE (fn:=Tryz.f92) (by kernel_rfl)).trans ?_
 generalize evC (Pc lf) d=cl
 unfold Bi0;exact (Eq.trans (by kernel_rfl) ((TE lf cl yh s (O4 0 (J6 (Pc lf) Tryz.f92)) lf q z l b 0).trans (by kernel_rfl)))
noncomputable abbrev Af:Code:=E6 Tryz.f80
noncomputable def J1 (lf:Nat):Cfg:=C0 lf [80] (A3 [(29,[0,1,0,0,2,0,0,0,0,61,0,0]),(21,[0,1,0,0,2,0,0,0,0,0,38,0,0]),(17,[0,1,0,0,2,0,0,0,0]),(5,[0,1,0,0,15,0,0])]) [(91,Gr),(93,Gq)] (A3 [(40,[2,0]),(18,[0,3,2,0,0,0,0]),(39,[0,3,2,0,0,0,0]),(38,[0,3,2,0,0,0,0,61,0,0]),(32,[0,3,2,0,0,0,0,61,0,0]),(37,[0,3,2,0,0,0,0,61,0,0]),(36,[0,3,2,0,0,0,0,61,0,0]),(35,[0,3,2,0,1,0,61,0,0]),(34,[0,3,2,0,0,1,61,0,0]),(33,[0,3,2,0,0,0,0,61,0,0,9]),(31,[0,3,2,0,0,0,0,4,56,0,0,3]),(30,[0,3,2,0,0,0,0,4,56,0,0]),(29,[0,3,2,0,0,0,0,61,0,0,0]),(28,[0,3,2,0,0,0,0,61,0,0]),(27,[0,3,2,0,0,0,0]),(26,[0,3,2,1,0,0,0]),(25,[0,3,2,0,0,0,0,0,38,0,0]),(24,[0,3,2,0,0,0,0,0,38,0,0]),(23,[0,3,2,0,0,0,0,0,1,36,0,0,5]),(22,[0,3,2,0,0,0,0,0,1,36,0,0]),(21,[0,3,2,0,0,0,0,0,38,0,0,0]),(20,[0,3,2,0,0,0,0,0,38,0,0]),(19,[0,3,2,0,0,0,0,0]),(17,[0,3,2,0,0,0,0,36]),(16,[0,3,2,0,0,0,0]),(15,[0,3,2,0,0,0]),(14,[0,3,2]),(13,[0,3,2,32]),(12,[0,3,2]),(11,[0,3,15,0,0]),(10,[0,3,15,0,0]),(9,[0,3,1,13,0,0,7]),(8,[2,0]),(7,[0,3,1,13,0,0,5]),(6,[0,3,1,13,0,0]),(5,[0,3,15,0,0,0]),(4,[0,3,15,0,0]),(3,[0,3]),(2,[2,0]),(1,[0,18]),(0,[0])]) [91,93] (A3 [(2,[4]),(3,[0,3,2,0,0,0,0]),(6,[0,3,2,0,0,0,0]),(7,[0,3,2,0,0,0,0,61,0,0]),(8,[0,3,2,0,0,0,0,61,0,0]),(4,[0,3,2,0,0,0,0,0]),(5,[0,3,2,0,0,0,0,0,38,0,0]),(0,[0,3]),(1,[0,3,15,0,0])]) (some [2,0]) [(92,DW)] [] [92]
noncomputable def N0 {R:Type} (lf n:Nat) (points_z0 points_t1:Bool) (points2:LL) (n3 n4:Int) (l5:LL) (k0:LL->Option R) (k1:Bool->Bool->LL->LL->Option R):Option R:=match n with | 0=>none | n+1=>cond (ltI n4 n3) (cond (inR n4 points2.length) (cond (okE UP points2 (Int.toNat n4) 0) (vl (gE points2 (Int.toNat n4) 0) λn'1=>cond (not (ptI n'1)) (k0 l5) (cond (ltI n'1 128) (cond (Q5 (l5.length+1)) (N0 lf n points_z0 points_t1 points2 n3 (A5 (n4+1)) (l5++[[(SV.int .u8 (wu8 n'1))]]) k0 k1) none) (N0 lf n points_z0 points_t1 points2 n3 (A5 (n4+1)) l5 k0 k1))) none) none) (k1 points_z0 points_t1 points2 l5)
theorem TP (n points_z0 points_t1 points2 n3 n4 l5):H4 1 ((J1 lf).keep 5) (bd (J1 lf) cl yh (cd [1,1,1,0,1,0,0] Af)) n ⟨gp [(0,.s (.sl points_z0 points_t1 1 points2)),(3,.fl 0),(15,.s (.sl points_z0 points_t1 1 points2)),(0,pI n3),(0,pI n4)] 84,[.arr true 5 1 l5],s⟩ k =
 N0 lf n points_z0 points_t1 points2 n3 n4 l5 (λl0=>k .ret ⟨gp [(2,pS ([]:List UInt8)),(0,pI (2:Int))] 103,[.arr true 5 1 l0],s⟩) (λpoints_z0 points_t1 points2 l3=>k (.exit 0) ⟨gp [(0,.s (.sl points_z0 points_t1 1 points2)),(3,.fl 0)] 102,[.arr true 5 1 l3],s⟩):=by
 induction n generalizing points_z0 points_t1 points2 n3 n4 l5 with
 | zero=>rfl
 | succ n ih=>rw [N0];simp only [<-ih];kernel_rfl
noncomputable def Dh {R:Type} (lf n:Nat) (points_z0 points_t1:Bool) (points2:LL) (basic3 n4 delta5 bias6 done7 m8 n9 n10:Int) (l11:LL) (k0:Bool->Bool->LL->Int->Int->Int->Int->Int->Int->LL->Option R):Option R:=match n with | 0=>none | n+1=>cond (ltI n10 n9) (cond (inR n10 points2.length) (cond (okE UP points2 (Int.toNat n10) 0) (vl (gE points2 (Int.toNat n10) 0) λn'9=>cond (not (ltI n'9 n4)) (vl (if (n'9<m8) then n'9 else m8) λn'10=>Dh lf n points_z0 points_t1 points2 basic3 n4 delta5 bias6 done7 n'10 n9 (A5 (n10+1)) l11 k0) (Dh lf n points_z0 points_t1 points2 basic3 n4 delta5 bias6 done7 m8 n9 (A5 (n10+1)) l11 k0)) none) none) (k0 points_z0 points_t1 points2 basic3 n4 delta5 bias6 done7 m8 l11)
theorem TQ (n points_z0 points_t1 points2 basic3 n4 delta5 bias6 done7 m8 n9 n10 l11):H4 1 ((J1 lf).keep 21) (bd (J1 lf) cl yh (cd [1,1,1,1,1,1,1,0,1,0,0,1,0,0,1,0,1,0,0] Af)) n ⟨gp [(0,.s (.sl points_z0 points_t1 1 points2)),(3,.fl 0),(2,pI basic3),(0,pI n4),(0,pI delta5),(0,pI bias6),(0,pI done7),(0,pI m8),(38,.s (.sl points_z0 points_t1 1 points2)),(0,pI n9),(0,pI n10)] 53,[.arr true 5 1 l11],s⟩ k =
 Dh lf n points_z0 points_t1 points2 basic3 n4 delta5 bias6 done7 m8 n9 n10 l11 (λpoints_z0 points_t1 points2 basic3 n4 delta5 bias6 done7 m8 l9=>k (.exit 4) ⟨gp [(0,.s (.sl points_z0 points_t1 1 points2)),(3,.fl 0),(2,pI basic3),(0,pI n4),(0,pI delta5),(0,pI bias6),(0,pI done7),(0,pI m8)] 94,[.arr true 5 1 l9],s⟩):=by
 induction n generalizing points_z0 points_t1 points2 basic3 n4 delta5 bias6 done7 m8 n9 n10 l11 with
 | zero=>rfl
 | succ n ih=>rw [Dh];simp only [<-ih];kernel_rfl
noncomputable def V4 {R:Type} (lf n:Nat) (points_z0 points_t1:Bool) (points2:LL) (basic3 n4 delta5 bias6 done7 n8v n9:Int) (l10:LL) (k0:Bool->Bool->LL->Int->Int->Int->Int->Int->LL->Option R):Option R:=match n with | 0=>none | n+1=>cond (ltI n9 n8v) (cond (inR n9 points2.length) (cond (okE UP points2 (Int.toNat n9) 0) (vl (gE points2 (Int.toNat n9) 0) λn'26=>cond (ltI n'26 n4) (vl (A5 (delta5+1)) λn'27=>V4 lf n points_z0 points_t1 points2 basic3 n4 n'27 bias6 done7 n8v (A5 (n9+1)) l10 k0) (cond (n'26==n4) (cond (ltN delta5 1152921504606846976) (cond (ltN bias6 1000000) (cond (Nat.ble l10.length 100000) (vl (List.append l10 (List.map I8 (N8 (Int.toNat delta5) 0 (Int.toNat bias6)))) λl'29=>vl (A5 (done7+1)) λn'30=>cond (ltN delta5 1152921504606846976) (cond (ltN n'30 1000000) (cond (ltI 0 n'30) (vl (↑(Bl (Int.toNat delta5) (Int.toNat n'30) (done7==basic3)):Int) λn'31=>vl (A5 (done7+1)) λn'32=>V4 lf n points_z0 points_t1 points2 basic3 n4 0 n'31 n'32 n8v (A5 (n9+1)) l'29 k0) none) none) none) none) none) none) (V4 lf n points_z0 points_t1 points2 basic3 n4 delta5 bias6 done7 n8v (A5 (n9+1)) l10 k0))) none) none) (k0 points_z0 points_t1 points2 basic3 n4 delta5 bias6 done7 l10)
theorem TR (n points_z0 points_t1 points2 basic3 n4 delta5 bias6 done7 n8v n9 l10):H4 1 ((J1 lf).keep 29) (bd (J1 lf) cl yh (cd [1,1,1,1,1,1,1,0,1,0,0,1,0,0,1,1,1,1,0,1,0,0] Af)) n ⟨gp [(0,.s (.sl points_z0 points_t1 1 points2)),(3,.fl 0),(2,pI basic3),(0,pI n4),(0,pI delta5),(0,pI bias6),(0,pI done7),(61,.s (.sl points_z0 points_t1 1 points2)),(0,pI n8v),(0,pI n9)] 31,[.arr true 5 1 l10],s⟩ k =
 V4 lf n points_z0 points_t1 points2 basic3 n4 delta5 bias6 done7 n8v n9 l10 (λpoints_z0 points_t1 points2 basic3 n4 delta5 bias6 done7 l8=>k (.exit 6) ⟨gp [(0,.s (.sl points_z0 points_t1 1 points2)),(3,.fl 0),(2,pI basic3),(0,pI n4),(0,pI delta5),(0,pI bias6),(0,pI done7)] 95,[.arr true 5 1 l8],s⟩):=by
 induction n generalizing points_z0 points_t1 points2 basic3 n4 delta5 bias6 done7 n8v n9 l10 with
 | zero=>rfl
 | succ n ih=>rw [V4];simp only [<-ih];kernel_rfl
noncomputable def Aw {R:Type} (lf n:Nat) (points_z0 points_t1:Bool) (points2:LL) (basic3 n4 delta5 bias6 done7:Int) (l8:LL) (k0:LL->Option R):Option R:=match n with | 0=>none | n+1=>cond (ltI done7 (points2.length:Int)) (Dh lf lf points_z0 points_t1 points2 basic3 n4 delta5 bias6 done7 1114112 (points2.length:Int) 0 l8 (λpoints_z'11 points_t'12 points'13 basic'14 n'15 delta'16 bias'17 done'18 m'19 l'20=>vl (A5 (done'18+1)) λn'23=>vl (A5 ((A5 (m'19-n'15))*n'23)) λn'24=>V4 lf lf points_z'11 points_t'12 points'13 basic'14 m'19 (A5 (delta'16+n'24)) bias'17 done'18 (points'13.length:Int) 0 l'20 (λpoints_z'33 points_t'34 points'35 basic'36 n'37 delta'38 bias'39 done'40 l'41=>vl (A5 (delta'38+1)) λn'42=>vl (A5 (n'37+1)) λn'43=>Aw lf n points_z'33 points_t'34 points'35 basic'36 n'43 n'42 bias'39 done'40 l'41 k0))) (k0 l8)
theorem Xe (n points_z0 points_t1 points2 basic3 n4 delta5 bias6 done7 l8):H4 1 ((J1 lf).keep 17) (bd (J1 lf) cl yh (cd [1,1,1,1,1,1,1,0,1,0,0] Af)) n ⟨gp [(0,.s (.sl points_z0 points_t1 1 points2)),(3,.fl 0),(2,pI basic3),(0,pI n4),(0,pI delta5),(0,pI bias6),(0,pI done7)] 95,[.arr true 5 1 l8],s⟩ k =
 Aw lf n points_z0 points_t1 points2 basic3 n4 delta5 bias6 done7 l8 (λl0=>k (.exit 2) ⟨gp [(4,.fl 0)] 102,[.arr true 5 1 l0],s⟩):=by
 induction n generalizing points_z0 points_t1 points2 basic3 n4 delta5 bias6 done7 l8 with
 | zero=>rfl
 | succ n ih=>rw [Aw];exact (Eq.trans (by kernel_rfl) (A0 ((TQ lf cl yh s (O4 4 (P3 (J1 lf) cl yh (cd [1,1,1,1,1,1,1,0,1,0,0,1,0,0,1,1] Af) (O4 3 (P3 (J1 lf) cl yh (cd [1,1,1,1,1,1,1,0,1,0,0,1,1] Af) (lpK 1 ((J1 lf).keep 17) (bd (J1 lf) cl yh (cd [1,1,1,1,1,1,1,0,1,0,0] Af)) n k))))) lf points_z0 points_t1 points2 basic3 n4 delta5 bias6 done7 1114112 (points2.length:Int) 0 l8).trans (congr rfl (Br6 λpoints_z'11 points_t'12 points'13 basic'14 n'15 delta'16 bias'17 done'18 m'19 l'20=>(Eq.trans (by kernel_rfl) (B9 λn'23=>(B9 λn'24=>((TR lf cl yh s (O4 6 (P3 (J1 lf) cl yh (cd [1,1,1,1,1,1,1,0,1,0,0,1,0,0,1,1,1,1,1] Af) (O4 3 (P3 (J1 lf) cl yh (cd [1,1,1,1,1,1,1,0,1,0,0,1,1] Af) (lpK 1 ((J1 lf).keep 17) (bd (J1 lf) cl yh (cd [1,1,1,1,1,1,1,0,1,0,0] Af)) n k))))) lf points_z'11 points_t'12 points'13 basic'14 m'19 (A5 (delta'16+n'24)) bias'17 done'18 (points'13.length:Int) 0 l'20).trans (congr rfl (fx9 λpoints_z'33 points_t'34 points'35 basic'36 n'37 delta'38 bias'39 done'40 l'41=>(Eq.trans (by kernel_rfl) (B9 λn'42=>(B9 λn'43=>(ih points_z'33 points_t'34 points'35 basic'36 n'43 n'42 bias'39 done'40 l'41))))))))))))) rfl))
noncomputable def MD {R:Type} (lf:Nat) (p_z p_t:Bool) (p:LL) (k0:Unit->Option R) (k1:By->Int->LL->Option R):Option R:=cond (ltI 256 (p.length:Int)) (k0 ()) (N0 lf lf p_z p_t p (p.length:Int) 0 [] (λl'2=>k1 ([]:List UInt8) 2 l'2) (λpoints_z'3 points_t'4 points'5 l'6=>vl (l'6.length:Int) λn'8=>cond (ltI 0 n'8) (cond (Q5 (l'6.length+1)) (Aw lf lf points_z'3 points_t'4 points'5 n'8 128 0 72 n'8 (l'6++[[(SV.int .u8 (45:Int))]]) (λl'44=>cond (List.all l'44 RM) (k1 (List.map KD l'44) 0 l'44) none)) none) (Aw lf lf points_z'3 points_t'4 points'5 n'8 128 0 72 n'8 l'6 (λl'45=>cond (List.all l'45 RM) (k1 (List.map KD l'45) 0 l'45) none))))
theorem A65 (d:Nat) (p_z p_t p):evC (J1 lf) (d+1) σ yh 80 [.s (.sl p_z p_t 1 p)] [] s=MD lf p_z p_t p (λ_=>some (.tup [pS ([]:List UInt8),pI (3:Int)],[],s)) (λr0 r1 l2=>some (.tup [pS r0,pI r1],[.arr true 5 1 l2],s)):=by
 refine (evE (fn:=Tryz.f80) (by kernel_rfl)).trans ?_
 generalize evC (J1 lf) d=cl
 unfold MD;exact let K0:=(O4 2 (P3 (J1 lf) cl yh (cd [1,1,1,1,1,1,1,1] Af) (J6 (J1 lf) Tryz.f80)));(Eq.trans (by kernel_rfl) (A0 rfl ((TP lf cl yh s (O4 0 (P3 (J1 lf) cl yh (cd [1,1,1,1] Af) (J6 (J1 lf) Tryz.f80))) lf p_z p_t p (p.length:Int) 0 []).trans (congr (congr rfl (by kernel_rfl)) (fx4 λpoints_z'3 points_t'4 points'5 l'6=>(Eq.trans (by kernel_rfl) (B9 λn'8=>(A0 (A0 ((Xe lf cl yh s K0 lf points_z'3 points_t'4 points'5 n'8 128 0 72 n'8 (l'6++[[(SV.int .u8 (45:Int))]])).trans (by kernel_rfl)) rfl) ((Xe lf cl yh s K0 lf points_z'3 points_t'4 points'5 n'8 128 0 72 n'8 l'6).trans (by kernel_rfl))))))))))
end
theorem Xw (k b:Nat):S9 ((36*k:Nat):Int) (b:Int)=(thr k b:Int):=by
 unfold S9 thr
 omega
theorem Aa7 {R:Type} {k0:Int->Option R} (b:Int):Bi2 LF b k0=k0 b:=rfl
theorem TV {R:Type} {k0:Int->Int->Int->Option R} (k b:Int) (h0:ltN k 1000000000000=true) (h1:ltN b 1000000=true):WT LF k b k0=k0 (S9 k b) (Int.add k 36) b:=by
 obtain ⟨a0,a1⟩:=G4.1 h0
 obtain ⟨b0,b1⟩:=G4.1 h1
 unfold WT
 have e1:A5 (k+36)=k+36:=B1
 have e2:A5 (k+36-b)=k+36-b:=B1
 simp only [vl,e1,e2]
 have:(if (26:Int)<(if (1:Int) > k+36-b then (1:Int) else k+36-b) then (26:Int) else (if (1:Int) > k+36-b then (1:Int) else k+36-b))=S9 k b:=by
  unfold S9
  omega
 grind
theorem Pk {q k b:Nat} (h:q<thr k b):N8 q k b=[Ha q]:=by rw [N8,dif_pos h]
theorem AU {q k b:Nat} (h:¬ q<thr k b):N8 q k b=Ha (thr k b+(q-thr k b) % (36-thr k b))::N8 ((q-thr k b) / (36-thr k b)) (k+1) b:=by rw [N8,dif_neg h]
theorem VZ {x y m:Nat} (hy:10<=y) (h:x<10*m):x / y<m:=by
 have h1:x / y<=x / 10:=Nat.div_le_div_left hy (by omega)
 omega
theorem QW (b:Nat):∀ (r q k:Nat),q<10 ^ r->(N8 q k b).length<=r+1:=by
 intro r
 induction r with
 | zero=>
  intro q k h
  have ht:=Y7 k b
  rw [Pk (by simp at h;omega)]
  simp
 | succ r ih=>
  intro q k h
  have ht:=Y7 k b
  by_cases hq:q<thr k b
  ·rw [Pk hq];simp
  ·rw [AU hq,List.length_cons]
   have:=ih ((q-thr k b) / (36-thr k b)) (k+1) (VZ (by omega) (by rw [Nat.pow_succ] at h;omega))
   omega
theorem ZY (z:Bool) (b:Nat) (hb:b<1000000):∀ (r q k n:Nat) (l:LL),q<10 ^ r->q<1152921504606846976->k+r<=1000->r<n->l.length+r<=200000->
  ∃ (n2 n3:Int),∀ (R:Type) (k0:Bool->LL->Int->Int->Option R),Df LF n (q:Int) z l (b:Int) ((36*k:Nat):Int) k0=k0 z (l++(N8 q k b).map I8) n2 n3:=by
 have fin:∀ (q k n:Nat) (l:LL),q<thr k b->k<=1000->l.length<=200000->∃ (n2 n3:Int),∀ (R:Type) (k0:Bool->LL->Int->Int->Option R),Df LF (n+1) (q:Int) z l (b:Int) ((36*k:Nat):Int) k0=k0 z (l++(N8 q k b).map I8) n2 n3:=by
  intro q k n l hq hk hl
  have ht:=Y7 k b
  refine ⟨(b:Int),Int.add ((36*k:Nat):Int) 36,λR k0=>?_⟩
  rw [Df]
  rw [Al,Al,Xw,C7,Al,Pk hq]
  simp only [vl,cond_true,Int.toNat_natCast]
  rw [V5 (by omega)]
  rfl
 intro r
 induction r with
 | zero=>
  intro q k n l h _ hk hn hl
  have ht:=Y7 k b
  obtain ⟨n,rfl⟩:∃ m,n=m+1:=⟨n-1,by omega⟩
  exact fin q k n l (by simp at h;omega) (by omega) (by omega)
 | succ r ih=>
  intro q k n l h hq60 hk hn hl
  have ht:=Y7 k b
  obtain ⟨n,rfl⟩:∃ m,n=m+1:=⟨n-1,by omega⟩
  by_cases hq:q<thr k b
  ·exact fin q k n l hq (by omega) (by omega)
  ·have hd:(q-thr k b) / (36-thr k b)<10 ^ r:=VZ (by omega) (by rw [Nat.pow_succ] at h;omega)
   have hd2:(q-thr k b) / (36-thr k b)<=q:=Nat.le_trans (Nat.div_le_self _ _) (by omega)
   have hm2:(q-thr k b) % (36-thr k b)<36-thr k b:=Nat.mod_lt _ (by omega)
   obtain ⟨n2,n3,e⟩:=ih ((q-thr k b) / (36-thr k b)) (k+1) n (l++[I8 (Ha (thr k b+(q-thr k b) % (36-thr k b)))]) hd (by omega) (by omega) (by omega) (by rw [List.length_append,List.length_singleton];omega)
   refine ⟨n2,n3,λR k0=>?_⟩
   rw [Df]
   have c1:A5 ((q:Int)-(thr k b:Int))=((q-thr k b:Nat):Int):=by rw [B1];omega
   have c2:A5 ((36:Int)-(thr k b:Int))=((36-thr k b:Nat):Int):=by rw [B1];omega
   have c3:Int.tmod ((q-thr k b:Nat):Int) ((36-thr k b:Nat):Int)=(((q-thr k b) % (36-thr k b):Nat):Int):=Xy _ _
   have c4:Int.tdiv ((q-thr k b:Nat):Int) ((36-thr k b:Nat):Int)=(((q-thr k b) / (36-thr k b):Nat):Int):=W3 _ _
   have c7:((((36-thr k b:Nat):Int)) != 0)=true:=by rw [bne_iff_ne];omega
   rw [Al,Al,Xw,B6]
   simp only [vl,c1,c2,c3,c4,c7,cond_true,cond_false]
   rw [AU hq]
   generalize hA:(q-thr k b) / (36-thr k b)=A at *
   generalize hB:(q-thr k b) % (36-thr k b)=B at *
   have c5:A5 ((thr k b:Int)+(B:Int))=((thr k b+B:Nat):Int):=by rw [B1];rfl
   have c6:A5 (A:Int)=(A:Int):=B1
   rw [c5,c6,Al,V5 (by omega),Int.toNat_natCast,show Int.add ((36*k:Nat):Int) 36=((36*(k+1):Nat):Int) from (by show ((36*k:Nat):Int)+36=_;omega)]
   refine Eq.trans (e R k0) ?_
   simp [List.append_assoc]
theorem ZZ (q b:Int) (z:Bool) (l:LL) (h0:ltN q 1152921504606846976=true) (h1:ltN b 1000000=true) (h2:Nat.ble l.length 100000=true) :
  ∃ (n2 n3:Int),∀ (R:Type) (k0:Bool->LL->Int->Int->Option R),Bi0 LF q b z l k0=k0 z (List.append l ((N8 q.toNat 0 b.toNat).map I8)) n2 n3:=by
 obtain ⟨a0,a1⟩:=G4.1 h0
 obtain ⟨b0,b1⟩:=G4.1 h1
 obtain ⟨q,rfl⟩:=Int.eq_ofNat_of_zero_le a0
 obtain ⟨b,rfl⟩:=Int.eq_ofNat_of_zero_le b0
 have hl:=Nat.le_of_ble_eq_true h2
 have hLF:=K9
 obtain ⟨n2,n3,e⟩:=ZY z b (by omega) 19 q 0 LF l (by omega) (by omega) (by omega) (by omega) (by omega)
 exact ⟨n2,n3,λR k0=>e R _⟩
def Es (l:List Int):LL:=l.map λx=>[SV.int .i64 x]
def F3 (l:List Nat):LL:=l.map λx:Nat=>[SV.int .i64 (x:Int)]
theorem Qb (l:List Nat):Es (l.map λn:Nat=>(n:Int))=F3 l:=by simp [Es,F3,Function.comp_def]
theorem Et (l:List Int):(Es l).length=l.length:=by simp [Es]
theorem K7 (l:List Nat):(F3 l).length=l.length:=by simp [F3]
theorem Aq3 (a b:List Nat):F3 (a++b)=F3 a++F3 b:=by simp [F3]
theorem WR {l:List Int} {i:Nat} (h:i<l.length):okE UP (Es l) i 0=true:=by
 unfold okE Es UP
 simp [List.getD_eq_getElem?_getD,h,okS,SV.has]
theorem An7 (l:List Int) (i:Nat) (h:i<l.length):gE (Es l) i 0=l.getD i 0:=by
 unfold gE gC Es
 simp [List.getD_eq_getElem?_getD,List.getElem?_eq_getElem h,SV.gI]
theorem HN {l:List Nat} {i:Nat} (h:i<l.length):okE UP (F3 l) i 0=true:=by
 rw [<-Qb];exact WR (by simpa using h)
theorem RC (l:List Nat) (i:Nat) (h:i<l.length):gE (F3 l) i 0=(l.getD i 0:Int):=by
 rw [<-Qb,An7 _ _ (by simpa using h)]
 grind
theorem A23 {l:LL} (h:l.all BD=true):∃ P:List Int,l=Es P:=by
 induction l with
 | nil=>exact ⟨[],rfl⟩
 | cons x r ih=>
  simp only [List.all_cons,Bool.and_eq_true] at h
  obtain ⟨P,rfl⟩:=ih h.2
  have hx:=h.1
  unfold BD at hx
  split at hx
  ·rename_i n
   exact ⟨n::P,rfl⟩
  ·cases hx
theorem An0 (P:List Int):(Es P).map elI=P:=by
 unfold Es
 rw [List.map_map]
 conv=>rhs;rw [<-List.map_id P]
 apply List.map_congr_left
 intro x _
 simp [elI,SV.gI]
theorem Am8 (l:List Int) (i:Nat) (h:i<l.length):l.drop i=l.getD i 0::l.drop (i+1):=by simp_all
theorem KC (l:List Nat) (i:Nat) (h:i<l.length):l.drop i=l.getD i 0::l.drop (i+1):=by simp_all
theorem Aw8:∀ (r d k:Nat),d<456*35 ^ r->Uw d k<=k+36*r+36:=by
 intro r
 induction r with
 | zero=>
  intro d k h
  rw [Ux (by simp at h;omega)]
  have:36*d / (d+38)<=36:=by
   apply Nat.div_le_of_le_mul
   omega
  omega
 | succ r ih=>
  intro d k h
  by_cases hd:455<d
  ·rw [JA hd]
   grind
  grind
theorem JB (d c:Nat) (f:Bool) (h:d<1152921504606846976):Bl d c f<=500:=by
 unfold Bl
 have hx:∀ x:Nat,x<=d->Uw (x+x / c) 0<=500:=by
  intro x hx
  have:=Nat.div_le_self x c
  have:=Aw8 11 (x+x / c) 0 (by omega)
  omega
 grind
theorem YC {q k b:Nat} (h:q<1152921504606846976):(N8 q k b).length<=20:=QW b 19 q k (by omega)
theorem A66 (z t:Bool) (pts:List Nat) (basic m:Nat) (hm:m<=1114112) (hl:pts.length<=256):∀ (r i n:Nat) (s:XL),i+r=pts.length->r<n->s.delta+r<=1000000000000->s.bias<=500->s.out.length+20*r<=90000->s.done+r<=1000->basic<=256->
  (∀ (R:Type) (k0:Bool->Bool->LL->Int->Int->Int->Int->Int->LL->Option R),V4 LF n z t (F3 pts) (basic:Int) (m:Int) (s.delta:Int) (s.bias:Int) (s.done:Int) (pts.length:Int) (i:Int) (s.out.map I8) k0 =
   k0 z t (F3 pts) (basic:Int) (m:Int) ((L6 m basic (pts.drop i) s).delta:Int) ((L6 m basic (pts.drop i) s).bias:Int) ((L6 m basic (pts.drop i) s).done:Int) ((L6 m basic (pts.drop i) s).out.map I8))/\
  (L6 m basic (pts.drop i) s).bias<=500/\(L6 m basic (pts.drop i) s).out.length<=s.out.length+20*(pts.drop i).countP (· == m)/\(L6 m basic (pts.drop i) s).done=s.done+(pts.drop i).countP (· == m)/\
  (L6 m basic (pts.drop i) s).delta<=(if 0<(pts.drop i).countP (· == m) then r else s.delta+r):=by
 intro r
 induction r with
 | zero=>
  intro i n s hi hn h1 h2 h3 h4 hb
  obtain ⟨n,rfl⟩:∃ m,n=m+1:=⟨n-1,by omega⟩
  rw [List.drop_of_length_le (by omega)]
  refine ⟨λR k0=>?_,h2,by simp [L6],by simp [L6],by simp [L6]⟩
  rw [V4]
  rw [B6]
  rfl
 | succ r ih=>
  intro i n s hi hn h1 h2 h3 h4 hb
  obtain ⟨n,rfl⟩:∃ m,n=m+1:=⟨n-1,by omega⟩
  rw [KC pts i (by omega)]
  have hg:=RC pts i (by omega)
  have ok:=HN (l:=pts) (i:=i) (by omega)
  generalize pts.getD i 0=p at *
  have e1:A5 ((i:Int)+1)=((i+1:Nat):Int):=by rw [B1];rfl
  have e2:A5 ((s.delta:Int)+1)=((s.delta+1:Nat):Int):=by rw [B1];rfl
  have e3:A5 ((s.done:Int)+1)=((s.done+1:Nat):Int):=by rw [B1];rfl
  by_cases hp:p<m
  ·have hne:(p==m)=false:=by rw [beq_eq_false_iff_ne];omega
   have hs:L6 m basic (p::pts.drop (i+1)) s=L6 m basic (pts.drop (i+1)) { s with delta:=s.delta+1 }:=by rw [L6,if_pos hp]
   obtain ⟨q1,q2,q3,q4,q5⟩:=ih (i+1) n { s with delta:=s.delta+1 } (by omega) (by omega) (by simp only;omega) h2 (by simp only;omega) (by simp only;omega) hb
   rw [hs,List.countP_cons_of_neg (by rw [hne];simp)]
   refine ⟨λR k0=>?_,q2,q3,q4,?_⟩
   ·rw [V4]
    rw [C7,K7,Ak,Int.toNat_natCast,ok]
    simp only [cond_true,vl,hg,e1,e2]
    rw [C7,cond_true]
    exact q1 R k0
   ·simp only at q5
    split at q5<;>split<;>omega
  ·by_cases hq:p=m
   ·subst hq
    have hn20:=YC (q:=s.delta) (k:=0) (b:=s.bias) (by omega)
    have had:=JB s.delta (s.done+1) (s.done==basic) (by omega)
    have hs:L6 p basic (p::pts.drop (i+1)) s=L6 p basic (pts.drop (i+1)) { delta:=0,bias:=Bl s.delta (s.done+1) (s.done==basic),done:=s.done+1,out:=s.out++N8 s.delta 0 s.bias }:=by rw [L6,if_neg hp,if_pos rfl]
    obtain ⟨q1,q2,q3,q4,q5⟩:=ih (i+1) n { delta:=0,bias:=Bl s.delta (s.done+1) (s.done==basic),done:=s.done+1,out:=s.out++N8 s.delta 0 s.bias } (by omega) (by omega) (by simp only;omega) had (by simp only [List.length_append];omega) (by simp only;omega) hb
    rw [hs,List.countP_cons_of_pos (by simp)]
    refine ⟨λR k0=>?_,q2,?_,?_,?_⟩
    ·rw [V4]
     have hbeq:((s.done:Int)==(basic:Int))=(s.done==basic):=by grind
     rw [C7,K7,Ak,Int.toNat_natCast,ok]
     simp only [cond_true,vl,hg,e1,e3]
     rw [B6,cond_false,beq_self_eq_true,cond_true,Al,Al,List.length_map,Nat.ble_eq_true_of_le (show s.out.length<=100000 by omega),Al,C7,hbeq]
     simp only [cond_true,Int.toNat_natCast]
     have hrow:List.append (s.out.map I8) ((N8 s.delta 0 s.bias).map I8)=(s.out++N8 s.delta 0 s.bias).map I8:=by rw [List.map_append];rfl
     rw [hrow]
     exact q1 R k0
    ·simp only [List.length_append] at q3;omega
    ·simp only at q4;omega
    ·simp only at q5
     rw [Me]
     split at q5<;>omega
   ·have hne:(p==m)=false:=by rw [beq_eq_false_iff_ne];omega
    have hs:L6 m basic (p::pts.drop (i+1)) s=L6 m basic (pts.drop (i+1)) s:=by rw [L6,if_neg hp,if_neg hq]
    obtain ⟨q1,q2,q3,q4,q5⟩:=ih (i+1) n s (by omega) (by omega) (by omega) h2 (by omega) (by omega) hb
    rw [hs,List.countP_cons_of_neg (by rw [hne];simp)]
    refine ⟨λR k0=>?_,q2,q3,q4,?_⟩
    ·rw [V4]
     rw [C7,K7,Ak,Int.toNat_natCast,ok]
     simp only [cond_true,vl,hg,e1]
     rw [B6,cond_false,show ((p:Int)==(m:Int))=false by rw [beq_eq_false_iff_ne];omega,cond_false]
     exact q1 R k0
    ·split at q5<;>split<;>omega
theorem TS {R:Type} {k0:Bool->Bool->LL->Int->Int->Int->Int->Int->Int->LL->Option R} (z t:Bool) (pts:List Nat) (hl:pts.length<=256) (n0:Nat) (basic delta bias done:Int) (l:LL):∀ (r i n m:Nat),i+r=pts.length->r<n->
  Dh LF n z t (F3 pts) basic (n0:Int) delta bias done (m:Int) (pts.length:Int) (i:Int) l k0=k0 z t (F3 pts) basic (n0:Int) delta bias done ((N9 n0 (pts.drop i) m:Nat):Int) l:=by
 intro r
 induction r with
 | zero=>
  intro i n m hi hn
  obtain ⟨n,rfl⟩:∃ m,n=m+1:=⟨n-1,by omega⟩
  rw [Dh]
  rw [B6,List.drop_of_length_le (by omega)]
  rfl
 | succ r ih=>
  intro i n m hi hn
  obtain ⟨n,rfl⟩:∃ m,n=m+1:=⟨n-1,by omega⟩
  have hg:=RC pts i (by omega)
  have ok:=HN (l:=pts) (i:=i) (by omega)
  rw [Dh,KC pts i (by omega)]
  generalize pts.getD i 0=p at *
  have e1:A5 ((i:Int)+1)=((i+1:Nat):Int):=by rw [B1];rfl
  rw [C7,K7,Ak,Int.toNat_natCast,ok]
  simp only [cond_true,vl,hg,e1,N9]
  by_cases h:n0<=p
  ·rw [if_pos h,B6,Bool.not_false,cond_true]
   have:(if (p:Int)<(m:Int) then (p:Int) else (m:Int))=((min m p:Nat):Int):=by split<;>omega
   rw [this]
   exact ih (i+1) n (min m p) (by omega) (by omega)
  ·rw [if_neg h,C7,Bool.not_true,cond_false]
   exact ih (i+1) n m (by omega) (by omega)
theorem Rj (n:Nat):∀ (l:List Nat) (m:Nat),(N9 n l m=m\/(N9 n l m∈l/\n<=N9 n l m))/\N9 n l m<=m/\∀ p∈l,n<=p->N9 n l m<=p
 | [],m=>⟨.inl rfl,Nat.le_refl _,λp h=>by cases h⟩
 | q::r,m=>by
  obtain ⟨h1,h2,h3⟩:=Rj n r (if n<=q then min m q else m)
  simp only [N9]
  grind
section
variable {σ R : Type} (lf : Nat) (cl : D0) (yh : Yh σ) (s : σ) (k : Out -> St σ -> Option R)
noncomputable abbrev Be8:Code:=E6 Tryz.f101
noncomputable def Pa (lf:Nat):Cfg:=C0 lf [101] (A3 [(3,[0,1,0,0])]) [(103,Un),(109,NX)] (A3 [(17,[2]),(16,[0,2,0,53]),(15,[0,2,0]),(14,[2]),(13,[0,2,0,1,45]),(12,[0,2,0,0,0]),(11,[2]),(10,[0,2,0,0,41]),(9,[0,2,0,0]),(8,[0,2,0,0]),(7,[2]),(6,[0,2,0,0,18]),(5,[0,2,0,0]),(4,[2]),(3,[0,2,0,11]),(2,[0,2,0]),(1,[0,2]),(0,[0])]) [109] (A3 [(0,[2]),(1,[0,2,0])]) (some [2]) [(112,Hy)] [] [112]
noncomputable def Ar {R:Type} (lf n:Nat) (w0:Int) (s1:By) (n2 n3 n4:Int) (b5 z6:Bool) (l7:LL) (n8v:Int) (k0:Int->By->Int->Int->Int->Bool->Bool->LL->Int->Option R):Option R:=match n with | 0=>none | n+1=>cond (s1==[]) (k0 4 s1 n2 n3 n4 b5 z6 l7 n8v) (cond (inR 0 s1.length) (cond (inR (bAt s1 (0:Int)) 256) (vl (G1 (u8n (bAt s1 (0:Int)))) λn'1=>cond (ltI n'1 0) (k0 4 s1 n2 n3 n4 b5 z6 l7 n8v) (cond (Cu 1 (s1.length:Int) s1.length) (vl (cut s1 1 (s1.length:Int)) λs'3=>vl (A5 (n3+(A5 (n'1*w0)))) λn'5=>cond (ltI 1099511627776 n'5) (k0 19 s'3 n2 n'5 n4 b5 z6 l7 n8v) (cond (ltN n8v 1000000000000) (cond (ltN n4 1000000) (cond (ltI n'1 (S9 n8v n4)) (k0 0 s'3 n2 n'5 n4 b5 z6 l7 (Int.add n8v (36:Int))) (vl (A5 ((36:Int)-(S9 n8v n4))) λn'6=>cond (ltI 1099511627776 (A5 (w0*n'6))) (k0 19 s'3 n2 n'5 n4 b5 z6 l7 (Int.add n8v (36:Int))) (Ar lf n (A5 (w0*n'6)) s'3 n2 n'5 n4 b5 z6 l7 (Int.add n8v (36:Int)) k0))) none) none)) none)) none) none)
theorem QT (n w0 s1 n2 n3 n4 b5 z6 l7 n8v):H4 4 ((Pa lf).keep 3) (bd (Pa lf) cl yh (cd [1,1,1,0,0] Be8)) n ⟨gp [(0,.ptr 0 0 0),(2,.fnr (Fn.func 112) [] [.ptr 3 0 0,.ptr 2 0 0]),(0,pI w0)] 54,[.box [pS s1,.fl 1,pI n2,pI n3,pI n4,pB b5],.arr z6 3 1 l7,.box [pI n4],.box [pI n8v]],s⟩ k =
 Ar lf n w0 s1 n2 n3 n4 b5 z6 l7 n8v (λn0 s1 n2 n3 n4 b5 z6 l7 n8v=>k .ret ⟨gp [(2,pI n0)] 56,[.box [pS s1,.fl 1,pI n2,pI n3,pI n4,pB b5],.arr z6 3 1 l7,.box [pI n4],.box [pI n8v]],s⟩):=by
 induction n generalizing w0 s1 n2 n3 n4 b5 z6 l7 n8v with
 | zero=>rfl
 | succ n ih=>rw [Ar];simp only [<-ih];kernel_rfl
noncomputable def Bf8 {R:Type} (lf:Nat) (rest:By) (n i b:Int) (st z:Bool) (l:LL) (k0:Int->By->Int->Int->Int->Bool->Bool->LL->Int->Option R):Option R:=Ar lf lf 1 rest n i b st z l 0 (λn'7 s'8 n'9 n'10 n'11 b'12 z'13 l'14 n'15=>k0 n'7 s'8 n'9 n'10 n'11 b'12 z'13 l'14 n'15)
theorem A08 (d:Nat) (rest n i b st z l):evC (Pa lf) (d+1) σ yh 101 [.ptr 0 0 0] [.box [pS rest,.fl 1,pI n,pI i,pI b,pB st],.arr z 3 1 l] s=Bf8 lf rest n i b st z l (λr0 s1 n2 n3 n4 b5 z6 l7 n8v=>some (pI r0,[.box [pS s1,.fl 1,pI n2,pI n3,pI n4,pB b5],.arr z6 3 1 l7,.box [pI n4],.box [pI n8v]],s)):=by
 refine (evE (fn:=Tryz.f101) (by kernel_rfl)).trans ?_
 generalize evC (Pa lf) d=cl
 unfold Bf8;exact (Eq.trans (by kernel_rfl) ((QT lf cl yh s (O4 0 (J6 (Pa lf) Tryz.f101)) lf 1 rest n i b st z l 0).trans (by kernel_rfl)))
noncomputable def FF (lf:Nat):Cfg:=C0 lf [90] (A3 []) [(93,Gq),(91,Gr)] (A3 [(16,[2]),(15,[]),(14,[0]),(13,[2]),(12,[0,67]),(11,[2]),(10,[0,4,60]),(9,[0,4]),(8,[0,4]),(7,[0,4]),(6,[0,4]),(5,[0,2,1]),(4,[2]),(3,[0,2,0,8]),(2,[0,2,0]),(1,[0,2]),(0,[0])]) [93,91] (A3 []) (some [2]) [(101,DA),(102,EM)] [] [101,102]
noncomputable def WA {R:Type} (lf:Nat) (rest:By) (n i b:Int) (st z:Bool) (l:LL) (k0:Int->By->Int->Int->Int->Bool->Bool->LL->Option R):Option R:=cond (A2 rest.length) (cond (ltN b 1000000) (cond (ltN i 1099511627777) (cond ((Wu b rest i) != 0) (k0 (Wu b rest i) (Wv b rest i) n (Kp b rest i) b st z l) (vl (A5 ((l.length:Int)+1)) λn'1=>vl (A5 ((Kp b rest i)-i)) λn'4=>cond (ltN n'4 1152921504606846976) (cond (ltN n'1 1000000) (cond (ltI 0 n'1) (vl (↑(Bl (Int.toNat n'4) (Int.toNat n'1) (not st)):Int) λn'5=>cond (n'1 != 0) (vl (A5 (Int.tdiv (Kp b rest i) n'1)) λn'7=>cond (n'1 != 0) (vl (Int.tmod (Kp b rest i) n'1) λn'9=>cond (not (ptI (A5 (n+n'7)))) (k0 2 (Wv b rest i) (A5 (n+n'7)) n'9 n'5 true z l) (cond (ltI 256 n'1) (k0 3 (Wv b rest i) (A5 (n+n'7)) n'9 n'5 true z l) (cond (ltN n'9 (Nat.add l.length 1)) (cond (Nat.ble l.length 100000) (vl (Fs l (Int.toNat n'9) (A5 (n+n'7))) λl'11=>k0 0 (Wv b rest i) (A5 (n+n'7)) (A5 (n'9+1)) n'5 true z l'11) none) none))) none) none) none) none) none)) none) none) none
theorem Am9 (d:Nat) (rest n i b st z l):evC (FF lf) (d+1) σ yh 90 [.ptr 0 0 0] [.box [pS rest,.fl 1,pI n,pI i,pI b,pB st],.arr z 3 1 l] s=WA lf rest n i b st z l (λr0 s1 n2 n3 n4 b5 z6 l7=>some (pI r0,[.box [pS s1,.fl 1,pI n2,pI n3,pI n4,pB b5],.arr z6 3 1 l7],s)):=by
 refine (evE (fn:=Tryz.f90) (by kernel_rfl)).trans ?_
 generalize evC (FF lf) d=cl
 unfold WA;kernel_rfl
noncomputable abbrev Kb:Code:=E6 Tryz.f79
noncomputable def Q6 (lf:Nat):Cfg:=C0 lf [79] (A3 [(20,[2,0,1]),(13,[0,1,0,1,0,22,0]),(4,[0,1,0,9,0])]) [(35,Su)] (A3 [(24,[2,0]),(23,[2,0]),(22,[5,2,59]),(21,[5,2]),(20,[5,58]),(19,[2,0]),(18,[5,53]),(17,[5]),(16,[0,4,0,22,0]),(15,[0,4,0,22,0]),(14,[0,4,0,0,21,0]),(13,[0,4,0,22,0,0]),(12,[0,4,0,22,0]),(11,[0,4,0,21]),(10,[0,4,0]),(9,[0,4]),(8,[0,12,0]),(7,[2,0]),(6,[0,12,0,5]),(5,[0,3,8,0]),(4,[0,12,0,0]),(3,[0,12,0]),(2,[2,0]),(1,[0,10]),(0,[0])]) [35] (A3 [(4,[5]),(5,[5]),(2,[0,4,0]),(3,[0,4,0,22,0]),(0,[0]),(1,[0,12,0])]) (some [2,0]) [(90,Ss)] [] [90] (nt:=[(132,1,3,1)])
noncomputable def Fy {R:Type} (lf n:Nat) (s0:By) (n1 n2:Int) (k0:Unit->Option R) (k1:By->Option R):Option R:=match n with | 0=>none | n+1=>cond (ltI n2 n1) (cond (inR n2 s0.length) (cond (not (ltI (bAt s0 n2) (128:Int))) (k0 ()) (Fy lf n s0 n1 (A5 (n2+1)) k0 k1)) none) (k1 s0)
theorem TL (n s0 n1 n2):H4 0 ((Q6 lf).keep 4) (bd (Q6 lf) cl yh (cd [1,1,0,1,0,0] Kb)) n ⟨gp [(0,pS s0),(12,pI n1),(0,pI n2)] 59,[],s⟩ k =
 Fy lf n s0 n1 n2 (λ_=>k .ret ⟨gp [(2,.fl 0),(0,pI (4:Int))] 70,[.arr true 3 1 []],s⟩) (λs0=>k (.exit 0) ⟨gp [(0,pS s0)] 73,[],s⟩):=by
 induction n generalizing s0 n1 n2 with
 | zero=>rfl
 | succ n ih=>rw [Fy];simp only [<-ih];kernel_rfl
noncomputable def Dg {R:Type} (lf n:Nat) (s0:By) (kk1 n2:Int) (l3:LL) (k0:By->Int->LL->Option R):Option R:=match n with | 0=>none | n+1=>cond (ltI n2 kk1) (cond (inR n2 s0.length) (cond (Q5 (l3.length+1)) (Dg lf n s0 kk1 (A5 (n2+1)) (l3++[[(SV.int .i64 (A5 (bAt s0 n2)))]]) k0) none) none) (k0 s0 kk1 l3)
theorem TM (n s0 kk1 n2 l3):H4 2 ((Q6 lf).keep 13) (bd (Q6 lf) cl yh (cd [1,1,1,1,0,1,1,0,0,1,0,0] Kb)) n ⟨gp [(0,pS s0),(4,.ptr 1 0 0),(0,pI kk1),(22,pI kk1),(0,pI n2)] 43,[.arr true 3 1 l3,.box [pS s0,.fl 0,pI (128:Int),pI (0:Int),pI (72:Int),pB false]],s⟩ k =
 Dg lf n s0 kk1 n2 l3 (λs0 kk1 l2=>k (.exit 2) ⟨gp [(0,pS s0),(4,.ptr 1 0 0),(0,pI kk1)] 67,[.arr true 3 1 l2,.box [pS s0,.fl 0,pI (128:Int),pI (0:Int),pI (72:Int),pB false]],s⟩):=by
 induction n generalizing s0 kk1 n2 l3 with
 | zero=>rfl
 | succ n ih=>rw [Dg];simp only [<-ih];kernel_rfl
noncomputable def L4 {R:Type} (lf n:Nat) (l0:LL) (s1:By) (n2 n3 n4:Int) (b5:Bool) (k0:Int->LL->By->Int->Int->Int->Bool->Option R) (k1:LL->By->Int->Int->Int->Bool->Option R):Option R:=match n with | 0=>none | n+1=>cond (not (s1==[])) (cond (A2 s1.length) (cond (ltN n4 1000000) (cond (ltN n3 1099511627777) (cond (ltN n2 1152921504606846976) (cond (Nat.ble l0.length 100000) (vl ((C9 (DS.mk s1 n2 n3 n4 b5 l0))).1 λn'10=>vl (DS.l ((C9 (DS.mk s1 n2 n3 n4 b5 l0))).2) λl'11=>cond (n'10 != 0) (k0 n'10 l'11 (DS.rest ((C9 (DS.mk s1 n2 n3 n4 b5 l0))).2) (DS.n ((C9 (DS.mk s1 n2 n3 n4 b5 l0))).2) (DS.i ((C9 (DS.mk s1 n2 n3 n4 b5 l0))).2) (DS.b ((C9 (DS.mk s1 n2 n3 n4 b5 l0))).2) (DS.st ((C9 (DS.mk s1 n2 n3 n4 b5 l0))).2)) (L4 lf n l'11 (DS.rest ((C9 (DS.mk s1 n2 n3 n4 b5 l0))).2) (DS.n ((C9 (DS.mk s1 n2 n3 n4 b5 l0))).2) (DS.i ((C9 (DS.mk s1 n2 n3 n4 b5 l0))).2) (DS.b ((C9 (DS.mk s1 n2 n3 n4 b5 l0))).2) (DS.st ((C9 (DS.mk s1 n2 n3 n4 b5 l0))).2) k0 k1)) none) none) none) none) none) (k1 l0 s1 n2 n3 n4 b5)
theorem Xd (n l0 s1 n2 n3 n4 b5):H4 2 ((Q6 lf).keep 20) (bd (Q6 lf) cl yh (cd [1,1,1,1,1,1,0,0,0] Kb)) n ⟨gp [(5,.ptr 1 0 0)] 68,[.arr true 3 1 l0,.box [pS s1,.fl 0,pI n2,pI n3,pI n4,pB b5]],s⟩ k =
 L4 lf n l0 s1 n2 n3 n4 b5 (λn0 l1 s2 n3 n4 n5 b6=>k .ret ⟨gp [(2,.fl 2),(0,pI n0)] 70,[.arr true 3 1 l1,.box [pS s2,.fl 0,pI n3,pI n4,pI n5,pB b6],.arr true 3 1 []],s⟩) (λl0 s1 n2 n3 n4 b5=>k (.exit 4) ⟨gp [(5,.ptr 1 0 0)] 68,[.arr true 3 1 l0,.box [pS s1,.fl 0,pI n2,pI n3,pI n4,pB b5]],s⟩):=by
 induction n generalizing l0 s1 n2 n3 n4 b5 with
 | zero=>rfl
 | succ n ih=>rw [L4];simp only [<-ih];kernel_rfl
noncomputable def Mw {R:Type} (lf:Nat) (s0:By) (k0:Int->Option R) (k1:Int->LL->By->Int->Int->Int->Bool->Option R) (k2:LL->By->Int->Int->Int->Bool->Option R):Option R:=cond (ltI 1024 (s0.length:Int)) (k0 3) (Fy lf lf s0 (s0.length:Int) 0 (λ_=>k0 4) (λs'0=>cond (A2 s'0.length) (vl (E5 (u8n (45:Int)) s'0) λn'4=>cond (ltI 0 n'4) (Dg lf lf s'0 n'4 0 [] (λs'5 kk'6 l'7=>vl (A5 (kk'6+1)) λn'8=>cond (Cu n'8 (s'5.length:Int) s'5.length) (vl (cut s'5 n'8 (s'5.length:Int)) λs'9=>cond (ltI 256 (l'7.length:Int)) (k1 3 l'7 s'9 128 0 72 false) (L4 lf lf l'7 s'9 128 0 72 false (λn'12 l'13 s'14 n'15 n'16 n'17 b'18=>k1 n'12 l'13 s'14 n'15 n'16 n'17 b'18) (λl'19 s'20 n'21 n'22 n'23 b'24=>k2 l'19 s'20 n'21 n'22 n'23 b'24))) none)) (L4 lf lf [] s'0 128 0 72 false (λn'25 l'26 s'27 n'28 n'29 n'30 b'31=>k1 n'25 l'26 s'27 n'28 n'29 n'30 b'31) (λl'32 s'33 n'34 n'35 n'36 b'37=>k2 l'32 s'33 n'34 n'35 n'36 b'37))) none))
theorem A61 (d:Nat) (s0):evC (Q6 lf) (d+1) σ yh 79 [pS s0] [] s=Mw lf s0 (λr0=>some (.tup [.fl 0,pI r0],[.arr true 3 1 []],s)) (λr0 l1 s2 n3 n4 n5 b6=>some (.tup [.fl 2,pI r0],[.arr true 3 1 l1,.box [pS s2,.fl 0,pI n3,pI n4,pI n5,pB b6],.arr true 3 1 []],s)) (λl0 s1 n2 n3 n4 b5=>some (.tup [.fl 0,pI (0:Int)],[.arr true 3 1 l0,.box [pS s1,.fl 0,pI n2,pI n3,pI n4,pB b5]],s)):=by
 refine (evE (fn:=Tryz.f79) (by kernel_rfl)).trans ?_
 generalize evC (Q6 lf) d=cl
 unfold Mw;exact let K0:=(O4 4 (P3 (Q6 lf) cl yh (cd [1,1,1,1,1,1,1] Kb) (J6 (Q6 lf) Tryz.f79)));(Eq.trans (by kernel_rfl) (A0 rfl ((TL lf cl yh s (O4 0 (P3 (Q6 lf) cl yh (cd [1,1,1] Kb) (J6 (Q6 lf) Tryz.f79))) lf s0 (s0.length:Int) 0).trans (congr (congr rfl (by kernel_rfl)) (fx1 λs'0=>(Eq.trans (by kernel_rfl) (A0 (B9 λn'4=>(A0 ((TM lf cl yh s (O4 2 (P3 (Q6 lf) cl yh (cd [1,1,1,1,0,1,1,0,1] Kb) (P3 (Q6 lf) cl yh (cd [1,1,1,1,1] Kb) (J6 (Q6 lf) Tryz.f79)))) lf s'0 n'4 0 []).trans (congr rfl (fx3 λs'5 kk'6 l'7=>(Eq.trans (by kernel_rfl) (B9 λn'8=>(A0 (B9 λs'9=>(A0 rfl ((Xd lf cl yh s K0 lf l'7 s'9 128 0 72 false).trans (by kernel_rfl)))) rfl)))))) ((Xd lf cl yh s K0 lf [] s'0 128 0 72 false).trans (by kernel_rfl)))) rfl)))))))
noncomputable abbrev JI:Code:=E6 Tryz.f49
noncomputable def Bt (lf:Nat):Cfg:=C0 lf [49] (A3 [(2,[0,0,2,0])]) [] (A3 [(6,[4]),(3,[0,0,3]),(5,[4]),(4,[0,0,3,11]),(2,[0,0,3,4]),(1,[0,0,3]),(0,[0,0])]) [] (A3 [(0,[]),(1,[0,0,3])]) (some [4]) [] [] []
noncomputable def X5 {R:Type} (lf n:Nat) (s0:By) (c1 i2:Int) (k0:Int->Option R) (k1:Unit->Option R):Option R:=match n with | 0=>none | n+1=>cond (not (ltI i2 0)) (cond (inR i2 s0.length) (cond ((bAt s0 i2)==c1) (k0 i2) (X5 lf n s0 c1 (A5 (i2-1)) k0 k1)) none) (k1 ())
theorem GI (n s0 c1 i2):H4 0 ((Bt lf).keep 2) (bd (Bt lf) cl yh (cd [1,0,1,0,0] JI)) n ⟨gp [(0,pS s0),(0,p8 c1),(3,pI i2)] 13,[],s⟩ k =
 X5 lf n s0 c1 i2 (λn0=>k .ret ⟨gp [(4,pI n0)] 14,[],s⟩) (λ_=>k (.exit 0) ⟨gp [] 19,[],s⟩):=by
 induction n generalizing s0 c1 i2 with
 | zero=>rfl
 | succ n ih=>rw [X5];simp only [<-ih];kernel_rfl
noncomputable def GH {R:Type} (lf:Nat) (s0:By) (c1:Int) (k0:Int->Option R):Option R:=vl (A5 ((s0.length:Int)-1)) λn'1=>X5 lf lf s0 c1 n'1 (λn'2=>k0 n'2) (λ_=>k0 (-1))
theorem YN (d:Nat) (s0 c1):evC (Bt lf) (d+1) σ yh 49 [pS s0,p8 c1] [] s=GH lf s0 c1 (λr0=>some (pI r0,[],s)):=by
 refine (evE (fn:=Tryz.f49) (by kernel_rfl)).trans ?_
 generalize evC (Bt lf) d=cl
 unfold GH;exact (Eq.trans (by kernel_rfl) (B9 λn'1=>((GI lf cl yh s (O4 0 (P3 (Bt lf) cl yh (cd [1,1] JI) (J6 (Bt lf) Tryz.f49))) lf s0 c1 n'1).trans (by kernel_rfl))))
noncomputable def FG (lf:Nat):Cfg:=C0 lf [35] (A3 []) [(49,IX)] (A3 [(1,[4]),(0,[0,0])]) [49] (A3 []) (some [4]) [] [] []
noncomputable def WB {R:Type} (lf:Nat) (s0:By) (c1:Int) (k0:Int->Option R):Option R:=cond (A2 s0.length) (cond (inR c1 256) (k0 (E5 (u8n c1) s0)) none) none
theorem Ao7 (d:Nat) (s0 c1):evC (FG lf) (d+1) σ yh 35 [pS s0,p8 c1] [] s=WB lf s0 c1 (λr0=>some (pI r0,[],s)):=by
 refine (evE (fn:=Tryz.f35) (by kernel_rfl)).trans ?_
 generalize evC (FG lf) d=cl
 unfold WB;kernel_rfl
end
theorem Nq (c:UInt8):-1<=G1 c/\G1 c<=35:=by
 unfold G1 Gm
 grind
theorem Xx (k b:Int):1<=S9 k b/\S9 k b<=26:=by unfold S9;omega
theorem Qa {x w:Int} (h0:0<=x) (h1:x<=35) (w0:0<=w) (w1:w<=1099511627776):0<=x*w/\x*w<=38482906972160:=by
 refine ⟨Int.mul_nonneg h0 w0,?_⟩
 have:=Int.mul_le_mul h1 w1 w0 (show (0:Int)<=35 by omega)
 omega
theorem GA (b:Int):∀ (s:By) (i w k:Int),0<=i->0<=w->w<=1099511627776->(Em b s i w k).1=0->i<=(Em b s i w k).2.2/\(Em b s i w k).2.2<=1099511627776/\(Em b s i w k).2.1.length<s.length
 | [],i,w,k,_,_,_,h=>by simp [Em] at h
 | c::r,i,w,k,hi,hw,hw1,h=>by
  have hv:=Nq c
  have ht:=Xx k b
  unfold Em at h ⊢
  split at h
  ·simp at h
  ·rename_i h1
   rw [if_neg h1]
   have hm:=Qa (by omega) hv.2 hw hw1
   split at h
   ·simp at h
   ·rename_i h2
    rw [if_neg h2]
    split at h
    ·grind
    ·rename_i h3
     rw [if_neg h3]
     split at h
     ·omega
     ·rename_i h4
      rw [if_neg h4]
      obtain ⟨q1,q2,q3⟩:=GA b r (i+G1 c*w) (w*(36-S9 k b)) (k+36) (by omega) (Int.mul_nonneg hw (by omega)) (by omega) h
      grind
theorem XY (n2:Int) (b:Int) (st z:Bool) (l:LL) (hb0:0<=b) (hb1:b<1000000):∀ (s:By) (n:Nat) (i w k:Int),s.length<n->s.length<=1000000000->0<=i->i<=1099511627776->0<=w->w<=1099511627776->0<=k->k+36*s.length<=100000000000->
  ∃ k',∀ (R:Type) (k0:Int->By->Int->Int->Int->Bool->Bool->LL->Int->Option R),Ar LF n w s n2 i b st z l k k0=k0 (Em b s i w k).1 (Em b s i w k).2.1 n2 (Em b s i w k).2.2 b st z l k':=by
 intro s
 induction s with
 | nil=>
  intro n i w k hn hs hi hi1 hw hw1 hk hk1
  obtain ⟨n,rfl⟩:∃ m,n=m+1:=⟨n-1,by omega⟩
  refine ⟨k,λR k0=>?_⟩
  rw [Ar]
  rfl
 | cons c r ih=>
  intro n i w k hn hs hi hi1 hw hw1 hk hk1
  obtain ⟨n,rfl⟩:∃ m,n=m+1:=⟨n-1,by omega⟩
  rw [List.length_cons] at hn hs hk1
  have hv:=Nq c
  have ht:=Xx k b
  have hu:u8n (bAt (c::r) 0)=c:=by unfold u8n bAt;simp
  have hin:inR (bAt (c::r) 0) 256=true:=by rw [Va];have:=c.toNat_lt;exact Q3 (by omega) (by simp;omega)
  have hcut:cut (c::r) 1 ((c::r).length:Int)=r:=by
   have:=VY (c::r) 1 (c::r).length
   grind
  have hne:((c::r)==([]:By))=false:=rfl
  have start:∀ (R:Type) (k0:Int->By->Int->Int->Int->Bool->Bool->LL->Int->Option R),Ar LF (n+1) w (c::r) n2 i b st z l k k0 =
    cond (ltI (G1 c) 0) (k0 4 (c::r) n2 i b st z l k)
     (vl (A5 (i+(A5 (G1 c*w)))) λn'5=>cond (ltI 1099511627776 n'5) (k0 19 r n2 n'5 b st z l k)
      (cond (ltI (G1 c) (S9 k b)) (k0 0 r n2 n'5 b st z l (Int.add k 36))
       (vl (A5 (36-(S9 k b))) λn'6=>cond (ltI 1099511627776 (A5 (w*n'6))) (k0 19 r n2 n'5 b st z l (Int.add k 36)) (Ar LF n (A5 (w*n'6)) r n2 n'5 b st z l (Int.add k 36) k0)))):=by
   intro R k0
   rw [Ar]
   rw [hne,hin,Q3 (by omega) (by rw [List.length_cons];omega),Ht (by omega) (by rw [List.length_cons];omega) (by omega),hcut,hu,Al,Al]
   rfl
  unfold Em
  by_cases h1:G1 c<0
  ·rw [if_pos h1]
   refine ⟨k,λR k0=>?_⟩
   rw [start,H5 h1]
   rfl
  ·rw [if_neg h1]
   have hm:=Qa (by omega) hv.2 hw hw1
   have e1:A5 (G1 c*w)=G1 c*w:=B1
   have e2:A5 (i+G1 c*w)=i+G1 c*w:=B1
   by_cases h2:1099511627776<i+G1 c*w
   ·rw [if_pos h2]
    refine ⟨k,λR k0=>?_⟩
    rw [start,B6,e1,e2]
    simp only [vl,cond_false]
    rw [H5 h2]
    rfl
   ·rw [if_neg h2]
    by_cases h3:G1 c<S9 k b
    ·rw [if_pos h3]
     refine ⟨Int.add k 36,λR k0=>?_⟩
     rw [start,B6,e1,e2]
     simp only [vl,cond_false]
     rw [B6,H5 h3]
     rfl
    ·rw [if_neg h3]
     have e3:A5 (36-S9 k b)=36-S9 k b:=B1
     have hm2:=Qa (x:=36-S9 k b) (by omega) (by omega) hw hw1
     rw [Int.mul_comm] at hm2
     have e4:A5 (w*(36-S9 k b))=w*(36-S9 k b):=B1
     by_cases h4:1099511627776<w*(36-S9 k b)
     ·rw [if_pos h4]
      refine ⟨Int.add k 36,λR k0=>?_⟩
      rw [start,B6,e1,e2]
      simp only [vl,cond_false]
      rw [B6,B6,e3,e4,H5 h4]
      rfl
     ·rw [if_neg h4]
      obtain ⟨k',e⟩:=ih n (i+G1 c*w) (w*(36-S9 k b)) (k+36) (by omega) (by omega) (by omega) (by omega) (by omega) (by omega) (by omega) (by omega)
      refine ⟨k',λR k0=>?_⟩
      rw [start,B6,e1,e2]
      simp only [vl,cond_false]
      rw [B6,B6,e3,e4,B6]
      exact e R k0
theorem XZ (rest:By) (n i b:Int) (st z:Bool) (l:LL) (h0:A2 rest.length=true) (h1:ltN b 1000000=true) (h2:ltN i 1099511627777=true) :
  ∃ k',∀ (R:Type) (k0:Int->By->Int->Int->Int->Bool->Bool->LL->Int->Option R),Bf8 LF rest n i b st z l k0=k0 (Wu b rest i) (Wv b rest i) n (Kp b rest i) b st z l k':=by
 have hs:=U0 h0
 obtain ⟨b0,b1⟩:=G4.1 h1
 obtain ⟨i0,i1⟩:=G4.1 h2
 have hLF:=K9
 obtain ⟨k',e⟩:=XY n b st z l b0 (by omega) rest LF i 1 0 (by omega) (by omega) i0 (by omega) (by omega) (by omega) (by omega) (by omega)
 exact ⟨k',λR k0=>e R _⟩
theorem QU {R:Type} {k0:Int->By->Int->Int->Int->Bool->Bool->LL->Option R} (rest:By) (n i b:Int) (st z:Bool) (l:LL) (h0:A2 rest.length=true) (h1:ltN b 1000000=true) (h2:ltN i 1099511627777=true) (h3:ltN n 1152921504606846976=true) (h4:Nat.ble l.length 100000=true) :
  WA LF rest n i b st z l k0=k0 (C9 ⟨rest,n,i,b,st,l⟩).1 (C9 ⟨rest,n,i,b,st,l⟩).2.rest (C9 ⟨rest,n,i,b,st,l⟩).2.n (C9 ⟨rest,n,i,b,st,l⟩).2.i (C9 ⟨rest,n,i,b,st,l⟩).2.b (C9 ⟨rest,n,i,b,st,l⟩).2.st z (C9 ⟨rest,n,i,b,st,l⟩).2.l:=by
 obtain ⟨i0,i1⟩:=G4.1 h2
 obtain ⟨n0,n1⟩:=G4.1 h3
 have hl:=Nat.le_of_ble_eq_true h4
 unfold WA C9
 rw [h0,h1,h2]
 simp only [cond_true]
 by_cases he:Wu b rest i=0
 ·rw [if_pos he,he]
  obtain ⟨q1,q2,q3⟩:=GA b rest i 1 0 i0 (by omega) (by omega) he
  have q1':i<=Kp b rest i:=q1
  have q2':Kp b rest i<=1099511627776:=q2
  have e1:A5 ((l.length:Int)+1)=(l.length:Int)+1:=B1
  simp only [vl]
  rw [e1]
  generalize Kp b rest i=x at *
  have hx0:0<=x:=by omega
  obtain ⟨X,rfl⟩:=Int.eq_ofNat_of_zero_le hx0
  have e2:A5 ((X:Int)-i)=(X:Int)-i:=B1
  have ec:((l.length:Int)+1)=((l.length+1:Nat):Int):=rfl
  have ed:Int.tdiv (X:Int) ((l.length+1:Nat):Int)=((X / (l.length+1):Nat):Int):=W3 _ _
  have em:Int.tmod (X:Int) ((l.length+1:Nat):Int)=((X % (l.length+1):Nat):Int):=Xy _ _
  have hd:=Nat.div_le_self X (l.length+1)
  have hm:=Nat.mod_lt X (show 0<l.length+1 by omega)
  rw [e2,ec,ed,em]
  generalize hA:X / (l.length+1)=A at *
  generalize hB:X % (l.length+1)=B at *
  have e3:A5 (A:Int)=(A:Int):=B1
  have e4:A5 (n+(A:Int))=n+(A:Int):=B1
  have e5:A5 ((B:Int)+1)=(B:Int)+1:=B1
  have c0:((0:Int) != 0)=false:=rfl
  have c1:((((l.length+1:Nat):Int)) != 0)=true:=by rw [bne_iff_ne];omega
  rw [e3,e4,e5,c0,Al,Al,C7,c1]
  simp only [cond_true,cond_false]
  cases hp:ptI (n+(A:Int)) with
  | false=>simp
  | true=>
   simp only [Bool.not_true,cond_false,if_true]
   by_cases h256:(256:Int)<((l.length+1:Nat):Int)
   ·rw [if_pos h256,H5 h256]
    rfl
   ·rw [if_neg h256,B6,cond_false,WK (by omega) (by show (B:Int)<((l.length+1:Nat):Int);omega),h4]
    rfl
 ·rw [if_neg he,show (Wu b rest i != 0)=true from bne_iff_ne.2 he]
  rfl
theorem LK (c:UInt8):∀ l:By,-1<=E5 c l
 | []=>by simp [E5]
 | b::r=>by
  have:=LK c r
  unfold E5
  omega
theorem Wg (c b:UInt8):∀ l:By,E5 c (l++[b])=if b=c then (l.length:Int) else E5 c l
 | []=>by
  by_cases h:b=c<;>simp [E5,h]
 | a::l=>by
  have ih:=Wg c b l
  rw [List.cons_append,E5,ih]
  by_cases h:b=c
  ·grind
  ·rw [if_neg h,if_neg h]
   rfl
theorem LA {R:Type} {k0:Int->Option R} {k1:Unit->Option R} (s:By) (c:UInt8) (hs:s.length<=1000000000):∀ (m n:Nat),m<=s.length->m<n->
  X5 LF n s (c.toNat:Int) ((m:Int)-1) k0 k1=if E5 c (s.take m)<0 then k1 () else k0 (E5 c (s.take m)):=by
 intro m
 induction m with
 | zero=>
  intro n hm hn
  obtain ⟨n,rfl⟩:∃ m,n=m+1:=⟨n-1,by omega⟩
  rw [X5]
  rw [C7]
  rfl
 | succ m ih=>
  intro n hm hn
  obtain ⟨n,rfl⟩:∃ m,n=m+1:=⟨n-1,by omega⟩
  rw [X5]
  have e0:(((m+1:Nat):Int)-1)=(m:Int):=by omega
  have e1:A5 ((m:Int)-1)=(m:Int)-1:=B1
  have ht:s.take (m+1)=s.take m++[s.getD m 0]:=by
   rw [List.take_add_one,List.getD_eq_getElem?_getD,List.getElem?_eq_getElem (by omega)]
   rfl
  rw [e0,e1,B6,Ak,Ia,ht,Wg]
  simp only [Bool.not_false,cond_true]
  by_cases h:s.getD m 0=c
  ·rw [if_pos h,h,beq_self_eq_true,cond_true,List.length_take,Nat.min_eq_left (by omega),L7]
  ·have hne:(((s.getD m 0).toNat:Int)==(c.toNat:Int))=false:=by
    rw [beq_eq_false_iff_ne]
    intro he
    exact h (UInt8.toNat.inj (Int.ofNat.inj he))
   rw [if_neg h,hne,cond_false]
   exact ih n (by omega) (by omega)
theorem Au1 {c:Int} (h:inR c 256=true):c=((u8n c).toNat:Int):=by
 simp only [inR,Bool.and_eq_true,decide_eq_true_eq] at h
 unfold u8n
 simp
 omega
theorem LB {R:Type} {k0:Int->Option R} (s:By) (c:Int) (h0:A2 s.length=true) (h1:inR c 256=true):GH LF s c k0=k0 (E5 (u8n c) s):=by
 have hs:=U0 h0
 have hLF:=K9
 have hc:=Au1 h1
 generalize u8n c=d at *
 subst hc
 unfold GH
 have e1:A5 ((s.length:Int)-1)=(s.length:Int)-1:=B1
 simp only [vl]
 rw [e1]
 refine Eq.trans (LA s d (by omega) s.length LF (by omega) (by omega)) ?_
 rw [List.take_length]
 have:=LK d s
 by_cases h:E5 d s<0
 ·rw [if_pos h,show E5 d s = -1 by omega]
 ·rw [if_neg h]
theorem RP {R:Type} {k0:Int->Option R} (s:By) (c:Int) (h0:A2 s.length=true) (h1:inR c 256=true):WB LF s c k0=k0 (E5 (u8n c) s):=by
 unfold WB
 grind
theorem Rh:∀ s:By,(45∈s->E5 45 s=(K5 s:Int))/\(45∉s->E5 45 s = -1/\K5 s=0)
 | []=>⟨λh=>(by cases h),λ_=>⟨rfl,rfl⟩⟩
 | b::r=>by
  obtain ⟨h1,h2⟩:=Rh r
  unfold E5 K5
  grind
theorem NC {c:UInt8} (h:Gm c=none):G1 c = -1:=by unfold G1;rw [h]
theorem ND {c:UInt8} {x:Nat} (h:Gm c=some x):G1 c=x:=by unfold G1;rw [h]
theorem KB (b:Nat):∀ (s:By) (i w k:Nat),Em (b:Int) s (i:Int) (w:Int) ((36*k:Nat):Int)=((((C4 b s i w k).2.2:Nat):Int),(Em (b:Int) s (i:Int) (w:Int) ((36*k:Nat):Int)).2)/\
  ((C4 b s i w k).2.2=0->(Em (b:Int) s (i:Int) (w:Int) ((36*k:Nat):Int)).2=((C4 b s i w k).2.1,((C4 b s i w k).1:Int)))
 | [],i,w,k=>⟨rfl,λh=>by simp [C4] at h⟩
 | c::r,i,w,k=>by
  unfold Em C4
  cases hv:Gm c with
  | none=>
   rw [NC hv,Me]
   grind
  | some x=>
   rw [ND hv,L7,Xw]
   have e1:(i:Int)+(x:Int)*(w:Int)=((i+x*w:Nat):Int):=by push_cast;rfl
   have ht:=Y7 k b
   have e2:(w:Int)*(36-(thr k b:Int))=((w*(36-thr k b):Nat):Int):=by grind
   have e3:((36*k:Nat):Int)+36=((36*(k+1):Nat):Int):=by omega
   have hsat:IE=1099511627776:=by decide
   rw [e1,e2,e3,hsat]
   simp only
   generalize i+x*w=I
   generalize w*(36-thr k b)=W
   by_cases h2:1099511627776<I
   ·grind
   ·rw [L7,if_neg h2]
    by_cases h3:x<thr k b
    ·grind
    ·rw [L7,if_neg h3]
     by_cases h4:1099511627776<W
     ·grind
     ·rw [L7,if_neg h4]
      exact KB b r I W (k+1)
theorem Ao3 (l:List Nat) (i n:Nat):Fs (F3 l) i (n:Int)=F3 (Re l i n):=by
 unfold Fs Re F3
 simp_all
theorem HL (b:Nat) (s:By) (i:Nat):Wu (b:Int) s (i:Int)=((C4 b s i 1 0).2.2:Int)/\((C4 b s i 1 0).2.2=0->Wv (b:Int) s (i:Int)=(C4 b s i 1 0).2.1/\Kp (b:Int) s (i:Int)=((C4 b s i 1 0).1:Int)):=by
 obtain ⟨h1,h2⟩:=KB b s i 1 0
 have e:Em (b:Int) s (i:Int) 1 0=Em (b:Int) s (i:Int) ((1:Nat):Int) ((36*0:Nat):Int):=rfl
 unfold Wu Wv Kp
 rw [e]
 refine ⟨by rw [h1],λh=>?_⟩
 have:=h2 h
 rw [this]
 exact ⟨rfl,rfl⟩
theorem Bo4 (s:By) (pts:List Nat) (n i b:Nat) (st:Bool) (h:(C4 b s i 1 0).2.2=0) (hi:i<=(C4 b s i 1 0).1) (hp:Jc (n+(C4 b s i 1 0).1 / (pts.length+1))=true) (hc:¬ 256<pts.length+1) :
  C9 ⟨s,(n:Int),(i:Int),(b:Int),st,F3 pts⟩=(0,⟨(C4 b s i 1 0).2.1,((n+(C4 b s i 1 0).1 / (pts.length+1):Nat):Int),(((C4 b s i 1 0).1 % (pts.length+1)+1:Nat):Int),((Bl ((C4 b s i 1 0).1-i) (pts.length+1) (!st):Nat):Int),true,F3 (Re pts ((C4 b s i 1 0).1 % (pts.length+1)) (n+(C4 b s i 1 0).1 / (pts.length+1)))⟩):=by
 obtain ⟨h1,h2⟩:=HL b s i
 obtain ⟨h3,h4⟩:=h2 h
 unfold C9
 simp only
 rw [h1,h,if_pos (show ((0:Nat):Int)=0 from rfl),h3,h4,K7]
 generalize (C4 b s i 1 0).1=X at *
 have ec:((pts.length:Int)+1)=((pts.length+1:Nat):Int):=rfl
 have ed:Int.tdiv (X:Int) ((pts.length+1:Nat):Int)=((X / (pts.length+1):Nat):Int):=W3 _ _
 have em:Int.tmod (X:Int) ((pts.length+1:Nat):Int)=((X % (pts.length+1):Nat):Int):=Xy _ _
 have en:(n:Int)+((X / (pts.length+1):Nat):Int)=((n+X / (pts.length+1):Nat):Int):=rfl
 rw [ec,ed,em,en,Tt,hp,if_pos rfl,L7,Int.toNat_natCast,Ao3,Int.toNat_natCast,show ((X:Int)-(i:Int)).toNat=X-i by omega]
 rfl
theorem Bf9 (s:By) (pts:List Nat) (n i b:Nat) (st:Bool):((C4 b s i 1 0).2.2≠0->(C9 ⟨s,(n:Int),(i:Int),(b:Int),st,F3 pts⟩).1=((C4 b s i 1 0).2.2:Int))/\
  ((C4 b s i 1 0).2.2=0->Jc (n+(C4 b s i 1 0).1 / (pts.length+1))=false->(C9 ⟨s,(n:Int),(i:Int),(b:Int),st,F3 pts⟩).1=2)/\
  ((C4 b s i 1 0).2.2=0->Jc (n+(C4 b s i 1 0).1 / (pts.length+1))=true->256<pts.length+1->(C9 ⟨s,(n:Int),(i:Int),(b:Int),st,F3 pts⟩).1=3):=by
 obtain ⟨h1,h2⟩:=HL b s i
 have ec:(((F3 pts).length:Int)+1)=((pts.length+1:Nat):Int):=by rw [K7];rfl
 have ed:∀ X:Nat,Int.tdiv (X:Int) ((pts.length+1:Nat):Int)=((X / (pts.length+1):Nat):Int):=λX=>W3 _ _
 have en:∀ A:Nat,(n:Int)+(A:Int)=((n+A:Nat):Int):=λA=>rfl
 refine ⟨λh=>?_,λh hp=>?_,λh hp hc=>?_⟩
 ·unfold C9
  simp only
  rw [h1,L7]
 ·obtain ⟨h3,h4⟩:=h2 h
  unfold C9
  simp only
  rw [h1,h,if_pos (show ((0:Nat):Int)=0 from rfl),h4,ec,ed,en,Tt,hp,if_neg (by simp)]
 ·obtain ⟨h3,h4⟩:=h2 h
  unfold C9
  simp only
  rw [h1,h,if_pos (show ((0:Nat):Int)=0 from rfl),h4,ec,ed,en,Tt,hp,if_pos rfl,Me]
theorem Kk (pts:List Nat) (n i b:Nat) (f:Bool):M9 [] pts n i b f=(pts,0):=by rw [M9];rfl
theorem Vl {s:By} (hs:s≠[]) (pts:List Nat) (n i b:Nat) (f:Bool) (h:(C4 b s i 1 0).2.2≠0):M9 s pts n i b f=([],(C4 b s i 1 0).2.2):=by
 rw [M9,dif_neg hs]
 grind
theorem Qy {s:By} (hs:s≠[]) (pts:List Nat) (n i b:Nat) (f:Bool) (h:(C4 b s i 1 0).2.2=0):M9 s pts n i b f =
  if Jc (n+(C4 b s i 1 0).1 / (pts.length+1)) then (if 256<pts.length+1 then ([],3) else M9 (C4 b s i 1 0).2.1 (Re pts ((C4 b s i 1 0).1 % (pts.length+1)) (n+(C4 b s i 1 0).1 / (pts.length+1))) (n+(C4 b s i 1 0).1 / (pts.length+1)) ((C4 b s i 1 0).1 % (pts.length+1)+1) (Bl ((C4 b s i 1 0).1-i) (pts.length+1) f) false) else ([],2):=by
 rw [M9,dif_neg hs]
 simp only
 rw [dif_pos h]
theorem BB (l:List Nat) (i n:Nat):(Re l i n).length=l.length+1:=by
 unfold Re
 grind
theorem Aa4:∀ (r:Nat) (s:By) (pts:List Nat) (n i b f:Nat) (st:Bool),s.length<=r->r<f->s.length<=1000000->pts.length<=256->n<=1114111->i<=1000->b<=500->
  ((M9 s pts n i b (!st)).2=0->∃ s' n' i' b' st',∀ (R:Type) (k0:Int->LL->By->Int->Int->Int->Bool->Option R) (k1:LL->By->Int->Int->Int->Bool->Option R),L4 LF f (F3 pts) s (n:Int) (i:Int) (b:Int) st k0 k1=k1 (F3 (M9 s pts n i b (!st)).1) s' n' i' b' st')/\
  ((M9 s pts n i b (!st)).2≠0->(M9 s pts n i b (!st)).1=[]/\∃ l s' n' i' b' st',∀ (R:Type) (k0:Int->LL->By->Int->Int->Int->Bool->Option R) (k1:LL->By->Int->Int->Int->Bool->Option R),L4 LF f (F3 pts) s (n:Int) (i:Int) (b:Int) st k0 k1=k0 ((M9 s pts n i b (!st)).2:Nat) l s' n' i' b' st'):=by
 intro r
 induction r with
 | zero=>
  intro s pts n i b f st h hf _ _ _ _ _
  obtain ⟨f,rfl⟩:∃ m,f=m+1:=⟨f-1,by omega⟩
  have hs:s=[]:=List.length_eq_zero_iff.1 (by omega)
  subst hs
  rw [Kk]
  refine ⟨λ_=>⟨[],n,i,b,st,λR k0 k1=>?_⟩,λh=>absurd rfl h⟩
  rw [L4]
  rfl
 | succ r ih=>
  intro s pts n i b f st h hf h1 h2 h3 h4 h5
  obtain ⟨f,rfl⟩:∃ m,f=m+1:=⟨f-1,by omega⟩
  by_cases hs:s=[]
  ·subst hs
   rw [Kk]
   refine ⟨λ_=>⟨[],n,i,b,st,λR k0 k1=>?_⟩,λh=>absurd rfl h⟩
   rw [L4]
   rfl
  ·have start:∀ (R:Type) (k0:Int->LL->By->Int->Int->Int->Bool->Option R) (k1:LL->By->Int->Int->Int->Bool->Option R),L4 LF (f+1) (F3 pts) s (n:Int) (i:Int) (b:Int) st k0 k1 =
     cond ((C9 ⟨s,n,i,b,st,F3 pts⟩).1 != 0) (k0 (C9 ⟨s,n,i,b,st,F3 pts⟩).1 (C9 ⟨s,n,i,b,st,F3 pts⟩).2.l (C9 ⟨s,n,i,b,st,F3 pts⟩).2.rest (C9 ⟨s,n,i,b,st,F3 pts⟩).2.n (C9 ⟨s,n,i,b,st,F3 pts⟩).2.i (C9 ⟨s,n,i,b,st,F3 pts⟩).2.b (C9 ⟨s,n,i,b,st,F3 pts⟩).2.st)
      (L4 LF f (C9 ⟨s,n,i,b,st,F3 pts⟩).2.l (C9 ⟨s,n,i,b,st,F3 pts⟩).2.rest (C9 ⟨s,n,i,b,st,F3 pts⟩).2.n (C9 ⟨s,n,i,b,st,F3 pts⟩).2.i (C9 ⟨s,n,i,b,st,F3 pts⟩).2.b (C9 ⟨s,n,i,b,st,F3 pts⟩).2.st k0 k1):=by
    intro R k0 k1
    rw [L4]
    rw [show (s==([]:By))=false from beq_eq_false_iff_ne.2 hs,WZ,Al,Al,Al,K7,Nat.ble_eq_true_of_le (show pts.length<=100000 by omega)]
    rfl
   obtain ⟨d1,d2,d3⟩:=Bf9 s pts n i b st
   have hok:=Bo4 s pts n i b st
   generalize C9 ⟨s,n,i,b,st,F3 pts⟩=D at *
   by_cases he:(C4 b s i 1 0).2.2=0
   ·rw [Qy hs pts n i b (!st) he]
    obtain ⟨m1,m2⟩:=HL b s i
    obtain ⟨m3,m4⟩:=m2 he
    have hE:Wu (b:Int) s (i:Int)=0:=by rw [m1,he];rfl
    obtain ⟨q1,q2,q3⟩:=GA b s i 1 0 (by omega) (by omega) (by omega) hE
    have q1':(i:Int)<=Kp (b:Int) s (i:Int):=q1
    have q2':Kp (b:Int) s (i:Int)<=1099511627776:=q2
    have q3':(Wv (b:Int) s (i:Int)).length<s.length:=q3
    rw [m4] at q1' q2'
    rw [m3] at q3'
    cases hp:Jc (n+(C4 b s i 1 0).1 / (pts.length+1)) with
    | false=>
     rw [if_neg (by simp)]
     refine ⟨λh=>by simp at h,λ_=>⟨rfl,D.2.l,D.2.rest,D.2.n,D.2.i,D.2.b,D.2.st,λR k0 k1=>?_⟩⟩
     ·rw [start,d2 he hp]
      rfl
    | true=>
     rw [if_pos rfl]
     by_cases hc:256<pts.length+1
     ·rw [if_pos hc]
      refine ⟨λh=>by simp at h,λ_=>⟨rfl,D.2.l,D.2.rest,D.2.n,D.2.i,D.2.b,D.2.st,λR k0 k1=>?_⟩⟩
      rw [start,d3 he hp hc]
      rfl
     ·rw [if_neg hc]
      have hok:=hok he (by omega) hp hc
      have hn':n+(C4 b s i 1 0).1 / (pts.length+1)<=1114111:=by
       unfold Jc at hp
       simp_all
      have hmod:=Nat.mod_lt (C4 b s i 1 0).1 (show 0<pts.length+1 by omega)
      have had:=JB ((C4 b s i 1 0).1-i) (pts.length+1) (!st) (by omega)
      have:=ih (C4 b s i 1 0).2.1 (Re pts ((C4 b s i 1 0).1 % (pts.length+1)) (n+(C4 b s i 1 0).1 / (pts.length+1))) (n+(C4 b s i 1 0).1 / (pts.length+1)) ((C4 b s i 1 0).1 % (pts.length+1)+1) (Bl ((C4 b s i 1 0).1-i) (pts.length+1) (!st)) f true (by omega) (by omega) (by omega) (by rw [BB];omega) hn' (by omega) had
      obtain ⟨p1,p2⟩:=this
      refine ⟨λh=>?_,λh=>?_⟩
      ·obtain ⟨s',n',i',b',st',e⟩:=p1 h
       refine ⟨s',n',i',b',st',λR k0 k1=>?_⟩
       rw [start,hok]
       exact e R k0 k1
      ·obtain ⟨pe,l,s',n',i',b',st',e⟩:=p2 h
       refine ⟨pe,l,s',n',i',b',st',λR k0 k1=>?_⟩
       rw [start,hok]
       exact e R k0 k1
   ·rw [Vl hs pts n i b (!st) he]
    refine ⟨λh=>absurd h he,λ_=>⟨rfl,D.2.l,D.2.rest,D.2.n,D.2.i,D.2.b,D.2.st,λR k0 k1=>?_⟩⟩
    rw [start,d1 he,show (((C4 b s i 1 0).2.2:Int) != 0)=true by rw [bne_iff_ne];omega]
    rfl
theorem BX (l:List Nat):SP l=F3 l:=rfl
theorem TJ {R:Type} {k0:Unit->Option R} {k1:By->Option R} (s:By) (hs:s.length<=1000000):∀ (r i n:Nat),i+r=s.length->r<n->
  Fy LF n s (s.length:Int) (i:Int) k0 k1=if (s.drop i).any (λb=>Nat.ble 128 b.toNat) then k0 () else k1 s:=by
 intro r
 induction r with
 | zero=>
  intro i n hi hn
  obtain ⟨n,rfl⟩:∃ m,n=m+1:=⟨n-1,by omega⟩
  rw [Fy]
  rw [B6,List.drop_of_length_le (by omega)]
  rfl
 | succ r ih=>
  intro i n hi hn
  obtain ⟨n,rfl⟩:∃ m,n=m+1:=⟨n-1,by omega⟩
  rw [Fy]
  have e1:A5 ((i:Int)+1)=((i+1:Nat):Int):=by rw [B1];rfl
  rw [C7,Ak,Ia,Ii s i (by omega),e1,List.any_cons]
  simp only [cond_true]
  generalize s.getD i 0=b
  by_cases h:128<=b.toNat
  ·rw [B6,Nat.ble_eq_true_of_le h]
   rfl
  ·have:Nat.ble 128 b.toNat=false:=by rw [Bool.eq_false_iff,ne_eq,Nat.ble_eq];exact h
   rw [C7,this,Bool.false_or]
   exact ih (i+1) n (by omega) (by omega)
theorem Aa3 {R:Type} {k0:By->Int->LL->Option R} (s:By) (hs:s.length<=1000000) (k:Nat) (hk:k<=s.length):∀ (r i n:Nat) (l:List Nat),i+r=k->r<n->l.length=i->
  Dg LF n s (k:Int) (i:Int) (F3 l) k0=k0 s (k:Int) (F3 (l++((s.take k).drop i).map (·.toNat))):=by
 intro r
 induction r with
 | zero=>
  intro i n l hi hn hl
  obtain ⟨n,rfl⟩:∃ m,n=m+1:=⟨n-1,by omega⟩
  rw [Dg]
  rw [B6,List.drop_of_length_le (by rw [List.length_take];omega)]
  simp
 | succ r ih=>
  intro i n l hi hn hl
  obtain ⟨n,rfl⟩:∃ m,n=m+1:=⟨n-1,by omega⟩
  rw [Dg]
  have e1:A5 ((i:Int)+1)=((i+1:Nat):Int):=by rw [B1];rfl
  have hd:(s.take k).drop i=s.getD i 0::(s.take k).drop (i+1):=by
   rw [Ii (s.take k) i (by rw [List.length_take];omega)]
   congr 1
   rw [List.getD_eq_getElem?_getD,List.getD_eq_getElem?_getD,List.getElem?_take_of_lt (by omega)]
  rw [C7,Ak,Ia,hd,K7,V5 (by omega),e1]
  simp only [cond_true]
  generalize s.getD i 0=b
  have hb:=b.toNat_lt
  have e2:A5 (b.toNat:Int)=(b.toNat:Int):=B1
  have hrow:F3 l++[[SV.int .i64 (A5 (b.toNat:Int))]]=F3 (l++[b.toNat]):=by rw [e2,Aq3];rfl
  rw [hrow,ih (i+1) n _ (by omega) (by omega) (by simp;omega)]
  simp
theorem Ri:∀ s:By,K5 s<=s.length-1
 | []=>by simp [K5]
 | b::r=>by
  have:=Ri r
  unfold K5
  grind
theorem TK (s:By) (h0:A2 s.length=true):(∃ e,Q0 s=([],e)/\∀ (R:Type) (k0:Int->Option R) (k1:Int->LL->By->Int->Int->Int->Bool->Option R) (k2:LL->By->Int->Int->Int->Bool->Option R),Mw LF s k0 k1 k2=k0 (e:Nat))\/
  (∃ e l s' n' i' b' st',Q0 s=([],e)/\∀ (R:Type) (k0:Int->Option R) (k1:Int->LL->By->Int->Int->Int->Bool->Option R) (k2:LL->By->Int->Int->Int->Bool->Option R),Mw LF s k0 k1 k2=k1 (e:Nat) l s' n' i' b' st')\/
  ((Q0 s).2=0/\∃ s' n' i' b' st',∀ (R:Type) (k0:Int->Option R) (k1:Int->LL->By->Int->Int->Int->Bool->Option R) (k2:LL->By->Int->Int->Int->Bool->Option R),Mw LF s k0 k1 k2=k2 (F3 (Q0 s).1) s' n' i' b' st'):=by
 have hLF:=K9
 unfold Q0
 by_cases hl:1024<s.length
 ·rw [if_pos hl]
  refine .inl ⟨3,rfl,λR k0 k1 k2=>?_⟩
  unfold Mw
  rw [C7]
  rfl
 ·rw [if_neg hl]
  have asc:=λ(R:Type) (K0:Unit->Option R) (K1:By->Option R)=>TJ (k0:=K0) (k1:=K1) s (by omega) s.length 0 LF (by omega) (by omega)
  rw [List.drop_zero] at asc
  cases ha:s.any (λb=>Nat.ble 128 b.toNat) with
  | true=>
   rw [if_pos rfl]
   refine .inl ⟨4,rfl,λR k0 k1 k2=>?_⟩
   unfold Mw
   rw [B6,cond_false]
   refine Eq.trans (asc R _ _) ?_
   rw [ha,if_pos rfl]
   rfl
  | false=>
   rw [if_neg (by simp)]
   obtain ⟨d1,d2⟩:=Rh s
   have hlt:=Ri s
   have key:∀ (pts:List Nat) (t:By),pts.length<=256->t.length<=1024->(∀ (R:Type) (k0:Int->Option R) (k1:Int->LL->By->Int->Int->Int->Bool->Option R) (k2:LL->By->Int->Int->Int->Bool->Option R),Mw LF s k0 k1 k2=L4 LF LF (F3 pts) t 128 0 72 false k1 k2)->
     (∃ e l s' n' i' b' st',M9 t pts 128 0 72 true=([],e)/\∀ (R:Type) (k0:Int->Option R) (k1:Int->LL->By->Int->Int->Int->Bool->Option R) (k2:LL->By->Int->Int->Int->Bool->Option R),Mw LF s k0 k1 k2=k1 (e:Nat) l s' n' i' b' st')\/
     ((M9 t pts 128 0 72 true).2=0/\∃ s' n' i' b' st',∀ (R:Type) (k0:Int->Option R) (k1:Int->LL->By->Int->Int->Int->Bool->Option R) (k2:LL->By->Int->Int->Int->Bool->Option R),Mw LF s k0 k1 k2=k2 (F3 (M9 t pts 128 0 72 true).1) s' n' i' b' st'):=by
    intro pts t hp ht he
    obtain ⟨p1,p2⟩:=Aa4 t.length t pts 128 0 72 LF false (Nat.le_refl _) (by omega) (by omega) hp (by omega) (by omega) (by omega)
    rw [Bool.not_false] at p1 p2
    by_cases hz:(M9 t pts 128 0 72 true).2=0
    ·obtain ⟨s',n',i',b',st',e⟩:=p1 hz
     exact .inr ⟨hz,s',n',i',b',st',λR k0 k1 k2=>by rw [he];exact e R k1 k2⟩
    ·obtain ⟨pe,l,s',n',i',b',st',e⟩:=p2 hz
     exact .inl ⟨_,l,s',n',i',b',st',Prod.ext pe rfl,λR k0 k1 k2=>by rw [he];exact e R k1 k2⟩
   have hu:u8n 45=45:=rfl
   have top:∀ (R:Type) (k0:Int->Option R) (k1:Int->LL->By->Int->Int->Int->Bool->Option R) (k2:LL->By->Int->Int->Int->Bool->Option R),Mw LF s k0 k1 k2 =
     cond (ltI 0 (E5 45 s)) (Dg LF LF s (E5 45 s) 0 [] (λs'5 k'6 l'7=>cond (Cu (A5 (k'6+1)) (s'5.length:Int) s'5.length)
      (vl (cut s'5 (A5 (k'6+1)) (s'5.length:Int)) λs'8=>cond (ltI 256 (l'7.length:Int)) (k1 3 l'7 s'8 128 0 72 false) (L4 LF LF l'7 s'8 128 0 72 false k1 k2)) none))
      (L4 LF LF [] s 128 0 72 false k1 k2):=by
    intro R k0 k1 k2
    unfold Mw
    rw [B6,cond_false]
    refine Eq.trans (asc R _ _) ?_
    rw [ha,if_neg (by simp),h0,hu]
    rfl
   by_cases hd:0<K5 s
   ·have hmem:45∈s:=by
     apply Classical.byContradiction
     intro h
     have:=(d2 h).2
     omega
    have hI:=d1 hmem
    generalize K5 s=m at *
    have hcopy:=λ(R:Type) (K:By->Int->LL->Option R)=>Aa3 (k0:=K) s (by omega) m (by omega) m 0 LF [] (by omega) (by omega) rfl
    rw [List.drop_zero] at hcopy
    have e1:A5 ((m:Int)+1)=((m+1:Nat):Int):=by rw [B1];rfl
    have hlen:((s.take m).map (·.toNat)).length=m:=by rw [List.length_map,List.length_take];omega
    have top2:∀ (R:Type) (k0:Int->Option R) (k1:Int->LL->By->Int->Int->Int->Bool->Option R) (k2:LL->By->Int->Int->Int->Bool->Option R),Mw LF s k0 k1 k2 =
      cond (ltI 256 (m:Int)) (k1 3 (F3 ((s.take m).map (·.toNat))) (s.drop (m+1)) 128 0 72 false) (L4 LF LF (F3 ((s.take m).map (·.toNat))) (s.drop (m+1)) 128 0 72 false k1 k2):=by
     intro R k0 k1 k2
     rw [top,hI,C7,cond_true]
     refine Eq.trans (hcopy R _) ?_
     rw [e1,V9,VY,List.take_length,List.nil_append,K7,hlen]
     rfl
    by_cases h256:256<m
    ·rw [if_pos h256]
     refine .inr (.inl ⟨3,F3 ((s.take m).map (·.toNat)),s.drop (m+1),128,0,72,false,rfl,λR k0 k1 k2=>?_⟩)
     rw [top2,C7]
     rfl
    ·rw [if_neg h256,if_neg (show ¬ m=0 by omega)]
     exact .inr (key _ (s.drop (m+1)) (by rw [hlen];omega) (by rw [List.length_drop];omega) (λR k0 k1 k2=>by rw [top2,B6];rfl))
   ·have hz:K5 s=0:=by omega
    have hI:¬ 0<E5 45 s:=by
     by_cases hm:45∈s
     all_goals grind
    rw [hz,L7,if_pos rfl]
    refine .inr (key [] s (by simp) (by omega) (λR k0 k1 k2=>?_))
    rw [top,B6]
    rfl
theorem HG (l:List Nat):(F3 l).isEmpty=l.isEmpty:=by cases l<;>rfl
theorem A62 (s:By) (h0:A2 s.length=true):∃ r H,Mw LF s (λr0=>rv (.tup [.fl 0,.s (.int .i64 r0)]) [.arr true 3 1 []]) (λr0 l1 s2 n3 n4 n5 b6=>rv (.tup [.fl 2,.s (.int .i64 r0)]) [.arr true 3 1 l1,.box [.s (.str s2),.fl 0,.s (.int .i64 n3),.s (.int .i64 n4),.s (.int .i64 n5),.s (.bool b6)],.arr true 3 1 []]) (λl0 s1 n2 n3 n4 b5=>rv (.tup [.fl 0,.s (.int .i64 (0:Int))]) [.arr true 3 1 l0,.box [.s (.str s1),.fl 0,.s (.int .i64 n2),.s (.int .i64 n3),.s (.int .i64 n4),.s (.bool b5)]])=rv r H/\
  r.stab [1,0] H = .tup [.s (.sl (Q0 s).1.isEmpty (Q0 s).1.isEmpty 1 (SP (Q0 s).1)),.s (.int .i64 ((Q0 s).2:Nat))]:=by
 rcases TK s h0 with ⟨e,h1,h2⟩ | ⟨e,l,s',n',i',b',st',h1,h2⟩ | ⟨h1,s',n',i',b',st',h2⟩
 ·refine ⟨_,_,h2 _ _ _ _,?_⟩
  rw [h1]
  rfl
 ·refine ⟨_,_,h2 _ _ _ _,?_⟩
  rw [h1]
  rfl
 ·refine ⟨_,_,h2 _ _ _ _,?_⟩
  rw [h1,BX]
  simp [PV.stab,Jb,Vu,PV.snap,I1,HG]
end
section
open Go Go.Proofs Go.Sort
set_option maxRecDepth 100000
theorem Xq {C:Cfg} {σ:Type} {I:σ->(Nat->Prop)->(Nat->Prop)->World->Prop} (hI:HI I) {Γ:Ctx} {Φ:Nat->Prop} {w w':World} {z v1:Bool} {E e1 s1:Nat} {l l' m:LL} {s:σ} (g cap:Nat) (Vs:List Value) (cur:Array Value)
  (hnf:Ag C E=false) (hH:HR Γ [.arr z E 1 l,.arr v1 e1 s1 m] w) (hi:I s Γ.St Φ w) (hd:∀ b g,Γ.nm b=some g->¬ Φ g)
  (hown:Γ.nm 0=some g\/g=w.heap.size) (hgl:g<w'.heap.size) (hoth:∀ k,k<w.heap.size->Γ.nm 0≠some k->w'.heap[k]? = w.heap[k]?) (hsz:w.heap.size<=w'.heap.size) (h1:w'.os=w.os) (h2:w'.tape=w.tape) (h3:w'.output=w.output)
  (hrow:w'.heap[g]? = some (.cells cur E (0,0))) (hE:Els Γ.St w' 1 l' Vs) (hl':l'≠[]) (hc:∀ q,q<Vs.length->cur[q]? = Vs[q]?) (hl:Vs.length<=cur.size) (hcap:l'.length<=cap) (hm:cap<=maxLen) (hcs:cur.size=cap) :
  R6 C I Γ [.arr z E 1 l,.arr v1 e1 s1 m] w Φ (.fl 0) [.arr z E 1 l',.arr v1 e1 s1 m] s (.slice (some ⟨g,0,none⟩) l'.length cap) w':=by
 have hblt:0<[Blk.arr z E 1 l,.arr v1 e1 s1 m].length:=by simp
 have hng:(Γ.re 0 (some g)).nm 0=some g:=by simp [Ctx.re]
 have hnf':¬ Cb C (A1 [Blk.arr z E 1 l,.arr v1 e1 s1 m] 0):=by simp [A1,Blk.shp,Cb,hnf]
 have hk:([Blk.arr z E 1 l,.arr v1 e1 s1 m].map (Blk.kill 0)).set 0 (.arr z E 1 l')=[.arr z E 1 l',.arr v1 e1 s1 m]:=rfl
 have hgS:¬ Γ.St g:=by
  rcases hown with h | h
  ·exact (hH.lt 0 g h).2.2
  ·intro hs
   have:=hH.stlt g hs
   omega
 obtain ⟨q1,q2,q3⟩:=Xi (C:=C) (y:=.arr z E 1 l') (ng:=some g) (w':=w') hH hblt hnf' (λk hk=>by
   simp only [Option.some.injEq] at hk;subst hk
   refine ⟨hgl,hgS,λc hc hc2=>?_⟩
   rcases hown with h | h
   ·exact hc (hH.inj c 0 _ hc2 h)
   ·have:=(hH.lt c _ hc2).2.1
    omega)
  (λk hk=>by
   simp only [Option.some.injEq] at hk;subst hk
   rcases hown with h | h
   ·exact .inl h
   ·exact .inr (by omega)) hoth hsz h1 h2 h3
  (BR.els hng hrow hE (by rintro ⟨_,h⟩;exact hl' h) hc hl) rfl
 rw [hk] at q1 q2
 refine ⟨_,Φ,q1.lift Φ,q2,?_,λc hc=>?_,?_,λb g' hb=>?_⟩
 ·refine .fl 0 g z E 1 l'.length cap rfl (λ_ h=>hl' (List.length_eq_zero_iff.1 h)) hng hcap hm ?_
  simp only [World.shape?,hrow,hcs,Nat.mul_one]
 ·simp only [PV.nms,List.mem_singleton] at hc
  subst hc
  simp
 ·refine hI.mono s Γ.St Φ w Γ.St w' hi (λ_ h=>h) (λk hk hp=>(hI.foot _ _ _ _ hi k hp).2 hk) (λk hk=>Nat.lt_of_lt_of_le (hH.stlt k hk) hsz) (λk hk=>?_) hsz h1 h2 h3
  rcases hk with hk | hk
  ·exact hoth k (hH.stlt k hk) (λh=>(hH.lt 0 k h).2.2 hk)
  ·exact hoth k (hI.foot _ _ _ _ hi k hk).1 (λh=>hd 0 k h hk)
 ·simp only [Ctx.re] at hb
  split at hb
  ·simp only [Option.some.injEq] at hb
   subst hb
   rcases hown with h | h
   ·exact hd 0 _ h
   ·intro hp
    have:=(hI.foot _ _ _ _ hi _ hp).1
    omega
  ·exact hd b g' hb
theorem G9 {w:World} {g o e:Nat} {vs:List Value} {cur:Array Value} (hg:w.heap[g]? = some (.cells cur e (0,0))) (hle:o+vs.length<=cur.size) (h1:∀ v∈vs,v.oneCell'=true) :
  (w.setCells g o vs).heap[g]? = some (.cells (D3 cur.toList o vs).toArray e (0,0))/\(∀ k,k≠g->(w.setCells g o vs).heap[k]? = w.heap[k]?)/\(w.setCells g o vs).heap.size=w.heap.size/\(w.setCells g o vs).os=w.os/\(w.setCells g o vs).tape=w.tape/\(w.setCells g o vs).output=w.output:=by
 obtain ⟨w',r1,r2,r3,r4,r5,r6,r7,_⟩:=F4 (P:=Tryz.prog) (o:=o) hg hle h1
 have hcell:∀ j,j<vs.length->∃ v,w.cell? ⟨g,o+0+j,none⟩=some v:=λj hj=>by
  refine ⟨cur[o+j]'(by omega),?_⟩
  simp [World.cell?,hg,Array.getElem?_eq_getElem (show o+j<cur.size by omega)]
 have r:=run_storeCells_cells (P:=Tryz.prog) g o vs 0 w (λj hj=>by obtain ⟨v,h⟩:=hcell j hj;rw [h];rfl) (λj hj=>by simp [World.frozen?,hg]) h1
 rw [r] at r1
 simp only [Nat.add_zero,Result.ok.injEq,true_and] at r1
 rw [r1]
 exact ⟨r2,r3,r4,r5,r6,r7⟩
theorem Wb {St:Nat->Prop} {w:World} {l:LL} {cs:List Value} {i:Nat} {n:Int} (h:Els St w 1 l cs) (hi:i<=l.length):Els St w 1 (Fs l i n) (cs.take i++Value.int .i64 n::cs.drop i):=by
 have hlen:=h.1
 rw [Nat.mul_one] at hlen
 have h1:Els St w 1 (l.take i) (cs.take i):=by
  refine ⟨by rw [List.length_take,List.length_take,hlen,Nat.mul_one],λj hj=>?_⟩
  rw [List.length_take] at hj
  rw [List.getElem_take]
  obtain ⟨a,b⟩:=h.2 j (by omega)
  refine ⟨a,λk hk=>?_⟩
  obtain ⟨U,e,v⟩:=b k hk
  exact ⟨U,by rw [List.getElem?_take_of_lt (by omega)];exact e,v⟩
 have h2:Els St w 1 [[SV.int .i64 n]] [Value.int .i64 n]:=by
  refine ⟨rfl,λj hj=>?_⟩
  have:j=0:=by simpa using hj
  subst this
  refine ⟨rfl,λk hk=>?_⟩
  have:k=0:=by simpa using hk
  subst this
  exact ⟨_,rfl,.int _ _⟩
 have h3:Els St w 1 (l.drop i) (cs.drop i):=by
  refine ⟨by rw [List.length_drop,List.length_drop,hlen,Nat.mul_one],λj hj=>?_⟩
  rw [List.length_drop] at hj
  rw [List.getElem_drop]
  obtain ⟨a,b⟩:=h.2 (i+j) (by omega)
  refine ⟨a,λk hk=>?_⟩
  obtain ⟨U,e,v⟩:=b k hk
  exact ⟨U,by rw [List.getElem?_drop];rw [show i+(j*1+k)=(i+j)*1+k by omega];exact e,v⟩
 have:=(h1.append h2).append h3
 unfold Fs
 simpa using this
theorem Wc (l:LL) (i:Nat) (n:Int) (h:i<=l.length):(Fs l i n).length=l.length+1:=by
 unfold Fs
 rw [List.length_append,List.length_cons,List.length_take,List.length_drop]
 omega
theorem GK (l:LL) (i:Nat) (n:Int):Fs l i n≠[]:=by
 unfold Fs
 simp
theorem Bn1:Jd Tryz.prog GX 102 EM:=by
 intro C hP hG σ I yh yv hI hy args H s ret Hc hpf Γ Φ w Vs hyv hH hg hi hd hc hn
 unfold EM at hpf
 split at hpf
 ·rename_i i z l nn
  obtain ⟨h0,hpf⟩:=A9 hpf
  obtain ⟨h1,hpf⟩:=A9 hpf
  obtain ⟨rfl,rfl⟩:=F5 hpf
  obtain ⟨i0,i1⟩:=G4.1 h0
  obtain ⟨i,rfl⟩:=Int.eq_ofNat_of_zero_le i0
  have hl:=Nat.le_of_ble_eq_true h1
  have hil:i<=l.length:=by
   have:(i:Int)<((l.length+1:Nat):Int):=i1
   omega
  obtain ⟨S,X0,V,rfl,hs,hx,hv⟩:=hc.arr3
  obtain rfl:=hx.inv_int
  have hnf:Ag C 3=false:=by
   unfold Ag Cfg.sh
   rw [hP]
   kernel_rfl
  obtain ⟨g1,cur1,n1,n2,n3,n4,n5⟩:=hH.arr' (b:=1) rfl (by simp)
  have hvs:∃ cap,V = .slice (some ⟨g1,0,none⟩) 1 cap:=by
   cases hv with
   | flv _ e sz h=>simp [A1,Blk.shp] at h
   | fl _ g v e sz n cap h hv' hg' hcap hm hs'=>
    rw [n1] at hg'
    simp only [Option.some.injEq] at hg'
    subst hg'
    simp only [A1,List.getElem?_cons_succ,List.getElem?_cons_zero,Option.map_some,Blk.shp,Option.some.injEq,Shp.arr.injEq] at h
    obtain ⟨_,_,_,h4⟩:=h
    subst h4
    exact ⟨cap,rfl⟩
  obtain ⟨cap1,rfl⟩:=hvs
  obtain ⟨V1,p1,p2⟩:=n5 0 (by simp) 0 (by simp)
  have p3:V1 = .int .i64 nn:=by cases p2;rfl
  subst p3
  have hvcell:∀ j v,[Value.int .i64 nn][j]? = some v->w.cell? ⟨g1,0+j,none⟩=some v:=by
   intro j v hj
   have:j=0:=by
    have:=(List.getElem?_eq_some_iff.1 hj).1
    simpa using this
   subst this
   simp only [List.getElem?_cons_zero,Option.some.injEq] at hj
   subst hj
   simpa [World.cell?,n2] using p1
  have hv1:∀ v∈[Value.int .i64 nn],v.oneCell'=true:=by simp [Value.oneCell']
  rw [Int.toNat_natCast]
  refine R2 (fn:=Tryz.f102) (by kernel_rfl) (by kernel_rfl) (by kernel_rfl) ?_
  have grownEnd:∀ (base:Option Addr) (c:Nat) (cs:List Value),l.length<=c->c<l.length+1->cs.length=l.length->(base=none->l.length=0)->(∀ a,base=some a->∀ j v,cs[j]? = some v->w.cell? (a.add j)=some v)->Els Γ.St w 1 l cs->
    Calls Tryz.prog 102 #[.slice base l.length c,.int .i64 (l.length:Int),.slice (some ⟨g1,0,none⟩) 1 cap1] w λe w'=>∃ V,e = .returned V/\R6 C I Γ [.arr z 3 1 l,.arr false 3 1 [[SV.int .i64 nn]]] w Φ (.fl 0) [.arr z 3 1 (Fs l l.length nn),.arr false 3 1 [[SV.int .i64 nn]]] s V w':=by
   intro base c cs a1 a2 a3 a4 a5 a6
   refine (Any2.slices_Insert_int_end_grow Tryz.lays2_21 base l.length c g1 0 1 cap1 cs [.int .i64 nn] w (by omega) a1 a2 (by omega) a3 rfl a4 a5 hvcell hv1).mono ?_
   rintro e w' ⟨rfl,rfl⟩
   refine ⟨_,rfl,?_⟩
   obtain ⟨hge,hle⟩:=T3 (w:=w) (need:=l.length+1) (cap:=c) (e:=3) (by omega)
   have hE:=Wb (n:=nn) a6 (Nat.le_refl l.length)
   have hcsl:cs.take l.length++Value.int .i64 nn::cs.drop l.length=cs++[Value.int .i64 nn]:=by
    rw [List.take_of_length_le (by omega),List.drop_of_length_le (by omega)]
   rw [hcsl] at hE
   have hlen:=Wc l l.length nn (Nat.le_refl _)
   obtain ⟨r1,r2⟩:=Pp (olds:=cs) (Vs:=[Value.int .i64 nn]) (z:=(Value.int .i64 0).cells) (k:=grownCap w (l.length+1) c 3) (n:=l.length) (m:=1) (size:=1) rfl (by omega) rfl hge
   have hrowE:(cs.toArray++[Value.int .i64 nn].toArray)=(cs++[Value.int .i64 nn]).toArray:=by simp
   rw [hrowE] at r1 r2
   have key:∀ (row:Array Value) (kc:Nat),row.size=kc->(∀ q,q<(cs++[Value.int .i64 nn]).length->row[q]? = (cs++[Value.int .i64 nn])[q]?)->l.length+1<=kc->kc<=maxLen->
     R6 C I Γ [.arr z 3 1 l,.arr false 3 1 [[SV.int .i64 nn]]] w Φ (.fl 0) [.arr z 3 1 (Fs l l.length nn),.arr false 3 1 [[SV.int .i64 nn]]] s (.slice (some ⟨w.heap.size,0,none⟩) (l.length+1) kc) (w.drew.alloc (.cells row 3)):=by
    intro row kc b1 b2 b3 b4
    have hwh:(w.drew.alloc (.cells row 3)).heap=w.heap.push (.cells row 3):=rfl
    have:=Xq (C:=C) (w':=w.drew.alloc (.cells row 3)) (l':=Fs l l.length nn) hI w.heap.size kc (cs++[Value.int .i64 nn]) row hnf hH hi hd (.inr rfl) (by rw [hwh];simp) (λk hk _=>C6 hwh hk) (by rw [hwh];simp) rfl rfl rfl (C5 hwh) (hE.mono (λg hg=>C6 hwh (hH.stlt g hg)) (λ_ h=>h)) (GK _ _ _) b2 (by rw [b1,List.length_append,List.length_singleton];omega) (by rw [hlen];exact b3) b4 b1
    rw [hlen] at this
    exact this
   exact key _ _ (r1.trans (Nat.mul_one _)) r2 hge hle
  have two:∀ (row:Array Value) (cs:List Value),cs.length=l.length->i<l.length->l.length+1<=row.size->(∀ q,q<i->row[q]? = cs[q]?)->
    ∀ q,q<(cs.take i++Value.int .i64 nn::cs.drop i).length->(D3 (D3 row.toList i [Value.int .i64 nn]) (i+1) (cs.drop i)).toArray[q]? = (cs.take i++Value.int .i64 nn::cs.drop i)[q]?:=by
   intro row cs a1 a2 a3 a4 q hq
   have hq':q<l.length+1:=by
    rw [List.length_append,List.length_cons,List.length_take,List.length_drop] at hq
    omega
   have ht:(cs.take i).length=i:=by rw [List.length_take];omega
   have hrl:row.toList.length=row.size:=Array.length_toList
   simp only [List.getElem?_toArray]
   rw [E7 _ _ _ (by rw [B4,List.length_drop,hrl];omega),E7 _ _ _ (by rw [List.length_singleton,hrl];omega)]
   by_cases h1:q<i
   ·rw [L7,L7,List.getElem?_append_left (by omega),List.getElem?_take_of_lt h1]
    simpa using a4 q h1
   ·by_cases h2:q=i
    ·subst h2
     rw [L7,if_pos (by rw [List.length_singleton];omega),List.getElem?_append_right (by omega),ht,Nat.sub_self]
     rfl
    ·rw [if_pos (by rw [List.length_drop];omega),List.getElem?_append_right (by omega),ht,show q-i=(q-(i+1))+1 by omega,List.getElem?_cons_succ]
  have grownMid:∀ (g c:Nat) (cs:List Value),i<l.length->l.length<=c->c<l.length+1->cs.length=l.length->(∀ j v,cs[j]? = some v->w.cell? ⟨g,0+j,none⟩=some v)->(∀ v∈cs,v.oneCell'=true)->Els Γ.St w 1 l cs->
    Calls Tryz.prog 102 #[.slice (some ⟨g,0,none⟩) l.length c,.int .i64 (i:Int),.slice (some ⟨g1,0,none⟩) 1 cap1] w λe w'=>∃ V,e = .returned V/\R6 C I Γ [.arr z 3 1 l,.arr false 3 1 [[SV.int .i64 nn]]] w Φ (.fl 0) [.arr z 3 1 (Fs l i nn),.arr false 3 1 [[SV.int .i64 nn]]] s V w':=by
   intro g c cs hi' a1 a2 a3 a4 a5 a6
   refine (Any2.slices_Insert_int_grow Tryz.lays2_21 g 0 l.length c i g1 0 1 cap1 cs [.int .i64 nn] w hi' (by omega) a1 a2 (by omega) a3 rfl a4 hvcell a5 hv1).mono ?_
   rintro e w' ⟨rfl,rfl⟩
   refine ⟨_,rfl,?_⟩
   obtain ⟨hge,hle⟩:=T3 (w:=w) (need:=l.length+1) (cap:=c) (e:=3) (by omega)
   have hE:=Wb (n:=nn) a6 hil
   have hlen:=Wc l i nn hil
   have key:∀ (row:Array Value) (kc:Nat),row.size=kc->(∀ q,q<i->row[q]? = cs[q]?)->l.length+1<=kc->kc<=maxLen->
     R6 C I Γ [.arr z 3 1 l,.arr false 3 1 [[SV.int .i64 nn]]] w Φ (.fl 0) [.arr z 3 1 (Fs l i nn),.arr false 3 1 [[SV.int .i64 nn]]] s (.slice (some ⟨w.heap.size,0,none⟩) (l.length+1) kc) (((w.alloc (.cells row 3)).drew.setCells w.heap.size i [Value.int .i64 nn]).drew.setCells w.heap.size (i+1) (cs.drop i)):=by
    intro row kc b1 b2 b3 b4
    have hwh:(w.alloc (.cells row 3)).drew.heap=w.heap.push (.cells row 3):=rfl
    obtain ⟨c1,c2,c3,c4,c5,c6⟩:=G9 (w:=(w.alloc (.cells row 3)).drew) (o:=i) (vs:=[Value.int .i64 nn]) (C5 hwh) (by rw [List.length_singleton];omega) hv1
    generalize hw1:(w.alloc (.cells row 3)).drew.setCells w.heap.size i [Value.int .i64 nn]=w1 at *
    have hs1:(D3 row.toList i [Value.int .i64 nn]).toArray.size=kc:=by rw [List.size_toArray,B4];simpa using b1
    obtain ⟨d1,d2,d3,d4,d5,d6⟩:=G9 (w:=w1.drew) (o:=i+1) (vs:=cs.drop i) c1 (by rw [hs1,List.length_drop];omega) (λv hv=>a5 v (List.mem_of_mem_drop hv))
    have hoth:∀ k,k<w.heap.size->(w1.drew.setCells w.heap.size (i+1) (cs.drop i)).heap[k]? = w.heap[k]?:=λk hk=>by
     rw [d2 k (by omega)]
     exact (c2 k (by omega)).trans (C6 hwh hk)
    have hsz:(w1.drew.setCells w.heap.size (i+1) (cs.drop i)).heap.size=w.heap.size+1:=by
     rw [d3]
     show w1.heap.size=_
     rw [c3,hwh]
     simp
    have:=Xq (C:=C) (w':=w1.drew.setCells w.heap.size (i+1) (cs.drop i)) (l':=Fs l i nn) hI w.heap.size kc (cs.take i++Value.int .i64 nn::cs.drop i) _ hnf hH hi hd (.inr rfl) (by rw [hsz];omega) (λk hk _=>hoth k hk) (by rw [hsz];omega) (d4.trans c4) (d5.trans c5) (d6.trans c6) d1 (hE.mono (λg hg=>hoth g (hH.stlt g hg)) (λ_ h=>h)) (GK _ _ _) (two row cs a3 hi' (by omega) b2) (by rw [List.size_toArray,B4,List.length_append,List.length_cons,List.length_take,List.length_drop];simp only [List.size_toArray,B4] at hs1 ⊢;omega) (by rw [hlen];exact b3) b4 (by rw [List.size_toArray,B4];simpa using hs1)
    rw [hlen] at this
    exact this
   have hz1:(Value.int .i64 0).cells.size=1:=rfl
   have ht:(cs.take i).length=i:=by rw [List.length_take];omega
   refine key _ _ ?_ (λq hq=>?_) hge hle
   ·simp only [Array.size_append,List.size_toArray,size_zeroCells,hz1,Nat.mul_one,ht]
    have:l.length+1<=grownCap w (l.length+1) c 3:=hge
    show i+(l.length+1-i)+(grownCap w (l.length+1) c 3-(l.length+1))=grownCap w (l.length+1) c 3
    omega
   ·rw [Array.getElem?_append_left (by simp only [Array.size_append,List.size_toArray,ht];omega),Array.getElem?_append_left (by simp only [List.size_toArray,ht];omega),List.getElem?_toArray,List.getElem?_take_of_lt hq]
  have two':∀ (row:Array Value) (cs:List Value),cs.length=l.length->i<l.length->l.length+1<=row.size->(∀ q,q<i->row[q]? = cs[q]?)->
    ∀ q,q<(cs.take i++Value.int .i64 nn::cs.drop i).length->(D3 (D3 row.toList (i+1) (cs.drop i)) i [Value.int .i64 nn]).toArray[q]? = (cs.take i++Value.int .i64 nn::cs.drop i)[q]?:=by
   intro row cs a1 a2 a3 a4 q hq
   have hq':q<l.length+1:=by
    rw [List.length_append,List.length_cons,List.length_take,List.length_drop] at hq
    omega
   have ht:(cs.take i).length=i:=by rw [List.length_take];omega
   have hrl:row.toList.length=row.size:=Array.length_toList
   simp only [List.getElem?_toArray]
   rw [E7 _ _ _ (by rw [B4,List.length_singleton,hrl];omega),E7 _ _ _ (by rw [List.length_drop,hrl];omega)]
   by_cases h1:q<i
   ·rw [L7,L7,List.getElem?_append_left (by omega),List.getElem?_take_of_lt h1]
    simpa using a4 q h1
   ·by_cases h2:q=i
    ·subst h2
     rw [if_pos (by rw [List.length_singleton];omega),List.getElem?_append_right (by omega),ht,Nat.sub_self]
     rfl
    ·rw [if_neg (by rw [List.length_singleton];omega),if_pos (by rw [List.length_drop];omega),List.getElem?_append_right (by omega),ht,show q-i=(q-(i+1))+1 by omega,List.getElem?_cons_succ]
  cases hs with
  | flv _ e2 sz2 h'=>
   simp only [A1,List.getElem?_cons_zero,Option.map_some,Blk.shp,Option.some.injEq,Shp.arr.injEq] at h'
   obtain ⟨q1,q2,q3,h4⟩:=h'
   obtain rfl:=List.length_eq_zero_iff.1 h4
   obtain rfl:i=0:=by simpa using hil
   exact grownEnd none 0 [] (by simp) (by simp) rfl (λ_=>rfl) (λa h=>by cases h) ⟨rfl,λj hj=>by simp at hj⟩
  | fl _ g z' e2 sz2 n' cap h' hv' hg' hcap hm hs'=>
   simp only [A1,List.getElem?_cons_zero,Option.map_some,Blk.shp,Option.some.injEq,Shp.arr.injEq] at h'
   obtain ⟨rfl,rfl,rfl,rfl⟩:=h'
   have hne:¬ (z=true/\l=[]):=by rintro ⟨q1,q2⟩;exact hv' q1 (by rw [q2];rfl)
   obtain ⟨g',cur,hg2,hh,hsize,hlens,hels⟩:=hH.arr' (b:=0) rfl hne
   obtain rfl:g=g':=by
    rw [hg'] at hg2
    exact Option.some.inj hg2
   have hcs:cur.size=cap:=by
    have:=hs'
    simp only [World.shape?,hh,Option.some.injEq,Prod.mk.injEq,true_and,Nat.mul_one] at this
    exact this
   rw [Nat.mul_one] at hsize
   have hO:Els Γ.St w 1 l (cur.toList.take l.length):=by
    refine ⟨by rw [List.length_take,Array.length_toList (xs:=cur)];omega,λj hj=>⟨hlens j hj,λk hk=>?_⟩⟩
    obtain ⟨U,e1,u⟩:=hels j hj k hk
    refine ⟨U,?_,u⟩
    have hk':k<1:=by rw [<-hlens j hj];exact hk
    rw [List.getElem?_take,Me]
    simpa using e1
   have hol:(cur.toList.take l.length).length=l.length:=by rw [List.length_take,Array.length_toList (xs:=cur)];omega
   have hcell:∀ j v,(cur.toList.take l.length)[j]? = some v->w.cell? ⟨g,0+j,none⟩=some v:=by
    intro j v hj
    have hj':j<l.length:=by
     have:=(List.getElem?_eq_some_iff.1 hj).1
     omega
    rw [List.getElem?_take,if_pos hj'] at hj
    simpa [World.cell?,hh] using hj
   have h1c:∀ v∈cur.toList.take l.length,v.oneCell'=true:=by
    intro v hv
    obtain ⟨j,hj,rfl⟩:=List.getElem_of_mem hv
    have hj':j<l.length:=by omega
    obtain ⟨_,u⟩:=hO.2 j hj'
    obtain ⟨U,e1,u2⟩:=u 0 (by rw [hlens j hj'];exact Nat.one_pos)
    rw [Nat.mul_one,Nat.add_zero,List.getElem?_eq_getElem hj] at e1
    cases e1
    exact u2.oneCell
   have hlen:=Wc l i nn hil
   have hE:=Wb (n:=nn) hO hil
   have hsome:∀ j,j<cap->(w.cell? ⟨g,j,none⟩).isSome=true:=by
    intro j hj
    simp only [World.cell?,hh]
    rw [Array.getElem?_eq_getElem (by omega)]
    rfl
   have hfrz:∀ j,w.frozen? ⟨g,j,none⟩=false:=λj=>by simp [World.frozen?,hh]
   have hng1:g1≠g:=λe=>by
    have:=hH.inj 1 0 g (by rw [<-e];exact n1) hg'
    omega
   have hmx:cap<=9223372036854775807:=by
    simp only [maxLen] at hm
    omega
   by_cases hroom:l.length+1<=cap
   ·have key:∀ (w':World) (row:List Value),w'.heap[g]? = some (.cells row.toArray 3 (0,0))->(∀ k,k≠g->w'.heap[k]? = w.heap[k]?)->w'.heap.size=w.heap.size->w'.os=w.os->w'.tape=w.tape->w'.output=w.output->row.length=cap->
      (∀ q,q<((cur.toList.take l.length).take i++Value.int .i64 nn::(cur.toList.take l.length).drop i).length->row.toArray[q]? = ((cur.toList.take l.length).take i++Value.int .i64 nn::(cur.toList.take l.length).drop i)[q]?)->
      R6 C I Γ [.arr z 3 1 l,.arr false 3 1 [[SV.int .i64 nn]]] w Φ (.fl 0) [.arr z 3 1 (Fs l i nn),.arr false 3 1 [[SV.int .i64 nn]]] s (.slice (some ⟨g,0,none⟩) (l.length+1) cap) w':=by
     intro w' row k1 k2 k3 k4 k5 k6 k7 k8
     have hgS:¬ Γ.St g:=(hH.lt 0 g hg').2.2
     have:=Xq (C:=C) (w':=w') (l':=Fs l i nn) hI g cap ((cur.toList.take l.length).take i++Value.int .i64 nn::(cur.toList.take l.length).drop i) row.toArray hnf hH hi hd (.inl hg') (by rw [k3];exact (hH.lt 0 g hg').2.1) (λk hk hk2=>k2 k (λe=>hk2 (e ▸ hg'))) (by omega) k4 k5 k6 k1
      (hE.mono (λk hk=>k2 k (λe=>hgS (e ▸ hk))) (λ_ h=>h)) (GK _ _ _) k8
      (by rw [List.size_toArray,k7,List.length_append,List.length_cons,List.length_take,List.length_drop,hol];omega) (by rw [hlen];exact hroom) hm (by rw [List.size_toArray,k7])
     rw [hlen] at this
     exact this
    by_cases hie:i=l.length
    ·subst hie
     refine (Any2.slices_Insert_int_end_room Tryz.lays2_21 g 0 l.length cap g1 0 1 cap1 [.int .i64 nn] w (by omega) hroom hmx rfl (λj hj=>hsome _ (by omega)) (λj hj=>hfrz _) hvcell hv1).mono ?_
     rintro e w' ⟨rfl,rfl⟩
     refine ⟨_,rfl,?_⟩
     obtain ⟨c1,c2,c3,c4,c5,c6⟩:=G9 (w:=w) (o:=0+l.length) (vs:=[Value.int .i64 nn]) hh (by rw [List.length_singleton];omega) hv1
     refine key _ _ c1 c2 c3 c4 c5 c6 (by rw [B4];simpa using hcs) (λq hq=>?_)
     rw [List.take_of_length_le (by omega),List.drop_of_length_le (by omega)] at hq ⊢
     rw [List.length_append,hol,List.length_singleton] at hq
     simp only [List.getElem?_toArray]
     rw [E7 _ _ _ (by rw [List.length_singleton,Array.length_toList (xs:=cur)];omega)]
     by_cases hq2:q<l.length
     ·rw [L7,List.getElem?_append_left (by omega),List.getElem?_take,if_pos hq2]
     ·obtain rfl:q=l.length:=by omega
      rw [if_pos (by rw [List.length_singleton];omega),List.getElem?_append_right (by omega),hol]
      simp
    ·have hi':i<l.length:=by omega
     refine (Any2.slices_Insert_int_shift Tryz.lays2_21 g 0 l.length cap i g1 0 1 cap1 (cur.toList.take l.length) [.int .i64 nn] w hi' (by omega) hroom hmx hng1 hol rfl hcell (λj hj=>hsome _ (by omega)) (λj hj=>hfrz _) hvcell h1c hv1 3 3 cur1.size cur.size (by simp [World.shape?,n2]) (by simp [World.shape?,hh]) (by omega) (by simp [World.frozen?,n2]) (by simp [World.frozen?,n2])).mono ?_
     rintro e w' ⟨rfl,rfl⟩
     refine ⟨_,rfl,?_⟩
     obtain ⟨c1,c2,c3,c4,c5,c6⟩:=G9 (w:=w.drew) (o:=0+(i+1)) (vs:=(cur.toList.take l.length).drop i) hh (by rw [List.length_drop,hol];omega) (λv hv=>h1c v (List.mem_of_mem_drop hv))
     generalize hw1:w.drew.setCells g (0+(i+1)) ((cur.toList.take l.length).drop i)=w1 at *
     have hs1:(D3 cur.toList (0+(i+1)) ((cur.toList.take l.length).drop i)).toArray.size=cap:=by rw [List.size_toArray,B4];simpa using hcs
     obtain ⟨d1,d2,d3,d4,d5,d6⟩:=G9 (w:=w1) (o:=0+i) (vs:=[Value.int .i64 nn]) c1 (by rw [hs1,List.length_singleton];omega) hv1
     refine key _ _ d1 (λk hk=>(d2 k hk).trans (c2 k hk)) (d3.trans c3) (d4.trans c4) (d5.trans c5) (d6.trans c6) (by rw [B4];simpa using hs1) ?_
     rw [Nat.zero_add,Nat.zero_add]
     exact two' cur _ hol hi' (by omega) (λq hq=>by rw [List.getElem?_take,Me];simp)
   ·by_cases hie:i=l.length
    ·subst hie
     exact grownEnd (some ⟨g,0,none⟩) cap (cur.toList.take l.length) hcap (by omega) hol (λh=>by cases h) (λa h j v hj=>by
      obtain rfl:=Option.some.inj h
      rw [F6]
      exact hcell j v hj) hO
    ·exact grownMid g cap _ (by omega) hcap (by omega) hol hcell h1c hO
 ·cases hpf
end
section
open Go
theorem Kn (x y:By) (r:List By) (p:By):Lib.join (x::y::r) p=x++(p++Lib.join (y::r) p):=by
 simp [Lib.join,List.intercalate]
theorem MC (c:UInt8):∀ l:List By,l≠[]->(∀ x∈l,c∉x)->pcs c (Lib.join l [c])=l
 | [],h,_=>absurd rfl h
 | [x],_,h=>by rw [Lib.join_one,Ho (h x (by simp))]
 | x::y::r,_,h=>by
  rw [Kn,List.singleton_append,Ts (h x (by simp)),MC c (y::r) (by simp) (λz hz=>h z (by simp [hz]))]
theorem LH (c:UInt8):∀ (n:Nat) (s:By),s.length<=n->Lib.join (pcs c s) [c]=s
 | n,s,hn=>by
  rcases Dk c s with h | ⟨p,r,rfl,h⟩
  ·rw [Ho h,Lib.join_one]
  ·rw [Ts h]
   cases n with
   | zero=>simp at hn
   | succ n=>
    have ih:=LH c n r (by simp at hn;omega)
    cases hp:pcs c r with
    | nil=>exact absurd hp (Kr c r)
    | cons y q=>
     rw [Kn,<-hp,ih]
     rfl
theorem Ij (c:UInt8) (s:By):Lib.join (pcs c s) [c]=s:=LH c _ s (Nat.le_refl _)
theorem WI (b:UInt8):SD b=46↔b=46:=by
 rcases SE b with ⟨h,e⟩ | ⟨h,e⟩ | ⟨h,h2,e⟩
 ·rw [e]
 ·rw [e]
 ·constructor
  ·intro h3;rw [h3] at e;simp at e;omega
  ·intro h3;subst h3;simp at h
theorem ZN (a b:By):Ce (a++b)=Ce a++Ce b:=List.map_append
theorem Ef:∀ (s acc:By),F8 46 (Ce acc) (Ce s)=(F8 46 acc s).map Ce
 | [],acc=>rfl
 | b::r,acc=>by
  show (if SD b=46 then _ else _)=_
  simp only [F8]
  by_cases h:b=46
  ·rw [if_pos ((WI b).2 h),if_pos h,List.map_cons]
   have:=Ef r []
   rw [<-this]
   rfl
  ·rw [if_neg (λe=>h ((WI b).1 e)),if_neg h,<-Ef r (acc++[b]),ZN]
   rfl
theorem Aa2 (s:By):pcs 46 (Ce s)=(pcs 46 s).map Ce:=Ef s []
theorem ZO {s:By}:Ce s=[]↔s=[]:=by unfold Ce;simp
theorem GE (l:List By):(l.map Ce).getLastD []=Ce (l.getLastD []):=by
 rw [List.getLastD_eq_getLast?,List.getLastD_eq_getLast?,List.getLast?_map]
 cases l.getLast?<;>rfl
theorem Bi1 (s:By):G0 (Ce s)=(G0 s).map Ce:=by
 unfold G0
 rw [Aa2,GE]
 simp only [List.length_map,ZO]
 grind
theorem LM (b:UInt8):U7 b=true↔(97<=b.toNat/\b.toNat<=122)\/(48<=b.toNat/\b.toNat<=57)\/b=45\/b=95:=by
 simp [U7,or_assoc]
structure VL (s:By):Prop where
 ne:s≠[]
 le:s.length<=63
 byt:∀ b∈s,U7 b=true
theorem CM {s:By} (h:Cq s=true):VL s:=by
 unfold Cq at h
 simp only [Bool.and_eq_true,Bool.not_eq_true',List.all_eq_true] at h
 obtain ⟨⟨⟨⟨⟨h1,h2⟩,h3⟩,h4⟩,h5⟩,h6⟩:=h
 refine ⟨by intro e;subst e;simp at h1,Nat.le_of_ble_eq_true h2,λb hb=>h5 b hb⟩
structure VN (s:By):Prop where
 le:s.length<=253
 num:Ab s=false
 all:∀ x∈pcs 46 s,Cq x=true
theorem Cr {s:By}:E2 s=true↔VN s:=by
 unfold E2
 simp only [Bool.and_eq_true,Bool.not_eq_true',List.all_eq_true]
 exact ⟨λh=>⟨Nat.le_of_ble_eq_true h.1.1,h.1.2,h.2⟩,λh=>⟨⟨Nat.ble_eq_true_of_le h.le,h.num⟩,h.all⟩⟩
theorem O6 {a b:By}:E9 a b=true↔VN a/\VN b/\(a=b\/∃ p,b=p++46::a):=by
 unfold E9
 simp only [Bool.and_eq_true,Bool.or_eq_true,Cr,and_assoc,beq_iff_eq,List.isSuffixOf_iff_suffix]
 constructor
 ·rintro ⟨h1,h2,h3 | ⟨p,h3⟩⟩
  all_goals grind
 grind
theorem Cz (a:By):E9 a a=E2 a:=by
 unfold E9
 simp
theorem Lt {a b c:By} (h1:E9 a b=true) (h2:E9 b c=true):E9 a c=true:=by
 obtain ⟨v1,v2,h1⟩:=O6.1 h1
 obtain ⟨_,v3,h2⟩:=O6.1 h2
 refine O6.2 ⟨v1,v3,?_⟩
 grind
theorem Rs {s:By} (h:∀ x∈pcs 46 s,x≠[]):G0 s=pcs 46 s:=by
 unfold G0
 grind
theorem VN.pne {s:By} (h:VN s):∀ x∈pcs 46 s,x≠[]:=λx hx=>(CM (h.all x hx)).ne
theorem VN.super {s x y:By} {r:List By} (h:VN s) (hp:pcs 46 s=x::y::r):s=x++46::Lib.join (y::r) [46]/\VN (Lib.join (y::r) [46])/\pcs 46 (Lib.join (y::r) [46])=y::r:=by
 have hs:=Ij 46 s
 rw [hp,Kn] at hs
 have hpc:pcs 46 (Lib.join (y::r) [46])=y::r:=MC 46 _ (by simp) (λz hz=>(Mv (s:=s) (by rw [hp];simp [hz])).1)
 have hall:∀ z∈y::r,Cq z=true:=λz hz=>h.all z (by rw [hp];exact List.mem_cons_of_mem _ hz)
 refine ⟨hs.symm,⟨?_,?_,by rw [hpc];exact hall⟩,hpc⟩
 ·have:=congrArg List.length hs
  have:=h.le
  grind
 ·have h1:=h.num
  unfold Ab at h1 ⊢
  have e:Cd (Lib.join (y::r) [46])=Cd s:=by
   unfold Cd
   rw [Rs h.pne,Rs (by rw [hpc];exact λz hz=>(CM (hall z hz)).ne),hpc,hp]
   rfl
  grind
def Lr (name:By):By->List By->Prop
 | _,[]=>True
 | last,y::r=>E9 y name=true/\E9 y last=true/\y.length<last.length/\Lr name y r
theorem Nl (name:By):∀ (l:List By) (s:By),VN s->E9 s name=true->pcs 46 s=l->Lr name s (W0 l)
 | [],s,_,_,hp=>absurd hp (Kr 46 s)
 | [x],s,_,_,_=>trivial
 | x::y::r,s,hv,hc,hp=>by
  obtain ⟨h1,h2,h3⟩:=hv.super hp
  have hcs:E9 (Lib.join (y::r) [46]) s=true:=O6.2 ⟨h2,hv,.inr ⟨x,h1⟩⟩
  refine ⟨Lt hcs hc,hcs,?_,Nl name (y::r) _ h2 (Lt hcs hc) h3⟩
  grind
theorem N6 (name:By):Lr name name (E3 name):=by
 unfold E3
 by_cases h:E2 name=true
 ·rw [if_pos h]
  exact Nl name _ name (Cr.1 h) (by rw [Cz];exact h) rfl
 ·rw [if_neg h]
  trivial
def sh (n:Nat) (i:Int):Int:=if i = -1 then -1 else i+n
end
section
open Go Go.Op
abbrev Ent:=By × Bool
abbrev I9:=By × Bool × Int
def Sl (e:Ent):List SV:=[.str e.1,.bool e.2]
def TU (p:I9):List SV:=[.str p.1,.bool p.2.1,.int .i64 p.2.2]
def G3 (l:List Ent):LL:=l.map Sl
def N1 (l:List I9):LL:=l.map TU
def E4:List SV->Bool | [.str _,.bool _]=>true | _=>false
def D1:List SV->Bool | [.str _,.bool _,.int .i64 n]=>Md n | _=>false
def A6 (el:List SV):Ent:=((el.getD 0 .nilp).gS,(el.getD 1 .nilp).gB)
def A4 (el:List SV):I9:=((el.getD 0 .nilp).gS,(el.getD 1 .nilp).gB,(el.getD 2 .nilp).gI)
theorem Py {α β:Type} (f:β->α) (g:α->β):∀ l:List α,(∀ x∈l,f (g x)=x)->l=(l.map g).map f
 | [],_=>rfl
 | a::r,h=>by
  rw [List.map_cons,List.map_cons,h a (by simp),<-Py f g r λx hx=>h x (by simp [hx])]
theorem Ly {l:LL} (h:l.all E4=true):l=G3 (l.map A6):=Py Sl A6 l λx hx=>by
 have:=List.all_eq_true.1 h x hx
 unfold E4 at this
 split at this
 ·rfl
 ·cases this
theorem Iv {l:LL} (h:l.all D1=true):l=N1 (l.map A4):=Py TU A4 l λx hx=>by
 have:=List.all_eq_true.1 h x hx
 unfold D1 at this
 split at this
 ·rfl
 ·cases this
theorem Th (l:List Ent):(G3 l).map A6=l:=by
 unfold G3
 rw [List.map_map]
 exact List.map_id'' (λ_=>rfl) l
theorem WS (l:List I9):(N1 l).map A4=l:=by
 unfold N1
 rw [List.map_map]
 exact List.map_id'' (λ_=>rfl) l
@[simp] theorem F0 (l:List Ent):(G3 l).length=l.length:=List.length_map ..
@[simp] theorem K8 (l:List I9):(N1 l).length=l.length:=List.length_map ..
def noE:Ent:=([],false)
def noP:I9:=([],false,0)
theorem Hd {l:List Ent} {i:Nat} (h:i<l.length):(G3 l).getD i []=Sl (l.getD i noE):=by
 unfold G3
 simp [List.getD_eq_getElem?_getD,List.getElem?_eq_getElem h]
theorem Cj {l:List I9} {i:Nat} (h:i<l.length):(N1 l).getD i []=TU (l.getD i noP):=by
 unfold N1
 simp [List.getD_eq_getElem?_getD,List.getElem?_eq_getElem h]
theorem P8:∀ x y:By,bytesLess x y=decide (x<y)
 | [],[]=>by simp [bytesLess]
 | _::_,[]=>by simp [bytesLess]
 | [],_::_=>by simp [bytesLess]
 | a::x,b::y=>by
  rw [bytesLess,P8 x y]
  simp only [List.cons_lt_cons_iff]
  by_cases h1:a<b<;>by_cases h2:a=b<;>by_cases h3:x<y<;>simp [h1,h2,h3]
def rl (s:By):List By:=(pcs 46 s).reverse
def Wp:List By->List By->Bool
 | _,[]=>false
 | [],_::_=>true
 | x::r,y::q=>bytesLess x y || (x==y&&Wp r q)
theorem Tl:∀ x y:List By,Wp x y=decide (x<y)
 | [],[]=>by simp [Wp]
 | _::_,[]=>by simp [Wp]
 | [],_::_=>by simp [Wp]
 | a::x,b::y=>by
  rw [Wp,Tl x y,P8]
  simp only [List.cons_lt_cons_iff]
  by_cases h1:a<b<;>by_cases h2:a=b<;>by_cases h3:x<y<;>simp [h1,h2,h3]
def J5 (a b:By):Bool:=Wp (rl a) (rl b)
def R0 (a b:By):Int:=cond (bytesLess a b) (-1) (cond (bytesLess b a) 1 0)
def FX (a b:Int):Int:=cond (ltI a b) (-1) (cond (ltI b a) 1 0)
def J2 (a b:By):Int:=cond (J5 a b) (-1) (cond (J5 b a) 1 0)
theorem Bi4 {a b:By} (h:rl a=rl b):a=b:=by
 rw [<-Ij 46 a,<-Ij 46 b,List.reverse_inj.1 h]
theorem O9 (a:By):J5 a a=false:=by
 unfold J5
 rw [Tl]
 simp
theorem Y1 {a b c:By} (h:J5 a b=true) (g:J5 b c=true):J5 a c=true:=by
 unfold J5 at *
 rw [Tl] at *
 exact decide_eq_true (List.lt_trans (of_decide_eq_true h) (of_decide_eq_true g))
theorem Hl {a b:By} (h:J5 a b=false) (g:J5 b a=false):a=b:=by
 unfold J5 at *
 rw [Tl] at *
 exact Bi4 (List.le_antisymm (List.not_lt.1 (of_decide_eq_false g)) (List.not_lt.1 (of_decide_eq_false h)))
theorem SY {a b:By} (h:J5 a b=true):J5 b a=false:=by
 cases e:J5 b a with
 | false=>rfl
 | true=>exact absurd (Y1 h e) (by rw [O9];simp)
theorem Rp {a b c:By} (h:J5 a b=false) (g:J5 b c=false):J5 a c=false:=by
 cases e:J5 a c with
 | false=>rfl
 | true=>
  cases e1:J5 b a with
  | true=>rw [Y1 e1 e] at g;cases g
  | false=>
   obtain rfl:=Hl h e1
   rw [e] at g;cases g
theorem U4 (a b:By):decide (J2 a b<0)=J5 a b:=by
 unfold J2
 cases J5 a b with
 | true=>rfl
 | false=>cases J5 b a<;>rfl
theorem AP (a b:By):(J2 a b==0)=(a==b):=by
 unfold J2
 cases h:J5 a b with
 | true=>
  have:a≠b:=λe=>by rw [e,O9] at h;cases h
  simp [this]
 | false=>
  cases g:J5 b a with
  | true=>
   have:a≠b:=λe=>by rw [e,O9] at g;cases g
   simp [this]
  | false=>
   obtain rfl:=Hl h g
   simp
theorem MW {α:Type} [Inhabited α] (f:α->By):Sort.SWO (Go.Proofs.ltOf λx y:α=>J2 (f x) (f y)) where
 irrefl x:=by unfold Go.Proofs.ltOf;rw [U4,O9]
 trans x y z h g:=by unfold Go.Proofs.ltOf at *;rw [U4] at *;exact Y1 h g
 ntrans x y z h g:=by unfold Go.Proofs.ltOf at *;rw [U4] at *;exact Rp h g
def Ej (f:Nat->Int):Nat->Nat->Nat->Nat
 | 0,lo,_=>lo
 | n+1,lo,hi=>if lo<hi then (if f ((lo+hi) / 2)<0 then Ej f n ((lo+hi) / 2+1) hi else Ej f n lo ((lo+hi) / 2)) else lo
theorem Ic (f:Nat->Int):∀ n lo hi,lo<=hi->lo<=Ej f n lo hi/\Ej f n lo hi<=hi
 | 0,lo,hi,h=>⟨Nat.le_refl _,h⟩
 | n+1,lo,hi,h=>by
  unfold Ej
  split
  ·split
   ·have:=Ic f n ((lo+hi) / 2+1) hi (by omega);omega
   ·have:=Ic f n lo ((lo+hi) / 2) (by omega);omega
  ·omega
theorem FD (f:Nat->Int) (N:Nat) (mono:∀ a b,a<=b->b<N->f b<0->f a<0):∀ n lo hi,lo<=hi->hi<=N->hi-lo<=n->(∀ t,t<lo->f t<0)->(∀ t,hi<=t->t<N->0<=f t)->
  (∀ t,t<Ej f n lo hi->f t<0)/\∀ t,Ej f n lo hi<=t->t<N->0<=f t
 | 0,lo,hi,h,_,g,h1,h2=>⟨h1,λt a b=>h2 t (by unfold Ej at a;omega) b⟩
 | n+1,lo,hi,h,k,g,h1,h2=>by
  unfold Ej
  split
  ·split
   ·rename_i c
    exact FD f N mono n _ hi (by omega) k (by omega) (λt ht=>mono t ((lo+hi) / 2) (by omega) (by omega) c) h2
   ·rename_i c
    exact FD f N mono n lo _ (by omega) (by omega) (by omega) h1 (λt a b=>by
     apply Int.not_lt.1;intro d;exact c (mono _ t a b d))
  ·exact ⟨h1,λt a b=>h2 t (by omega) b⟩
def bsI (h:List By) (s:By):Nat:=Ej (λi=>J2 (h.getD i []) s) (h.length+1) 0 h.length
def bsB (h:List By) (s:By):Bool:=Nat.blt (bsI h s) h.length&&h.getD (bsI h s) []==s
def asc (h:List By):Bool:=match h with
 | []=>true
 | [_]=>true
 | a::b::r=>J5 a b&&asc (b::r)
theorem Oi:∀ {h:List By},asc h=true->∀ {i j:Nat},i<j->j<h.length->J5 (h.getD i []) (h.getD j [])=true
 | [],_,i,j,_,hj=>by simp at hj
 | [_],_,i,j,hi,hj=>by simp at hj;omega
 | a::b::r,H,i,j,hi,hj=>by
  unfold asc at H
  rw [Bool.and_eq_true] at H
  match i,j,hi with
  | 0,1,_=>exact H.1
  | 0,j+2,_=>exact Y1 H.1 (Oi (i:=0) (j:=j+1) H.2 (by omega) (by simpa using hj))
  | i+1,j+1,hi=>exact Oi (i:=i) (j:=j) H.2 (by omega) (by simpa using hj)
theorem Bd5 {h:List By} (H:asc h=true) (s:By):(∀ t,t<bsI h s->J5 (h.getD t []) s=true)/\(∀ t,bsI h s<=t->t<h.length->J5 (h.getD t []) s=false)/\bsI h s<=h.length:=by
 have key:=FD (λi=>J2 (h.getD i []) s) h.length (λa b hab hb g=>by
  have g':J5 (h.getD b []) s=true:=by rw [<-U4];exact decide_eq_true g
  rcases Nat.lt_or_eq_of_le hab with l | rfl
  ·exact of_decide_eq_true (by rw [U4];exact Y1 (Oi H l hb) g')
  ·exact g) (h.length+1) 0 h.length (by omega) (by omega) (by omega) (λt ht=>by omega) (λt a b=>by omega)
 refine ⟨λt ht=>by rw [<-U4];exact decide_eq_true (key.1 t ht),λt a b=>?_,(Ic _ _ _ _ (by omega)).2⟩
 rw [<-U4]
 exact decide_eq_false (by have:=key.2 t a b;omega)
theorem Aj4 {h:List By} (H:asc h=true) (s:By):bsB h s=h.contains s:=by
 obtain ⟨h1,h2,h3⟩:=Bd5 H s
 unfold bsB
 rw [Bool.eq_iff_iff]
 simp only [Bool.and_eq_true,Nat.blt_eq,beq_iff_eq,List.contains_iff_mem]
 constructor
 ·rintro ⟨a,b⟩
  rw [<-b,List.getD_eq_getElem?_getD,List.getElem?_eq_getElem a]
  exact List.getElem_mem a
 ·intro hm
  obtain ⟨t,ht,e⟩:=List.getElem_of_mem hm
  have e':h.getD t []=s:=by rw [List.getD_eq_getElem?_getD,List.getElem?_eq_getElem ht];exact e
  have l1:bsI h s<=t:=by
   apply Nat.not_lt.1;intro q
   have:=h1 t q
   rw [e',O9] at this;cases this
  refine ⟨by omega,?_⟩
  rcases Nat.lt_or_eq_of_le l1 with l | l
  ·have g:=h2 _ (Nat.le_refl _) (by omega)
   have:=Oi H l ht
   rw [e',g] at this;cases this
  ·rw [l];exact e'
theorem Ib {a b:Nat}:Nat.blt a b=true↔a<b:=by rw [Nat.blt_eq]
def Sm {α:Type} (key:α->By) (d:α) (T:List α) (u:By):α × Bool:=if bsB (T.map key) u then (T.getD (bsI (T.map key) u) d,true) else (d,false)
theorem Ax3 {α:Type} {key:α->By} {T:List α} (H:asc (T.map key)=true) {x y:α} (hx:x∈T) (hy:y∈T) (e:key x=key y):x=y:=by
 obtain ⟨i,hi,rfl⟩:=List.getElem_of_mem hx
 obtain ⟨j,hj,rfl⟩:=List.getElem_of_mem hy
 have key':∀ {a b:Nat} (ha:a<T.length) (hb:b<T.length),a<b->key T[a]≠key T[b]:=λha hb hab e=>by
  have:=Oi H hab (by simpa using hb)
  simp [List.getD_eq_getElem?_getD,ha,hb] at this
  rw [e,O9] at this;cases this
 rcases Nat.lt_trichotomy i j with h | rfl | h
 ·exact absurd e (key' hi hj h)
 ·rfl
 ·exact absurd e.symm (key' hj hi h)
theorem A15 {α:Type} {key:α->By} {d:α} {T:List α} (H:asc (T.map key)=true) (u:By):(∃ x∈T,key x=u/\Sm key d T u=(x,true))\/((∀ x∈T,key x≠u)/\Sm key d T u=(d,false)):=by
 unfold Sm
 cases h:bsB (T.map key) u with
 | true=>
  left
  rw [if_pos rfl]
  unfold bsB at h
  rw [Bool.and_eq_true] at h
  have h1:bsI (T.map key) u<T.length:=by have:=Ib.1 h.1;simpa using this
  have e:T.getD (bsI (T.map key) u) d=T[bsI (T.map key) u]:=by simp [List.getD_eq_getElem?_getD,h1]
  rw [e]
  refine ⟨_,List.getElem_mem h1,?_,rfl⟩
  have:=h.2
  simpa [List.getD_eq_getElem?_getD,h1] using this
 | false=>
  right
  rw [Aj4 H] at h
  refine ⟨λx hx e=>?_,if_neg (by simp)⟩
  have:(T.map key).contains u=true:=by
   rw [List.contains_iff_mem,<-e]
   exact List.mem_map_of_mem hx
  rw [h] at this;cases this
abbrev L3:=Sm (α:=Ent) Prod.fst noE
abbrev E0:=Sm (α:=I9) Prod.fst noP
theorem Ba (c:UInt8):∀ (p acc s:By),F8 c acc (p++c::s)=F8 c acc p++F8 c [] s
 | [],acc,s=>by simp [F8]
 | b::r,acc,s=>by
  simp only [List.cons_append,F8]
  split
  ·rw [Ba c r [] s];rfl
  ·exact Ba c r _ s
theorem Nk (B:List By) (hB:B≠[]):∀ A:List By,A≠[]->Lib.join B [46]∈W0 (A++B)
 | [],h=>absurd rfl h
 | [x],_=>by
  cases B with
  | nil=>exact absurd rfl hB
  | cons b r=>simp [W0]
 | x::y::r,_=>by
  have:=Nk B hB (y::r) (by simp)
  simp only [List.cons_append,W0] at this ⊢
  exact List.mem_cons_of_mem _ this
theorem X1 {name:By}:∀ {last:By} {l:List By},Lr name last l->∀ u∈l,E9 u name=true/\u.length<last.length
 | _,[],_,u,hu=>by cases hu
 | last,y::r,h,u,hu=>by
  obtain ⟨h1,h2,h3,h4⟩:=h
  rcases List.mem_cons.1 hu with rfl | hu
  ·exact ⟨h1,h3⟩
  ·have:=X1 h4 u hu
   exact ⟨this.1,by omega⟩
theorem Xv {s:By} (hs:E2 s=true) (u:By):u∈E3 s↔E9 u s=true/\u≠s:=by
 constructor
 ·intro h
  have:=X1 (N6 s) u h
  exact ⟨this.1,λe=>by rw [e] at this;omega⟩
 ·rintro ⟨h,hne⟩
  obtain ⟨_,_,h3⟩:=O6.1 h
  rcases h3 with rfl | ⟨p,rfl⟩
  ·exact absurd rfl hne
  ·unfold E3
   rw [if_pos hs]
   have e:pcs 46 (p++46::u)=pcs 46 p++pcs 46 u:=Ba 46 p [] u
   rw [e]
   have:=Nk (pcs 46 u) (Kr 46 u) (pcs 46 p) (Kr 46 p)
   rwa [Ij] at this
theorem Vj {name:By} (P:By->Bool):∀ {last:By} {l:List By},Lr name last l->(∃ u,l.find? P=some u/\u∈l/\P u=true/\∀ v∈l,P v=true->v.length<=u.length)\/(l.find? P=none/\∀ v∈l,P v=false)
 | _,[],_=>.inr ⟨rfl,λv hv=>by cases hv⟩
 | last,y::r,h=>by
  obtain ⟨h1,h2,h3,h4⟩:=h
  rw [List.find?_cons]
  cases hp:P y with
  | true=>
   refine .inl ⟨y,rfl,by simp,hp,λv hv _=>?_⟩
   rcases List.mem_cons.1 hv with rfl | hv
   ·exact Nat.le_refl _
   ·have:=(X1 h4 v hv).2;omega
  | false=>
   rcases Vj P h4 with ⟨u,a,b,c,d⟩ | ⟨a,b⟩
   ·refine .inl ⟨u,a,by simp [b],c,λv hv hpv=>?_⟩
    rcases List.mem_cons.1 hv with rfl | hv
    ·rw [hp] at hpv;cases hpv
    ·exact d v hv hpv
   ·refine .inr ⟨a,λv hv=>?_⟩
    rcases List.mem_cons.1 hv with rfl | hv
    ·exact hp
    ·exact b v hv
theorem AK {s:By} (hs:E2 s=true) (P:By->Bool):(∃ u,(s::E3 s).find? P=some u/\E9 u s=true/\P u=true/\∀ v,E9 v s=true->P v=true->v.length<=u.length)\/((s::E3 s).find? P=none/\∀ v,E9 v s=true->P v=false):=by
 have mem:∀ v,E9 v s=true->v∈s::E3 s:=λv hv=>by
  by_cases e:v=s
  ·rw [e];simp
  ·exact List.mem_cons_of_mem _ ((Xv hs v).2 ⟨hv,e⟩)
 have hss:E9 s s=true:=by rw [Cz];exact hs
 have hle:∀ v,E9 v s=true->v.length<=s.length:=λv hv=>by
  by_cases e:v=s
  ·rw [e];omega
  ·have:=(X1 (N6 s) v ((Xv hs v).2 ⟨hv,e⟩)).2
   omega
 rw [List.find?_cons]
 cases hp:P s with
 | true=>exact .inl ⟨s,rfl,hss,hp,λv hv _=>hle v hv⟩
 | false=>
  rcases Vj P (N6 s) with ⟨u,a,b,c,d⟩ | ⟨a,b⟩
  ·refine .inl ⟨u,a,(X1 (N6 s) u b).1,c,λv hv hpv=>?_⟩
   rcases List.mem_cons.1 (mem v hv) with rfl | hm
   ·rw [hp] at hpv;cases hpv
   ·exact d v hm hpv
  ·refine .inr ⟨a,λv hv=>?_⟩
   rcases List.mem_cons.1 (mem v hv) with rfl | hm
   ·exact hp
   ·exact b v hm
def Bo2 (s:By) (e:Ent):Bool:=E2 s&&(e.1==s || e.2&&E9 e.1 s)
def Pq (l:List Ent) (s u:By):Bool:=(L3 l u).2&&((u==s) || (L3 l u).1.2)
def Bs0 (l:List Ent) (s:By):Ent × Bool:=if (L3 l s).2 then L3 l s else match (E3 s).find? λu=>(L3 l u).2&&(L3 l u).1.2 with
 | some u=>((L3 l u).1,true)
 | none=>(noE,false)
theorem Vt {α:Type} {p q:α->Bool}:∀ {l:List α},(∀ x∈l,p x=q x)->l.find? p=l.find? q
 | [],_=>rfl
 | a::r,h=>by
  rw [List.find?_cons,List.find?_cons,h a (by simp),Vt λx hx=>h x (by simp [hx])]
theorem Ac8 {s u:By} (h:u∈E3 s):u≠s:=λe=>by
 have:=(X1 (N6 s) u h).2
 rw [e] at this;omega
theorem Bo3 {s:By} {x:Ent} (h:Bo2 s x=true):E9 x.1 s=true:=by
 unfold Bo2 at h
 simp only [Bool.and_eq_true,Bool.or_eq_true,beq_iff_eq] at h
 rcases h with ⟨h,e | ⟨_,e⟩⟩
 ·rw [e,Cz];exact h
 ·exact e
abbrev Yk:=Int × By × Bool
def noC:Yk:=(0,[],false)
def LN (now:Int) (p:I9):Bool:=ltI now p.2.2
def FY (now:Int) (s:By) (p:I9):Bool:=LN now p&&E2 s&&(p.1==s || p.2.1&&E9 p.1 s)
def atV (now:Int) (T:List I9) (L:List Ent) (u:By) (ex:Bool):Yk × Bool:=
 cond ((E0 T u).2&&(LN now (E0 T u).1&&(ex || (E0 T u).1.2.1))) ((1,u,ex),true) (cond ((L3 L u).2&&(ex || (L3 L u).1.2)) ((2,u,ex),true) (noC,false))
def Z8 (now:Int) (T:List I9) (L:List Ent) (s:By):Yk:=if (atV now T L s true).2 then (atV now T L s true).1 else match (E3 s).find? λu=>(atV now T L u false).2 with
 | some u=>(atV now T L u false).1
 | none=>noC
def Ct (now:Int) (T:List I9) (s u:By):Bool:=(E0 T u).2&&(LN now (E0 T u).1&&((u==s) || (E0 T u).1.2.1))
theorem Ai2 (now:Int) (T:List I9) (L:List Ent) (s u:By):atV now T L u (u==s)=if Ct now T s u then ((1,u,u==s),true) else if Pq L s u then ((2,u,u==s),true) else (noC,false):=by
 unfold atV Ct Pq
 cases (E0 T u).2&&(LN now (E0 T u).1&&((u==s) || (E0 T u).1.2.1))<;>cases (L3 L u).2&&((u==s) || (L3 L u).1.2)<;>rfl
theorem KI (now:Int) (T:List I9) (L:List Ent) (s:By):Z8 now T L s=match (s::E3 s).find? λu=>Ct now T s u || Pq L s u with
  | some u=>if Ct now T s u then (1,u,u==s) else (2,u,u==s)
  | none=>noC:=by
 have hat:∀ u,(atV now T L u (u==s)).2=(Ct now T s u || Pq L s u):=λu=>by
  rw [Ai2]
  cases Ct now T s u<;>cases Pq L s u<;>rfl
 have hv:∀ u,(atV now T L u (u==s)).2=true->(atV now T L u (u==s)).1=if Ct now T s u then (1,u,u==s) else (2,u,u==s):=λu h=>by
  rw [hat] at h
  rw [Ai2]
  cases h1:Ct now T s u with
  | true=>rfl
  | false=>
   rw [h1,Bool.false_or] at h
   rw [h];rfl
 have e:∀ u∈E3 s,(u==s)=false:=λu hu=>by simpa using Ac8 hu
 have es:(s==s)=true:=beq_self_eq_true s
 have h0:=hat s
 have v0:=hv s
 rw [es] at h0 v0
 unfold Z8
 rw [List.find?_cons,<-h0]
 cases h:(atV now T L s true).2 with
 | true=>
  rw [if_pos rfl]
  show _=if Ct now T s s then (1,s,s==s) else (2,s,s==s)
  rw [v0 h,es]
 | false=>
  rw [if_neg (by simp),Vt (p:=λu=>(atV now T L u false).2) (q:=λu=>Ct now T s u || Pq L s u) λu hu=>by rw [<-hat u,e u hu]]
  cases hf:(E3 s).find? λu=>Ct now T s u || Pq L s u with
  | none=>rfl
  | some u=>
   have hu:=List.mem_of_find?_eq_some hf
   have hp:=List.find?_some hf
   have:=hv u (by rw [hat];exact hp)
   rw [e u hu] at this
   show (atV now T L u false).1=if Ct now T s u then (1,u,u==s) else (2,u,u==s)
   rw [e u hu]
   exact this
theorem Am2 {now:Int} {s:By} {p:I9} (h:FY now s p=true):E9 p.1 s=true:=by
 unfold FY at h
 simp only [Bool.and_eq_true,Bool.or_eq_true,beq_iff_eq] at h
 rcases h with ⟨⟨_,h⟩,e | ⟨_,e⟩⟩
 ·rw [e,Cz];exact h
 ·exact e
theorem KT {now:Int} {T:List I9} (H:asc (T.map Prod.fst)=true) {s u:By} (hu:E9 u s=true):Ct now T s u=true↔∃ x∈T,x.1=u/\FY now s x=true:=by
 have hvs:E2 s=true:=Cr.2 (O6.1 hu).2.1
 unfold Ct
 rcases A15 (d:=noP) H u with ⟨x,hx,e,g⟩ | ⟨h,g⟩
 ·rw [show E0 T u=(x,true) from g]
  constructor
  ·intro k
   refine ⟨x,hx,e,?_⟩
   unfold FY
   rw [hvs,e,hu]
   simpa using k
  ·rintro ⟨y,hy,e2,k⟩
   have exy:=Ax3 H hx hy (e.trans e2.symm)
   subst exy
   unfold FY at k
   rw [hvs,e,hu] at k
   simpa using k
 ·rw [show E0 T u=(noP,false) from g]
  constructor
  ·intro k;cases k
  ·rintro ⟨y,hy,e2,_⟩
   exact absurd e2 (h y hy)
def smE (el:List SV):Bool:=A2 (elS el).length
def M0 (z:Bool) (l:LL):Bool:=!z || l.isEmpty
def Hp (h:By) (e:Int):Bool:=E2 h&&(!ltI e 0 && !ltI 1099511627776 e)
def ixE (l:List Ent):Int:=match l.findIdx? (λe=>!E2 e.1) with | some j=>(j:Int) | none=>-1
def OG (l:List Ent):Bool:=l.any λe=>!E2 e.1
def Sk:List By->Bool
 | []=>false
 | a::r=>r.contains a || Sk r
def Yo (e:Ent):List Ent->List Ent
 | []=>[e]
 | a::r=>if J5 a.1 e.1 then a::Yo e r else e::a::r
def isE (l:List Ent):List Ent:=l.foldl (λacc e=>Yo e acc) []
def Ex (l:List Ent):Nat:=if 1000<l.length then 3 else if OG l then 14 else if Sk (l.map Prod.fst) then 17 else 0
def GS (prev:Option By):List I9->Nat
 | []=>0
 | p::r=>if Hp p.1 p.2.2 then (match prev with
   | some q=>if J5 q p.1 then GS (some p.1) r else 8
   | none=>GS (some p.1) r) else 1
def U8 (cp:Int) (l:List I9):Nat:=cond (ltI cp (l.length:Nat)) 11 (GS none l)
def Bp0 (h:By) (b:Bool) (e:Int):I9:=(h,b,e)
def Hr (n:Int) (l:LL):Bool:=!ltI n l.length&&l.all λel=>!ltI 300 (elS el).length
def D2 (now:Int) (T:List I9) (L:List Ent) (kd:Int) (h:Af2):Yk:=cond (kd==1) (cond (Q9 h) (Z8 now T L h.name) noC) noC
abbrev Jq:={e:Ent // e.1.length<=1000000000}
instance:Inhabited Jq:=⟨⟨noE,by decide⟩⟩
def mkS (e:Ent):Jq:=if h:e.1.length<=1000000000 then ⟨e,h⟩ else default
def Eg (d:Array Jq):Array Jq:=Sort.pdq (Go.Proofs.ltOf λx y:Jq=>J2 x.1.1 y.1.1) d 0 d.size (Lib.bitLen d.size) true true
def P4 (l:List Ent):List Ent:=(Eg (l.map mkS).toArray).toList.map (·.1)
theorem Pn {l:List Ent} {i:Nat} (h:i<l.length):gX (G3 l) i 0=(l.getD i noE).1:=by unfold gX gC;rw [Hd h];rfl
theorem Bg2 {l:List Ent} {i:Nat} (h:i<l.length):gY (G3 l) i 1=(l.getD i noE).2:=by unfold gY gC;rw [Hd h];rfl
theorem Tp {l:List Ent} {i:Nat} (h:i<l.length):okE ⟨true,true,[.str,.bool]⟩ (G3 l) i 0=true:=by unfold okE;rw [Hd h];simp [h,okS,Sl,SV.has]
theorem Po {l:List I9} {i:Nat} (h:i<l.length):gX (N1 l) i 0=(l.getD i noP).1:=by unfold gX gC;rw [Cj h];rfl
theorem An9 {l:List I9} {i:Nat} (h:i<l.length):gY (N1 l) i 1=(l.getD i noP).2.1:=by unfold gY gC;rw [Cj h];rfl
theorem An8 {l:List I9} {i:Nat} (h:i<l.length):gE (N1 l) i 2=(l.getD i noP).2.2:=by unfold gE gC;rw [Cj h];rfl
theorem Tq {l:List I9} {i:Nat} (h:i<l.length):okE ⟨true,true,[.str,.bool,.int .i64]⟩ (N1 l) i 0=true:=by unfold okE;rw [Cj h];simp [h,okS,TU,SV.has]
theorem IG {l:List Ent} (h:(G3 l).all smE=true) {i:Nat} (hi:i<l.length):A2 (l.getD i noE).1.length=true:=by
 have:=List.all_eq_true.1 h ((G3 l).getD i []) (by
  rw [List.getD_eq_getElem?_getD,List.getElem?_eq_getElem (by simpa using hi)]
  exact List.getElem_mem _)
 rw [Hd hi] at this
 exact this
theorem Tx {l:List I9} (h:(N1 l).all smE=true) {i:Nat} (hi:i<l.length):A2 (l.getD i noP).1.length=true:=by
 have:=List.all_eq_true.1 h ((N1 l).getD i []) (by
  rw [List.getD_eq_getElem?_getD,List.getElem?_eq_getElem (by simpa using hi)]
  exact List.getElem_mem _)
 rw [Cj hi] at this
 exact this
theorem Tk {α:Type} (f:α->By) {d:α} {l:List α} {i:Nat} (h:i<l.length):(l.map f).getD i []=f (l.getD i d):=by
 simp [List.getD_eq_getElem?_getD,h]
abbrev leE (a b:Ent):Prop:=J5 b.1 a.1=false
theorem Xs (d:Array Jq):(Eg d).toList.Perm d.toList/\(Eg d).size=d.size/\∀ i j,i<j->j<d.size->J5 ((Eg d)[j]!).1.1 ((Eg d)[i]!).1.1=false:=by
 obtain ⟨⟨h1,_,h3⟩,h4⟩:=Sort.pdq_sorts (Go.Proofs.ltOf λx y:Jq=>J2 x.1.1 y.1.1) (MW λx:Jq=>x.1.1) d 0 d.size (Lib.bitLen d.size) true true (Nat.zero_le _) (Nat.le_refl _) (.inl rfl)
 have hs:(Eg d).size=d.size:=h1
 refine ⟨?_,hs,λi j hij hj=>?_⟩
 ·have h3:((Eg d).extract 0 d.size).toList.Perm (d.extract 0 d.size).toList:=h3
  rw [<-hs] at h3
  rw [Array.extract_size,hs,Array.extract_size] at h3
  exact h3
 ·have:=h4 i j (Nat.zero_le _) hij hj
  unfold Go.Proofs.ltOf at this
  rw [U4] at this
  exact this
theorem WO {e:Ent} (h:e.1.length<=1000000000):(mkS e).1=e:=by unfold mkS;rw [dif_pos h]
theorem Cn {l:List Ent} (hl:∀ e∈l,e.1.length<=1000000000):(P4 l).Perm l:=by
 have h:=((Xs (l.map mkS).toArray).1).map (·.1)
 unfold P4
 refine h.trans ?_
 simp only [List.map_map]
 rw [show List.map ((λx:Jq=>x.1) ∘ mkS) l=l from (List.map_congr_left (g:=id) λe he=>WO (hl e he)).trans (List.map_id l)]
theorem Ni (l:List Ent):(P4 l).Pairwise leE:=by
 obtain ⟨_,h2,h3⟩:=Xs (l.map mkS).toArray
 unfold P4
 rw [List.pairwise_map,List.pairwise_iff_getElem]
 intro i j hi hj hij
 have hj':j<(Eg (l.map mkS).toArray).size:=by simpa using hj
 have hi':i<(Eg (l.map mkS).toArray).size:=by simpa using hi
 have:=h3 i j hij (by omega)
 simp only [getElem!_pos,hi',hj'] at this
 simpa using this
theorem Pu (e:Ent):∀ l:List Ent,(Yo e l).Perm (e::l)
 | []=>.refl _
 | a::r=>by
  unfold Yo
  split
  ·exact ((Pu e r).cons a).trans (.swap e a r)
  ·exact .refl _
theorem Rf (e:Ent):∀ {l:List Ent},l.Pairwise leE->(Yo e l).Pairwise leE
 | [],_=>by simp [Yo]
 | a::r,h=>by
  rw [List.pairwise_cons] at h
  unfold Yo
  split
  ·rename_i hlt
   rw [List.pairwise_cons]
   refine ⟨λb hb=>?_,Rf e h.2⟩
   rcases List.mem_cons.1 ((Pu e r).mem_iff.1 hb) with rfl | hb
   ·exact SY hlt
   ·exact h.1 b hb
  ·rename_i hlt
   have hlt:J5 a.1 e.1=false:=by simpa using hlt
   rw [List.pairwise_cons]
   refine ⟨λb hb=>?_,List.pairwise_cons.2 h⟩
   rcases List.mem_cons.1 hb with rfl | hb
   ·exact hlt
   ·exact Rp (h.1 b hb) hlt
theorem RK:∀ (l acc:List Ent),(l.foldl (λacc e=>Yo e acc) acc).Perm (l++acc)/\(acc.Pairwise leE->(l.foldl (λacc e=>Yo e acc) acc).Pairwise leE)
 | [],acc=>⟨.refl _,id⟩
 | e::r,acc=>by
  obtain ⟨h1,h2⟩:=RK r (Yo e acc)
  exact ⟨h1.trans (((Pu e acc).append_left r).trans List.perm_middle),λh=>h2 (Rf e h)⟩
theorem LD (l:List Ent):(isE l).Perm l:=by simpa [isE] using (RK l []).1
theorem RL (l:List Ent):(isE l).Pairwise leE:=(RK l []).2 .nil
theorem Hb:∀ {l:List By},Sk l=false↔l.Nodup
 | []=>by simp [Sk]
 | a::r=>by
  unfold Sk
  rw [Bool.or_eq_false_iff,Hb,List.nodup_cons]
  simp
theorem Ac2 {l:List Ent} (hl:∀ e∈l,e.1.length<=1000000000) (hd:Sk (l.map Prod.fst)=false):P4 l=isE l:=by
 have hn:=Hb.1 hd
 have key:∀ a b:Ent,a∈l->b∈l->a.1=b.1->a=b:=by
  clear hl hd
  induction l with
  | nil=>intro a b ha;cases ha
  | cons x r ih=>
   rw [List.map_cons,List.nodup_cons] at hn
   intro a b ha hb e
   rcases List.mem_cons.1 ha with ha | ha<;>rcases List.mem_cons.1 hb with hb | hb
   ·rw [ha,hb]
   ·exact absurd (List.mem_map.2 ⟨b,hb,by rw [<-e,ha]⟩) hn.1
   ·exact absurd (List.mem_map.2 ⟨a,ha,by rw [e,hb]⟩) hn.1
   ·exact ih hn.2 a b ha hb e
 refine List.Perm.eq_of_pairwise (le:=leE) (λa b ha hb h1 h2=>key a b ((Cn hl).mem_iff.1 ha) ((LD l).mem_iff.1 hb) (Hl h2 h1)) (Ni l) (RL l) ((Cn hl).trans (LD l).symm)
def EX:List Ent->Bool
 | a::b::r=>(b.1==a.1) || EX (b::r)
 | _=>false
theorem Ah3:∀ {l:List Ent},l.Pairwise leE->EX l=false->(l.map Prod.fst).Nodup
 | [],_,_=>.nil
 | [a],_,_=>by simp
 | a::b::r,hp,h=>by
  unfold EX at h
  rw [Bool.or_eq_false_iff] at h
  rw [List.pairwise_cons] at hp
  have ih:=Ah3 hp.2 h.2
  rw [List.map_cons,List.nodup_cons]
  refine ⟨λhm=>?_,ih⟩
  obtain ⟨c,hc,e⟩:=List.mem_map.1 hm
  have hab:J5 a.1 b.1=true:=by
   cases q:J5 a.1 b.1 with
   | true=>rfl
   | false=>
    have:=Hl (hp.1 b (by simp)) q
    rw [this] at h
    simp at h
  rcases List.mem_cons.1 hc with rfl | hc
  ·rw [e,O9] at hab;cases hab
  ·have:=(List.pairwise_cons.1 hp.2).1 c hc
   have this:J5 c.1 b.1=false:=this
   rw [e,hab] at this;cases this
theorem VT:∀ {l:List Ent},EX l=true->Sk (l.map Prod.fst)=true
 | a::b::r,h=>by
  unfold EX at h
  rw [Bool.or_eq_true] at h
  rw [List.map_cons]
  unfold Sk
  rw [Bool.or_eq_true]
  rcases h with h | h
  ·exact .inl (by simp [eq_of_beq h])
  ·exact .inr (VT h)
theorem Ah4 {l:List Ent} (hl:∀ e∈l,e.1.length<=1000000000):EX (P4 l)=Sk (l.map Prod.fst):=by
 have hp:=(Cn hl).map Prod.fst
 cases h:EX (P4 l) with
 | true=>
  have:=VT h
  cases hd:Sk (l.map Prod.fst) with
  | true=>rfl
  | false=>
   rw [Hb.2 (hp.nodup_iff.2 (Hb.1 hd))] at this
   cases this
 | false=>exact (Hb.2 (hp.nodup_iff.1 (Ah3 (Ni l) h))).symm
end
section
open Go Go.Proofs
set_option maxRecDepth 100000
section
variable {σ R : Type} (lf : Nat) (cl : D0) (yh : Yh σ) (s : σ) (k : Out -> St σ -> Option R)
noncomputable def FK (lf:Nat):Cfg:=C0 lf [56] (A3 []) [] (A3 [(1,[6]),(0,[3,0,0])]) [] (A3 []) (some [6]) [] [] []
noncomputable def Ap9 {R:Type} (lf:Nat) (s0 sep1:By) (sepSave2:Int) (k0:By->By->Int->Option R):Option R:=k0 s0 sep1 sepSave2
theorem Aq0 (d:Nat) (s0 sep1 sepSave2):evC (FK lf) (d+1) σ yh 56 [pS s0,pS sep1,pI sepSave2] [] s=Ap9 lf s0 sep1 sepSave2 (λs0 s1 n2=>some (.fnr (Fn.func 75) [] [.ptr 1 0 0,.ptr 0 0 0,.ptr 2 0 0],[.box [pS s0],.box [pS s1],.box [pI n2]],s)):=by
 refine (evE (fn:=Tryz.f56) (by kernel_rfl)).trans ?_
 generalize evC (FK lf) d=cl
 unfold Ap9;kernel_rfl
noncomputable def PG (lf:Nat):Cfg:=C0 lf [40] (A3 []) [(56,DQ)] (A3 [(1,[4]),(0,[0,0])]) [] (A3 []) (some [4]) [] [] []
noncomputable def Bi7 {R:Type} (lf:Nat) (s0 sep1:By) (k0:By->By->Option R):Option R:=k0 s0 sep1
theorem A88 (d:Nat) (s0 sep1):evC (PG lf) (d+1) σ yh 40 [pS s0,pS sep1] [] s=Bi7 lf s0 sep1 (λs0 s1=>some (.fnr (Fn.func 75) [] [.ptr 1 0 0,.ptr 0 0 0,.ptr 2 0 0],[.box [pS s0],.box [pS s1],.box [pI (0:Int)]],s)):=by
 refine (evE (fn:=Tryz.f40) (by kernel_rfl)).trans ?_
 generalize evC (PG lf) d=cl
 unfold Bi7;kernel_rfl
noncomputable abbrev Zp:Code:=E6 Tryz.f24
noncomputable def Gw (lf:Nat):Cfg:=C0 lf [24] (A3 []) [(39,Nz),(40,NZ),(41,NU)] (A3 [(7,[2]),(6,[2]),(5,[2,13]),(4,[2,0]),(3,[2,9]),(2,[2]),(1,[0,1,7]),(0,[0,1])]) [39,41] (A3 [(0,[2]),(1,[2])]) (some [2]) [] [(75,Sv)] []
noncomputable def Tj {R:Type} (lf:Nat) (x'0:By) (xs:List By) (self:Unit->Option R) (k0:Unit->Option R) (k1:Unit->Option R):Option R:=cond (A2 x'0.length) (cond (not (Cq x'0)) (k1 ()) (self ())) none
noncomputable def Wa {R:Type} (lf:Nat) (L:List By) (k0:Unit->Option R) (k1:Unit->Option R):Option R:=Ab3 (α:=Unit->Option R) (λ_=>k0 ()) (λx'0 xs self _=>Tj lf x'0 xs self  k0 k1) L ()
theorem KX {R:Type} (lf:Nat) (x'0:By) (xs:List By) (k0:Unit->Option R) (k1:Unit->Option R):Wa lf (x'0::xs)  k0 k1=Tj lf x'0 xs (λ_=>Wa lf xs  k0 k1)  k0 k1:=rfl
theorem YM (L:List By):L5 #[13] (gp [(2,.ptr 0 0 0),(9,.fnr (Fn.func 75) [] [.bad,.bad,.bad])] 4) (bd (Gw lf) cl yh (cd [1,1,0,1,0,0] Zp)) (bd (Gw lf) cl yh (cd [1,1,0,1,0,1] Zp)) (L.map (λ(x'0:By)=>([pS x'0]:List PV))) [.box [pB false],.dead,.dead,.dead] s (rgK (gp [(2,.ptr 0 0 0),(9,.fnr (Fn.func 75) [] [.bad,.bad,.bad])] 4) (λH=>N2 H [2,1,3] [.box [.bad],.box [.bad],.box [.bad]]) k) =
 Wa lf L  (λ_=>k .normal ⟨gp [(2,.ptr 0 0 0),(9,.fnr (Fn.func 75) [] [.bad,.bad,.bad])] 4,[.box [pB false],.box [.bad],.box [.bad],.box [.bad]],s⟩) (λ_=>k .ret ⟨gp [(2,.ptr 0 0 0),(9,.fnr (Fn.func 75) [] [.bad,.bad,.bad])] 4,[.box [pB false],.box [.bad],.box [.bad],.box [.bad]],s⟩):=by
 induction L with
 | nil=>rfl
 | cons x'0 xs ih=>rw [KX];unfold Tj;exact (Eq.trans (by kernel_rfl) (A0 (A0 rfl ih) rfl))
noncomputable def GG {R:Type} (lf:Nat) (s0:By) (k0:Unit->Option R) (k1:Unit->Option R):Option R:=cond ((A2 s0.length)&&((1==1)&&((0:Int)==0))) (Wa lf (pcs (List.getD ([46]:List UInt8) 0 0) s0)  k0 k1) none
abbrev KW (b:Code):Prop:=∀ (k:Out->St σ->Option R) s0,B0 (Gw lf) cl yh b ⟨gp [(2,.ptr 0 0 0),(9,.fnr (Fn.func 75) [] [.ptr 2 0 0,.ptr 1 0 0,.ptr 3 0 0])] 4,[.box [pB false],.box [pS s0],.box [pS ([46]:List UInt8)],.box [pI (0:Int)]],s⟩ k=GG lf s0 (λ_=>k .normal ⟨gp [(2,.ptr 0 0 0),(9,.fnr (Fn.func 75) [] [.bad,.bad,.bad])] 4,[.box [pB false],.box [.bad],.box [.bad],.box [.bad]],s⟩) (λ_=>k .ret ⟨gp [(2,.ptr 0 0 0),(9,.fnr (Fn.func 75) [] [.bad,.bad,.bad])] 4,[.box [pB false],.box [.bad],.box [.bad],.box [.bad]],s⟩)
theorem YL:KW (R:=R) lf cl yh s (cd [1,1,0,1,0] Zp):=by
 intro k s0;unfold GG;exact ((KE [1,1,0,1,0] (by kernel_rfl)).trans (by kernel_rfl)).trans (Ch (YM lf cl yh s k (pcs (List.getD ([46]:List UInt8) 0 0) s0) ))
noncomputable def hvn {R:Type} (lf:Nat) (name0:By) (k0:Unit->Option R) (k1:Bool->Bool->Option R):Option R:=cond (ltI 253 (name0.length:Int)) (k0 ()) (cond (A2 name0.length) (cond (Ab name0) (k0 ()) (GG lf name0 (λ_=>k1 true true) (λ_=>k1 false false))) none)
theorem Bg5 (b_11010:Code) (h_hvn_e1:KW (R:=PV × List Blk × σ) lf cl yh s b_11010) (name0:By):B0 (Gw lf) cl yh (cd [] (U1 [1,1,0,1,0] b_11010 Zp)) ⟨[pS name0]++tps 16,[],s⟩ (J6 (Gw lf) Tryz.f24)=hvn lf name0 (λ_=>some (pB false,[.box [pB false]],s)) (λr0 b1=>some (pB r0,[.box [pB b1],.box [.bad],.box [.bad],.box [.bad]],s)):=by
 unfold hvn;exact (Eq.trans (by kernel_rfl) (A0 rfl (A0 (A0 rfl ((h_hvn_e1 (O4 0 (P3 (Gw lf) cl yh (cd [1,1,1] Zp) (J6 (Gw lf) Tryz.f24))) name0).trans (by kernel_rfl))) rfl)))
theorem Bg6 (d:Nat) (name0):evC (Gw lf) (d+1) σ yh 24 [pS name0] [] s=hvn lf name0 (λ_=>some (pB false,[.box [pB false]],s)) (λr0 b1=>some (pB r0,[.box [pB b1],.box [.bad],.box [.bad],.box [.bad]],s)):=
 (evE (fn:=Tryz.f24) (by kernel_rfl)).trans (Eq.trans (by kernel_rfl) (Bg5 lf (evC (Gw lf) d) yh s (cd [1,1,0,1,0] Zp) (YL lf (evC (Gw lf) d) yh s) name0))
noncomputable def OS (lf:Nat):Cfg:=C0 lf [30] (A3 []) [] (A3 [(1,[2]),(0,[1])]) [] (A3 []) (some [2]) [] [] []
noncomputable def Bg4 {R:Type} (lf:Nat) (name0:By) (k0:By->Option R):Option R:=k0 name0
theorem A20 (d:Nat) (name0):evC (OS lf) (d+1) σ yh 30 [pS name0] [] s=Bg4 lf name0 (λs0=>some (.fnr (Fn.func 46) [] [.ptr 0 0 0],[.box [pS s0]],s)):=by
 refine (evE (fn:=Tryz.f30) (by kernel_rfl)).trans ?_
 generalize evC (OS lf) d=cl
 unfold Bg4;kernel_rfl
noncomputable abbrev Lc:Code:=E6 Tryz.f75
noncomputable def R3 (lf:Nat):Cfg:=C0 lf [75] (A3 [(5,[0,0,0,0]),(1,[0,1])]) [(76,Lb),(77,EK)] (A3 [(10,[]),(9,[0,0,0,0]),(8,[0,0,0,0,3,34]),(7,[0,0,0,0,3,0]),(6,[0,0,0,0,3,25]),(5,[0,0,0,0,3]),(4,[0,1]),(3,[0,1,3,18]),(2,[0,1,3]),(1,[0,1,11]),(0,[0,0,0,0,7])]) [77] (A3 [(2,[0,1]),(3,[0,0,0,0]),(0,[]),(1,[0,1])]) (some []) [] [] []
noncomputable def Xt {σ R:Type} (yh:Yh σ) (lf n:Nat) (s0 s1:By) (n2:Int) (s:σ) (k0:By->By->Int->σ->Option R):Option R:=match n with | 0=>none | n+1=>cond (ltI 0 (s1.length:Int)) none (k0 s0 s1 n2 s)
theorem MP (n:Nat) (s0 s1:By) (n2:Int) (s:σ):H4 3 ((R3 lf).keep 1) (bd (R3 lf) cl yh (cd [0,1,0,0,0,0] Lc)) n ⟨gp [(0,.yd),(1,.ptr 1 0 0)] 49,[.box [pS s0],.box [pS s1],.box [pI n2]],s⟩ k =
 Xt yh lf n s0 s1 n2 s (λs0 s1 n2 s=>k (.exit 0) ⟨gp [] 52,[.box [pS s0],.box [pS s1],.box [pI n2]],s⟩):=by
 induction n generalizing s0 s1 n2 s with
 | zero=>rfl
 | succ n ih=>rw [Xt];kernel_rfl
noncomputable def M4 {σ R:Type} (yh:Yh σ) (lf n:Nat) (s0 s1:By) (n2:Int) (s:σ) (k0:By->By->Int->σ->Option R) (k1:By->By->Int->σ->Option R):Option R:=match n with
 | 0=>none
 | n+1=>
  cond (A2 s1.length)
   (cond (ltI (Lib.index s1 s0) (0:Int))
   (k0 s0 s1 n2 s)
   (vl (A5 ((Lib.index s1 s0)+n2)) λn'5=>
    cond (Cu 0 n'5 s1.length)
    (ydK (yh [pS (cut s1 0 n'5)] s) λby'6 s'y6=>
     (cond (not by'6)
     (k1 s0 s1 n2 s'y6)
     (vl (A5 ((Lib.index s1 s0)+(s0.length:Int))) λn'7=>
      cond (Cu n'7 (s1.length:Int) s1.length)
      (vl (cut s1 n'7 (s1.length:Int)) λs'8=>
       M4 yh lf n s0 s'8 n2 s'y6 k0 k1)
      none)))
    none))
   none
theorem MQ (n:Nat) (s0 s1:By) (n2:Int) (s:σ):H4 3 ((R3 lf).keep 5) (bd (R3 lf) cl yh (cd [1,0,0,0] Lc)) n ⟨gp [(0,.yd),(0,.ptr 0 0 0),(0,.ptr 1 0 0),(0,.ptr 2 0 0)] 48,[.box [pS s0],.box [pS s1],.box [pI n2]],s⟩ k =
 M4 yh lf n s0 s1 n2 s (λs0 s1 n2 s=>k (.exit 2) ⟨gp [(0,.yd),(1,.ptr 1 0 0)] 49,[.box [pS s0],.box [pS s1],.box [pI n2]],s⟩) (λs0 s1 n2 s=>k .ret ⟨gp [] 52,[.box [pS s0],.box [pS s1],.box [pI n2]],s⟩):=by
 induction n generalizing s0 s1 n2 s with
 | zero=>rfl
 | succ n ih=>rw [M4];simp only [<-ih];kernel_rfl
noncomputable def MO {σ R:Type} (yh:Yh σ) (lf:Nat) (p t:By) (n:Int) (s:σ) (k0:By->By->Int->σ->Option R):Option R:=
 cond ((p.length:Int)==0)
 (Xt yh lf lf p t n s (λs'0 s'1 n'2 s'3=>k0 s'0 s'1 n'2 s'3))
 (M4 yh lf lf p t n s (λs'9 s'10 n'11 s'12=>ydK (yh [pS s'10] s'12) λby'17 s'y17=>
  (k0 s'9 s'10 n'11 s'y17)) (λs'13 s'14 n'15 s'16=>k0 s'13 s'14 n'15 s'16))
theorem As2 (d:Nat) (p t n s):evC (R3 lf) (d+1) σ yh 75 [.yd,.ptr 0 0 0,.ptr 1 0 0,.ptr 2 0 0] [.box [pS p],.box [pS t],.box [pI n]] s=MO yh lf p t n s (λs0 s1 n2 s=>some (.tup [],[.box [pS s0],.box [pS s1],.box [pI n2]],s)):=by
 refine (evE (fn:=Tryz.f75) (by kernel_rfl)).trans ?_
 generalize evC (R3 lf) d=cl
 unfold MO;exact (Eq.trans (by kernel_rfl) (A0 ((MP lf cl yh (O4 0 (P3 (R3 lf) cl yh (cd [0,1,0,1] Lc) (P3 (R3 lf) cl yh (cd [1] Lc) (J6 (R3 lf) Tryz.f75)))) lf p t n s).trans (by kernel_rfl)) ((MQ lf cl yh (O4 2 (P3 (R3 lf) cl yh (cd [1,1] Lc) (J6 (R3 lf) Tryz.f75))) lf p t n s).trans (by kernel_rfl))))
noncomputable abbrev Ax4:Code:=E6 Tryz.f46
noncomputable def Ie (lf:Nat):Cfg:=C0 lf [46] (A3 [(1,[0,0])]) [(24,Zk),(47,NY)] (A3 [(3,[0,0]),(2,[0,0,2,17]),(1,[0,0,2,0]),(0,[0,0,6])]) [24,47] (A3 [(0,[]),(1,[0,0])]) (some []) [] [] []
noncomputable def U5 {σ R:Type} (yh:Yh σ) (lf n:Nat) (s0:By) (s:σ) (k0:By->σ->Option R):Option R:=match n with
 | 0=>none
 | n+1=>
  cond (A2 s0.length)
   (vl ((Lib.cut s0 ([46]:List UInt8))).1 λs'2=>
   vl (((Lib.cut s0 ([46]:List UInt8))).2).1 λs'3=>
    cond (not (((Lib.cut s0 ([46]:List UInt8))).2).2)
    (k0 s0 s)
    (ydK (yh [pS s'3] s) λby'4 s'y4=>
     (cond (not by'4)
     (k0 s0 s'y4)
     (U5 yh lf n s'3 s'y4 k0))))
   none
theorem KV (n:Nat) (s0:By) (s:σ):H4 1 ((Ie lf).keep 1) (bd (Ie lf) cl yh (cd [1,0,0] Ax4)) n ⟨gp [(0,.yd),(0,.ptr 0 0 0)] 22,[.box [pS s0]],s⟩ k =
 U5 yh lf n s0 s (λs0 s=>k .ret ⟨gp [] 24,[.box [pS s0]],s⟩):=by
 induction n generalizing s0 s with
 | zero=>rfl
 | succ n ih=>rw [U5];simp only [<-ih];kernel_rfl
noncomputable def KU {σ R:Type} (yh:Yh σ) (lf:Nat) (t:By) (s:σ) (k0:By->σ->Option R):Option R:=cond (A2 t.length) (cond (not (E2 t)) (k0 t s) (U5 yh lf lf t s (λs'5 s'6=>k0 s'5 s'6))) none
theorem Ao2 (d:Nat) (t s):evC (Ie lf) (d+1) σ yh 46 [.yd,.ptr 0 0 0] [.box [pS t]] s=KU yh lf t s (λs0 s=>some (.tup [],[.box [pS s0]],s)):=by
 refine (evE (fn:=Tryz.f46) (by kernel_rfl)).trans ?_
 generalize evC (Ie lf) d=cl
 unfold KU;exact (Eq.trans (by kernel_rfl) (A0 (A0 rfl ((KV lf cl yh (O4 0 (J6 (Ie lf) Tryz.f46)) lf t s).trans (by kernel_rfl))) rfl))
end
section
variable {σ R : Type} (lf : Nat) (cl : D0) (yh : Yh σ) (s : σ) (k : Out -> St σ -> Option R)
noncomputable abbrev VV:Code:=E6 Tryz.f58
noncomputable def Fl (lf:Nat):Cfg:=C0 lf [58] (A3 [(6,[0,1,0,1,10,0,0])]) [(79,Ah0),(80,Ah1)] (A3 [(13,[2]),(12,[0,3,0,2]),(11,[0,2,1,10,0,0]),(10,[0,2,1,10,0,0]),(9,[2]),(8,[0,2,1,1,8,0,0,8]),(7,[0,2,1,1,8,0,0]),(6,[0,2,1,10,0,0,0]),(5,[0,2,1,10,0,0]),(4,[0,2,1]),(3,[2]),(2,[0,2,11]),(1,[0,2,0]),(0,[0])]) [80] (A3 [(0,[0,2,1]),(1,[0,2,1,10,0,0])]) (some [2]) [] [] []
noncomputable def O8 {R:Type} (lf n:Nat) (s0:By) (points_z1:Bool) (points2:LL) (basic3:Bool) (n4 n5:Int) (k0:Unit->Option R) (k1:By->Bool->LL->Bool->Option R):Option R:=match n with | 0=>none | n+1=>cond (ltI n5 n4) (cond (inR n5 points2.length) (cond (okE UP points2 (Int.toNat n5) 0) (vl (gE points2 (Int.toNat n5) 0) λn'1=>cond (not (ltI n'1 65)) (cond (not (ltI 90 n'1)) (k0 ()) (cond basic3 (O8 lf n s0 points_z1 points2 (ltI n'1 128) n4 (A5 (n5+1)) k0 k1) (O8 lf n s0 points_z1 points2 false n4 (A5 (n5+1)) k0 k1))) (cond basic3 (O8 lf n s0 points_z1 points2 (ltI n'1 128) n4 (A5 (n5+1)) k0 k1) (O8 lf n s0 points_z1 points2 false n4 (A5 (n5+1)) k0 k1))) none) none) (k1 s0 points_z1 points2 basic3)
theorem LQ (n s0 points_z1 points2 basic3 n4 n5):H4 0 ((Fl lf).keep 6) (bd (Fl lf) cl yh (cd [1,1,1,1,0,1,0,0] VV)) n ⟨gp [(0,pS s0),(2,.s (.sl points_z1 points_z1 1 points2)),(1,pB basic3),(10,.s (.sl points_z1 points_z1 1 points2)),(0,pI n4),(0,pI n5)] 31,[],s⟩ k =
 O8 lf n s0 points_z1 points2 basic3 n4 n5 (λ_=>k .ret ⟨gp [(2,pB false)] 47,[],s⟩) (λs0 points_z1 points2 basic3=>k (.exit 0) ⟨gp [(0,pS s0),(2,.s (.sl points_z1 points_z1 1 points2)),(1,pB basic3)] 44,[],s⟩):=by
 induction n generalizing s0 points_z1 points2 basic3 n4 n5 with
 | zero=>rfl
 | succ n ih=>rw [O8];simp only [<-ih];kernel_rfl
noncomputable def WJ {R:Type} (lf:Nat) (s0:By) (k0:Bool->Option R):Option R:=cond (A2 s0.length) (cond ((↑((Q0 s0)).2:Int) != 0) (k0 false) (O8 lf lf s0 (List.isEmpty ((Q0 s0)).1) (SP ((Q0 s0)).1) true (↑(List.length (SP ((Q0 s0)).1)):Int) 0 (λ_=>k0 false) (λs'2 points_z'3 points'4 basic'5=>cond (List.all points'4 BD) (vl ((Kl (List.map elI points'4))).1 λs'8=>vl (↑((Kl (List.map elI points'4))).2:Int) λn'9=>cond (not basic'5) (cond (n'9==0) (k0 (s'8==s'2)) (k0 false)) (k0 false)) none))) none
theorem Ap8 (d:Nat) (s0):evC (Fl lf) (d+1) σ yh 58 [pS s0] [] s=WJ lf s0 (λr0=>some (pB r0,[],s)):=by
 refine (evE (fn:=Tryz.f58) (by kernel_rfl)).trans ?_
 generalize evC (Fl lf) d=cl
 unfold WJ;exact (Eq.trans (by kernel_rfl) (A0 (A0 rfl ((LQ lf cl yh s (O4 0 (P3 (Fl lf) cl yh (cd [1,1,1,1,1] VV) (J6 (Fl lf) Tryz.f58))) lf s0 (List.isEmpty ((Q0 s0)).1) (SP ((Q0 s0)).1) true (↑(List.length (SP ((Q0 s0)).1)):Int) 0).trans (by kernel_rfl))) rfl))
noncomputable abbrev Ai8:Code:=E6 Tryz.f41
noncomputable def Kh (lf:Nat):Cfg:=C0 lf [41] (A3 [(4,[0,1,26,0])]) [(57,Ag4),(58,VJ)] (A3 [(11,[2]),(10,[5,0]),(9,[0,28,0]),(8,[2]),(7,[0,28,0,28]),(6,[0,3,24,0]),(5,[0,2,25,0]),(4,[0,28,0,0]),(3,[0,28,0]),(2,[2]),(1,[0,26]),(0,[0])]) [57,58] (A3 [(0,[0]),(1,[0,28,0])]) (some [2]) [] [] []
noncomputable def K6 {R:Type} (lf n:Nat) (s0:By) (n1 n2:Int) (k0:Unit->Option R) (k1:By->Option R):Option R:=match n with | 0=>none | n+1=>cond (ltI n2 n1) (cond (inR n2 s0.length) (cond (not (ltI (bAt s0 n2) (97:Int))) (cond (not (not (ltI 122 (bAt s0 n2)))) (cond (not (ltI (bAt s0 n2) (48:Int))) (cond (not (not (ltI 57 (bAt s0 n2)))) (cond ((bAt s0 n2) != 45) (cond ((bAt s0 n2) != 95) (k0 ()) (K6 lf n s0 n1 (A5 (n2+1)) k0 k1)) (K6 lf n s0 n1 (A5 (n2+1)) k0 k1)) (K6 lf n s0 n1 (A5 (n2+1)) k0 k1)) (cond ((bAt s0 n2) != 45) (cond ((bAt s0 n2) != 95) (k0 ()) (K6 lf n s0 n1 (A5 (n2+1)) k0 k1)) (K6 lf n s0 n1 (A5 (n2+1)) k0 k1))) (K6 lf n s0 n1 (A5 (n2+1)) k0 k1)) (cond (not (ltI (bAt s0 n2) (48:Int))) (cond (not (not (ltI 57 (bAt s0 n2)))) (cond ((bAt s0 n2) != 45) (cond ((bAt s0 n2) != 95) (k0 ()) (K6 lf n s0 n1 (A5 (n2+1)) k0 k1)) (K6 lf n s0 n1 (A5 (n2+1)) k0 k1)) (K6 lf n s0 n1 (A5 (n2+1)) k0 k1)) (cond ((bAt s0 n2) != 45) (cond ((bAt s0 n2) != 95) (k0 ()) (K6 lf n s0 n1 (A5 (n2+1)) k0 k1)) (K6 lf n s0 n1 (A5 (n2+1)) k0 k1)))) none) (k1 s0)
theorem SK (n s0 n1 n2):H4 0 ((Kh lf).keep 4) (bd (Kh lf) cl yh (cd [1,1,0,1,0,0] Ai8)) n ⟨gp [(0,pS s0),(28,pI n1),(0,pI n2)] 41,[],s⟩ k =
 K6 lf n s0 n1 n2 (λ_=>k .ret ⟨gp [(2,pB false)] 69,[],s⟩) (λs0=>k (.exit 0) ⟨gp [(0,pS s0)] 71,[],s⟩):=by
 induction n generalizing s0 n1 n2 with
 | zero=>rfl
 | succ n ih=>rw [K6];simp only [<-ih];kernel_rfl
noncomputable def A46 {R:Type} (lf:Nat) (s0:By) (k0:Bool->Option R):Option R:=cond (ltI (s0.length:Int) (1:Int)) (k0 false) (cond (ltI 63 (s0.length:Int)) (k0 false) (cond (inR 0 s0.length) (cond ((bAt s0 (0:Int))==45) (k0 false) (vl (A5 ((s0.length:Int)-1)) λn'1=>cond (inR n'1 s0.length) (cond ((bAt s0 n'1)==45) (k0 false) (K6 lf lf s0 (s0.length:Int) 0 (λ_=>k0 false) (λs'2=>cond (A2 s'2.length) (vl (Vk s'2 ([120,110,45,45]:List UInt8)) λs'3=>cond (not (List.isPrefixOf ([120,110,45,45]:List UInt8) s'2)) (k0 true) (cond (A2 s'3.length) (k0 (Ix s'3)) none)) none))) none)) none))
theorem A47 (d:Nat) (s0):evC (Kh lf) (d+1) σ yh 41 [pS s0] [] s=A46 lf s0 (λr0=>some (pB r0,[],s)):=by
 refine (evE (fn:=Tryz.f41) (by kernel_rfl)).trans ?_
 generalize evC (Kh lf) d=cl
 unfold A46;exact (Eq.trans (by kernel_rfl) (A0 rfl (A0 rfl (A0 (A0 rfl (B9 λn'1=>(A0 (A0 rfl ((SK lf cl yh s (O4 0 (P3 (Kh lf) cl yh (cd [1,1,1] Ai8) (J6 (Kh lf) Tryz.f41))) lf s0 (s0.length:Int) 0).trans (by kernel_rfl))) rfl))) rfl))))
noncomputable def OT (lf:Nat):Cfg:=C0 lf [28] (A3 []) [(24,Zk)] (A3 [(9,[2]),(4,[2]),(6,[2]),(8,[2]),(7,[1,31]),(5,[1,1,1,16]),(3,[1,1,1,0]),(2,[1,1,1]),(1,[1,1]),(0,[1])]) [24] (A3 [(0,[])]) (some [2]) [] [] []
noncomputable def Gn {R:Type} (lf:Nat) (h0:Int) (h1:By) (h2 h3 h4 h5 h6 h7 h8 h9 h10:Int) (k0:Bool->Int->By->Int->Int->Int->Int->Int->Int->Int->Int->Int->LL->Option R):Option R:=cond (h0==1) (cond (A2 h1.length) (cond (E2 h1) (cond (h2==0) (k0 ((h3==0)&&((h4==0)&&((h5==0)&&((h6==0)&&((h7==0)&&((h8==0)&&((h9==0)&&((h10==0)&&true)))))))) h0 h1 h2 h3 h4 h5 h6 h7 h8 h9 h10 (List.replicate 8 [(SV.int .u16 (0:Int))])) (k0 false h0 h1 h2 h3 h4 h5 h6 h7 h8 h9 h10 (List.replicate 8 [(SV.int .u16 (0:Int))]))) (k0 false h0 h1 h2 h3 h4 h5 h6 h7 h8 h9 h10 (List.replicate 8 [(SV.int .u16 (0:Int))]))) none) (cond (h0==2) (cond (h1==[]) (k0 ((h3==0)&&((h4==0)&&((h5==0)&&((h6==0)&&((h7==0)&&((h8==0)&&((h9==0)&&((h10==0)&&true)))))))) h0 h1 h2 h3 h4 h5 h6 h7 h8 h9 h10 (List.replicate 8 [(SV.int .u16 (0:Int))])) (k0 false h0 h1 h2 h3 h4 h5 h6 h7 h8 h9 h10 (List.replicate 8 [(SV.int .u16 (0:Int))]))) (cond (h0==3) (cond (h1==[]) (k0 (h2==0) h0 h1 h2 h3 h4 h5 h6 h7 h8 h9 h10 (List.replicate 8 [(SV.int .u16 (0:Int))])) (k0 false h0 h1 h2 h3 h4 h5 h6 h7 h8 h9 h10 (List.replicate 8 [(SV.int .u16 (0:Int))]))) (k0 false h0 h1 h2 h3 h4 h5 h6 h7 h8 h9 h10 (List.replicate 8 [(SV.int .u16 (0:Int))]))))
theorem A21 (d:Nat) (h0 h1 h2 h3 h4 h5 h6 h7 h8 h9 h10):evC (OT lf) (d+1) σ yh 28 [.agg [pI h0,pS h1,p32 h2,p16 h3,p16 h4,p16 h5,p16 h6,p16 h7,p16 h8,p16 h9,p16 h10]] [] s=Gn lf h0 h1 h2 h3 h4 h5 h6 h7 h8 h9 h10 (λr0 n1 s2 n3 n4 n5 n6 n7 n8v n9 n10 n11 l12=>some (pB r0,[.box [pI n1,pS s2,p32 n3,p16 n4,p16 n5,p16 n6,p16 n7,p16 n8v,p16 n9,p16 n10,p16 n11],.arr false 28 1 l12],s)):=by
 refine (evE (fn:=Tryz.f28) (by kernel_rfl)).trans ?_
 generalize evC (OT lf) d=cl
 unfold Gn;kernel_rfl
end
theorem JU {n m:Nat} (hnm:n<=m):∀ l:List Nat,(∀ p∈l,n<=p->m<=p)->l.countP (λp=>decide (p<m+1))=l.countP (λp=>decide (p<n))+l.countP (· == m)
 | [],_=>rfl
 | p::l,h=>by
  have ih:=JU hnm l (λq hq=>h q (List.mem_cons_of_mem _ hq))
  have hp:=h p List.mem_cons_self
  grind
theorem Bf5 {n:Nat} {l:List Nat} (h:l.countP (λp=>decide (p<n))<l.length):∃ p∈l,n<=p:=by
 apply Classical.byContradiction
 intro hc
 have:l.countP (λp=>decide (p<n))=l.length:=by simp_all
 omega
theorem Aq9 (z t:Bool) (pts:List Nat) (basic:Nat) (hl:pts.length<=256) (hb:basic<=256) (hall:∀ p∈pts,p<=1114111):∀ (f n n':Nat) (s:XL),s.done=pts.countP (λp=>decide (p<n))->pts.length<=s.done+f->f<n'->s.delta<=300->s.bias<=500->s.out.length+20*(pts.length-s.done)<=80000->n<=1114112->
  ∀ (R:Type) (k0:LL->Option R),Aw LF n' z t (F3 pts) (basic:Int) (n:Int) (s.delta:Int) (s.bias:Int) (s.done:Int) (s.out.map I8) k0=k0 ((Fo pts basic f n s).out.map I8):=by
 intro f
 have hLF:=K9
 induction f with
 | zero=>
  intro n n' s hd hf hn h1 h2 h3 h4 R k0
  obtain ⟨n',rfl⟩:∃ m,n'=m+1:=⟨n'-1,by omega⟩
  rw [Aw]
  rw [K7,B6]
  rfl
 | succ f ih=>
  intro n n' s hd hf hn h1 h2 h3 h4 R k0
  obtain ⟨n',rfl⟩:∃ m,n'=m+1:=⟨n'-1,by omega⟩
  rw [Aw]
  rw [K7]
  have hcl:pts.countP (λp=>decide (p<n))<=pts.length:=List.countP_le_length
  by_cases hlt:s.done<pts.length
  ·obtain ⟨p0,hp0,hp1⟩:=Bf5 (n:=n) (l:=pts) (by omega)
   obtain ⟨g1,g2,g3⟩:=Rj n pts 1114112
   have g4:=g3 p0 hp0 hp1
   have g5:=hall p0 hp0
   have hmem:N9 n pts 1114112∈pts/\n<=N9 n pts 1114112:=by grind
   have he:Fo pts basic (f+1) n s=Fo pts basic f (N9 n pts 1114112+1) { L6 (N9 n pts 1114112) basic pts { s with delta:=s.delta+(N9 n pts 1114112-n)*(s.done+1) } with delta:=(L6 (N9 n pts 1114112) basic pts { s with delta:=s.delta+(N9 n pts 1114112-n)*(s.done+1) }).delta+1 }:=by
    rw [Fo,if_pos hlt]
   rw [he,C7,cond_true]
   have hleast:=λ(K:Bool->Bool->LL->Int->Int->Int->Int->Int->Int->LL->Option R)=>TS (k0:=K) z t pts hl n (basic:Int) (s.delta:Int) (s.bias:Int) (s.done:Int) (s.out.map I8) pts.length 0 LF 1114112 (by omega) (by omega)
   rw [List.drop_zero] at hleast
   refine Eq.trans (hleast _) ?_
   generalize N9 n pts 1114112=m at *
   have hmul:(m-n)*(s.done+1)<=1114112*256:=Nat.mul_le_mul (by omega) (by omega)
   have e1:A5 ((s.done:Int)+1)=((s.done+1:Nat):Int):=by rw [B1];rfl
   have e2:A5 ((m:Int)-(n:Int))=((m-n:Nat):Int):=by rw [B1];omega
   have e3:A5 (((m-n:Nat):Int)*((s.done+1:Nat):Int))=(((m-n)*(s.done+1):Nat):Int):=by
    rw [<-Int.natCast_mul]
    exact B1
   have e4:A5 ((s.delta:Int)+(((m-n)*(s.done+1):Nat):Int))=((s.delta+(m-n)*(s.done+1):Nat):Int):=by
    rw [B1];rfl
   simp only [vl,e1,e2,e3,e4]
   have hin:=A66 z t pts basic m (by omega) hl pts.length 0 LF { s with delta:=s.delta+(m-n)*(s.done+1) } (by omega) (by omega) (by simp only;omega) h2 (by simp only;omega) (by simp only;omega) hb
   rw [List.drop_zero] at hin
   obtain ⟨q1,q2,q3,q4,q5⟩:=hin
   rw [K7]
   refine Eq.trans (q1 R _) ?_
   have hcnt:0<pts.countP (· == m):=List.countP_pos_iff.2 ⟨m,hmem.1,by simp⟩
   rw [if_pos hcnt] at q5
   have hstep:=JU hmem.2 pts g3
   generalize L6 m basic pts { s with delta:=s.delta+(m-n)*(s.done+1) } = s' at *
   simp only at q3 q4
   have e5:A5 ((s'.delta:Int)+1)=((s'.delta+1:Nat):Int):=by rw [B1];rfl
   have e6:A5 ((m:Int)+1)=((m+1:Nat):Int):=by rw [B1];rfl
   have hcl2:pts.countP (λp=>decide (p<m+1))<=pts.length:=List.countP_le_length
   simp only [e5,e6]
   exact ih (m+1) n' { s' with delta:=s'.delta+1 } (by simp only;omega) (by simp only;omega) (by omega) (by simp only;omega) q2 (by simp only;omega) (by omega) R k0
  ·rw [B6]
   rw [Fo,if_neg hlt]
   rfl
def Dw (l:List Int):By:=(l.filter λx=>decide (x<128)).map λx=>UInt8.ofNat x.toNat
theorem Bj6 (x:Int) (h0:0<=x) (h:x<128):[SV.int .u8 (wu8 x)]=I8 (UInt8.ofNat x.toNat):=by
 unfold I8
 have e:wu8 x=x:=by unfold wu8;exact Int.emod_eq_of_lt h0 (show x<256 by omega)
 rw [e]
 have:((UInt8.ofNat x.toNat).toNat:Int)=x:=by simp;omega
 rw [this]
theorem Xf {x:Int} (h:ptI x=true):0<=x/\x<=1114111:=by
 cases x with
 | negSucc m=>cases h
 | ofNat m=>
  have:Jc m=true:=h
  unfold Jc at this
  simp only [Bool.and_eq_true,Nat.ble_eq] at this
  grind
theorem TN (z t:Bool) (P:List Int) (hl:P.length<=256):∀ (r i n:Nat) (out:By),i+r=P.length->r<n->out.length+r<=1000->
  ((P.drop i).all ptI=true->∀ (R:Type) (k0:LL->Option R) (k1:Bool->Bool->LL->LL->Option R),N0 LF n z t (Es P) (P.length:Int) (i:Int) (out.map I8) k0 k1=k1 z t (Es P) ((out++Dw (P.drop i)).map I8))/\
  ((P.drop i).all ptI=false->∃ l,∀ (R:Type) (k0:LL->Option R) (k1:Bool->Bool->LL->LL->Option R),N0 LF n z t (Es P) (P.length:Int) (i:Int) (out.map I8) k0 k1=k0 l):=by
 intro r
 induction r with
 | zero=>
  intro i n out hi hn ho
  obtain ⟨n,rfl⟩:∃ m,n=m+1:=⟨n-1,by omega⟩
  rw [List.drop_of_length_le (by omega)]
  refine ⟨λ_ R k0 k1=>?_,λh=>(by cases h)⟩
  rw [N0]
  rw [B6]
  simp [Dw]
 | succ r ih=>
  intro i n out hi hn ho
  obtain ⟨n,rfl⟩:∃ m,n=m+1:=⟨n-1,by omega⟩
  have hg:=An7 P i (by omega)
  have ok:=WR (l:=P) (i:=i) (by omega)
  rw [Am8 P i (by omega)]
  generalize P.getD i 0=x at *
  have e1:A5 ((i:Int)+1)=((i+1:Nat):Int):=by rw [B1];rfl
  cases hx:ptI x with
  | false=>
   refine ⟨λh=>?_,λ_=>⟨out.map I8,λR k0 k1=>?_⟩⟩
   ·rw [List.all_cons,hx] at h;cases h
   ·rw [N0]
    rw [C7,Et,Ak,Int.toNat_natCast,ok]
    simp only [cond_true,vl,hg,hx,Bool.not_false]
  | true=>
   obtain ⟨p0,p1⟩:=Xf hx
   rw [List.all_cons,hx,Bool.true_and]
   by_cases h128:x<128
   ·have hbs:Dw (x::P.drop (i+1))=UInt8.ofNat x.toNat::Dw (P.drop (i+1)):=by
     unfold Dw;rw [List.filter_cons_of_pos (by simpa using h128)];rfl
    have hrow:out.map I8++[[SV.int .u8 (wu8 x)]]=(out++[UInt8.ofNat x.toNat]).map I8:=by rw [Bj6 x p0 h128];simp
    obtain ⟨q1,q2⟩:=ih (i+1) n (out++[UInt8.ofNat x.toNat]) (by omega) (by omega) (by simp;omega)
    have step:∀ (R:Type) (k0:LL->Option R) (k1:Bool->Bool->LL->LL->Option R),N0 LF (n+1) z t (Es P) (P.length:Int) (i:Int) (out.map I8) k0 k1=N0 LF n z t (Es P) (P.length:Int) ((i+1:Nat):Int) ((out++[UInt8.ofNat x.toNat]).map I8) k0 k1:=by
     intro R k0 k1
     rw [N0]
     rw [C7,Et,Ak,Int.toNat_natCast,ok]
     simp only [cond_true,vl,hg,hx,Bool.not_true,cond_false,e1]
     rw [H5 h128,List.length_map,V5 (by omega),hrow]
     rfl
    refine ⟨λh R k0 k1=>?_,λh=>?_⟩
    ·rw [step,q1 h,hbs];simp
    ·obtain ⟨l,e⟩:=q2 h
     exact ⟨l,λR k0 k1=>by rw [step];exact e R k0 k1⟩
   ·have hbs:Dw (x::P.drop (i+1))=Dw (P.drop (i+1)):=by
     unfold Dw;rw [List.filter_cons_of_neg (by simpa using h128)]
    obtain ⟨q1,q2⟩:=ih (i+1) n out (by omega) (by omega) (by omega)
    have step:∀ (R:Type) (k0:LL->Option R) (k1:Bool->Bool->LL->LL->Option R),N0 LF (n+1) z t (Es P) (P.length:Int) (i:Int) (out.map I8) k0 k1=N0 LF n z t (Es P) (P.length:Int) ((i+1:Nat):Int) (out.map I8) k0 k1:=by
     intro R k0 k1
     rw [N0]
     rw [C7,Et,Ak,Int.toNat_natCast,ok]
     simp only [cond_true,vl,hg,hx,Bool.not_true,cond_false,e1]
     rw [B6]
     rfl
    refine ⟨λh R k0 k1=>?_,λh=>?_⟩
    ·rw [step,q1 h,hbs]
    ·obtain ⟨l,e⟩:=q2 h
     exact ⟨l,λR k0 k1=>by rw [step];exact e R k0 k1⟩
theorem A72 {P:List Int} (h:P.all ptI=true):∃ pts:List Nat,P=pts.map (λn:Nat=>(n:Int))/\pts.all Jc=true/\∀ p∈pts,p<=1114111:=by
 induction P with
 | nil=>exact ⟨[],rfl,rfl,by simp⟩
 | cons x P ih=>
  rw [List.all_cons,Bool.and_eq_true] at h
  obtain ⟨pts,rfl,h1,h2⟩:=ih h.2
  obtain ⟨p0,p1⟩:=Xf h.1
  obtain ⟨m,rfl⟩:=Int.eq_ofNat_of_zero_le p0
  refine ⟨m::pts,rfl,?_,?_⟩
  ·rw [List.all_cons,h1,Bool.and_true];exact h.1
  grind
theorem OJ (pts:List Nat):Dw (pts.map λn:Nat=>(n:Int))=J0 pts:=by
 unfold Dw J0
 induction pts with
 | nil=>rfl
 | cons p r ih=>
  grind
theorem OI (pts:List Nat):(J0 pts).length=pts.countP (λp=>decide (p<128)):=by
 unfold J0
 grind
theorem TO (z t:Bool) (P:List Int):(Kl P=([],3)/\∀ (R:Type) (k0:Unit->Option R) (k1:By->Int->LL->Option R),MD LF z t (Es P) k0 k1=k0 ())\/
  (∃ l,∀ (R:Type) (k0:Unit->Option R) (k1:By->Int->LL->Option R),MD LF z t (Es P) k0 k1=k1 (Kl P).1 ((Kl P).2:Nat) l):=by
 have hLF:=K9
 by_cases hl:256<P.length
 ·refine .inl ⟨by unfold Kl;rw [if_pos hl],λR k0 k1=>?_⟩
  unfold MD
  rw [Et,C7]
  rfl
 ·right
  obtain ⟨q1,q2⟩:=TN z t P (by omega) P.length 0 LF [] (by omega) (by omega) (by simp;omega)
  rw [List.drop_zero] at q1 q2
  cases ha:P.all ptI with
  | false=>
   obtain ⟨l,e⟩:=q2 ha
   refine ⟨l,λR k0 k1=>?_⟩
   unfold MD
   rw [Et,B6,cond_false]
   refine Eq.trans (e R _ _) ?_
   unfold Kl
   rw [if_neg hl,ha]
   rfl
  | true=>
   obtain ⟨pts,rfl,hp1,hp2⟩:=A72 ha
   rw [List.length_map] at hl
   have hen:Kl (pts.map λn:Nat=>(n:Int))=Vn pts:=by
    unfold Kl
    rw [List.length_map,if_neg hl,ha]
    simp [Function.comp_def]
   have hbl:=OI pts
   have hbc:pts.countP (λp=>decide (p<128))<=pts.length:=List.countP_le_length
   have main:∀ (o:By),o.length<=300->∀ (R:Type) (k0:LL->Option R),Aw LF LF z t (F3 pts) ((J0 pts).length:Int) 128 0 72 ((J0 pts).length:Int) (o.map I8) k0=k0 ((Fo pts (J0 pts).length 256 128 { delta:=0,bias:=72,done:=(J0 pts).length,out:=o }).out.map I8):=by
    intro o ho R k0
    exact Aq9 z t pts (J0 pts).length (by omega) (by omega) hp2 256 128 LF { delta:=0,bias:=72,done:=(J0 pts).length,out:=o } hbl (by simp only;omega) (by omega) (by simp) (by simp) (by simp only;omega) (by omega) R k0
   have he2:Vn pts=((Fo pts (J0 pts).length 256 128 { delta:=0,bias:=72,done:=(J0 pts).length,out:=if (J0 pts).isEmpty then [] else J0 pts++[45] }).out,0):=by
    unfold Vn
    grind
   refine ⟨(Vn pts).1.map I8,λR k0 k1=>?_⟩
   unfold MD
   rw [Et,List.length_map,B6,cond_false,hen]
   have q1':=q1 ha R
   rw [List.length_map] at q1'
   refine Eq.trans (q1' _ _) ?_
   rw [List.nil_append,OJ,Qb]
   simp only [vl,List.length_map]
   by_cases hbe:J0 pts=[]
   ·rw [hbe,List.length_nil,B6,cond_false]
    have mm:=main [] (by simp) R
    rw [hbe,List.length_nil] at mm
    rw [List.map_nil] at mm
    refine Eq.trans (mm _) ?_
    rw [hbe] at he2
    rw [he2]
    simp only [List.isEmpty_nil,if_true,List.length_nil]
    rw [JD,LT]
    rfl
   ·have hpos:0<(J0 pts).length:=List.length_pos_iff.2 hbe
    rw [C7,cond_true,V5 (by omega),cond_true]
    have hrow:(J0 pts).map I8++[[SV.int .u8 (45:Int)]]=(J0 pts++[45]).map I8:=by rw [List.map_append];rfl
    rw [hrow]
    refine Eq.trans (main (J0 pts++[45]) (by simp;omega) R _) ?_
    rw [he2,if_neg (by simpa using hbe)]
    rw [JD,LT]
    rfl
theorem A67 (z t:Bool) (p:LL) (h0:p.all BD=true):∃ r H,MD LF z t p (λ_=>rv (.tup [.s (.str []),.s (.int .i64 3)]) []) (λr0 r1 l=>rv (.tup [.s (.str r0),.s (.int .i64 r1)]) [.arr true 5 1 l])=rv r H/\
  r.stab [0,0] H = .tup [.s (.str (Kl (p.map elI)).1),.s (.int .i64 ((Kl (p.map elI)).2:Nat))]:=by
 obtain ⟨P,rfl⟩:=A23 h0
 rw [An0]
 rcases TO z t P with ⟨h1,h2⟩ | ⟨l,h2⟩
 ·exact ⟨_,_,h2 _ _ _,by rw [h1];rfl⟩
 ·exact ⟨_,_,h2 _ _ _,rfl⟩
theorem An3 (l:List Nat):Kl (l.map λn:Nat=>(n:Int))=Vn l:=by
 have h1:(l.map λn:Nat=>(n:Int)).all ptI=l.all Jc:=by
  rw [List.all_map]
  congr 1
 have h2:(l.map λn:Nat=>(n:Int)).map Int.toNat=l:=by
  rw [List.map_map]
  exact (List.map_congr_left λa _=>by simp).trans (List.map_id l)
 unfold Kl
 rw [List.length_map,h1,h2]
 by_cases h:256<l.length
 ·rw [if_pos h];unfold Vn;rw [if_pos h]
 ·rw [if_neg h]
  cases hp:l.all Jc with
  | true=>rw [if_pos rfl]
  | false=>
   rw [if_neg (by simp)]
   unfold Vn
   grind
theorem An1 (l:List Nat):(F3 l).map elI=l.map λn:Nat=>(n:Int):=by
 unfold F3
 rw [List.map_map]
 exact List.map_congr_left λa _=>rfl
theorem Yl (l:List Nat):(F3 l).all BD=true:=by
 unfold F3
 rw [List.all_map,List.all_eq_true]
 intro x _
 rfl
theorem SG {R:Type} {k0:Unit->Option R} {k1:By->Bool->LL->Bool->Option R} (s:By) (z:Bool) (p:List Nat) (hp:p.length<=1000000000):∀ (r i n:Nat) (b:Bool),i+r=p.length->r<n->
  O8 LF n s z (F3 p) b (p.length:Int) (i:Int) k0 k1=if (p.drop i).any (λp=>Nat.ble 65 p&&Nat.ble p 90) then k0 () else k1 s z (F3 p) (b && !((p.drop i).any λp=>Nat.ble 128 p)):=by
 intro r
 induction r with
 | zero=>
  intro i n b hi hn
  obtain ⟨n,rfl⟩:∃ m,n=m+1:=⟨n-1,by omega⟩
  rw [O8]
  rw [B6,List.drop_of_length_le (by omega)]
  simp
 | succ r ih=>
  intro i n b hi hn
  obtain ⟨n,rfl⟩:∃ m,n=m+1:=⟨n-1,by omega⟩
  rw [O8]
  have e1:A5 ((i:Int)+1)=((i+1:Nat):Int):=by rw [B1];rfl
  have hd:p.drop i=p.getD i 0::p.drop (i+1):=by
   rw [List.getD_eq_getElem?_getD,List.getElem?_eq_getElem (by omega),Option.getD_some,List.getElem_cons_drop]
  rw [C7,K7,Ak,Int.toNat_natCast,HN (by omega),RC _ _ (by omega),hd,List.any_cons,List.any_cons,e1]
  simp only [cond_true,vl]
  generalize p.getD i 0=q
  have go:∀ c:Bool,O8 LF n s z (F3 p) c (p.length:Int) ((i+1:Nat):Int) k0 k1=_:=λc=>ih (i+1) n c (by omega) (by omega)
  by_cases h1:q<65
  ·rw [C7,show Nat.ble 65 q=false by rw [Bool.eq_false_iff,ne_eq,Nat.ble_eq];omega]
   have h2:Nat.ble 128 q=false:=by rw [Bool.eq_false_iff,ne_eq,Nat.ble_eq];omega
   rw [show ltI (q:Int) (128:Int)=true from C7,h2]
   simp only [Bool.not_true,cond_false,Bool.false_and,Bool.false_or]
   cases b<;>simp only [cond_true,cond_false]<;>rw [go]
  ·rw [B6,show Nat.ble 65 q=true by rw [Nat.ble_eq];omega]
   simp only [Bool.not_false,cond_true,Bool.true_and]
   by_cases h2:90<q
   ·rw [C7,show Nat.ble q 90=false by rw [Bool.eq_false_iff,ne_eq,Nat.ble_eq];omega]
    simp only [Bool.not_true,cond_false,Bool.false_or]
    by_cases h3:q<128
    ·rw [show ltI (q:Int) (128:Int)=true from C7,show Nat.ble 128 q=false by rw [Bool.eq_false_iff,ne_eq,Nat.ble_eq];omega]
     cases b<;>simp only [cond_true,cond_false,Bool.false_or]<;>rw [go]
    ·rw [show ltI (q:Int) (128:Int)=false from B6,show Nat.ble 128 q=true by rw [Nat.ble_eq];omega]
     cases b<;>simp only [cond_true,cond_false,Bool.true_or,Bool.not_true,Bool.and_false]<;>rw [go]<;>simp
   ·rw [B6,show Nat.ble q 90=true by rw [Nat.ble_eq];omega]
    simp
theorem QN:∀ (m:Nat) (s:By) (pts:List Nat) (n i b:Nat) (f:Bool),s.length<=m->pts.length<=256->(M9 s pts n i b f).1.length<=256:=by
 intro m
 induction m with
 | zero=>
  intro s pts n i b f hs hp
  obtain rfl:=List.length_eq_zero_iff.1 (Nat.le_zero.1 hs)
  rw [Kk]
  exact hp
 | succ m ih=>
  intro s pts n i b f hs hp
  by_cases h:s=[]
  ·grind
  ·by_cases hq:(C4 b s i 1 0).2.2=0
   ·rw [Qy h _ _ _ _ _ hq]
    have hlt:=Pi b s i 1 0 hq
    split
    ·split
     ·grind
     ·rename_i h2
      exact ih _ _ _ _ _ _ (by omega) (by rw [BB];omega)
    grind
   ·rw [Vl h _ _ _ _ _ hq]
    grind
theorem Am6 (s:By):(Q0 s).1.length<=256:=by
 unfold Q0
 split
 ·grind
 ·split
  ·grind
  ·split
   ·grind
   ·rename_i h
    exact QN _ _ _ _ _ _ _ (Nat.le_refl _) (by rw [List.length_map,List.length_take];omega)
theorem SH {R:Type} {k0:Bool->Option R} (s:By) (h0:A2 s.length=true):WJ LF s k0=k0 (Ix s):=by
 have hLF:=K9
 unfold WJ Ix
 rw [h0,cond_true]
 by_cases h:(Q0 s).2=0
 ·have e:(((Q0 s).2:Int) != (0:Int))=false:=by rw [h];rfl
  rw [e,cond_false,BX,K7,h]
  have hl:=Am6 s
  refine Eq.trans (SG s _ (Q0 s).1 (by omega) (Q0 s).1.length 0 LF true (by omega) (by omega)) ?_
  rw [List.drop_zero]
  cases h1:(Q0 s).1.any (λp=>Nat.ble 65 p&&Nat.ble p 90) with
  | true=>simp
  | false=>
   rw [if_neg (by simp),Yl,An1,An3]
   simp only [cond_true,vl,Bool.true_and,Bool.not_false]
   cases h2:(Q0 s).1.any (λp=>Nat.ble 128 p) with
   | false=>simp
   | true=>
    simp only [Bool.not_true,Bool.not_false,cond_true,Bool.and_true,beq_self_eq_true,Bool.true_and]
    by_cases h3:(Vn (Q0 s).1).2=0
    all_goals grind
 grind
theorem ZQ {R:Type} {k0:Unit->Option R} {k1:By->Option R} (s:By) (hs:s.length<=1000000000):∀ (r i n:Nat),i+r=s.length->r<n->
  K6 LF n s (s.length:Int) (i:Int) k0 k1=if (s.drop i).all U7 then k1 s else k0 ():=by
 intro r
 induction r with
 | zero=>
  intro i n hi hn
  obtain ⟨n,rfl⟩:∃ m,n=m+1:=⟨n-1,by omega⟩
  rw [K6]
  rw [B6,List.drop_of_length_le (by omega)]
  rfl
 | succ r ih=>
  intro i n hi hn
  obtain ⟨n,rfl⟩:∃ m,n=m+1:=⟨n-1,by omega⟩
  rw [K6]
  have e1:A5 ((i:Int)+1)=((i+1:Nat):Int):=by rw [B1];rfl
  rw [C7,Ak,Ia,Ii s i (by omega),e1,List.all_cons]
  simp only [cond_true]
  rw [ih (i+1) n (by omega) (by omega)]
  generalize s.getD i 0=b
  have hb:=LM b
  have q1:((b.toNat:Int) != 45) = !(b==45):=congrArg _ (Yc b 45 (by omega))
  have q2:((b.toNat:Int) != 95) = !(b==95):=congrArg _ (Yc b 95 (by omega))
  rw [q1,q2]
  have t:∀ {x:Bool},U7 b=x->(if (U7 b&&(s.drop (i+1)).all U7)=true then k1 s else k0 ())=if (x&&(s.drop (i+1)).all U7)=true then k1 s else k0 ():=λh=>by rw [h]
  cases hl:U7 b with
  | true=>
   rw [hb] at hl
   simp only [Bool.true_and]
   by_cases h1:b=45
   ·subst h1
    simp (disch:=decide) [ltI]
   ·by_cases h2:b=95
    ·subst h2
     simp (disch:=decide) [ltI]
    ·rcases hl with hl | hl | hl | hl
     ·rw [show ltI (b.toNat:Int) 97=false from B6,show ltI (122:Int) b.toNat=false from B6];rfl
     ·rw [show ltI (b.toNat:Int) 97=true from C7,show ltI (b.toNat:Int) 48=false from B6,show ltI (57:Int) b.toNat=false from B6];rfl
     ·exact absurd hl h1
     ·exact absurd hl h2
  | false=>
   have hn:¬ ((97<=b.toNat/\b.toNat<=122)\/(48<=b.toNat/\b.toNat<=57)\/b=45\/b=95):=λh=>by rw [hb.2 h] at hl;cases hl
   have n1:(b==45)=false:=by simpa using λh=>hn (.inr (.inr (.inl h)))
   have n2:(b==95)=false:=by simpa using λh=>hn (.inr (.inr (.inr h)))
   rw [n1,n2]
   simp only [Bool.not_false,cond_true,Bool.false_and,Bool.false_eq_true,if_false]
   by_cases h1:b.toNat<48
   ·rw [show ltI (b.toNat:Int) 97=true from C7,show ltI (b.toNat:Int) 48=true from C7];rfl
   ·by_cases h2:b.toNat<97
    ·rw [show ltI (b.toNat:Int) 97=true from C7,show ltI (b.toNat:Int) 48=false from B6,show ltI (57:Int) b.toNat=true from C7];rfl
    ·rw [show ltI (b.toNat:Int) 97=false from B6,show ltI (122:Int) b.toNat=true from C7,show ltI (b.toNat:Int) 48=false from B6,show ltI (57:Int) b.toNat=true from C7];rfl
theorem ZR {R:Type} {k0:Bool->Option R} (s:By) (h0:A2 s.length=true):A46 LF s k0=k0 (Cq s):=by
 have hs:=U0 h0
 have hLF:=K9
 unfold A46 Cq
 by_cases h1:s=[]
 ·simp_all
 ·have hl:0<s.length:=List.length_pos_iff.2 h1
  have he:s.isEmpty=false:=by simpa using h1
  rw [B6,cond_false,he]
  by_cases h2:63<s.length
  ·rw [C7,show Nat.ble s.length 63=false by rw [Bool.eq_false_iff,ne_eq,Nat.ble_eq];omega]
   rfl
  ·rw [B6,cond_false,show Nat.ble s.length 63=true by rw [Nat.ble_eq];omega,Ak]
   have q1:(bAt s 0==(45:Int))=(s.getD 0 0==45):=by rw [Va];exact Yc _ 45 (by omega)
   have e1:A5 ((s.length:Int)-1)=((s.length-1:Nat):Int):=by rw [B1];omega
   rw [q1,e1]
   simp only [cond_true,vl]
   rw [Ak,Ia,show ((((s.getD (s.length-1) 0).toNat:Nat):Int)==45)=(s.getD (s.length-1) 0==45) from Yc _ 45 (by omega)]
   cases h3:(s.getD 0 0==45) with
   | true=>
    grind
   | false=>
    rw [show (s.getD 0 0 != 45)=true by unfold bne;rw [h3];rfl]
    simp only [cond_true,cond_false]
    cases h4:(s.getD (s.length-1) 0==45) with
    | true=>
     grind
    | false=>
     rw [show (s.getD (s.length-1) 0 != 45)=true by unfold bne;rw [h4];rfl]
     simp only [cond_false]
     refine Eq.trans (ZQ s hs s.length 0 LF (by omega) (by omega)) ?_
     rw [List.drop_zero]
     cases h5:s.all U7 with
     | false=>simp
     | true=>
      rw [if_pos rfl,h0,cond_true]
      simp only [Bool.not_false,Bool.true_and,Bool.and_true]
      show cond (!(xnB.isPrefixOf s)) _ _=_
      cases h6:xnB.isPrefixOf s with
      | false=>rfl
      | true=>
       have hc:Vk s xnB=s.drop 4:=by unfold Vk;rw [h6];rfl
       show cond (A2 (Vk s xnB).length) (k0 (Ix (Vk s xnB))) none=_
       rw [hc,I5 (by rw [List.length_drop];omega)]
       rfl
abbrev Br5 (kd:Int) (nm:By) (v4 a0 a1 a2 a3 a4 a5 a6 a7:Int):List PV:=[.s (.int .i64 kd),.s (.str nm),.s (.int .u32 v4),.s (.int .u16 a0),.s (.int .u16 a1),.s (.int .u16 a2),.s (.int .u16 a3),.s (.int .u16 a4),.s (.int .u16 a5),.s (.int .u16 a6),.s (.int .u16 a7)]
theorem KY {R:Type} {k0 k1:Unit->Option R}:∀ l:List By,(∀ x∈l,x.length<=1000000000)->Wa LF l k0 k1=if l.all Cq then k0 () else k1 ()
 | [],_=>rfl
 | x::r,h=>by
  rw [KX]
  unfold Tj
  rw [I5 (h x (by simp)),cond_true,List.all_cons]
  have ih:=KY (k0:=k0) (k1:=k1) r (λy hy=>h y (by simp [hy]))
  grind
theorem Bg7 (s:By) (h0:A2 s.length=true):∃ r H,hvn LF s (λ_=>rv (.s (.bool false)) [.box [.s (.bool false)]]) (λr0 b1=>rv (.s (.bool r0)) [.box [.s (.bool b1)],.box [.bad],.box [.bad],.box [.bad]])=rv r H/\r.stab [] H = .s (.bool (E2 s)):=by
 have hs:=U0 h0
 unfold hvn GG E2
 by_cases h1:253<s.length
 ·rw [C7,show Nat.ble s.length 253=false by rw [Bool.eq_false_iff,ne_eq,Nat.ble_eq];omega]
  exact ⟨_,_,rfl,rfl⟩
 ·rw [B6,cond_false,h0,cond_true,show Nat.ble s.length 253=true by rw [Nat.ble_eq];omega]
  cases h2:Ab s with
  | true=>exact ⟨_,_,rfl,rfl⟩
  | false=>
   rw [cond_false,show ((1:Nat)==1&&(0:Int)==(0:Int))=true from rfl,show ([46]:By).getD 0 0=46 from rfl,Bool.and_true,cond_true,KY _ (λx hx=>by have:=(Mv hx).2;omega)]
   cases h3:(pcs 46 s).all Cq with
   | true=>exact ⟨_,_,rfl,rfl⟩
   | false=>exact ⟨_,_,rfl,rfl⟩
theorem Bp1 (b0 b1 b2 b3 b4 b5 b6 b7:Nat):(n8 (b0:Int) b1 b2 b3 b4 b5 b6 b7==z8)=(((b0:Int)==0)&&(((b1:Int)==0)&&(((b2:Int)==0)&&(((b3:Int)==0)&&(((b4:Int)==0)&&(((b5:Int)==0)&&(((b6:Int)==0)&&(((b7:Int)==0)&&true)))))))):=by
 have e:n8 (b0:Int) b1 b2 b3 b4 b5 b6 b7=[b0,b1,b2,b3,b4,b5,b6,b7]:=rfl
 have q:∀ b:Nat,((b:Int)==0)=(b==0):=λb=>by grind
 rw [e]
 simp only [q,z8]
 rfl
theorem A22 (kd:Int) (nm:By) (v4 a0 a1 a2 a3 a4 a5 a6 a7:Int) (h0:A2 nm.length=true) (h1:ltN v4 4294967296=true) (h2:ok8 a0 a1 a2 a3 a4 a5 a6 a7=true) :
  ∃ r H,Gn LF kd nm v4 a0 a1 a2 a3 a4 a5 a6 a7 (λr0 n1 s2 n3 n4 n5 n6 n7 n8 n9 n10 n11 l12=>rv (.s (.bool r0)) [.box (Br5 n1 s2 n3 n4 n5 n6 n7 n8 n9 n10 n11),.arr false 28 1 l12])=rv r H/\
   r.stab [] H = .s (.bool (Q9 (mkH kd nm v4 (n8 a0 a1 a2 a3 a4 a5 a6 a7)))):=by
 obtain ⟨b0,b1,b2,b3,b4,b5,b6,b7,rfl,rfl,rfl,rfl,rfl,rfl,rfl,rfl,hb⟩:=A56 h2
 obtain ⟨v0,v1⟩:=G4.1 h1
 obtain ⟨v,rfl⟩:=Int.eq_ofNat_of_zero_le v0
 have qv:((v:Int)==0)=(v==0):=by
  rw [Bool.eq_iff_iff,beq_iff_eq,beq_iff_eq];omega
 have qn:(nm==([]:By))=nm.isEmpty:=by cases nm<;>rfl
 have hk:(mkH kd nm (v:Int) (n8 (b0:Int) b1 b2 b3 b4 b5 b6 b7)).kind=if ltN kd 4 then kd.toNat else 0:=rfl
 have hn:(mkH kd nm (v:Int) (n8 (b0:Int) b1 b2 b3 b4 b5 b6 b7)).name=nm:=rfl
 have hv:(mkH kd nm (v:Int) (n8 (b0:Int) b1 b2 b3 b4 b5 b6 b7)).v4=v:=Int.toNat_natCast v
 have h6:(mkH kd nm (v:Int) (n8 (b0:Int) b1 b2 b3 b4 b5 b6 b7)).v6=n8 (b0:Int) b1 b2 b3 b4 b5 b6 b7:=rfl
 unfold Gn Q9
 rw [hk,hn,hv,h6,Bp1,qv,qn]
 by_cases k1:kd=1
 ·subst k1
  rw [show ((1:Int)==1)=true from rfl,cond_true,h0,cond_true,if_pos (by decide)]
  cases E2 nm with
  | false=>exact ⟨_,_,rfl,rfl⟩
  | true=>
   cases (v==0) with
   | false=>exact ⟨_,_,rfl,rfl⟩
   | true=>exact ⟨_,_,rfl,rfl⟩
 ·rw [show (kd==(1:Int))=false by simpa using k1,cond_false]
  by_cases k2:kd=2
  ·subst k2
   rw [show ((2:Int)==2)=true from rfl,cond_true,if_neg (by decide),if_pos (by decide)]
   cases nm.isEmpty with
   | false=>exact ⟨_,_,rfl,rfl⟩
   | true=>exact ⟨_,_,rfl,rfl⟩
  ·rw [show (kd==(2:Int))=false by simpa using k2,cond_false]
   by_cases k3:kd=3
   ·subst k3
    rw [show ((3:Int)==3)=true from rfl,cond_true,if_neg (by decide),if_neg (by decide),if_pos (by decide)]
    cases nm.isEmpty with
    | false=>exact ⟨_,_,rfl,rfl⟩
    | true=>exact ⟨_,_,rfl,rfl⟩
   ·rw [show (kd==(3:Int))=false by simpa using k3,cond_false]
    have hkk:(if ltN kd 4 then kd.toNat else 0)=0:=by
     split
     ·rename_i h
      have:=G4.1 h
      omega
     ·rfl
    rw [hkk]
    exact ⟨_,_,rfl,rfl⟩
theorem SJ {R:Type} {k0:By->By->Int->Option R} (t p:By) (n:Int):Ap9 LF t p n k0=k0 t p n:=rfl
theorem Ac6 {R:Type} {k0:By->By->Option R} (t p:By):Bi7 LF t p k0=k0 t p:=rfl
theorem YK {R:Type} {k0:By->Option R} (t:By):Bg4 LF t k0=k0 t:=rfl
theorem XT {c:UInt8} {s:By} (h:c∉s):Lib.cut s [c]=(s,[],false):=by
 unfold Lib.cut
 rw [Km h,if_neg (by decide)]
theorem Am4 {c:UInt8} {p r:By} (h:c∉p):Lib.cut (p++c::r) [c]=(p,r,true):=by
 unfold Lib.cut
 rw [Pt h,Me,Int.toNat_natCast,List.take_left,List.length_singleton]
 simp_all
theorem UN {σ R:Type} (yh:Yh σ) (c:UInt8):∀ (m:Nat) (t:By) (n:Nat) (s s':σ),t.length<=m->t.length<=1000000000->m<n->O0 yh ((pcs c t).map λx=>([.s (.str x)]:List PV)) s=some s'->
  ∃ t' , (∃ s0:σ,∃ b:Bool,yh [.s (.str t')] s0=some (b,s')/\∀ (k0 k1:By->By->Int->σ->Option R),M4 yh LF n [c] t 0 s k0 k1=k0 [c] t' 0 s0)\/(∀ (k0 k1:By->By->Int->σ->Option R),M4 yh LF n [c] t 0 s k0 k1=k1 [c] t' 0 s'):=by
 intro m
 induction m with
 | zero=>
  intro t n s s' ht ht2 hn h
  obtain rfl:=List.length_eq_zero_iff.1 (Nat.le_zero.1 ht)
  obtain ⟨n,rfl⟩:∃ m,n=m+1:=⟨n-1,by omega⟩
  rw [Ho (by simp)] at h
  simp only [List.map_cons,List.map_nil,O0] at h
  refine ⟨[],.inl ⟨s,?_⟩⟩
  have e:∀ (k0 k1:By->By->Int->σ->Option R),M4 yh LF (n+1) [c] [] 0 s k0 k1=k0 [c] [] 0 s:=λk0 k1=>by
   rw [M4]
   rw [Km (by simp)]
   rfl
  cases hy:yh [.s (.str [])] s with
  | none=>rw [hy] at h;cases h
  | some q=>
   obtain ⟨b,s1⟩:=q
   rw [hy] at h
   have:s1=s':=by cases b<;>simpa using h
   subst this
   exact ⟨b,rfl,e⟩
 | succ m ih=>
  intro t n s s' ht ht2 hn h
  obtain ⟨n,rfl⟩:∃ m,n=m+1:=⟨n-1,by omega⟩
  rcases Dk c t with hc | ⟨p,r,rfl,hc⟩
  ·rw [Ho hc] at h
   simp only [List.map_cons,List.map_nil,O0] at h
   refine ⟨t,.inl ⟨s,?_⟩⟩
   have e:∀ (k0 k1:By->By->Int->σ->Option R),M4 yh LF (n+1) [c] t 0 s k0 k1=k0 [c] t 0 s:=λk0 k1=>by
    rw [M4]
    rw [Km hc,I5 ht2]
    rfl
   cases hy:yh [.s (.str t)] s with
   | none=>rw [hy] at h;cases h
   | some q=>
    obtain ⟨b,s1⟩:=q
    rw [hy] at h
    have:s1=s':=by cases b<;>simpa using h
    subst this
    exact ⟨b,rfl,e⟩
  ·rw [Ts hc] at h
   simp only [List.map_cons,O0] at h
   have hlen:(p++c::r).length=p.length+r.length+1:=by rw [List.length_append,List.length_cons];omega
   have e1:A5 ((p.length:Int)+0)=((p.length:Nat):Int):=by rw [B1];omega
   have e2:A5 ((p.length:Int)+(([c]:By).length:Int))=((p.length+1:Nat):Int):=by
    rw [R5 (by simp;omega) (by simp;omega)];simp
   have e3:cut (p++c::r) 0 (p.length:Int)=p:=by rw [Gz,Int.toNat_natCast,List.take_left]
   have e4:cut (p++c::r) ((p.length+1:Nat):Int) ((p++c::r).length:Int)=r:=by
    rw [P9,Int.toNat_natCast,show p++c::r=(p++[c])++r by simp,List.drop_left' (by simp)]
   have top:∀ (k0 k1:By->By->Int->σ->Option R),M4 yh LF (n+1) [c] (p++c::r) 0 s k0 k1=ydK (yh [.s (.str p)] s) λb s1=>cond (not b) (k1 [c] (p++c::r) 0 s1) (M4 yh LF n [c] r 0 s1 k0 k1):=λk0 k1=>by
    rw [M4]
    rw [Pt hc,I5 ht2,cond_true,B6,cond_false]
    simp only [vl,e1,e2,e3,e4]
    rw [V9,cond_true,V9]
    rfl
   cases hy:yh [.s (.str p)] s with
   | none=>rw [hy] at h;cases h
   | some q=>
    obtain ⟨b,s1⟩:=q
    rw [hy] at h top
    cases b with
    | false=>
     have:s1=s':=by simpa using h
     subst this
     exact ⟨p++c::r,.inr λk0 k1=>by rw [top];rfl⟩
    | true=>
     simp only at h
     obtain ⟨t',⟨s0,b,e,f⟩ | f⟩:=ih r n s1 s' (by omega) (by omega) (by omega) h
     ·exact ⟨t',.inl ⟨s0,b,e,λk0 k1=>by rw [top];exact f k0 k1⟩⟩
     ·exact ⟨t',.inr λk0 k1=>by rw [top];exact f k0 k1⟩
theorem UO {σ R:Type} (yh:Yh σ) (p t:By) (n:Int) (s s':σ) (h:(A2 t.length&&(p.length==1&&n==0))=true) (hr:O0 yh ((pcs (p.getD 0 0) t).map λx=>([.s (.str x)]:List PV)) s=some s') :
  ∃ t',∀ (k0:By->By->Int->σ->Option R),MO yh LF p t n s k0=k0 p t' n s':=by
 have hLF:=K9
 simp only [Bool.and_eq_true,beq_iff_eq] at h
 obtain ⟨h1,h2,rfl⟩:=h
 obtain ⟨c,rfl⟩:=List.length_eq_one_iff.1 h2
 have ht:=U0 h1
 obtain ⟨t',⟨s0,b,e,f⟩ | f⟩:=UN (R:=R) yh c t.length t LF s s' (Nat.le_refl _) ht (by omega) hr
 ·refine ⟨t',λk0=>?_⟩
  unfold MO
  rw [show (((([c]:By).length:Nat):Int)==0)=false from rfl,cond_false]
  refine Eq.trans (f _ _) ?_
  rw [e]
  rfl
 ·refine ⟨t',λk0=>?_⟩
  unfold MO
  rw [show (((([c]:By).length:Nat):Int)==0)=false from rfl,cond_false]
  exact f _ _
theorem Vz {σ R:Type} (yh:Yh σ):∀ (l:List By) (t:By) (n:Nat) (s s':σ),VN t->pcs 46 t=l->l.length<n->O0 yh ((W0 l).map λx=>([.s (.str x)]:List PV)) s=some s'->
  ∃ t',∀ (k0:By->σ->Option R),U5 yh LF n t s k0=k0 t' s'
 | [],t,n,s,s',hv,hp,hn,hr=>absurd hp (Kr 46 t)
 | [x],t,n,s,s',hv,hp,hn,hr=>by
  obtain ⟨n,rfl⟩:∃ m,n=m+1:=⟨n-1,by omega⟩
  simp only [W0,List.map_nil,O0,Option.some.injEq] at hr
  subst hr
  have hno:(46:UInt8)∉t:=by
   intro h
   have h1:=Mu 46 t
   rw [hp] at h1
   have:=List.count_pos_iff.2 h
   simp at h1
   omega
  refine ⟨t,λk0=>?_⟩
  rw [U5]
  rw [XT hno,I5 (by have:=hv.le;omega)]
  rfl
 | x::y::r,t,n,s,s',hv,hp,hn,hr=>by
  obtain ⟨n,rfl⟩:∃ m,n=m+1:=⟨n-1,by omega⟩
  obtain ⟨q1,q2,q3⟩:=hv.super hp
  have hx:(46:UInt8)∉x:=(Mv (s:=t) (x:=x) (by rw [hp];simp)).1
  simp only [W0,List.map_cons,O0] at hr
  have top:∀ (k0:By->σ->Option R),U5 yh LF (n+1) t s k0=ydK (yh [.s (.str (Lib.join (y::r) [46]))] s) λb s1=>cond (not b) (k0 t s1) (U5 yh LF n (Lib.join (y::r) [46]) s1 k0):=λk0=>by
   rw [U5]
   have:Lib.cut t [46]=(x,Lib.join (y::r) [46],true):=by rw [q1];exact Am4 hx
   rw [this,I5 (by have:=hv.le;omega)]
   rfl
  cases hy:yh [.s (.str (Lib.join (y::r) [46]))] s with
  | none=>rw [hy] at hr;cases hr
  | some q=>
   obtain ⟨b,s1⟩:=q
   rw [hy] at hr top
   cases b with
   | false=>
    have:s1=s':=by simpa using hr
    subst this
    exact ⟨t,λk0=>by rw [top];rfl⟩
   | true=>
    simp only at hr
    obtain ⟨t',f⟩:=Vz yh (y::r) (Lib.join (y::r) [46]) n s1 s' q2 q3 (by simp only [List.length_cons] at hn ⊢;omega) hr
    exact ⟨t',λk0=>by rw [top];exact f k0⟩
theorem RJ {σ R:Type} (yh:Yh σ) (t:By) (s s':σ) (h:A2 t.length=true) (hr:O0 yh ((E3 t).map λx=>([.s (.str x)]:List PV)) s=some s') :
  ∃ t',∀ (k0:By->σ->Option R),KU yh LF t s k0=k0 t' s':=by
 have hLF:=K9
 have ht:=U0 h
 unfold E3 at hr
 cases hv:E2 t with
 | false=>
  rw [hv] at hr
  simp only [Bool.false_eq_true,if_false,List.map_nil,O0,Option.some.injEq] at hr
  subst hr
  refine ⟨t,λk0=>?_⟩
  unfold KU
  rw [h,hv]
  rfl
 | true=>
  rw [hv,if_pos rfl] at hr
  have hpl:=Mu 46 t
  have hcl:=Ls 46 t
  obtain ⟨t',f⟩:=Vz (R:=R) yh _ t LF s s' (Cr.1 hv) rfl (by omega) hr
  refine ⟨t',λk0=>?_⟩
  unfold KU
  rw [h,hv]
  exact f _
section
def DV:List PV->Tr
 | [.s (.str s)]=>.ret (.s (.bool false)) []
 | _=>.fail
def Ag9 (args:List PV):Tr:=DV (D7 [[0]] args)
def DU:List PV->Tr
 | [.s (.int .i64 n)]=>.ret (.s (.bool false)) []
 | _=>.fail
def Ag8 (args:List PV):Tr:=DU (D7 [[0]] args)
def NL:List PV->Tr
 | [.s (.str s),.s (.str p)]=>.ret (.s (.int .i64 (R0 s p))) []
 | _=>.fail
def Bc9 (args:List PV):Tr:=NL (D7 [[0],[0]] args)
def NK:List PV->Tr
 | [.s (.int .i64 n),.s (.int .i64 m)]=>.ret (.s (.int .i64 (FX n m))) []
 | _=>.fail
def Bc8 (args:List PV):Tr:=NK (D7 [[0],[0]] args)
def DY:List PV->Tr
 | [.s (.str s),.s (.str p)]=>.need (A2 (List.length s)) (.need (A2 (List.length p)) (.ret (.s (.int .i64 (J2 s p))) []))
 | _=>.fail
def Ob (args:List PV):Tr:=DY (D7 [[0],[0]] args)
def EC:List PV->Tr
 | [.agg [.s (.str h),.s (.bool b),.s (.int .i64 e)]]=>.need (A2 (List.length h)) (.ret (.s (.bool (Hp h e))) [])
 | _=>.fail
def Oc (args:List PV):Tr:=EC (D7 [[0,0,0]] args)
def EJ:List PV->Tr
 | [.s (.int .i64 n),.s (.int .i64 m)]=>.ret (.s (.bool (not (ltI m n)))) []
 | _=>.fail
def EI (args:List PV):Tr:=EJ (D7 [[0],[0]] args)
def DO:List PV->Tr
 | [.agg [.s (.str h),.s (.bool b)]]=>.need (A2 (List.length h)) (.ret (.s (.bool (not (E2 h)))) [])
 | _=>.fail
def Ag7 (args:List PV):Tr:=DO (D7 [[0,0]] args)
def NR:List PV->Tr
 | [.agg [.s (.str h),.s (.bool b)],.s (.str s)]=>.need (A2 (List.length h)) (.need (A2 (List.length s)) (.ret (.s (.int .i64 (J2 h s))) []))
 | _=>.fail
def Bd1 (args:List PV):Tr:=NR (D7 [[0,0],[0]] args)
def OC:List PV->Tr
 | [.agg [.s (.str h),.s (.bool b),.s (.int .i64 e)],.s (.str s)]=>.need (A2 (List.length h)) (.need (A2 (List.length s)) (.ret (.s (.int .i64 (J2 h s))) []))
 | _=>.fail
def Bd3 (args:List PV):Tr:=OC (D7 [[0,0,0],[0]] args)
def DM:List PV->Tr
 | [.s (.sl l_z l_t 2 l),.s (.fn (Fn.func 23) [] [])]=>.need (List.all l E4) (.need (List.all l smE) (.need (A2 (List.length l)) (.ret (.s (.int .i64 (ixE (List.map A6 l)))) [])))
 | _=>.fail
def Ag6 (args:List PV):Tr:=DM (D7 [[2],[0]] args)
def DL:List PV->Tr
 | [.s (.sl l_z l_t 2 l),.s (.fn (Fn.func 23) [] [])]=>.need (List.all l E4) (.need (List.all l smE) (.need (A2 (List.length l)) (.ret (.s (.bool (OG (List.map A6 l)))) [])))
 | _=>.fail
def DK (args:List PV):Tr:=DL (D7 [[2],[0]] args)
def DJ:List PV->Tr
 | [.s (.sl l_z l_t 2 l)]=>.need (A2 (List.length l)) (.need (M0 l_z l) (.ret (.fl 0) [.arr l_z 50 2 l]))
 | _=>.fail
def DI (args:List PV):Tr:=DJ (D7 [[2]] args)
def ER:List PV->Tr
 | [.s (.sl l_z l_t 3 l)]=>.need (A2 (List.length l)) (.need (M0 l_z l) (.ret (.fl 0) [.arr l_z 25 3 l]))
 | _=>.fail
def EQ (args:List PV):Tr:=ER (D7 [[3]] args)
def Ny:SV->List (List SV)->Bool × List (List SV)
 | .fn (Fn.func 27) [] [],l=>(((List.all l E4)&&((List.all l smE)&&(A2 (List.length l)))),(G3 (P4 (List.map A6 l))))
 | _,_=>(false,[])
def DH:List PV->Tr
 | [.s (.sl l_z l_t 2 l),.s (.str q),.s (.fn (Fn.func 70) [] [])]=>.need (List.all l E4) (.need (List.all l smE) (.need (A2 (List.length l)) (.need (A2 (List.length q)) (.ret (.tup [.s (.int .i64 (↑(bsI (List.map Prod.fst (List.map A6 l)) q):Int)),.s (.bool (bsB (List.map Prod.fst (List.map A6 l)) q))]) []))))
 | _=>.fail
def NQ (args:List PV):Tr:=DH (D7 [[2],[0],[0]] args)
def EO:List PV->Tr
 | [.s (.sl l_z l_t 3 l),.s (.str q),.s (.fn (Fn.func 32) [] [])]=>.need (List.all l D1) (.need (List.all l smE) (.need (A2 (List.length l)) (.need (A2 (List.length q)) (.ret (.tup [.s (.int .i64 (↑(bsI (List.map Prod.fst (List.map A4 l)) q):Int)),.s (.bool (bsB (List.map Prod.fst (List.map A4 l)) q))]) []))))
 | _=>.fail
def OA (args:List PV):Tr:=EO (D7 [[3],[0],[0]] args)
def DN:List PV->Tr
 | [.s (.sl l_z l_t 2 l)]=>.need (List.all l E4) (.need (List.all l smE) (.need (A2 (List.length l)) (.need (M0 l_z l) (.split ((Ex (List.map A6 l))==0) (.ret (.tup [.s (.sp [[.sl l_z l_z 2 (G3 (isE (List.map A6 l)))]] 0 0),.s (.int .i64 (0:Int))]) []) (.ret (.tup [.s (.nilp),.s (.int .i64 (↑(Ex (List.map A6 l)):Int))]) [])))))
 | _=>.fail
def NS (args:List PV):Tr:=DN (D7 [[2]] args)
def Uh:List PV->Tr
 | [.s (.sp [[.sl lz lt 2 l]] 0 0),.s (.str q)]=>.need (List.all l E4) (.need (List.all l smE) (.need (A2 (List.length l)) (.need (A2 (List.length q)) (.ret (.tup [.agg [.s (.str (((L3 (List.map A6 l) q)).1).1),.s (.bool (((L3 (List.map A6 l) q)).1).2)],.s (.bool ((L3 (List.map A6 l) q)).2)]) []))))
 | _=>.fail
def VH (args:List PV):Tr:=Uh (D7 [[0],[0]] args)
def Ui:List PV->Tr
 | [.s (.nilp),.s (.str q)]=>.ret (.tup [.agg [.s (.str ([]:List UInt8)),.s (.bool false)],.s (.bool false)]) []
 | _=>.fail
def VI (args:List PV):Tr:=Ui (D7 [[0],[0]] args)
def Ug (args:List PV):Tr:=(orT (VH args) (VI args))
def Uo:List PV->Tr
 | [.s (.int .i64 n)]=>.need ((ltI (0:Int) n)&&(ltI n (1001:Int))) (.ret (.tup [.ptr 1 0 0,.s (.int .i64 (0:Int))]) [.arr true 25 3 List.nil,.box [.fl 0,.s (.int .i64 n)]])
 | _=>.fail
def EE (args:List PV):Tr:=Uo (D7 [[0]] args)
def Bn3:List PV->Tr
 | [.s (.sl t_z t_t 3 t),.s (.int .i64 cp)]=>.need (List.all t D1) (.need (List.all t smE) (.need (A2 (List.length t)) (.need (M0 t_z t) (.need ((ltI (0:Int) cp)&&(ltI cp (1001:Int))) (.split ((U8 cp (List.map A4 t))==0) (.ret (.tup [.s (.sp [[.sl t_z t_z 3 t,.int .i64 cp]] 0 0),.s (.int .i64 (0:Int))]) []) (.ret (.tup [.s (.nilp),.s (.int .i64 (↑(U8 cp (List.map A4 t)):Int))]) []))))))
 | _=>.fail
def Uq:List PV->Tr
 | [.s (.sp [[.sl tz tt 3 t,.int .i64 cp]] 0 0),.s (.str q)]=>.need (List.all t D1) (.need (List.all t smE) (.need (A2 (List.length t)) (.need (A2 (List.length q)) (.ret (.tup [.s (.int .i64 (↑(bsI (List.map Prod.fst (List.map A4 t)) q):Int)),.s (.bool (bsB (List.map Prod.fst (List.map A4 t)) q))]) []))))
 | _=>.fail
def VM (args:List PV):Tr:=Uq (D7 [[0],[0]] args)
def Ur:List PV->Tr
 | [.s (.nilp),.s (.str q)]=>.ret (.tup [.s (.int .i64 (0:Int)),.s (.bool false)]) []
 | _=>.fail
def VO (args:List PV):Tr:=Ur (D7 [[0],[0]] args)
def Up (args:List PV):Tr:=(orT (VM args) (VO args))
def Ut:List PV->Tr
 | [.s (.sp [[.sl tz tt 3 t,.int .i64 cp]] 0 0),.s (.str q)]=>.need (List.all t D1) (.need (List.all t smE) (.need (A2 (List.length t)) (.need (A2 (List.length q)) (.ret (.tup [.agg [.s (.str (((E0 (List.map A4 t) q)).1).1),.s (.bool ((((E0 (List.map A4 t) q)).1).2).1),.s (.int .i64 ((((E0 (List.map A4 t) q)).1).2).2)],.s (.bool ((E0 (List.map A4 t) q)).2)]) []))))
 | _=>.fail
def VQ (args:List PV):Tr:=Ut (D7 [[0],[0]] args)
def Uu:List PV->Tr
 | [.s (.nilp),.s (.str q)]=>.ret (.tup [.agg [.s (.str ([]:List UInt8)),.s (.bool false),.s (.int .i64 (0:Int))],.s (.bool false)]) []
 | _=>.fail
def VR (args:List PV):Tr:=Uu (D7 [[0],[0]] args)
def Jy (args:List PV):Tr:=(orT (VQ args) (VR args))
def CP:List PV->Tr
 | [.s (.int .i64 now),.s (.sp [[.sl tz tt 3 t,.int .i64 cp]] 0 0),.s (.sp [[.sl lz lt 2 l]] 0 0),.s (.str u),.s (.bool ex)]=>.need (List.all t D1) (.need (List.all t smE) (.need (A2 (List.length t)) (.need (List.all l E4) (.need (List.all l smE) (.need (A2 (List.length l)) (.need (A2 (List.length u)) (.ret (.tup [.agg [.s (.int .i64 (((atV now (List.map A4 t) (List.map A6 l) u ex)).1).1),.s (.str ((((atV now (List.map A4 t) (List.map A6 l) u ex)).1).2).1),.s (.bool ((((atV now (List.map A4 t) (List.map A6 l) u ex)).1).2).2)],.s (.bool ((atV now (List.map A4 t) (List.map A6 l) u ex)).2)]) [])))))))
 | _=>.fail
def Af6 (args:List PV):Tr:=CP (D7 [[0],[0],[0],[0],[0]] args)
def CQ:List PV->Tr
 | [.s (.int .i64 now),.s (.nilp),.s (.sp [[.sl lz lt 2 l]] 0 0),.s (.str u),.s (.bool ex)]=>.need (List.all l E4) (.need (List.all l smE) (.need (A2 (List.length l)) (.need (A2 (List.length u)) (.ret (.tup [.agg [.s (.int .i64 (((atV now List.nil (List.map A6 l) u ex)).1).1),.s (.str ((((atV now List.nil (List.map A6 l) u ex)).1).2).1),.s (.bool ((((atV now List.nil (List.map A6 l) u ex)).1).2).2)],.s (.bool ((atV now List.nil (List.map A6 l) u ex)).2)]) []))))
 | _=>.fail
def Af7 (args:List PV):Tr:=CQ (D7 [[0],[0],[0],[0],[0]] args)
def CS:List PV->Tr
 | [.s (.int .i64 now),.s (.sp [[.sl tz tt 3 t,.int .i64 cp]] 0 0),.s (.nilp),.s (.str u),.s (.bool ex)]=>.need (List.all t D1) (.need (List.all t smE) (.need (A2 (List.length t)) (.need (A2 (List.length u)) (.ret (.tup [.agg [.s (.int .i64 (((atV now (List.map A4 t) List.nil u ex)).1).1),.s (.str ((((atV now (List.map A4 t) List.nil u ex)).1).2).1),.s (.bool ((((atV now (List.map A4 t) List.nil u ex)).1).2).2)],.s (.bool ((atV now (List.map A4 t) List.nil u ex)).2)]) []))))
 | _=>.fail
def Af8 (args:List PV):Tr:=CS (D7 [[0],[0],[0],[0],[0]] args)
def CT:List PV->Tr
 | [.s (.int .i64 now),.s (.nilp),.s (.nilp),.s (.str u),.s (.bool ex)]=>.need (A2 (List.length u)) (.ret (.tup [.agg [.s (.int .i64 (((atV now List.nil List.nil u ex)).1).1),.s (.str ((((atV now List.nil List.nil u ex)).1).2).1),.s (.bool ((((atV now List.nil List.nil u ex)).1).2).2)],.s (.bool ((atV now List.nil List.nil u ex)).2)]) [])
 | _=>.fail
def Af9 (args:List PV):Tr:=CT (D7 [[0],[0],[0],[0],[0]] args)
def La (args:List PV):Tr:=(orT (Af6 args) (orT (Af7 args) (orT (Af8 args) (Af9 args))))
def CU:List PV->Tr
 | [.s (.int .i64 now),.s (.sp [[.sl tz tt 3 t,.int .i64 cp]] 0 0),.s (.sp [[.sl lz lt 2 l]] 0 0),.agg [.s (.int .i64 kd),.s (.str nm),.s (.int .u32 v4),.s (.int .u16 a0),.s (.int .u16 a1),.s (.int .u16 a2),.s (.int .u16 a3),.s (.int .u16 a4),.s (.int .u16 a5),.s (.int .u16 a6),.s (.int .u16 a7)]]=>.need (List.all t D1) (.need (List.all t smE) (.need (A2 (List.length t)) (.need (List.all l E4) (.need (List.all l smE) (.need (A2 (List.length l)) (.need (A2 (List.length nm)) (.need (ltN v4 4294967296) (.need (ok8 a0 a1 a2 a3 a4 a5 a6 a7) (.ret (.agg [.s (.int .i64 ((D2 now (List.map A4 t) (List.map A6 l) kd (mkH kd nm v4 (n8 a0 a1 a2 a3 a4 a5 a6 a7)))).1),.s (.str (((D2 now (List.map A4 t) (List.map A6 l) kd (mkH kd nm v4 (n8 a0 a1 a2 a3 a4 a5 a6 a7)))).2).1),.s (.bool (((D2 now (List.map A4 t) (List.map A6 l) kd (mkH kd nm v4 (n8 a0 a1 a2 a3 a4 a5 a6 a7)))).2).2)]) [])))))))))
 | _=>.fail
def Ag0 (args:List PV):Tr:=CU (D7 [[0],[0],[0],[0,0,0,0,0,0,0,0,0,0,0]] args)
def CV:List PV->Tr
 | [.s (.int .i64 now),.s (.nilp),.s (.sp [[.sl lz lt 2 l]] 0 0),.agg [.s (.int .i64 kd),.s (.str nm),.s (.int .u32 v4),.s (.int .u16 a0),.s (.int .u16 a1),.s (.int .u16 a2),.s (.int .u16 a3),.s (.int .u16 a4),.s (.int .u16 a5),.s (.int .u16 a6),.s (.int .u16 a7)]]=>.need (List.all l E4) (.need (List.all l smE) (.need (A2 (List.length l)) (.need (A2 (List.length nm)) (.need (ltN v4 4294967296) (.need (ok8 a0 a1 a2 a3 a4 a5 a6 a7) (.ret (.agg [.s (.int .i64 ((D2 now List.nil (List.map A6 l) kd (mkH kd nm v4 (n8 a0 a1 a2 a3 a4 a5 a6 a7)))).1),.s (.str (((D2 now List.nil (List.map A6 l) kd (mkH kd nm v4 (n8 a0 a1 a2 a3 a4 a5 a6 a7)))).2).1),.s (.bool (((D2 now List.nil (List.map A6 l) kd (mkH kd nm v4 (n8 a0 a1 a2 a3 a4 a5 a6 a7)))).2).2)]) []))))))
 | _=>.fail
def Ag1 (args:List PV):Tr:=CV (D7 [[0],[0],[0],[0,0,0,0,0,0,0,0,0,0,0]] args)
def CW:List PV->Tr
 | [.s (.int .i64 now),.s (.sp [[.sl tz tt 3 t,.int .i64 cp]] 0 0),.s (.nilp),.agg [.s (.int .i64 kd),.s (.str nm),.s (.int .u32 v4),.s (.int .u16 a0),.s (.int .u16 a1),.s (.int .u16 a2),.s (.int .u16 a3),.s (.int .u16 a4),.s (.int .u16 a5),.s (.int .u16 a6),.s (.int .u16 a7)]]=>.need (List.all t D1) (.need (List.all t smE) (.need (A2 (List.length t)) (.need (A2 (List.length nm)) (.need (ltN v4 4294967296) (.need (ok8 a0 a1 a2 a3 a4 a5 a6 a7) (.ret (.agg [.s (.int .i64 ((D2 now (List.map A4 t) List.nil kd (mkH kd nm v4 (n8 a0 a1 a2 a3 a4 a5 a6 a7)))).1),.s (.str (((D2 now (List.map A4 t) List.nil kd (mkH kd nm v4 (n8 a0 a1 a2 a3 a4 a5 a6 a7)))).2).1),.s (.bool (((D2 now (List.map A4 t) List.nil kd (mkH kd nm v4 (n8 a0 a1 a2 a3 a4 a5 a6 a7)))).2).2)]) []))))))
 | _=>.fail
def Ag2 (args:List PV):Tr:=CW (D7 [[0],[0],[0],[0,0,0,0,0,0,0,0,0,0,0]] args)
def CX:List PV->Tr
 | [.s (.int .i64 now),.s (.nilp),.s (.nilp),.agg [.s (.int .i64 kd),.s (.str nm),.s (.int .u32 v4),.s (.int .u16 a0),.s (.int .u16 a1),.s (.int .u16 a2),.s (.int .u16 a3),.s (.int .u16 a4),.s (.int .u16 a5),.s (.int .u16 a6),.s (.int .u16 a7)]]=>.need (A2 (List.length nm)) (.need (ltN v4 4294967296) (.need (ok8 a0 a1 a2 a3 a4 a5 a6 a7) (.ret (.agg [.s (.int .i64 ((D2 now List.nil List.nil kd (mkH kd nm v4 (n8 a0 a1 a2 a3 a4 a5 a6 a7)))).1),.s (.str (((D2 now List.nil List.nil kd (mkH kd nm v4 (n8 a0 a1 a2 a3 a4 a5 a6 a7)))).2).1),.s (.bool (((D2 now List.nil List.nil kd (mkH kd nm v4 (n8 a0 a1 a2 a3 a4 a5 a6 a7)))).2).2)]) [])))
 | _=>.fail
def Ag3 (args:List PV):Tr:=CX (D7 [[0],[0],[0],[0,0,0,0,0,0,0,0,0,0,0]] args)
def IU (args:List PV):Tr:=(orT (Ag0 args) (orT (Ag1 args) (orT (Ag2 args) (Ag3 args))))
def Js:List PV->Tr
 | [.s (.int .i64 now),.s (.sp [[.sl tz tt 3 t,.int .i64 cp]] 0 0),.s (.sp [[.sl lz lt 2 l]] 0 0),.agg [.s (.int .i64 kd),.s (.str nm),.s (.int .u32 v4),.s (.int .u16 a0),.s (.int .u16 a1),.s (.int .u16 a2),.s (.int .u16 a3),.s (.int .u16 a4),.s (.int .u16 a5),.s (.int .u16 a6),.s (.int .u16 a7)]]=>.need (List.all t D1) (.need (List.all t smE) (.need (A2 (List.length t)) (.need (List.all l E4) (.need (List.all l smE) (.need (A2 (List.length l)) (.need (A2 (List.length nm)) (.need (ltN v4 4294967296) (.need (ok8 a0 a1 a2 a3 a4 a5 a6 a7) (.ret (.s (.bool (((D2 now (List.map A4 t) (List.map A6 l) kd (mkH kd nm v4 (n8 a0 a1 a2 a3 a4 a5 a6 a7)))).1 != (0:Int)))) [])))))))))
 | _=>.fail
def Zg (args:List PV):Tr:=Js (D7 [[0],[0],[0],[0,0,0,0,0,0,0,0,0,0,0]] args)
def Jt:List PV->Tr
 | [.s (.int .i64 now),.s (.nilp),.s (.sp [[.sl lz lt 2 l]] 0 0),.agg [.s (.int .i64 kd),.s (.str nm),.s (.int .u32 v4),.s (.int .u16 a0),.s (.int .u16 a1),.s (.int .u16 a2),.s (.int .u16 a3),.s (.int .u16 a4),.s (.int .u16 a5),.s (.int .u16 a6),.s (.int .u16 a7)]]=>.need (List.all l E4) (.need (List.all l smE) (.need (A2 (List.length l)) (.need (A2 (List.length nm)) (.need (ltN v4 4294967296) (.need (ok8 a0 a1 a2 a3 a4 a5 a6 a7) (.ret (.s (.bool (((D2 now List.nil (List.map A6 l) kd (mkH kd nm v4 (n8 a0 a1 a2 a3 a4 a5 a6 a7)))).1 != (0:Int)))) []))))))
 | _=>.fail
def Zh (args:List PV):Tr:=Jt (D7 [[0],[0],[0],[0,0,0,0,0,0,0,0,0,0,0]] args)
def Ju:List PV->Tr
 | [.s (.int .i64 now),.s (.sp [[.sl tz tt 3 t,.int .i64 cp]] 0 0),.s (.nilp),.agg [.s (.int .i64 kd),.s (.str nm),.s (.int .u32 v4),.s (.int .u16 a0),.s (.int .u16 a1),.s (.int .u16 a2),.s (.int .u16 a3),.s (.int .u16 a4),.s (.int .u16 a5),.s (.int .u16 a6),.s (.int .u16 a7)]]=>.need (List.all t D1) (.need (List.all t smE) (.need (A2 (List.length t)) (.need (A2 (List.length nm)) (.need (ltN v4 4294967296) (.need (ok8 a0 a1 a2 a3 a4 a5 a6 a7) (.ret (.s (.bool (((D2 now (List.map A4 t) List.nil kd (mkH kd nm v4 (n8 a0 a1 a2 a3 a4 a5 a6 a7)))).1 != (0:Int)))) []))))))
 | _=>.fail
def Zi (args:List PV):Tr:=Ju (D7 [[0],[0],[0],[0,0,0,0,0,0,0,0,0,0,0]] args)
def Jv:List PV->Tr
 | [.s (.int .i64 now),.s (.nilp),.s (.nilp),.agg [.s (.int .i64 kd),.s (.str nm),.s (.int .u32 v4),.s (.int .u16 a0),.s (.int .u16 a1),.s (.int .u16 a2),.s (.int .u16 a3),.s (.int .u16 a4),.s (.int .u16 a5),.s (.int .u16 a6),.s (.int .u16 a7)]]=>.need (A2 (List.length nm)) (.need (ltN v4 4294967296) (.need (ok8 a0 a1 a2 a3 a4 a5 a6 a7) (.ret (.s (.bool (((D2 now List.nil List.nil kd (mkH kd nm v4 (n8 a0 a1 a2 a3 a4 a5 a6 a7)))).1 != (0:Int)))) [])))
 | _=>.fail
def Zj (args:List PV):Tr:=Jv (D7 [[0],[0],[0],[0,0,0,0,0,0,0,0,0,0,0]] args)
def Ub (args:List PV):Tr:=(orT (Zg args) (orT (Zh args) (orT (Zi args) (Zj args))))
def DG:List PV->Tr
 | [.s (.sl t_z t_t 3 t),.s (.int .i64 n)]=>.need (List.all t D1) (.need (ltI n (1001:Int)) (.ret (.s (.bool (Hr n t))) []))
 | _=>.fail
def NP (args:List PV):Tr:=DG (D7 [[3],[0]] args)
def Jr:List PV->Tr
 | []=>.ret (.s (.bool true)) []
 | _=>.fail
def Nu (args:List PV):Tr:=Jr (D7 [] args)
end
end
section
open Go Go.Op
theorem GU:∀ (prev:Option By) (T:List I9),GS prev T=0->(∀ p∈T,Hp p.1 p.2.2=true)/\asc ((match prev with | none=>[] | some q=>[q])++T.map Prod.fst)=true
 | none,[],_=>⟨λp hp=>(by cases hp),rfl⟩
 | some q,[],_=>⟨λp hp=>(by cases hp),rfl⟩
 | prev,p::r,h=>by
  unfold GS at h
  cases hv:Hp p.1 p.2.2 with
  | false=>rw [hv] at h;simp at h
  | true=>
   rw [hv,if_pos rfl] at h
   cases prev with
   | none=>
    obtain ⟨a,b⟩:=GU (some p.1) r h
    refine ⟨λx hx=>?_,b⟩
    rcases List.mem_cons.1 hx with rfl | hx
    ·exact hv
    ·exact a x hx
   | some q=>
    dsimp only at h
    cases hn:J5 q p.1 with
    | false=>rw [hn] at h;simp at h
    | true=>
     rw [hn,if_pos rfl] at h
     obtain ⟨a,b⟩:=GU (some p.1) r h
     refine ⟨λx hx=>?_,?_⟩
     ·rcases List.mem_cons.1 hx with rfl | hx
      ·exact hv
      ·exact a x hx
     ·show (J5 q p.1&&asc (p.1::r.map Prod.fst))=true
      rw [hn,Bool.true_and]
      exact b
theorem A42 {cp:Int} {T:List I9} (h:U8 cp T=0):(∀ p∈T,Hp p.1 p.2.2=true)/\asc (T.map Prod.fst)=true:=by
 unfold U8 at h
 cases c:ltI cp (T.length:Nat) with
 | true=>rw [c] at h;cases h
 | false=>
  rw [c] at h
  exact GU none T h
theorem UX {nm:By} {v4:Int} {a:List Nat} (h:Q9 (mkH 1 nm v4 a)=true):E2 nm=true:=by
 unfold Q9 mkH at h
 have h:(E2 nm=true/\v4<=0)/\a=z8:=by simpa [ltN] using h
 exact h.1.1
theorem YI {now:Int} {T:List I9} {L:List Ent} {s u:By} (hu:E9 u s=true) (hp:(Ct now T s u || Pq L s u)=true):(Z8 now T L s).1≠0:=by
 have hs:E2 s=true:=Cr.2 (O6.1 hu).2.1
 rw [KI]
 rcases AK hs (λu=>Ct now T s u || Pq L s u) with ⟨v,h1,_⟩ | ⟨h1,h2⟩
 ·rw [h1]
  show (if Ct now T s v then ((1,v,v==s):Yk) else (2,v,v==s)).1≠0
  split<;>simp
 ·rw [h2 u hu] at hp;cases hp
theorem QZ (now:Int) (T:List I9) (L:List Ent) {s:By} (hs:E2 s=true):Z8 now T L s=noC\/∃ u,E9 u s=true/\(Ct now T s u || Pq L s u)=true/\(Z8 now T L s).1≠0/\(Z8 now T L s).2.1=u/\(Z8 now T L s).2.2=(u==s):=by
 rw [KI]
 rcases AK hs (λu=>Ct now T s u || Pq L s u) with ⟨v,h1,h2,h3,_⟩ | ⟨h1,_⟩
 ·rw [h1]
  right
  refine ⟨v,h2,h3,?_⟩
  show (if Ct now T s v then ((1,v,v==s):Yk) else (2,v,v==s)).1≠0/\(if Ct now T s v then ((1,v,v==s):Yk) else (2,v,v==s)).2.1=v/\(if Ct now T s v then ((1,v,v==s):Yk) else (2,v,v==s)).2.2=(v==s)
  split<;>simp
 ·rw [h1];exact .inl rfl
def GL (l:LL) (i:Nat) (r:List SV):LL:=l.take i++r::l.drop i
def Ax (cp:Int) (T:List I9) (h:By) (b:Bool) (e:Int):List I9:=
 cond (Hp h e) (cond (bsB (T.map Prod.fst) h) (T.set (bsI (T.map Prod.fst) h) (h,b,e)) (cond ((T.length:Int)==cp) T (T.take (bsI (T.map Prod.fst) h)++(h,b,e)::T.drop (bsI (T.map Prod.fst) h)))) T
def Aa8 (cp:Int) (T:List I9) (h:By) (b:Bool) (e:Int):Nat:=cond (Hp h e) (cond (bsB (T.map Prod.fst) h) 0 (cond ((T.length:Int)==cp) 11 0)) 1
theorem Ai1 {h:List By}:asc h=true↔h.Pairwise λa b=>J5 a b=true:=by
 constructor
 ·intro H
  rw [List.pairwise_iff_getElem]
  intro i j hi hj hij
  have:=Oi H hij hj
  simpa [List.getD_eq_getElem?_getD,hi,hj] using this
 ·induction h with
  | nil=>intro _;rfl
  | cons a r ih=>
   intro H
   rw [List.pairwise_cons] at H
   cases r with
   | nil=>rfl
   | cons b r=>
    show (J5 a b&&asc (b::r))=true
    rw [ih H.2,H.1 b (by simp)]
    rfl
theorem VW {h:List By} {s:By} (hb:bsB h s=true):bsI h s<h.length/\h[bsI h s]? = some s:=by
 unfold bsB at hb
 rw [Bool.and_eq_true,Nat.blt_eq,beq_iff_eq] at hb
 refine ⟨hb.1,?_⟩
 have:=hb.2
 rw [List.getD_eq_getElem?_getD,List.getElem?_eq_getElem hb.1] at this
 rw [List.getElem?_eq_getElem hb.1]
 exact congrArg some this
theorem A74 {cp:Int} {T:List I9} {h:By} {b:Bool} {e:Int} (H:asc (T.map Prod.fst)=true):asc ((Ax cp T h b e).map Prod.fst)=true:=by
 unfold Ax
 cases Hp h e with
 | false=>exact H
 | true=>
  cases hb:bsB (T.map Prod.fst) h with
  | true=>
   obtain ⟨h1,h2⟩:=VW hb
   show asc ((T.set (bsI (T.map Prod.fst) h) (h,b,e)).map Prod.fst)=true
   have:(T.set (bsI (T.map Prod.fst) h) (h,b,e)).map Prod.fst=T.map Prod.fst:=by
    rw [List.map_set]
    apply List.ext_getElem?
    intro j
    rw [List.getElem?_set]
    split
    ·rename_i g
     subst g
     rw [h2]
    ·rfl
   rw [this]
   exact H
  | false=>
   cases (T.length:Int)==cp with
   | true=>exact H
   | false=>
    show asc ((T.take (bsI (T.map Prod.fst) h)++(h,b,e)::T.drop (bsI (T.map Prod.fst) h)).map Prod.fst)=true
    obtain ⟨b1,b2,b3⟩:=Bd5 H h
    rw [Aj4 H] at hb
    generalize bsI (T.map Prod.fst) h=i at *
    rw [List.map_append,List.map_cons,List.map_take,List.map_drop]
    have hp:=Ai1.1 H
    generalize T.map Prod.fst=N at *
    have hmem:∀ t (ht:t<N.length),N.getD t []=N[t]:=λt ht=>by rw [List.getD_eq_getElem?_getD,List.getElem?_eq_getElem ht];rfl
    have hlt:∀ x∈N.take i,J5 x h=true:=λx hx=>by
     obtain ⟨t,ht,rfl⟩:=List.getElem_of_mem hx
     rw [List.length_take] at ht
     rw [List.getElem_take,<-hmem t (by omega)]
     exact b1 t (by omega)
    have hgt:∀ x∈N.drop i,J5 h x=true:=λx hx=>by
     obtain ⟨t,ht,rfl⟩:=List.getElem_of_mem hx
     rw [List.length_drop] at ht
     have q:=b2 (i+t) (by omega) (by omega)
     rw [hmem _ (by omega)] at q
     rw [List.getElem_drop]
     cases r:J5 h N[i+t] with
     | true=>rfl
     | false=>
      have e:=Hl q r
      have:N.contains h=true:=by rw [List.contains_iff_mem,<-e];exact List.getElem_mem _
      rw [this] at hb
      cases hb
    refine Ai1.2 (List.pairwise_append.2 ⟨hp.sublist (List.take_sublist _ _),List.pairwise_cons.2 ⟨λx hx=>hgt x hx,hp.sublist (List.drop_sublist _ _)⟩,λx hx y hy=>?_⟩)
    rcases List.mem_cons.1 hy with rfl | hy
    ·exact hlt x hx
    ·exact Y1 (hlt x hx) (hgt y hy)
theorem A76 {cp:Int} {T:List I9} {h:By} {b:Bool} {e:Int} (H:asc (T.map Prod.fst)=true) (hm:(E0 T h).2=true->((E0 T h).1.2.1=true->b=true)/\(E0 T h).1.2.2<=e) {x:I9} (hx:x∈T) :
  ∃ y∈Ax cp T h b e,y.1=x.1/\(x.2.1=true->y.2.1=true)/\x.2.2<=y.2.2:=by
 unfold Ax
 cases Hp h e with
 | false=>exact ⟨x,hx,rfl,id,Int.le_refl _⟩
 | true=>
  cases hb:bsB (T.map Prod.fst) h with
  | true=>
   obtain ⟨h1,h2⟩:=VW hb
   show ∃ y∈T.set (bsI (T.map Prod.fst) h) (h,b,e),_
   rw [List.length_map] at h1
   rw [List.getElem?_map,List.getElem?_eq_getElem h1] at h2
   have h2:(T[bsI (T.map Prod.fst) h]).1=h:=Option.some.inj h2
   have hg:E0 T h=(T[bsI (T.map Prod.fst) h],true):=by
    show Sm Prod.fst noP T h=_
    unfold Sm
    rw [if_pos hb,List.getD_eq_getElem?_getD,List.getElem?_eq_getElem h1]
    rfl
   rw [hg] at hm
   obtain ⟨t,ht,rfl⟩:=List.getElem_of_mem hx
   by_cases hti:bsI (T.map Prod.fst) h=t
   ·subst hti
    exact ⟨(h,b,e),List.mem_set h1 _,h2.symm,(hm rfl).1,(hm rfl).2⟩
   ·refine ⟨T[t],?_,rfl,id,Int.le_refl _⟩
    have:(T.set (bsI (T.map Prod.fst) h) (h,b,e))[t]? = some T[t]:=by rw [List.getElem?_set_ne hti,List.getElem?_eq_getElem ht]
    exact List.mem_of_getElem? this
  | false=>
   cases (T.length:Int)==cp with
   | true=>exact ⟨x,hx,rfl,id,Int.le_refl _⟩
   | false=>
    refine ⟨x,?_,rfl,id,Int.le_refl _⟩
    show x∈T.take (bsI (T.map Prod.fst) h)++(h,b,e)::T.drop (bsI (T.map Prod.fst) h)
    rw [<-List.take_append_drop (bsI (T.map Prod.fst) h) T,List.mem_append] at hx
    rcases hx with hx | hx
    ·exact List.mem_append_left _ hx
    ·exact List.mem_append_right _ (List.mem_cons_of_mem _ hx)
theorem Ik {now:Int} {T:List I9} (H:asc (T.map Prod.fst)=true) (kd:Int) (nm:By) (v4:Int) (a:List Nat):(D2 now T [] kd (mkH kd nm v4 a)).1≠0↔kd=1/\Q9 (mkH kd nm v4 a)=true/\∃ x∈T,FY now nm x=true:=by
 unfold D2
 by_cases hk:kd=1
 ·subst hk
  rw [show ((1:Int)==1)=true from rfl,cond_true]
  cases hh:Q9 (mkH 1 nm v4 a) with
  | false=>simp [noC]
  | true=>
   have hs:=UX hh
   show (Z8 now T [] nm).1≠0↔_
   have hE:∀ u,Pq [] nm u=false:=λu=>by simp [Pq,Sm,bsB]
   constructor
   ·intro q
    rcases QZ now T [] hs with e | ⟨u,h1,h2,_⟩
    ·rw [e] at q
     exact absurd rfl q
    ·rw [hE,Bool.or_false] at h2
     obtain ⟨x,hx,_,hc⟩:=(KT H h1).1 h2
     exact ⟨rfl,rfl,x,hx,hc⟩
   ·rintro ⟨_,_,x,hx,hc⟩
    have hu:=Am2 hc
    exact YI hu (by rw [(KT H hu).2 ⟨x,hx,rfl,hc⟩];rfl)
 ·rw [show (kd==1)=false by simpa using hk]
  exact ⟨λq=>absurd rfl q,λq=>absurd q.1 hk⟩
theorem JX {now now':Int} {s:By} {x y:I9} (ht:now'<=now) (h1:y.1=x.1) (h2:x.2.1=true->y.2.1=true) (h3:x.2.2<=y.2.2) (hc:FY now s x=true):FY now' s y=true:=by
 unfold FY LN at *
 simp only [Bool.and_eq_true,Bool.or_eq_true,Q7,decide_eq_true_eq] at *
 rw [h1]
 exact ⟨⟨by omega,hc.1.2⟩,hc.2.imp id λq=>⟨h2 q.1,q.2⟩⟩
theorem RN {T:List I9} (H:asc (T.map Prod.fst)=true) {a b:Int} (hab:a<=b) {kd:Int} {nm:By} {v4:Int} {q:List Nat} (h:(D2 b T [] kd (mkH kd nm v4 q)).1≠0):(D2 a T [] kd (mkH kd nm v4 q)).1≠0:=by
 obtain ⟨h1,h2,x,hx,hc⟩:=(Ik H kd nm v4 q).1 h
 exact (Ik H kd nm v4 q).2 ⟨h1,h2,x,hx,JX hab rfl id (Int.le_refl _) hc⟩
theorem YR {T:List I9} (H:asc (T.map Prod.fst)=true) {cp:Int} {h:By} {b:Bool} {e:Int} (hm:(E0 T h).2=true->((E0 T h).1.2.1=true->b=true)/\(E0 T h).1.2.2<=e) {now kd:Int} {nm:By} {v4:Int} {q:List Nat}
  (hk:(D2 now T [] kd (mkH kd nm v4 q)).1≠0):(D2 now (Ax cp T h b e) [] kd (mkH kd nm v4 q)).1≠0:=by
 obtain ⟨h1,h2,x,hx,hc⟩:=(Ik H kd nm v4 q).1 hk
 obtain ⟨y,hy,y1,y2,y3⟩:=A76 (cp:=cp) H hm hx
 exact (Ik (A74 H) kd nm v4 q).2 ⟨h1,h2,y,hy,JX (Int.le_refl _) y1 y2 y3 hc⟩
theorem Bi3 {cp:Int} {T:List I9} {h:By} {b:Bool} {e:Int}:(Ax cp T h b e).length<=T.length+1:=by
 unfold Ax
 cases Hp h e<;>cases bsB (T.map Prod.fst) h<;>cases (T.length:Int)==cp<;>simp<;>omega
theorem A73 {cp:Int} {T:List I9} {h:By} {b:Bool} {e:Int} {P:I9->Prop} (hT:∀ x∈T,P x) (hp:P (h,b,e)):∀ x∈Ax cp T h b e,P x:=by
 intro x hx
 unfold Ax at hx
 revert hx
 cases Hp h e<;>cases bsB (T.map Prod.fst) h<;>cases (T.length:Int)==cp<;>simp only [cond_true,cond_false]<;>intro hx
 all_goals first
  | exact hT x hx
  | exact (List.mem_or_eq_of_mem_set hx).elim (hT x) (λe=>e ▸ hp)
  | exact (List.mem_append.1 hx).elim (λq=>hT x (List.mem_of_mem_take q)) (λq=>(List.mem_cons.1 q).elim (λe=>e ▸ hp) λq=>hT x (List.mem_of_mem_drop q))
end
section
open Go Go.Proofs
set_option maxRecDepth 100000
section
def Jx:List PV->Tr
 | [.s (.sl t_z t_t 3 t),.s (.int .i64 cp)]=>.need (List.all t D1) (.need (List.all t smE) (.need (A2 (List.length t)) (.need (M0 t_z t) (.need ((ltI (0:Int) cp)&&(ltI cp (1001:Int))) (.split ((U8 cp (List.map A4 t))==0) (.ret (.tup [.ptr 0 0 0,.s (.int .i64 (0:Int))]) [.box [.fl 1,.s (.int .i64 cp)],.arr t_z 25 3 t]) (.ret (.tup [.s (.nilp),.s (.int .i64 (↑(U8 cp (List.map A4 t)):Int))]) []))))))
 | _=>.fail
def Oe (args:List PV):Tr:=Jx (D7 [[3],[0]] args)
def Ul:List PV->Tr
 | [.s (.sl t_z t_t 3 t),.s (.sl l_z l_t 2 l)]=>.need (List.all t D1) (.need (List.all t smE) (.need (A2 (List.length t)) (.need (List.all l E4) (.need (List.all l smE) (.need (A2 (List.length l)) (.need (M0 t_z t) (.need (M0 l_z l) (.split ((U8 (1000:Int) (List.map A4 t))==0) (.split ((Ex (List.map A6 l))==0) (.ret (.tup [.ptr 0 0 0,.s (.sp [[.sl l_z l_z 2 (G3 (isE (List.map A6 l)))]] 0 0),.s (.bool true)]) [.box [.fl 1,.s (.int .i64 (1000:Int))],.arr t_z 25 3 t]) (.ret (.tup [.ptr 0 0 0,.s (.nilp),.s (.bool false)]) [.box [.fl 1,.s (.int .i64 (1000:Int))],.arr t_z 25 3 t])) (.split ((Ex (List.map A6 l))==0) (.ret (.tup [.s (.nilp),.s (.sp [[.sl l_z l_z 2 (G3 (isE (List.map A6 l)))]] 0 0),.s (.bool false)]) []) (.ret (.tup [.s (.nilp),.s (.nilp),.s (.bool false)]) []))))))))))
 | _=>.fail
def DR (args:List PV):Tr:=Ul (D7 [[3],[2]] args)
def Sw:List PV->List Blk->Tr
 | [.fl 0,.s (.int .i64 i),.fl 1],[.arr z 25 3 l,.arr false 25 3 [[.str h,.bool b,.int .i64 e]]]=>.need (ltN i (Nat.add (List.length l) 1)) (.need (Nat.ble (List.length l) 100000) (.ret (.fl 0) [.arr z 25 3 (GL l (Int.toNat i) (TU (Bp0 h b e))),.arr false 25 3 [[.str h,.bool b,.int .i64 e]]]))
 | _,_=>.fail
def ES:List PV->Tr
 | [.s (.sp [[.sl tz tt 3 t,.int .i64 cp]] 0 0)]=>.need (A2 (List.length t)) (.ret (.s (.int .i64 (↑(List.length t):Int))) [])
 | _=>.fail
def OD (args:List PV):Tr:=ES (D7 [[0]] args)
def EP:List PV->Tr
 | [.s (.sp [[.sl tz tt 3 t,.int .i64 cp]] 0 0)]=>.need (A2 (List.length t)) (.ret (.s (.int .i64 cp)) [])
 | _=>.fail
def OB (args:List PV):Tr:=EP (D7 [[0]] args)
def ET:List PV->List Blk->Tr
 | [.ptr 0 0 0,.agg [.s (.str u),.s (.bool b),.s (.int .i64 x)]],[.box [.fl 1,.s (.int .i64 cp)],.arr z 25 3 t]=>.need (List.all t D1) (.need (List.all t smE) (.need (A2 (List.length t)) (.need (A2 (List.length u)) (.need (Nat.ble (List.length t) 1000) (.ret (.s (.int .i64 (↑(Aa8 cp (List.map A4 t) u b x):Int))) [.box [.fl 1,.s (.int .i64 cp)],.arr z 25 3 (N1 (Ax cp (List.map A4 t) u b x))])))))
 | _,_=>.fail
end
end
section
open Go Go.Lib Go.Proofs Go.RowKit
theorem Gb {P:Program} (w:World) (dT sT ty elem:TypeId) (k b o dLen dCap:Nat) (a:Addr) (sLen sCap:Nat) (cs:List Value)
  (hu:P.underlying dT=some (.slice elem)) (hs:(P.info? elem).map (·.size)=some k) (hn:cs.length=Nat.min sLen dLen*k)
  (hsrc:∀ j v,cs[j]? = some v->w.cell? (a.add j)=some v) (hc:∀ j,j<cs.length->(w.cell? ⟨b,o+j,none⟩).isSome=true) (hf:∀ j,j<cs.length->w.frozen? ⟨b,o+j,none⟩=false) (h1:∀ v∈cs,v.oneCell'=true) :
  (Builtin.copy_ #[dT,sT] ty #[.slice (some ⟨b,o,none⟩) dLen dCap,.slice (some a) sLen sCap]).run P w = .ok (goInt (Nat.min sLen dLen)) (w.setCells b o cs):=by
 have hl:=run_loadCells_list (P:=P) w a cs hsrc
 have hst:=run_storeCells_cells (P:=P) b o cs 0 w (by simpa using hc) (by simpa using hf) h1
 cases hq:P.info? elem with
 | none=>simp [hq] at hs
 | some i=>
  have hi:i.size=k:=by simpa [hq] using hs
  simp [Builtin.copy_,run_underlying hu,Builtin.lenOf,Builtin.firstCells,sizeOf,typeInfo,hq,hi,<-hn,hl,hst]
theorem Qp:(Tryz.prog.info? 25).map (λi=>(i.zero,i.size,i.bytes))=some (some (.agg #[.string ⟨#[]⟩,.bool false,.int .i64 0]),3,32):=by kernel_rfl
theorem Fc:(Tryz.prog.info? 25).map (·.size)=some 3:=by kernel_rfl
theorem R1:Tryz.prog.underlying 23=some (.slice 25):=by kernel_rfl
theorem Ba0 (w:World):(Go.sizeOf 25).run Tryz.prog w = .ok 3 w:=by
 obtain ⟨i,hi,hz⟩:=Option.map_eq_some_iff.1 Fc
 simp [sizeOf,typeInfo,hi,hz]
set_option maxHeartbeats 4000000 in set_option maxRecDepth 100000 in theorem UT (b off n c i vb voff m vc:Nat) (cs vs:List Value) (w:World) (hi:i<n) (hm:0<m) (hroom:n+m<=c) (hc63:c<=9223372036854775807) (hvb:vb≠b)
  (hcl:cs.length=n*3) (hvl:vs.length=m*3)
  (hcs:∀ j v,cs[j]? = some v->w.cell? ⟨b,off+j,none⟩=some v) (hsp:∀ j,j<(n+m)*3->(w.cell? ⟨b,off+j,none⟩).isSome=true) (hfz:∀ j,j<(n+m)*3->w.frozen? ⟨b,off+j,none⟩=false)
  (hvs:∀ j v,vs[j]? = some v->w.cell? ⟨vb,voff+j,none⟩=some v) (h1c:∀ v∈cs,v.oneCell'=true) (h1v:∀ v∈vs,v.oneCell'=true)
  (tA tB:TypeId) (kA kB:Nat) (hsa:w.shape? vb=some (tA,kA)) (hsb:w.shape? b=some (tB,kB)) (hkB:kB≠0) (hfa:w.frozen? ⟨vb,voff,none⟩=false) (hfe:w.frozen? ⟨vb,kA,none⟩=false) :
  Calls Tryz.prog 18 #[.slice (some ⟨b,off,none⟩) n c,.int .i64 i,.slice (some ⟨vb,voff,none⟩) m vc] w λe w'=>
   e = .returned (.slice (some ⟨b,off,none⟩) (n+m) c)/\w'=(w.drew.setCells b (off+(i+m)*3) (cs.drop (i*3))).setCells b (off+i*3) vs:=by
 have mixed:Tryz.prog.follows .mixedOrders=true:=by kernel_rfl
 have hz1:¬ ((m:Int)=0):=by omega
 have hz2:¬ ((i:Int)=(n:Int)):=by omega
 have hov:∀ lb cb,(callFunc 33 #[.slice (some ⟨vb,voff,none⟩) m vc,.slice (some ⟨b,off+(i+m)*3,none⟩) lb cb]).run Tryz.prog w = .ok (.value (.bool false)) w:=λlb cb=>by
  rw [run_callFunc_extern Tryz.func33 (by kernel_rfl) (by kernel_rfl) (by kernel_rfl) (e:=Extern.SlicesOverlaps.overlaps #[23,23] #[4]) (by kernel_rfl),
   Lib.run_overlaps_apart w 23 4 25 R1 3 Ba0 ⟨vb,voff,none⟩ ⟨b,off+(i+m)*3,none⟩ m vc lb cb hvb tA tB kA kB hsa hsb hkB hfa hfe]
  rfl
 have hdl:(cs.drop (i*3)).length=(n-i)*3:=by rw [List.length_drop,hcl];omega
 have hw1:IntKind.i64.wrap ((i:Int)+(m:Int))=(i:Int)+(m:Int):=by rw [IntKind.wrap_i64];omega
 have hb1:(0:Int)<=(i:Int)+(m:Int):=by omega
 have hin:i<=n:=by omega
 have htn:((i:Int)+(m:Int)).toNat=i+m:=by omega
 have hb2:¬ (c=i+m):=by omega
 have hb3:(i:Int)<=(n:Int)+(m:Int):=by omega
 have hb4:¬ (c=i):=by omega
 have hcp1:∀ ty dc sc,(Builtin.copy_ #[23,23] ty #[.slice (some ⟨b,off+(i+m)*3,none⟩) (n+m-(i+m)) dc,.slice (some ⟨b,off+i*3,none⟩) (n+m-i) sc]).run Tryz.prog w.drew = .ok (goInt (Nat.min (n+m-i) (n+m-(i+m)))) (w.drew.setCells b (off+(i+m)*3) (cs.drop (i*3))):=λty dc sc=>
  Gb w.drew _ _ ty 25 3 b (off+(i+m)*3) (n+m-(i+m)) dc ⟨b,off+i*3,none⟩ (n+m-i) sc (cs.drop (i*3)) R1 Fc (by rw [hdl];simp only [Nat.min_def];split<;>omega)
   (λj v hj=>by rw [Addr.add_lit,Nat.add_assoc];exact hcs (i*3+j) v (by rwa [List.getElem?_drop] at hj))
   (λj hj=>by rw [Nat.add_assoc];exact hsp _ (by omega)) (λj hj=>by rw [Nat.add_assoc];exact hfz _ (by omega)) (λv hv=>h1c v (List.mem_of_mem_drop hv))
 obtain ⟨W1,hW1⟩:∃ W1,W1=w.drew.setCells b (off+(i+m)*3) (cs.drop (i*3)):=⟨_,rfl⟩
 have hsp1:∀ k,k<(n+m)*3->(W1.cell? ⟨b,off+k,none⟩).isSome=true:=λk hk=>by
  rw [hW1]
  exact isSome_setCells b _ _ _ (λj hj=>by rw [Nat.add_assoc];exact hsp _ (by omega)) _ (hsp k hk)
 have hcp2:∀ (W:World),(∀ x,W.cell? x=W1.cell? x)->(∀ x,W.frozen? x=W1.frozen? x)->∀ ty dc,(Builtin.copy_ #[23,23] ty #[.slice (some ⟨b,off+i*3,none⟩) (n+m-i) dc,.slice (some ⟨vb,voff,none⟩) m vc]).run Tryz.prog W = .ok (goInt (Nat.min m (n+m-i))) (W.setCells b (off+i*3) vs):=λW hWc hWf ty dc=>
  Gb W _ _ ty 25 3 b (off+i*3) (n+m-i) dc ⟨vb,voff,none⟩ m vc vs R1 Fc (by rw [hvl];simp only [Nat.min_def];split<;>omega)
   (λj v hj=>by
    rw [Addr.add_lit,hWc,hW1,World.cell?_setCells_out b _ _ _ _ (λh _=>absurd h hvb)]
    exact hvs j v hj)
   (λj hj=>by rw [hWc,Nat.add_assoc];exact hsp1 _ (by omega)) (λj hj=>by rw [hWf,hW1,World.frozen?_setCells,Nat.add_assoc];exact hfz _ (by omega)) h1v
 rw [<-hW1] at hcp1
 go_enter Tryz.func18,Tryz.ntmps18
 go_wp2_with (simp only [hov])
 go_region_law_o (refine step_copy_runI rfl _ _ 23 23 rfl _ _ (by simp [Act.eval,Act.put]) (by simp [Act.eval,Act.put]) (hcp1 _ _ _) ?_)
 go_wp2_with (at_builtin;refine wpList_copy_runI _ rfl _ _ 23 23 rfl _ _ rfl rfl (hcp2 _ (λ_=>rfl) (λ_=>rfl) _ _) ?_)
 go_ret
 first | exact ⟨rfl,rfl⟩ | exact ⟨rfl,by rw [hW1]⟩
set_option maxHeartbeats 4000000 in set_option maxRecDepth 100000 in theorem Ad6 (b off n c i vb voff m vc:Nat) (cs vs:List Value) (w:World) (hi:i<n) (hm:0<m) (hnc:n<=c) (hroom:c<n+m) (hbig:(n+m)*32<=140737488355328)
  (hcl:cs.length=n*3) (hvl:vs.length=m*3)
  (hcs:∀ j v,cs[j]? = some v->w.cell? ⟨b,off+j,none⟩=some v)
  (hvs:∀ j v,vs[j]? = some v->w.cell? ⟨vb,voff+j,none⟩=some v) (h1c:∀ v∈cs,v.oneCell'=true) (h1v:∀ v∈vs,v.oneCell'=true) :
  Calls Tryz.prog 18 #[.slice (some ⟨b,off,none⟩) n c,.int .i64 i,.slice (some ⟨vb,voff,none⟩) m vc] w λe w'=>
   e = .returned (.slice (some ⟨w.heap.size,0,none⟩) (n+m) (grownCap w (n+m) c 25))/\
   w'=(((w.alloc (.cells ((cs.take (i*3)).toArray++Builtin.zeroCells (Value.agg #[.string ⟨#[]⟩,.bool false,.int .i64 0]).cells (n+m-i)++Builtin.zeroCells (Value.agg #[.string ⟨#[]⟩,.bool false,.int .i64 0]).cells (grownCap w (n+m) c 25-(n+m))) 25)).drew.setCells w.heap.size (i*3) vs).drew).setCells w.heap.size ((i+m)*3) (cs.drop (i*3)):=by
 have mixed:Tryz.prog.follows .mixedOrders=true:=by kernel_rfl
 obtain ⟨i0,hi0,hz0,hzs,hzb⟩:=info_parts Qp
 have hz1:¬ ((m:Int)=0):=by omega
 have hz2:¬ ((i:Int)=(n:Int)):=by omega
 have hz3:(c:Int)<(n:Int)+(m:Int):=by omega
 have hbw:b<w.heap.size:=block_lt_of_cell (hcs 0 _ (List.getElem?_eq_getElem (by omega)))
 have hvw:vb<w.heap.size:=block_lt_of_cell (hvs 0 _ (List.getElem?_eq_getElem (by omega)))
 have hkk:(n:Int)+(m:Int)-(i:Int)=((n+m-i:Nat):Int):=by omega
 have hik:i+(n+m-i)=n+m:=by omega
 have hold:(Builtin.firstCells i0.size i (.slice (some ⟨b,off,none⟩) i c)).run Tryz.prog w.drew = .ok (cs.take (i*3)).toArray w.drew:=by
  rw [hzs]
  exact run_firstCells_some w.drew 3 i ⟨b,off,none⟩ i c (cs.take (i*3)) (by rw [List.length_take];omega) (λj v hj=>by
   rw [Addr.add_lit]
   rw [List.getElem?_take] at hj
   split at hj
   ·exact hcs j v hj
   ·cases hj)
 have hrz:∀ ty,(Builtin.append_ #[23,3] ty #[.slice (some ⟨b,off,none⟩) i c,.int .i64 ((n:Int)+(m:Int)-(i:Int))]).run Tryz.prog w =
   .ok (.slice (some ⟨w.heap.size,0,none⟩) (n+m) (grownCap w (n+m) c 25)) (w.drew.alloc (.cells ((cs.take (i*3)).toArray++Builtin.zeroCells (Value.agg #[.string ⟨#[]⟩,.bool false,.int .i64 0]).cells (n+m-i)++Builtin.zeroCells (Value.agg #[.string ⟨#[]⟩,.bool false,.int .i64 0]).cells (grownCap w (n+m) c 25-(n+m))) 25)):=λty=>by
  have h:=Lib.run_append_grow_zeros w 23 3 ty 25 i0 _ .i64 .i64 R1 (by kernel_rfl) hi0 hz0 (some ⟨b,off,none⟩) i c (cs.take (i*3)) hold (n+m-i) (by omega) (by omega) (by omega) (by omega) (by rw [hzb];omega) (by rw [hzb,hik];exact growslice_fits hroom hbig)
  rw [hik] at h
  rw [hkk]
  exact h
 obtain ⟨G,hG⟩:∃ G,G=grownCap w (n+m) c 25:=⟨_,rfl⟩
 obtain ⟨ROW,hROW⟩:∃ ROW:Array Value,ROW=(cs.take (i*3)).toArray++Builtin.zeroCells (Value.agg #[.string ⟨#[]⟩,.bool false,.int .i64 0]).cells (n+m-i)++Builtin.zeroCells (Value.agg #[.string ⟨#[]⟩,.bool false,.int .i64 0]).cells (G-(n+m)):=⟨_,rfl⟩
 rw [<-hG] at hrz ⊢
 rw [<-hROW] at hrz ⊢
 have hRl:(n+m)*3<=ROW.size:=by
  rw [hROW]
  simp only [Array.size_append,List.size_toArray,List.length_take,size_zeroCells,show (Value.agg #[.string ⟨#[]⟩,.bool false,.int .i64 0]).cells.size=3 from rfl]
  omega
 obtain ⟨W1,hW1⟩:∃ W1,W1=w.drew.alloc (.cells ROW 25):=⟨_,rfl⟩
 rw [<-hW1] at hrz
 have hN:∀ j,j<(n+m)*3->(W1.cell? ⟨w.heap.size,j,none⟩).isSome=true:=λj hj=>by
  rw [hW1,World.cell?_alloc_at (w:=w.drew) ROW _ w.heap.size j rfl,Array.getElem?_eq_getElem (by omega)];rfl
 have hNf:∀ j,W1.frozen? ⟨w.heap.size,j,none⟩=false:=λj=>by rw [hW1];exact World.frozen?_alloc_at (w:=w.drew) ROW _ w.heap.size j rfl
 have hOb:∀ j v,w.cell? ⟨b,j,none⟩=some v->W1.cell? ⟨b,j,none⟩=some v:=λj v h=>by rw [hW1,World.cell?_alloc_past (w:=w.drew) _ b j hbw];exact h
 have hOv:∀ j v,w.cell? ⟨vb,j,none⟩=some v->W1.cell? ⟨vb,j,none⟩=some v:=λj v h=>by rw [hW1,World.cell?_alloc_past (w:=w.drew) _ vb j hvw];exact h
 have hcpA:∀ (W:World),(∀ x,W.cell? x=W1.cell? x)->(∀ x,W.frozen? x=W1.frozen? x)->∀ ty dc,(Builtin.copy_ #[23,23] ty #[.slice (some ⟨w.heap.size,i*3,none⟩) (n+m-i) dc,.slice (some ⟨vb,voff,none⟩) m vc]).run Tryz.prog W = .ok (goInt (Nat.min m (n+m-i))) (W.setCells w.heap.size (i*3) vs):=λW hWc hWf ty dc=>
  Gb W _ _ ty 25 3 w.heap.size (i*3) (n+m-i) dc ⟨vb,voff,none⟩ m vc vs R1 Fc (by rw [hvl];simp only [Nat.min_def];split<;>omega)
   (λj v hj=>by rw [Addr.add_lit,hWc];exact hOv _ v (hvs j v hj))
   (λj hj=>by rw [hWc];exact hN _ (by omega)) (λj hj=>by rw [hWf];exact hNf _) h1v
 have hGn:n+m<=G:=by rw [hG];exact grownCap_ge w _ _ _
 have hG63:G<=9223372036854775807:=by
  have:=grownCap_le_maxLen w (n+m) c 25 (by unfold maxLen;omega)
  rw [<-hG] at this
  unfold maxLen at this
  omega
 have hGi:¬ (G=i):=by omega
 have hGim:¬ (G=i+m):=by omega
 have hci:¬ (c=i):=by omega
 have hbN:b≠w.heap.size:=by omega
 have hdl:(cs.drop (i*3)).length=(n-i)*3:=by rw [List.length_drop,hcl];omega
 have hcpB:∀ (W:World),(∀ x,W.cell? x=(W1.setCells w.heap.size (i*3) vs).cell? x)->(∀ x,W.frozen? x=(W1.setCells w.heap.size (i*3) vs).frozen? x)->∀ ty dc sc,(Builtin.copy_ #[23,23] ty #[.slice (some ⟨w.heap.size,(i+m)*3,none⟩) (n+m-(i+m)) dc,.slice (some ⟨b,off+i*3,none⟩) (n-i) sc]).run Tryz.prog W = .ok (goInt (Nat.min (n-i) (n+m-(i+m)))) (W.setCells w.heap.size ((i+m)*3) (cs.drop (i*3))):=λW hWc hWf ty dc sc=>
  Gb W _ _ ty 25 3 w.heap.size ((i+m)*3) (n+m-(i+m)) dc ⟨b,off+i*3,none⟩ (n-i) sc (cs.drop (i*3)) R1 Fc (by rw [hdl];simp only [Nat.min_def];split<;>omega)
   (λj v hj=>by
    rw [Addr.add_lit,hWc,World.cell?_setCells_out _ _ _ _ _ (λh _=>absurd h hbN),Nat.add_assoc]
    exact hOb _ v (hcs (i*3+j) v (by rwa [List.getElem?_drop] at hj)))
   (λj hj=>by rw [hWc];exact isSome_setCells _ _ _ _ (λt ht=>hN _ (by omega)) _ (hN _ (by omega)))
   (λj hj=>by rw [hWf,World.frozen?_setCells];exact hNf _) (λv hv=>h1c v (List.mem_of_mem_drop hv))
 subst hW1
 have hE1:∀ x,((w.alloc (.cells ROW 25)).drew).cell? x=(w.drew.alloc (.cells ROW 25)).cell? x:=λx=>rfl
 have hE2:∀ x,((w.alloc (.cells ROW 25)).drew).frozen? x=(w.drew.alloc (.cells ROW 25)).frozen? x:=λx=>rfl
 have hF1:∀ x,(((w.alloc (.cells ROW 25)).drew.setCells w.heap.size (i*3) vs).drew).cell? x=((w.drew.alloc (.cells ROW 25)).setCells w.heap.size (i*3) vs).cell? x:=λx=>rfl
 have hF2:∀ x,(((w.alloc (.cells ROW 25)).drew.setCells w.heap.size (i*3) vs).drew).frozen? x=((w.drew.alloc (.cells ROW 25)).setCells w.heap.size (i*3) vs).frozen? x:=λx=>rfl
 have hw1:IntKind.i64.wrap ((i:Int)+(m:Int))=(i:Int)+(m:Int):=by rw [IntKind.wrap_i64];omega
 have hb1:(0:Int)<=(i:Int)+(m:Int):=by omega
 have hin:i<=n:=by omega
 have htn:((i:Int)+(m:Int)).toNat=i+m:=by omega
 have hb3:(i:Int)<=(n:Int):=by omega
 clear hkk hik hold hROW hG hRl
 go_enter Tryz.func18,Tryz.ntmps18
 go_wp2_with (first
  | (at_builtin;refine Lib.wpList_append_run _ rfl _ _ _ _ rfl _ _ rfl rfl _ _ (hrz _) ?_)
  | (at_builtin;refine wpList_copy_runI _ rfl _ _ 23 23 rfl _ _ rfl rfl (hcpA _ hE1 hE2 _ _) ?_)
  | (at_builtin;refine wpList_copy_runI _ rfl _ _ 23 23 rfl _ _ rfl rfl (hcpB _ (λ_=>rfl) (λ_=>rfl) _ _ _) ?_))
 go_region_law_o (refine step_copy_runI rfl _ _ 23 23 rfl (.slice (some ⟨w.heap.size,(i+m)*3,none⟩) (n+m-(i+m)) (G-(i+m))) (.slice (some ⟨b,off+i*3,none⟩) (n-i) (c-i)) (by simp [Act.eval,Act.put]) (by simp [Act.eval,Act.put]) (hcpB _ hF1 hF2 3 (G-(i+m)) (c-i)) ?_)
 go_wp2
 go_ret
 exact ⟨rfl,rfl⟩
set_option maxHeartbeats 4000000 in set_option maxRecDepth 100000 in theorem Ze (b off n c vb voff m vc:Nat) (vs:List Value) (w:World) (hm:0<m) (hroom:n+m<=c) (hc63:c<=9223372036854775807)
  (hvl:vs.length=m*3) (hsp:∀ j,j<m*3->(w.cell? ⟨b,off+n*3+j,none⟩).isSome=true) (hfz:∀ j,j<m*3->w.frozen? ⟨b,off+n*3+j,none⟩=false)
  (hvs:∀ j v,vs[j]? = some v->w.cell? ⟨vb,voff+j,none⟩=some v) (h1v:∀ v∈vs,v.oneCell'=true) :
  Calls Tryz.prog 18 #[.slice (some ⟨b,off,none⟩) n c,.int .i64 n,.slice (some ⟨vb,voff,none⟩) m vc] w λe w'=>
   e = .returned (.slice (some ⟨b,off,none⟩) (n+m) c)/\w'=w.setCells b (off+n*3) vs:=by
 have mixed:Tryz.prog.follows .mixedOrders=true:=by kernel_rfl
 obtain ⟨i0,hi0,hz0,hzs,hzb⟩:=info_parts Qp
 have hz1:¬ ((m:Int)=0):=by omega
 have hsrc:Src Tryz.prog i0.size 23 (.slice (some ⟨vb,voff,none⟩) m vc) m vs w:=by
  rw [hzs]
  exact Src.ofSlice w R1 ⟨vb,voff,none⟩ m vc vs (by omega) (λj u hj=>by rw [Addr.add_lit];exact hvs j u hj) h1v
 have hsp':∀ j,j<vs.length->(w.cell? ⟨b,off+n*i0.size+j,none⟩).isSome=true:=by rw [hvl,hzs];exact hsp
 have hfz':∀ j,j<vs.length->w.frozen? ⟨b,off+n*i0.size+j,none⟩=false:=by rw [hvl,hzs];exact hfz
 go_enter Tryz.func18,Tryz.ntmps18
 go_wp2_with (at_builtin;refine wpList_append_room_src _ rfl _ _ 23 23 rfl 25 i0 R1 hi0 b off n c rfl _ rfl m vs hsrc hroom hsp' hfz' ?_)
 go_ret
 first | exact ⟨rfl,rfl⟩ | exact ⟨rfl,by rw [hzs]⟩
set_option maxHeartbeats 4000000 in set_option maxRecDepth 100000 in theorem Jm (base:Option Addr) (n c vb voff m vc:Nat) (cs vs:List Value) (w:World) (hm:0<m) (hnc:n<=c) (hroom:c<n+m) (hbig:(n+m)*32<=140737488355328)
  (hcl:cs.length=n*3) (hvl:vs.length=m*3) (hnil:base=none->n=0)
  (hcs:∀ a,base=some a->∀ j v,cs[j]? = some v->w.cell? (a.add j)=some v)
  (hvs:∀ j v,vs[j]? = some v->w.cell? ⟨vb,voff+j,none⟩=some v) (h1v:∀ v∈vs,v.oneCell'=true) :
  Calls Tryz.prog 18 #[.slice base n c,.int .i64 n,.slice (some ⟨vb,voff,none⟩) m vc] w λe w'=>
   e = .returned (.slice (some ⟨w.heap.size,0,none⟩) (n+m) (grownCap w (n+m) c 25))/\
   w'=w.drew.alloc (.cells ((cs++vs).toArray++Builtin.zeroCells (Value.agg #[.string ⟨#[]⟩,.bool false,.int .i64 0]).cells (grownCap w (n+m) c 25-(n+m))) 25):=by
 have mixed:Tryz.prog.follows .mixedOrders=true:=by kernel_rfl
 obtain ⟨i0,hi0,hz0,hzs,hzb⟩:=info_parts Qp
 have hz1:¬ ((m:Int)=0):=by omega
 have hsrc:Src Tryz.prog i0.size 23 (.slice (some ⟨vb,voff,none⟩) m vc) m vs w:=by
  rw [hzs]
  exact Src.ofSlice w R1 ⟨vb,voff,none⟩ m vc vs (by omega) (λj u hj=>by rw [Addr.add_lit];exact hvs j u hj) h1v
 have hold:(Builtin.firstCells i0.size n (.slice base n c)).run Tryz.prog w.drew = .ok cs.toArray w.drew:=by
  rw [hzs]
  cases base with
  | none=>
   have h0:=hnil rfl
   subst h0
   rw [List.length_eq_zero_iff.1 (by omega:cs.length=0)]
   exact run_firstCells_none w.drew 3 0 0 c
  | some a=>exact run_firstCells_some w.drew 3 n a n c cs (by omega) (λj v hj=>hcs a rfl j v hj)
 have hrun:∀ ty,(Builtin.append_ #[23,23] ty #[.slice base n c,.slice (some ⟨vb,voff,none⟩) m vc]).run Tryz.prog w=_:=λty=>
  run_append_grow_src w 23 23 ty 25 i0 _ R1 hi0 hz0 base n c cs hold _ m vs hsrc hroom (by omega) (by rw [hzb];exact growslice_fits hroom hbig)
 go_enter Tryz.func18,Tryz.ntmps18
 cases base with
 | none=>
  have h0:=hnil rfl
  subst h0
  go_wp2_with (at_builtin;refine Lib.wpList_append_run _ rfl _ _ _ _ rfl _ _ rfl rfl _ _ (hrun _) ?_)
  go_ret
  exact ⟨rfl,rfl⟩
 | some a=>
  obtain ⟨ab,ao,asp⟩:=a
  go_wp2_with (at_builtin;refine Lib.wpList_append_run _ rfl _ _ _ _ rfl _ _ rfl rfl _ _ (hrun _) ?_)
  all_goals (go_ret;exact ⟨rfl,rfl⟩)
set_option maxRecDepth 100000
theorem HZ {row:List Value} {cs R:List Value} {a n:Nat} (h1:cs.length=n*3) (hR:R.length=3) (ha:a<=n*3) (hl:(n+1)*3<=row.length) (he:∀ q,q<a->row[q]? = cs[q]?) (q:Nat) (hq:q<(cs.take a++(R++cs.drop a)).length) :
  (D3 (D3 row a R) (a+3) (cs.drop a))[q]? = (cs.take a++(R++cs.drop a))[q]?/\(D3 (D3 row (a+3) (cs.drop a)) a R)[q]? = (cs.take a++(R++cs.drop a))[q]?:=by
 have ht:(cs.take a).length=a:=by rw [List.length_take];omega
 have hd:(cs.drop a).length=n*3-a:=by rw [List.length_drop];omega
 rw [List.length_append,List.length_append,ht,hd,hR] at hq
 rw [E7 _ _ _ (by rw [B4,hd];omega),E7 _ _ _ (by rw [hR];omega),E7 _ _ _ (by rw [B4,hR];omega),E7 _ _ _ (by rw [hd];omega)]
 by_cases g1:q<a
 ·rw [L7,L7,L7,L7,List.getElem?_append_left (by omega),List.getElem?_take_of_lt g1,he q g1]
  exact ⟨rfl,rfl⟩
 ·by_cases g2:q<a+3
  ·rw [L7,if_pos (by omega),if_pos (by omega),List.getElem?_append_right (by omega),ht,List.getElem?_append_left (by omega)]
   exact ⟨rfl,rfl⟩
  ·rw [if_pos (by omega),L7,if_pos (by omega),List.getElem?_append_right (by omega),ht,List.getElem?_append_right (by omega),hR,show q-a-3=q-(a+3) by omega]
   exact ⟨rfl,rfl⟩
def Sr (w:World) (g:Option Nat) (n:Nat) (T:List Value) (e:Ending) (w':World):Prop:=
 ∃ g' cap row,e = .returned (.slice (some ⟨g',0,none⟩) (n+1) cap)/\(g=some g'\/g'=w.heap.size)/\w'.heap[g']? = some (.cells row 25 (0,0))/\row.size=cap*3/\n+1<=cap/\cap<=maxLen/\
  (∀ k,k<w.heap.size->g≠some k->w'.heap[k]? = w.heap[k]?)/\w.heap.size<=w'.heap.size/\g'<w'.heap.size/\w'.os=w.os/\w'.tape=w.tape/\w'.output=w.output/\∀ q,q<T.length->row[q]? = T[q]?
theorem AY {w:World} {cs R:List Value} {n:Nat} {g:Option Nat} {c:Nat} (hn:n+1<=68719476736) (hcl:cs.length=n*3) (hvl:R.length=3) :
  Sr w g n (cs++R) (.returned (.slice (some ⟨w.heap.size,0,none⟩) (n+1) (grownCap w (n+1) c 25)))
   (w.drew.alloc (.cells ((cs++R).toArray++Builtin.zeroCells (Value.agg #[.string ⟨#[]⟩,.bool false,.int .i64 0]).cells (grownCap w (n+1) c 25-(n+1))) 25)):=by
 obtain ⟨hge,hle⟩:=T3 (w:=w) (need:=n+1) (cap:=c) (e:=25) hn
 have hwh:∀ row:Array Value,(w.drew.alloc (.cells row 25)).heap=w.heap.push (.cells row 25):=λ_=>rfl
 refine ⟨_,_,_,rfl,.inr rfl,C5 (hwh _),?_,hge,hle,λk hk _=>C6 (hwh _) hk,by rw [hwh];simp,by rw [hwh];simp,rfl,rfl,rfl,λq hq=>?_⟩
 ·simp only [Array.size_append,List.size_toArray,List.length_append,size_zeroCells,show (Value.agg #[.string ⟨#[]⟩,.bool false,.int .i64 0]).cells.size=3 from rfl]
  omega
 ·rw [Array.getElem?_append_left (by simpa using hq)]
  simp
theorem At7 {w:World} {g1 cap1:Nat} {R:List Value} (hvl:R.length=3) (hvs:∀ (j:Nat) (v:Value),R[j]? = some v->w.cell? ⟨g1,0+j,none⟩=some v) (h1v:∀ v∈R,v.oneCell'=true) :
  Calls Tryz.prog 18 #[.slice none 0 0,.int .i64 0,.slice (some ⟨g1,0,none⟩) 1 cap1] w (Sr w none 0 R):=by
 refine (Jm none 0 0 g1 0 1 cap1 [] R w (by omega) (by omega) (by omega) (by omega) rfl hvl (λ_=>rfl) (λ_ h=>by cases h) hvs h1v).mono ?_
 rintro e w' ⟨rfl,rfl⟩
 exact AY (cs:=[]) (by omega) rfl hvl
theorem At8 {w:World} {g n c i g1 cap1:Nat} {cur cur1:Array Value} {R:List Value} (hi:i<=n) (hn:n<=1000000) (hnc:n<=c) (hm:c<=maxLen) (hg:w.heap[g]? = some (.cells cur 25 (0,0))) (hs:cur.size=c*3)
  (h1:w.heap[g1]? = some (.cells cur1 25 (0,0))) (hne:g1≠g) (hvl:R.length=3) (hvs:∀ (j:Nat) (v:Value),R[j]? = some v->cur1[j]? = some v) (h1v:∀ v∈R,v.oneCell'=true)
  (h1c:∀ v∈cur.toList.take (n*3),v.oneCell'=true) :
  Calls Tryz.prog 18 #[.slice (some ⟨g,0,none⟩) n c,.int .i64 (i:Int),.slice (some ⟨g1,0,none⟩) 1 cap1] w (Sr w (some g) n ((cur.toList.take (n*3)).take (i*3)++(R++(cur.toList.take (n*3)).drop (i*3)))):=by
 have hgl:g<w.heap.size:=(Array.getElem?_eq_some_iff.1 hg).1
 have hvc:∀ j v,R[j]? = some v->w.cell? ⟨g1,0+j,none⟩=some v:=λj v hj=>by simpa [World.cell?,h1] using hvs j v hj
 have hlen:cur.toList.length=c*3:=by rw [Array.length_toList];exact hs
 have hcl:(cur.toList.take (n*3)).length=n*3:=by rw [List.length_take];omega
 have hcell:∀ j v,(cur.toList.take (n*3))[j]? = some v->w.cell? ⟨g,0+j,none⟩=some v:=by
  intro j v hj
  have hj':j<n*3:=by
   have:=(List.getElem?_eq_some_iff.1 hj).1
   omega
  rw [List.getElem?_take,if_pos hj'] at hj
  simpa [World.cell?,hg] using hj
 have hsome:∀ j,j<c*3->(w.cell? ⟨g,j,none⟩).isSome=true:=by
  intro j hj
  simp only [World.cell?,hg]
  rw [Array.getElem?_eq_getElem (by omega)]
  rfl
 have hfrz:∀ j,w.frozen? ⟨g,j,none⟩=false:=λj=>by simp [World.frozen?,hg]
 have hmx:c<=9223372036854775807:=by
  simp only [maxLen] at hm
  omega
 obtain ⟨cs,hcs⟩:∃ cs,cs=cur.toList.take (n*3):=⟨_,rfl⟩
 have Vy:∀ q,q<i*3->cur.toList[q]? = cs[q]?:=λq hq=>by rw [hcs,List.getElem?_take,Me]
 rw [<-hcs] at hcl hcell h1c ⊢
 by_cases hroom:n+1<=c
 ·by_cases hie:i=n
  ·subst hie
   refine (Ze g 0 i c g1 0 1 cap1 R w (by omega) hroom hmx hvl (λj hj=>hsome _ (by omega)) (λj hj=>hfrz _) hvc h1v).mono ?_
   rintro e w' ⟨rfl,rfl⟩
   obtain ⟨c1,c2,c3,c4,c5,c6⟩:=G9 (w:=w) (o:=0+i*3) (vs:=R) hg (by omega) h1v
   refine ⟨g,c,_,rfl,.inl rfl,c1,?_,hroom,hm,λk _ hk=>c2 k λe=>hk (by rw [e]),by rw [c3];exact Nat.le_refl _,by rw [c3];exact hgl,c4,c5,c6,λq hq=>?_⟩
   ·rw [List.size_toArray,B4];exact hlen
   ·simp only [List.getElem?_toArray]
    have:=(HZ (row:=cur.toList) hcl hvl (Nat.le_refl (i*3)) (by omega) Vy q hq).1
    rw [List.drop_of_length_le (show cs.length<=i*3 by omega)] at this ⊢
    simpa [D3] using this
  ·have hi':i<n:=by omega
   refine (UT g 0 n c i g1 0 1 cap1 cs R w hi' (by omega) hroom hmx hne hcl hvl hcell (λj hj=>hsome _ (by omega)) (λj hj=>hfrz _) hvc h1c h1v 25 25 cur1.size cur.size (by simp [World.shape?,h1]) (by simp [World.shape?,hg]) (by omega) (by simp [World.frozen?,h1]) (by simp [World.frozen?,h1])).mono ?_
   rintro e w' ⟨rfl,rfl⟩
   obtain ⟨c1,c2,c3,c4,c5,c6⟩:=G9 (w:=w.drew) (o:=0+(i+1)*3) (vs:=cs.drop (i*3)) hg (by rw [List.length_drop,hcl];omega) (λv hv=>h1c v (List.mem_of_mem_drop hv))
   generalize hw1:w.drew.setCells g (0+(i+1)*3) (cs.drop (i*3))=w1 at *
   have hs1:(D3 cur.toList (0+(i+1)*3) (cs.drop (i*3))).toArray.size=c*3:=by rw [List.size_toArray,B4];exact hlen
   obtain ⟨d1,d2,d3,d4,d5,d6⟩:=G9 (w:=w1) (o:=0+i*3) (vs:=R) c1 (by rw [hs1];omega) h1v
   refine ⟨g,c,_,rfl,.inl rfl,d1,?_,hroom,hm,λk _ hk=>(d2 k λe=>hk (by rw [e])).trans (c2 k λe=>hk (by rw [e])),by rw [d3,c3];exact Nat.le_refl _,by rw [d3,c3];exact hgl,d4.trans c4,d5.trans c5,d6.trans c6,λq hq=>?_⟩
   ·rw [List.size_toArray,B4,List.toList_toArray,B4];exact hlen
   ·simp only [List.getElem?_toArray,List.toList_toArray]
    rw [Nat.zero_add,Nat.zero_add,show (i+1)*3=i*3+3 by omega]
    exact (HZ (row:=cur.toList) hcl hvl (show i*3<=n*3 by omega) (by omega) Vy q hq).2
 ·by_cases hie:i=n
  ·subst hie
   refine (Jm (some ⟨g,0,none⟩) i c g1 0 1 cap1 cs R w (by omega) hnc (by omega) (by omega) hcl hvl (λh=>by cases h) (λa h j v hj=>by
    obtain rfl:=Option.some.inj h
    rw [F6]
    exact hcell j v hj) hvc h1v).mono ?_
   rintro e w' ⟨rfl,rfl⟩
   have:=AY (w:=w) (cs:=cs) (R:=R) (n:=i) (g:=some g) (c:=c) (by omega) hcl hvl
   rw [List.take_of_length_le (by omega),List.drop_of_length_le (by omega),List.append_nil]
   exact this
  ·have hi':i<n:=by omega
   refine (Ad6 g 0 n c i g1 0 1 cap1 cs R w hi' (by omega) hnc (by omega) (by omega) hcl hvl hcell hvc h1c h1v).mono ?_
   rintro e w' ⟨rfl,rfl⟩
   obtain ⟨hge,hle⟩:=T3 (w:=w) (need:=n+1) (cap:=c) (e:=25) (by omega)
   have hz:(Value.agg #[.string ⟨#[]⟩,.bool false,.int .i64 0]).cells.size=3:=rfl
   have ht:(cs.take (i*3)).length=i*3:=by rw [List.length_take];omega
   have hrs:((cs.take (i*3)).toArray++Builtin.zeroCells (Value.agg #[.string ⟨#[]⟩,.bool false,.int .i64 0]).cells (n+1-i)++Builtin.zeroCells (Value.agg #[.string ⟨#[]⟩,.bool false,.int .i64 0]).cells (grownCap w (n+1) c 25-(n+1))).size=grownCap w (n+1) c 25*3:=by
    simp only [Array.size_append,List.size_toArray,size_zeroCells,hz,ht]
    omega
   have hrp:∀ q,q<i*3->((cs.take (i*3)).toArray++Builtin.zeroCells (Value.agg #[.string ⟨#[]⟩,.bool false,.int .i64 0]).cells (n+1-i)++Builtin.zeroCells (Value.agg #[.string ⟨#[]⟩,.bool false,.int .i64 0]).cells (grownCap w (n+1) c 25-(n+1))).toList[q]? = cs[q]?:=λq hq=>by
    rw [Array.getElem?_toList,Array.getElem?_append_left (by simp only [Array.size_append,List.size_toArray,ht];omega),Array.getElem?_append_left (by simp only [List.size_toArray,ht];omega),List.getElem?_toArray,List.getElem?_take_of_lt hq]
   generalize (cs.take (i*3)).toArray++Builtin.zeroCells (Value.agg #[.string ⟨#[]⟩,.bool false,.int .i64 0]).cells (n+1-i)++Builtin.zeroCells (Value.agg #[.string ⟨#[]⟩,.bool false,.int .i64 0]).cells (grownCap w (n+1) c 25-(n+1))=row at *
   generalize grownCap w (n+1) c 25=kc at *
   have hwh:(w.alloc (.cells row 25)).drew.heap=w.heap.push (.cells row 25):=rfl
   have hrl:row.toList.length=kc*3:=by rw [Array.length_toList];exact hrs
   obtain ⟨c1,c2,c3,c4,c5,c6⟩:=G9 (w:=(w.alloc (.cells row 25)).drew) (o:=i*3) (vs:=R) (C5 hwh) (by omega) h1v
   generalize hw1:(w.alloc (.cells row 25)).drew.setCells w.heap.size (i*3) R=w1 at *
   have hs1:(D3 row.toList (i*3) R).toArray.size=kc*3:=by rw [List.size_toArray,B4];exact hrl
   obtain ⟨d1,d2,d3,d4,d5,d6⟩:=G9 (w:=w1.drew) (o:=(i+1)*3) (vs:=cs.drop (i*3)) c1 (by rw [hs1,List.length_drop];omega) (λv hv=>h1c v (List.mem_of_mem_drop hv))
   have hsz:(w1.drew.setCells w.heap.size ((i+1)*3) (cs.drop (i*3))).heap.size=w.heap.size+1:=by
    rw [d3]
    show w1.heap.size=_
    rw [c3,hwh]
    simp
   refine ⟨w.heap.size,kc,_,rfl,.inr rfl,d1,?_,hge,hle,λk hk _=>?_,by rw [hsz];omega,by rw [hsz];omega,d4.trans c4,d5.trans c5,d6.trans c6,λq hq=>?_⟩
   ·rw [List.size_toArray,B4,List.toList_toArray,B4];exact hrl
   ·rw [d2 k (by omega)]
    exact (c2 k (by omega)).trans (C6 hwh hk)
   ·simp only [List.getElem?_toArray,List.toList_toArray]
    rw [show (i+1)*3=i*3+3 by omega]
    exact (HZ (row:=row.toList) hcl hvl (show i*3<=n*3 by omega) (by omega) hrp q hq).1
theorem Ao4 {C:Cfg} {σ:Type} {I:σ->(Nat->Prop)->(Nat->Prop)->World->Prop} (hI:HI I) {Γ:Ctx} {Φ:Nat->Prop} {w w':World} {z v1:Bool} {E n e1 s1:Nat} {l l' m:LL} {s:σ} (g cap:Nat) (Vs:List Value) (cur:Array Value)
  (hnf:Ag C E=false) (hH:HR Γ [.arr z E n l,.arr v1 e1 s1 m] w) (hi:I s Γ.St Φ w) (hd:∀ b g,Γ.nm b=some g->¬ Φ g)
  (hown:Γ.nm 0=some g\/g=w.heap.size) (hgl:g<w'.heap.size) (hoth:∀ k,k<w.heap.size->Γ.nm 0≠some k->w'.heap[k]? = w.heap[k]?) (hsz:w.heap.size<=w'.heap.size) (h1:w'.os=w.os) (h2:w'.tape=w.tape) (h3:w'.output=w.output)
  (hrow:w'.heap[g]? = some (.cells cur E (0,0))) (hE:Els Γ.St w' n l' Vs) (hl':l'≠[]) (hc:∀ q,q<Vs.length->cur[q]? = Vs[q]?) (hl:Vs.length<=cur.size) (hcap:l'.length<=cap) (hm:cap<=maxLen) (hcs:cur.size=cap*n) :
  R6 C I Γ [.arr z E n l,.arr v1 e1 s1 m] w Φ (.fl 0) [.arr z E n l',.arr v1 e1 s1 m] s (.slice (some ⟨g,0,none⟩) l'.length cap) w':=by
 have hblt:0<[Blk.arr z E n l,.arr v1 e1 s1 m].length:=by simp
 have hng:(Γ.re 0 (some g)).nm 0=some g:=by simp [Ctx.re]
 have hnf':¬ Cb C (A1 [Blk.arr z E n l,.arr v1 e1 s1 m] 0):=by simp [A1,Blk.shp,Cb,hnf]
 have hk:([Blk.arr z E n l,.arr v1 e1 s1 m].map (Blk.kill 0)).set 0 (.arr z E n l')=[.arr z E n l',.arr v1 e1 s1 m]:=rfl
 have hgS:¬ Γ.St g:=by
  rcases hown with h | h
  ·exact (hH.lt 0 g h).2.2
  ·intro hs
   have:=hH.stlt g hs
   omega
 obtain ⟨q1,q2,q3⟩:=Xi (C:=C) (y:=.arr z E n l') (ng:=some g) (w':=w') hH hblt hnf' (λk hk=>by
   simp only [Option.some.injEq] at hk;subst hk
   refine ⟨hgl,hgS,λc hc hc2=>?_⟩
   rcases hown with h | h
   ·exact hc (hH.inj c 0 _ hc2 h)
   ·have:=(hH.lt c _ hc2).2.1
    omega)
  (λk hk=>by
   simp only [Option.some.injEq] at hk;subst hk
   rcases hown with h | h
   ·exact .inl h
   ·exact .inr (by omega)) hoth hsz h1 h2 h3
  (BR.els hng hrow hE (by rintro ⟨_,h⟩;exact hl' h) hc hl) rfl
 rw [hk] at q1 q2
 refine ⟨_,Φ,q1.lift Φ,q2,?_,λc hc=>?_,?_,λb g' hb=>?_⟩
 ·refine .fl 0 g z E n l'.length cap rfl (λ_ h=>hl' (List.length_eq_zero_iff.1 h)) hng hcap hm ?_
  simp only [World.shape?,hrow,hcs]
 ·simp only [PV.nms,List.mem_singleton] at hc
  subst hc
  simp
 ·refine hI.mono s Γ.St Φ w Γ.St w' hi (λ_ h=>h) (λk hk hp=>(hI.foot _ _ _ _ hi k hp).2 hk) (λk hk=>Nat.lt_of_lt_of_le (hH.stlt k hk) hsz) (λk hk=>?_) hsz h1 h2 h3
  rcases hk with hk | hk
  ·exact hoth k (hH.stlt k hk) (λh=>(hH.lt 0 k h).2.2 hk)
  ·exact hoth k (hI.foot _ _ _ _ hi k hk).1 (λh=>hd 0 k h hk)
 ·simp only [Ctx.re] at hb
  split at hb
  ·simp only [Option.some.injEq] at hb
   subst hb
   rcases hown with h | h
   ·exact hd 0 _ h
   ·intro hp
    have:=(hI.foot _ _ _ _ hi _ hp).1
    omega
  ·exact hd b g' hb
theorem Els.take {St:Nat->Prop} {w:World} {n:Nat} {l:LL} {cs:List Value} (h:Els St w n l cs) (i:Nat) (hi:i<=l.length):Els St w n (l.take i) (cs.take (i*n))/\Els St w n (l.drop i) (cs.drop (i*n)):=by
 have hlen:=h.1
 have hin:i*n<=l.length*n:=Nat.mul_le_mul_right n hi
 refine ⟨⟨by rw [List.length_take,List.length_take,hlen,Nat.min_eq_left hi,Nat.min_eq_left hin],λj hj=>?_⟩,⟨by rw [List.length_drop,List.length_drop,hlen,Nat.sub_mul],λj hj=>?_⟩⟩
 ·rw [List.length_take] at hj
  rw [List.getElem_take]
  obtain ⟨a,b⟩:=h.2 j (by omega)
  refine ⟨a,λk hk=>?_⟩
  obtain ⟨U,e,v⟩:=b k hk
  have:j*n+n<=i*n:=by rw [<-Nat.succ_mul];exact Nat.mul_le_mul_right n (by omega)
  exact ⟨U,by rw [List.getElem?_take_of_lt (by omega)];exact e,v⟩
 ·rw [List.length_drop] at hj
  rw [List.getElem_drop]
  obtain ⟨a,b⟩:=h.2 (i+j) (by omega)
  refine ⟨a,λk hk=>?_⟩
  obtain ⟨U,e,v⟩:=b k hk
  exact ⟨U,by rw [List.getElem?_drop,show i*n+(j*n+k)=(i+j)*n+k by rw [Nat.add_mul];omega];exact e,v⟩
theorem Bc5:Jd Tryz.prog GX 18 Sw:=by
 intro C hP hG σ I yh yv hI hy args H s ret Hc hpf Γ Φ w Vs hyv hH hg hi hd hc hn
 unfold Sw at hpf
 split at hpf
 ·rename_i i z l h b e
  obtain ⟨h0,hpf⟩:=A9 hpf
  obtain ⟨h1,hpf⟩:=A9 hpf
  obtain ⟨rfl,rfl⟩:=F5 hpf
  obtain ⟨i0,i1⟩:=G4.1 h0
  obtain ⟨i,rfl⟩:=Int.eq_ofNat_of_zero_le i0
  have hl:=Nat.le_of_ble_eq_true h1
  have hil:i<=l.length:=by
   have:(i:Int)<((l.length+1:Nat):Int):=i1
   omega
  obtain ⟨S,X0,V,rfl,hs,hx,hv⟩:=hc.arr3
  obtain rfl:=hx.inv_int
  have hnf:Ag C 25=false:=by
   unfold Ag Cfg.sh
   rw [hP]
   kernel_rfl
  obtain ⟨g1,cur1,n1,n2,n3,n4,n5⟩:=hH.arr' (b:=1) rfl (by simp)
  have hvs:∃ cap,V = .slice (some ⟨g1,0,none⟩) 1 cap:=by
   cases hv with
   | flv _ e sz h=>simp [A1,Blk.shp] at h
   | fl _ g v e sz n cap h hv' hg' hcap hm hs'=>
    rw [n1] at hg'
    simp only [Option.some.injEq] at hg'
    subst hg'
    simp only [A1,List.getElem?_cons_succ,List.getElem?_cons_zero,Option.map_some,Blk.shp,Option.some.injEq,Shp.arr.injEq] at h
    obtain ⟨_,_,_,h4⟩:=h
    subst h4
    exact ⟨cap,rfl⟩
  obtain ⟨cap1,rfl⟩:=hvs
  obtain ⟨V0,p0,P0⟩:=n5 0 (by simp) 0 (by simp)
  obtain ⟨V1,p1,P1⟩:=n5 0 (by simp) 1 (by simp)
  obtain ⟨V2,p2,P2⟩:=n5 0 (by simp) 2 (by simp)
  have hR1:∀ v∈[V0,V1,V2],v.oneCell'=true:=by
   intro v hv
   simp only [List.mem_cons,List.mem_nil_iff,or_false] at hv
   rcases hv with rfl | rfl | rfl
   ·exact P0.oneCell
   ·exact P1.oneCell
   ·exact P2.oneCell
  have hRE:∀ w':World,(∀ g,Γ.St g->w'.heap[g]? = w.heap[g]?)->Els Γ.St w' 3 [[SV.str h,SV.bool b,SV.int .i64 e]] [V0,V1,V2]:=λw' hst=>by
   refine Els.mono (w:=w) ⟨rfl,λj hj=>?_⟩ hst (λ_ h=>h)
   have:j=0:=by simpa using hj
   subst this
   refine ⟨rfl,λk hk=>?_⟩
   have hk3:k<3:=hk
   rcases k with _ | _ | _ | k
   ·exact ⟨V0,rfl,P0⟩
   ·exact ⟨V1,rfl,P1⟩
   ·exact ⟨V2,rfl,P2⟩
   ·omega
  have hcur1:∀ (j:Nat) (v:Value),[V0,V1,V2][j]? = some v->cur1[j]? = some v:=by
   intro j v hj
   rcases j with _ | _ | _ | j
   ·simpa using (hj ▸ p0:_)
   ·simpa using (hj ▸ p1:_)
   ·simpa using (hj ▸ p2:_)
   ·simp at hj
  rw [Int.toNat_natCast]
  refine R2 (fn:=Tryz.f18) (by kernel_rfl) (by kernel_rfl) (by kernel_rfl) ?_
  have fin:∀ (go:Option Nat) (cs:List Value),(∀ k,go=some k->Γ.nm 0=some k)->(go=none->∀ k,Γ.nm 0≠some k->True)->cs.length=l.length*3->Els Γ.St w 3 l cs->(∀ k,Γ.nm 0=some k->go=some k\/go=none)->
    ∀ e' w',Sr w go l.length (cs.take (i*3)++([V0,V1,V2]++cs.drop (i*3))) e' w'->∃ V,e' = .returned V/\R6 C I Γ [.arr z 25 3 l,.arr false 25 3 [[SV.str h,SV.bool b,SV.int .i64 e]]] w Φ (.fl 0) [.arr z 25 3 (GL l i [SV.str h,SV.bool b,SV.int .i64 e]),.arr false 25 3 [[SV.str h,SV.bool b,SV.int .i64 e]]] s V w':=by
   rintro go cs a1 _ a2 a3 a4 e' w' ⟨g',cap,row,rfl,b1,b2,b3,b4,b5,b6,b7,b8,b9,b10,b11,b12⟩
   refine ⟨_,rfl,?_⟩
   have hst:∀ g,Γ.St g->w'.heap[g]? = w.heap[g]?:=λg hg=>b6 g (hH.stlt g hg) λe=>(hH.lt 0 g (a1 g e)).2.2 hg
   have hE:Els Γ.St w' 3 (GL l i [SV.str h,SV.bool b,SV.int .i64 e]) (cs.take (i*3)++([V0,V1,V2]++cs.drop (i*3))):=
    (((a3.mono hst (λ_ h=>h)).take i hil).1).append ((hRE w' hst).append (((a3.mono hst (λ_ h=>h)).take i hil).2))
   have hlen:(GL l i [SV.str h,SV.bool b,SV.int .i64 e]).length=l.length+1:=by
    unfold GL
    rw [List.length_append,List.length_cons,List.length_take,List.length_drop]
    omega
   have hT:(cs.take (i*3)++([V0,V1,V2]++cs.drop (i*3))).length=(l.length+1)*3:=by
    rw [hE.1,hlen]
   have:=Ao4 (C:=C) (w':=w') (l':=GL l i [SV.str h,SV.bool b,SV.int .i64 e]) hI g' cap _ row hnf hH hi hd (b1.imp (λh=>a1 _ h) λh=>h) b8
    (λk hk hk2=>b6 k hk λe=>hk2 (a1 k e)) b7 b9 b10 b11 b2 hE (by unfold GL;simp) b12 (by omega) (by omega) b5 b3
   rw [hlen] at this
   exact this
  cases hs with
  | flv _ e2 sz2 h'=>
   simp only [A1,List.getElem?_cons_zero,Option.map_some,Blk.shp,Option.some.injEq,Shp.arr.injEq] at h'
   obtain ⟨q1,q2,q3,h4⟩:=h'
   obtain rfl:=List.length_eq_zero_iff.1 h4
   obtain rfl:i=0:=by simpa using hil
   exact (At7 (w:=w) (R:=[V0,V1,V2]) rfl (λj v hj=>by simpa [World.cell?,n2] using hcur1 j v hj) hR1).mono (fin none [] (λk h=>by cases h) (λ_ _ _=>trivial) rfl ⟨rfl,λj hj=>by simp at hj⟩ (λ_ _=>.inr rfl))
  | fl _ g z' e2 sz2 n' cap h' hv' hg' hcap hm hs'=>
   simp only [A1,List.getElem?_cons_zero,Option.map_some,Blk.shp,Option.some.injEq,Shp.arr.injEq] at h'
   obtain ⟨rfl,rfl,rfl,rfl⟩:=h'
   have hne:¬ (z=true/\l=[]):=by rintro ⟨q1,q2⟩;exact hv' q1 (by rw [q2];rfl)
   obtain ⟨g',cur,hg2,hh,hsize,hlens,hels⟩:=hH.arr' (b:=0) rfl hne
   obtain rfl:g=g':=by
    rw [hg'] at hg2
    exact Option.some.inj hg2
   have hcs:cur.size=cap*3:=by
    have:=hs'
    simp only [World.shape?,hh,Option.some.injEq,Prod.mk.injEq,true_and] at this
    exact this
   have hO:Els Γ.St w 3 l (cur.toList.take (l.length*3)):=by
    refine ⟨by rw [List.length_take,Array.length_toList (xs:=cur)];omega,λj hj=>⟨hlens j hj,λk hk=>?_⟩⟩
    obtain ⟨U,e1,u⟩:=hels j hj k hk
    refine ⟨U,?_,u⟩
    have hk':k<3:=by rw [<-hlens j hj];exact hk
    rw [List.getElem?_take,Me]
    simpa using e1
   have hng1:g1≠g:=λe=>by
    have:=hH.inj 1 0 g (by rw [<-e];exact n1) hg'
    omega
   refine (At8 (w:=w) (R:=[V0,V1,V2]) (cap1:=cap1) hil (by omega) hcap hm hh hcs n2 hng1 rfl hcur1 hR1 ?_).mono (fin (some g) _ (λk h=>by cases h;exact hg') (λh=>by cases h) hO.1 hO (λk hk=>.inl (by rw [hg'] at hk;exact hk)))
   intro v hv
   obtain ⟨q,hq,rfl⟩:=List.getElem_of_mem hv
   have hq':q<l.length*3:=by rw [<-hO.1];exact hq
   obtain ⟨s1,s2,s3⟩:=Pr (q:=q) (m:=l.length) (n:=3) hq'
   obtain ⟨a,u⟩:=hO.2 (q / 3) s1
   obtain ⟨U,e1,u2⟩:=u (q % 3) (by rw [a];exact s2)
   rw [s3,List.getElem?_eq_getElem hq] at e1
   cases e1
   exact u2.oneCell
 ·cases hpf
end
section
open Go Go.Proofs
set_option maxRecDepth 100000
section
variable {σ R : Type} (lf : Nat) (cl : D0) (yh : Yh σ) (s : σ) (k : Out -> St σ -> Option R)
noncomputable def PA (lf:Nat):Cfg:=C0 lf [50] (A3 []) [] (A3 [(1,[2]),(0,[0])]) [] (A3 []) (some [2]) [] [] []
noncomputable def A51 {R:Type} (lf:Nat) (x0:By) (k0:Bool->Option R):Option R:=k0 (not (x0==x0))
theorem A52 (d:Nat) (x0):evC (PA lf) (d+1) σ yh 50 [pS x0] [] s=A51 lf x0 (λr0=>some (pB r0,[],s)):=by
 refine (evE (fn:=Tryz.f50) (by kernel_rfl)).trans ?_
 generalize evC (PA lf) d=cl
 unfold A51;kernel_rfl
noncomputable def OZ (lf:Nat):Cfg:=C0 lf [51] (A3 []) [] (A3 [(1,[2]),(0,[0])]) [] (A3 []) (some [2]) [] [] []
noncomputable def A49 {R:Type} (lf:Nat) (x0:Int) (k0:Bool->Option R):Option R:=k0 (x0 != x0)
theorem A50 (d:Nat) (x0):evC (OZ lf) (d+1) σ yh 51 [pI x0] [] s=A49 lf x0 (λr0=>some (pB r0,[],s)):=by
 refine (evE (fn:=Tryz.f51) (by kernel_rfl)).trans ?_
 generalize evC (OZ lf) d=cl
 unfold A49;kernel_rfl
noncomputable def Aj6 (lf:Nat):Cfg:=C0 lf [36] (A3 []) [(50,Ag9)] (A3 [(13,[4]),(12,[4]),(11,[19]),(10,[4]),(9,[0,0,14]),(8,[4]),(7,[0,0,11]),(6,[4]),(5,[4]),(4,[12]),(3,[0,0,4,4]),(2,[0,0,3,0]),(1,[0,0,3]),(0,[0,0])]) [50] (A3 []) (some [4]) [] [] []
noncomputable def ccs {R:Type} (lf:Nat) (x0 y1:By) (k0:Int->Option R):Option R:=cond (bytesLess x0 y1) (k0 (-1)) (cond (not ((bytesLess x0 y1) || (x0==y1))) (k0 1) (k0 0))
theorem Bf4 (d:Nat) (x0 y1):evC (Aj6 lf) (d+1) σ yh 36 [pS x0,pS y1] [] s=ccs lf x0 y1 (λr0=>some (pI r0,[],s)):=by
 refine (evE (fn:=Tryz.f36) (by kernel_rfl)).trans ?_
 generalize evC (Aj6 lf) d=cl
 unfold ccs;kernel_rfl
noncomputable def Aj5 (lf:Nat):Cfg:=C0 lf [37] (A3 []) [(51,Ag8)] (A3 [(13,[4]),(12,[4]),(11,[19]),(10,[4]),(9,[0,0,14]),(8,[4]),(7,[0,0,11]),(6,[4]),(5,[4]),(4,[12]),(3,[0,0,4,4]),(2,[0,0,3,0]),(1,[0,0,3]),(0,[0,0])]) [51] (A3 []) (some [4]) [] [] []
noncomputable def cci {R:Type} (lf:Nat) (x0 y1:Int) (k0:Int->Option R):Option R:=cond (ltI x0 y1) (k0 (-1)) (cond (ltI y1 x0) (k0 1) (k0 0))
theorem Bf3 (d:Nat) (x0 y1):evC (Aj5 lf) (d+1) σ yh 37 [pI x0,pI y1] [] s=cci lf x0 y1 (λr0=>some (pI r0,[],s)):=by
 refine (evE (fn:=Tryz.f37) (by kernel_rfl)).trans ?_
 generalize evC (Aj5 lf) d=cl
 unfold cci;kernel_rfl
noncomputable abbrev Ai9:Code:=E6 Tryz.f20
noncomputable def Ki (lf:Nat):Cfg:=C0 lf [20] (A3 [(2,[0,0,2,0,0])]) [(35,Su),(36,Bc9),(37,Bc8)] (A3 [(8,[4]),(7,[0,0]),(6,[0,0,3,0,22]),(5,[4]),(4,[0,0,3,0,0,14]),(3,[0,0,3,0,0]),(2,[0,0,3,0]),(1,[0,0]),(0,[0,0])]) [35,36,37] (A3 [(0,[5,0]),(1,[0,0])]) (some [4]) [] [] []
noncomputable def Iu {R:Type} (lf n:Nat) (a0 b1:By) (k0:Int->Option R) (k1:Int->Int->Option R):Option R:=match n with | 0=>none | n+1=>cond (A2 a0.length) (vl (E5 (u8n (46:Int)) a0) λn'2=>cond (A2 b1.length) (vl (E5 (u8n (46:Int)) b1) λn'3=>cond (Cu (A5 (n'2+1)) (a0.length:Int) a0.length) (vl (cut a0 (A5 (n'2+1)) (a0.length:Int)) λs'6=>cond (Cu (A5 (n'3+1)) (b1.length:Int) b1.length) (vl (cut b1 (A5 (n'3+1)) (b1.length:Int)) λs'7=>cond ((R0 s'6 s'7) != 0) (k0 (R0 s'6 s'7)) (cond (ltI n'2 0) (k1 n'2 n'3) (cond (ltI n'3 0) (k1 n'2 n'3) (cond (Cu 0 n'2 a0.length) (cond (Cu 0 n'3 b1.length) (Iu lf n (cut a0 0 n'2) (cut b1 0 n'3) k0 k1) none) none)))) none) none) none) none
theorem TH (n a0 b1):H4 0 ((Ki lf).keep 2) (bd (Ki lf) cl yh (cd [1,0,1,1,0,0,0] Ai9)) n ⟨gp [(0,pS a0),(0,pS b1)] 39,[],s⟩ k =
 Iu lf n a0 b1 (λn0=>k .ret ⟨gp [(4,pI n0)] 36,[],s⟩) (λi0 kk1=>k (.exit 0) ⟨gp [(5,pI i0),(0,pI kk1)] 34,[],s⟩):=by
 induction n generalizing a0 b1 with
 | zero=>rfl
 | succ n ih=>rw [Iu];simp only [<-ih];kernel_rfl
noncomputable def A59 {R:Type} (lf:Nat) (a0 b1:By) (k0:Int->Option R):Option R:=Iu lf lf a0 b1 (λn'8=>k0 n'8) (λi'9 kk'10=>vl (FX (if ((0:Int)<i'9) then (0:Int) else i'9) (if ((0:Int)<kk'10) then (0:Int) else kk'10)) λn'11=>k0 n'11)
theorem A60 (d:Nat) (a0 b1):evC (Ki lf) (d+1) σ yh 20 [pS a0,pS b1] [] s=A59 lf a0 b1 (λr0=>some (pI r0,[],s)):=by
 refine (evE (fn:=Tryz.f20) (by kernel_rfl)).trans ?_
 generalize evC (Ki lf) d=cl
 unfold A59;exact (Eq.trans (by kernel_rfl) ((TH lf cl yh s (O4 0 (P3 (Ki lf) cl yh (cd [1,0,1,1,1] Ai9) (J6 (Ki lf) Tryz.f20))) lf a0 b1).trans (by kernel_rfl)))
noncomputable def PC (lf:Nat):Cfg:=C0 lf [15] (A3 []) [(24,Zk)] (A3 [(1,[2]),(0,[1])]) [24] (A3 []) (some [2]) [] [] []
noncomputable def A68 {R:Type} (lf:Nat) (p0:By) (p1:Bool) (p2:Int) (k0:Bool->By->Bool->Int->Option R):Option R:=cond (A2 p0.length) (cond (E2 p0) (cond (not (ltI p2 0)) (k0 (not (ltI 1099511627776 p2)) p0 p1 p2) (k0 false p0 p1 p2)) (k0 false p0 p1 p2)) none
theorem A69 (d:Nat) (p0 p1 p2):evC (PC lf) (d+1) σ yh 15 [.agg [pS p0,pB p1,pI p2]] [] s=A68 lf p0 p1 p2 (λr0 s1 b2 n3=>some (pB r0,[.box [pS s1,pB b2,pI n3]],s)):=by
 refine (evE (fn:=Tryz.f15) (by kernel_rfl)).trans ?_
 generalize evC (PC lf) d=cl
 unfold A68;kernel_rfl
noncomputable def PE (lf:Nat):Cfg:=C0 lf [44] (A3 []) [] (A3 [(1,[4]),(0,[0,0])]) [] (A3 []) (some [4]) [] [] []
noncomputable def Bi6 {R:Type} (lf:Nat) (expiry0 now1:Int) (k0:Bool->Option R):Option R:=k0 (not (ltI now1 expiry0))
theorem A85 (d:Nat) (expiry0 now1):evC (PE lf) (d+1) σ yh 44 [pI expiry0,pI now1] [] s=Bi6 lf expiry0 now1 (λr0=>some (pB r0,[],s)):=by
 refine (evE (fn:=Tryz.f44) (by kernel_rfl)).trans ?_
 generalize evC (PE lf) d=cl
 unfold Bi6;kernel_rfl
noncomputable def OX (lf:Nat):Cfg:=C0 lf [23] (A3 []) [(24,Zk)] (A3 [(1,[2]),(0,[1])]) [24] (A3 []) (some [2]) [] [] []
noncomputable def A38 {R:Type} (lf:Nat) (x0:By) (x1:Bool) (k0:Bool->By->Bool->Option R):Option R:=cond (A2 x0.length) (k0 (not (E2 x0)) x0 x1) none
theorem A39 (d:Nat) (x0 x1):evC (OX lf) (d+1) σ yh 23 [.agg [pS x0,pB x1]] [] s=A38 lf x0 x1 (λr0 s1 b2=>some (pB r0,[.box [pS s1,pB b2]],s)):=by
 refine (evE (fn:=Tryz.f23) (by kernel_rfl)).trans ?_
 generalize evC (OX lf) d=cl
 unfold A38;kernel_rfl
noncomputable def Aj7 (lf:Nat):Cfg:=C0 lf [70] (A3 []) [(20,Ob)] (A3 [(1,[4]),(0,[1,0])]) [20] (A3 []) (some [4]) [] [] []
noncomputable def lgf {R:Type} (lf:Nat) (x0:By) (x1:Bool) (name2:By) (k0:Int->By->Bool->Option R):Option R:=cond (A2 x0.length) (cond (A2 name2.length) (k0 (J2 x0 name2) x0 x1) none) none
theorem Bh3 (d:Nat) (x0 x1 name2):evC (Aj7 lf) (d+1) σ yh 70 [.agg [pS x0,pB x1],pS name2] [] s=lgf lf x0 x1 name2 (λr0 s1 b2=>some (pI r0,[.box [pS s1,pB b2]],s)):=by
 refine (evE (fn:=Tryz.f70) (by kernel_rfl)).trans ?_
 generalize evC (Aj7 lf) d=cl
 unfold lgf;kernel_rfl
noncomputable def Aj9 (lf:Nat):Cfg:=C0 lf [32] (A3 []) [(20,Ob)] (A3 [(1,[4]),(0,[1,0])]) [20] (A3 []) (some [4]) [] [] []
noncomputable def tff {R:Type} (lf:Nat) (p0:By) (p1:Bool) (p2:Int) (host3:By) (k0:Int->By->Bool->Int->Option R):Option R:=cond (A2 p0.length) (cond (A2 host3.length) (k0 (J2 p0 host3) p0 p1 p2) none) none
theorem Bj3 (d:Nat) (p0 p1 p2 host3):evC (Aj9 lf) (d+1) σ yh 32 [.agg [pS p0,pB p1,pI p2],pS host3] [] s=tff lf p0 p1 p2 host3 (λr0 s1 b2 n3=>some (pI r0,[.box [pS s1,pB b2,pI n3]],s)):=by
 refine (evE (fn:=Tryz.f32) (by kernel_rfl)).trans ?_
 generalize evC (Aj9 lf) d=cl
 unfold tff;kernel_rfl
noncomputable abbrev Ai6:Code:=E6 Tryz.f38
noncomputable def Kf (lf:Nat):Cfg:=C0 lf [38] (A3 [(2,[0,0,2,2,0])]) [(23,Ag7)] (A3 [(7,[4]),(6,[0,0,5,0]),(5,[4]),(4,[0,0,3,1,0,7]),(3,[0,0,3,1,0]),(2,[0,0,5,0,0]),(1,[0,0,5,0]),(0,[0,0])]) [23] (A3 [(0,[]),(1,[0,0,5,0])]) (some [4]) [] [] []
noncomputable def Fv {R:Type} (lf n:Nat) (s_z0 s_t1:Bool) (s2:LL) (n3 n4:Int) (k0:Int->Option R) (k1:Unit->Option R):Option R:=match n with | 0=>none | n+1=>cond (ltI n4 n3) (cond (inR n4 s2.length) (cond (okE ⟨true,true,[.str,.bool]⟩ s2 (Int.toNat n4) 0) (cond (A2 (List.length (gX s2 (Int.toNat n4) 0))) (cond (not (E2 (gX s2 (Int.toNat n4) 0))) (k0 n4) (Fv lf n s_z0 s_t1 s2 n3 (A5 (n4+1)) k0 k1)) none) none) none) (k1 ())
theorem RZ (n s_z0 s_t1 s2 n3 n4):H4 0 ((Kf lf).keep 2) (bd (Kf lf) cl yh (cd [1,0,1,0,0] Ai6)) n ⟨gp [(0,.s (.sl s_z0 s_t1 2 s2)),(0,.s (.fn (Fn.func 23) [] [])),(5,pI n3),(0,pI n4)] 10,[],s⟩ k =
 Fv lf n s_z0 s_t1 s2 n3 n4 (λn0=>k .ret ⟨gp [(4,pI n0)] 14,[],s⟩) (λ_=>k (.exit 0) ⟨gp [] 19,[],s⟩):=by
 induction n generalizing s_z0 s_t1 s2 n3 n4 with
 | zero=>rfl
 | succ n ih=>rw [Fv];simp only [<-ih];kernel_rfl
noncomputable def A36 {R:Type} (lf:Nat) (l_z l_t:Bool) (l:LL) (k0:Int->Option R):Option R:=Fv lf lf l_z l_t l (l.length:Int) 0 (λn'0=>k0 n'0) (λ_=>k0 (-1))
theorem A37 (d:Nat) (l_z l_t l):evC (Kf lf) (d+1) σ yh 38 [.s (.sl l_z l_t 2 l),.s (.fn (Fn.func 23) [] [])] [] s=A36 lf l_z l_t l (λr0=>some (pI r0,[],s)):=by
 refine (evE (fn:=Tryz.f38) (by kernel_rfl)).trans ?_
 generalize evC (Kf lf) d=cl
 unfold A36;exact (Eq.trans (by kernel_rfl) ((RZ lf cl yh s (O4 0 (P3 (Kf lf) cl yh (cd [1,1] Ai6) (J6 (Kf lf) Tryz.f38))) lf l_z l_t l (l.length:Int) 0).trans (by kernel_rfl)))
noncomputable def OW (lf:Nat):Cfg:=C0 lf [22] (A3 []) [(38,Ag6)] (A3 [(1,[4]),(0,[0,0])]) [38] (A3 []) (some [4]) [] [] []
noncomputable def A33 {R:Type} (lf:Nat) (l_z l_t:Bool) (l:LL) (k0:Bool->Option R):Option R:=cond (List.all l E4) (cond (List.all l smE) (cond (A2 l.length) (k0 (not (ltI (ixE (List.map A6 l)) (0:Int)))) none) none) none
theorem A34 (d:Nat) (l_z l_t l):evC (OW lf) (d+1) σ yh 22 [.s (.sl l_z l_t 2 l),.s (.fn (Fn.func 23) [] [])] [] s=A33 lf l_z l_t l (λr0=>some (pB r0,[],s)):=by
 refine (evE (fn:=Tryz.f22) (by kernel_rfl)).trans ?_
 generalize evC (OW lf) d=cl
 unfold A33;kernel_rfl
noncomputable def OU (lf:Nat):Cfg:=C0 lf [25] (A3 []) [] (A3 [(3,[2]),(2,[2]),(1,[0,3]),(0,[0])]) [] (A3 []) (some [2]) [] [] []
noncomputable def A30 {R:Type} (lf:Nat) (l_z l_t:Bool) (l:LL) (k0:Bool->LL->Option R):Option R:=cond l_z (k0 true []) (cond (Q5 (0+l.length)) (k0 false l) none)
theorem A31 (d:Nat) (l_z l_t l):evC (OU lf) (d+1) σ yh 25 [.s (.sl l_z l_t 2 l)] [] s=A30 lf l_z l_t l (λz0 l1=>some (.fl 0,[.arr z0 50 2 l1],s)):=by
 refine (evE (fn:=Tryz.f25) (by kernel_rfl)).trans ?_
 generalize evC (OU lf) d=cl
 unfold A30;kernel_rfl
noncomputable def PI (lf:Nat):Cfg:=C0 lf [21] (A3 []) [] (A3 [(3,[2]),(2,[2]),(1,[0,3]),(0,[0])]) [] (A3 []) (some [2]) [] [] []
noncomputable def A95 {R:Type} (lf:Nat) (l_z l_t:Bool) (l:LL) (k0:Bool->LL->Option R):Option R:=cond l_z (k0 true []) (cond (Q5 (0+l.length)) (k0 false l) none)
theorem A96 (d:Nat) (l_z l_t l):evC (PI lf) (d+1) σ yh 21 [.s (.sl l_z l_t 3 l)] [] s=A95 lf l_z l_t l (λz0 l1=>some (.fl 0,[.arr z0 25 3 l1],s)):=by
 refine (evE (fn:=Tryz.f21) (by kernel_rfl)).trans ?_
 generalize evC (PI lf) d=cl
 unfold A95;kernel_rfl
noncomputable abbrev Ai5:Code:=E6 Tryz.f69
noncomputable def Ke (lf:Nat):Cfg:=C0 lf [69] (A3 [(3,[0,0,0,3,0,0,0,0])]) [(70,Bd1)] (A3 [(8,[6,0]),(6,[0,0,0,5,0,0]),(7,[0,0,0,5,0,0]),(5,[0,0,0,5,0,0,0,19]),(4,[0,0,0,5,0,0,0]),(3,[0,0,0,5,0,0,6]),(2,[0,0,0,5,0,0]),(1,[0,0,0,5]),(0,[0,0,0])]) [70] (A3 [(0,[0,0,0,5,0]),(1,[0,0,0,5,0,0])]) (some [6,0]) [] [] []
noncomputable def Dd {R:Type} (lf n:Nat) (x_z0 x_t1:Bool) (x2:LL) (target3:By) (n4 i5 j6:Int) (k0:Bool->Bool->LL->By->Int->Int->Option R):Option R:=match n with | 0=>none | n+1=>cond (ltI i5 j6) (vl (Ac0 .u64 (Ae3 (A5 (i5+j6))) (1:Int)) λn'1=>cond (inR (A5 n'1) x2.length) (cond (okE ⟨true,true,[.str,.bool]⟩ x2 (Int.toNat (A5 n'1)) 0) (vl (gX x2 (Int.toNat (A5 n'1)) 0) λs'2=>cond (A2 s'2.length) (cond (A2 target3.length) (cond (ltI (J2 s'2 target3) (0:Int)) (vl (A5 ((A5 n'1)+1)) λn'3=>Dd lf n x_z0 x_t1 x2 target3 n4 n'3 j6 k0) (Dd lf n x_z0 x_t1 x2 target3 n4 i5 (A5 n'1) k0)) none) none) none) none) (k0 x_z0 x_t1 x2 target3 n4 i5)
theorem RS (n x_z0 x_t1 x2 target3 n4 i5 j6):H4 0 ((Ke lf).keep 3) (bd (Ke lf) cl yh (cd [1,1,1,0,0,0] Ai5)) n ⟨gp [(0,.s (.sl x_z0 x_t1 2 x2)),(0,pS target3),(0,.s (.fn (Fn.func 70) [] [])),(5,pI n4),(0,pI i5),(0,pI j6)] 38,[],s⟩ k =
 Dd lf n x_z0 x_t1 x2 target3 n4 i5 j6 (λx_z0 x_t1 x2 target3 n4 i5=>k (.exit 0) ⟨gp [(0,.s (.sl x_z0 x_t1 2 x2)),(0,pS target3),(0,.s (.fn (Fn.func 70) [] [])),(5,pI n4),(0,pI i5)] 39,[],s⟩):=by
 induction n generalizing x_z0 x_t1 x2 target3 n4 i5 j6 with
 | zero=>rfl
 | succ n ih=>rw [Dd];simp only [<-ih];kernel_rfl
noncomputable def A28 {R:Type} (lf:Nat) (l_z l_t:Bool) (l:LL) (q:By) (k0:Int->Bool->Option R):Option R:=Dd lf lf l_z l_t l q (l.length:Int) 0 (l.length:Int) (λx_z'4 x_t'5 x'6 target'7 n'8 i'9=>cond (ltI i'9 n'8) (cond (inR i'9 x'6.length) (cond (okE ⟨true,true,[.str,.bool]⟩ x'6 (Int.toNat i'9) 0) (vl (gX x'6 (Int.toNat i'9) 0) λs'10=>cond (A2 s'10.length) (cond (A2 target'7.length) (k0 i'9 ((J2 s'10 target'7)==0)) none) none) none) none) (k0 i'9 false))
theorem A29 (d:Nat) (l_z l_t l q):evC (Ke lf) (d+1) σ yh 69 [.s (.sl l_z l_t 2 l),pS q,.s (.fn (Fn.func 70) [] [])] [] s=A28 lf l_z l_t l q (λr0 r1=>some (.tup [pI r0,pB r1],[],s)):=by
 refine (evE (fn:=Tryz.f69) (by kernel_rfl)).trans ?_
 generalize evC (Ke lf) d=cl
 unfold A28;exact (Eq.trans (by kernel_rfl) ((RS lf cl yh s (O4 0 (P3 (Ke lf) cl yh (cd [1,1,1,1] Ai5) (J6 (Ke lf) Tryz.f69))) lf l_z l_t l q (l.length:Int) 0 (l.length:Int)).trans (by kernel_rfl)))
noncomputable abbrev Aj0:Code:=E6 Tryz.f31
noncomputable def Kj (lf:Nat):Cfg:=C0 lf [31] (A3 [(3,[0,0,0,3,0,0,0,0])]) [(32,Bd3)] (A3 [(8,[6,0]),(6,[0,0,0,5,0,0]),(7,[0,0,0,5,0,0]),(5,[0,0,0,5,0,0,0,19]),(4,[0,0,0,5,0,0,0]),(3,[0,0,0,5,0,0,6]),(2,[0,0,0,5,0,0]),(1,[0,0,0,5]),(0,[0,0,0])]) [32] (A3 [(0,[0,0,0,5,0]),(1,[0,0,0,5,0,0])]) (some [6,0]) [] [] []
noncomputable def Dl {R:Type} (lf n:Nat) (x_z0 x_t1:Bool) (x2:LL) (target3:By) (n4 i5 j6:Int) (k0:Bool->Bool->LL->By->Int->Int->Option R):Option R:=match n with | 0=>none | n+1=>cond (ltI i5 j6) (vl (Ac0 .u64 (Ae3 (A5 (i5+j6))) (1:Int)) λn'1=>cond (inR (A5 n'1) x2.length) (cond (okE ⟨true,true,[.str,.bool,.int .i64]⟩ x2 (Int.toNat (A5 n'1)) 0) (vl (gX x2 (Int.toNat (A5 n'1)) 0) λs'2=>vl (gE x2 (Int.toNat (A5 n'1)) 2) λn'3=>cond (A2 s'2.length) (cond (A2 target3.length) (cond (ltI (J2 s'2 target3) (0:Int)) (vl (A5 ((A5 n'1)+1)) λn'4=>Dl lf n x_z0 x_t1 x2 target3 n4 n'4 j6 k0) (Dl lf n x_z0 x_t1 x2 target3 n4 i5 (A5 n'1) k0)) none) none) none) none) (k0 x_z0 x_t1 x2 target3 n4 i5)
theorem UQ (n x_z0 x_t1 x2 target3 n4 i5 j6):H4 0 ((Kj lf).keep 3) (bd (Kj lf) cl yh (cd [1,1,1,0,0,0] Aj0)) n ⟨gp [(0,.s (.sl x_z0 x_t1 3 x2)),(0,pS target3),(0,.s (.fn (Fn.func 32) [] [])),(5,pI n4),(0,pI i5),(0,pI j6)] 38,[],s⟩ k =
 Dl lf n x_z0 x_t1 x2 target3 n4 i5 j6 (λx_z0 x_t1 x2 target3 n4 i5=>k (.exit 0) ⟨gp [(0,.s (.sl x_z0 x_t1 3 x2)),(0,pS target3),(0,.s (.fn (Fn.func 32) [] [])),(5,pI n4),(0,pI i5)] 39,[],s⟩):=by
 induction n generalizing x_z0 x_t1 x2 target3 n4 i5 j6 with
 | zero=>rfl
 | succ n ih=>rw [Dl];simp only [<-ih];kernel_rfl
noncomputable def A92 {R:Type} (lf:Nat) (l_z l_t:Bool) (l:LL) (q:By) (k0:Int->Bool->Option R):Option R:=Dl lf lf l_z l_t l q (l.length:Int) 0 (l.length:Int) (λx_z'5 x_t'6 x'7 target'8 n'9 i'10=>cond (ltI i'10 n'9) (cond (inR i'10 x'7.length) (cond (okE ⟨true,true,[.str,.bool,.int .i64]⟩ x'7 (Int.toNat i'10) 0) (vl (gX x'7 (Int.toNat i'10) 0) λs'11=>vl (gE x'7 (Int.toNat i'10) 2) λn'12=>cond (A2 s'11.length) (cond (A2 target'8.length) (k0 i'10 ((J2 s'11 target'8)==0)) none) none) none) none) (k0 i'10 false))
theorem A93 (d:Nat) (l_z l_t l q):evC (Kj lf) (d+1) σ yh 31 [.s (.sl l_z l_t 3 l),pS q,.s (.fn (Fn.func 32) [] [])] [] s=A92 lf l_z l_t l q (λr0 r1=>some (.tup [pI r0,pB r1],[],s)):=by
 refine (evE (fn:=Tryz.f31) (by kernel_rfl)).trans ?_
 generalize evC (Kj lf) d=cl
 unfold A92;exact (Eq.trans (by kernel_rfl) ((UQ lf cl yh s (O4 0 (P3 (Kj lf) cl yh (cd [1,1,1,1] Aj0) (J6 (Kj lf) Tryz.f31))) lf l_z l_t l q (l.length:Int) 0 (l.length:Int)).trans (by kernel_rfl)))
end
end
end Go.Proofs.YtbpokbigoebocaaGreatDoor.E
