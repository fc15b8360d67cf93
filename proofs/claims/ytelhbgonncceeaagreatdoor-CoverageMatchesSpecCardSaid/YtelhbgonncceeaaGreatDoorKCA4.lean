/-
  Parts of the proof, merged by a program of the prover's own; no condition.
-/
import Derived.Test.YtelhbgonncceeaaGreatDoorKCA3
import Derived.Shelf.LaysM
import Derived.Shelf.Small.Strs
import Derived.Shelf.Spec.SlicesInsert
import Derived.Shelf.Spec.SlicesInsertGrow
import Derived.Shelf.Spec.TrailingZeros
import Derived.Shelf.Strconv.Itoa3
import Derived.Shelf.Strings.Count
import Derived.Shelf.Strings.Cut
import Derived.Shelf.Strings.IndexAnyAll
import Derived.Shelf.Strings.LastIndex
import Derived.Shelf.Strings.OnBuilder
import Derived.Shelf.Strings.Search3
import Derived.Shelf.Unicode.ValidAny
import Derived.Shelf.Utf8.RuneCount
import Derived.Sort.AssemblyPlain
import Derived.Test.YtelhbgonncceeaaGreatDoorProg
namespace Go.Proofs.YtelhbgonncceeaaGreatDoor.E
set_option linter.all false
section
open Go Go.Proofs
theorem Qe (k b:Nat):I5 ((36*k:Nat):Int) (b:Int)=(thr k b:Int):=by
 unfold I5 thr
 omega
theorem Am1 {R:Type} {k0:Int->Option R} (b:Int):By2 LF b k0=k0 b:=rfl
theorem WO {R:Type} {k0:Int->Int->Int->Option R} (k b:Int) (h0:ltN k 1000000000000=true) (h1:ltN b 1000000=true):Ad8 LF k b k0=k0 (I5 k b) (Int.add k 36) b:=by
 obtain ⟨a0,a1⟩:=H7.1 h0
 obtain ⟨b0,b1⟩:=H7.1 h1
 unfold Ad8
 have e1:A2 (k+36)=k+36:=A5
 have e2:A2 (k+36-b)=k+36-b:=A5
 simp only [vl,e1,e2]
 have:(if (26:Int)<(if (1:Int) > k+36-b then (1:Int) else k+36-b) then (26:Int) else (if (1:Int) > k+36-b then (1:Int) else k+36-b))=I5 k b:=by
  unfold I5
  omega
 grind
theorem Ki {q k b:Nat} (h:q<thr k b):L4 q k b=[U0 q]:=by rw [L4,dif_pos h]
theorem Sa {q k b:Nat} (h:¬ q<thr k b):L4 q k b=U0 (thr k b+(q-thr k b) % (36-thr k b))::L4 ((q-thr k b) / (36-thr k b)) (k+1) b:=by rw [L4,dif_neg h]
theorem JB {x y m:Nat} (hy:10<=y) (h:x<10*m):x / y<m:=by
 have h1:x / y<=x / 10:=Nat.div_le_div_left hy (by omega)
 omega
theorem UH (b:Nat):∀ (r q k:Nat),q<10 ^ r->(L4 q k b).length<=r+1:=by
 intro r
 induction r with
 | zero=>
  intro q k h
  have ht:=Q1 k b
  rw [Ki (by simp at h;omega)]
  simp
 | succ r ih=>
  intro q k h
  have ht:=Q1 k b
  by_cases hq:q<thr k b
  ·rw [Ki hq];simp
  ·rw [Sa hq,List.length_cons]
   have:=ih ((q-thr k b) / (36-thr k b)) (k+1) (JB (by omega) (by rw [Nat.pow_succ] at h;omega))
   omega
theorem Al2 (z:Bool) (b:Nat) (hb:b<1000000):∀ (r q k n:Nat) (l:LL),q<10 ^ r->q<1152921504606846976->k+r<=1000->r<n->l.length+r<=200000->
  ∃ (n2 n3:Int),∀ (R:Type) (k0:Bool->LL->Int->Int->Option R),Ek LF n (q:Int) z l (b:Int) ((36*k:Nat):Int) k0=k0 z (l++(L4 q k b).map F7) n2 n3:=by
 have fin:∀ (q k n:Nat) (l:LL),q<thr k b->k<=1000->l.length<=200000->∃ (n2 n3:Int),∀ (R:Type) (k0:Bool->LL->Int->Int->Option R),Ek LF (n+1) (q:Int) z l (b:Int) ((36*k:Nat):Int) k0=k0 z (l++(L4 q k b).map F7) n2 n3:=by
  intro q k n l hq hk hl
  have ht:=Q1 k b
  refine ⟨(b:Int),Int.add ((36*k:Nat):Int) 36,λR k0=>?_⟩
  rw [Ek]
  rw [L6,L6,Qe,A9,L6,Ki hq]
  simp only [vl,cond_true,Int.toNat_natCast]
  rw [G2 (by omega)]
  rfl
 intro r
 induction r with
 | zero=>
  intro q k n l h _ hk hn hl
  have ht:=Q1 k b
  obtain ⟨n,rfl⟩:∃ m,n=m+1:=⟨n-1,by omega⟩
  exact fin q k n l (by simp at h;omega) (by omega) (by omega)
 | succ r ih=>
  intro q k n l h hq60 hk hn hl
  have ht:=Q1 k b
  obtain ⟨n,rfl⟩:∃ m,n=m+1:=⟨n-1,by omega⟩
  by_cases hq:q<thr k b
  ·exact fin q k n l hq (by omega) (by omega)
  ·have hd:(q-thr k b) / (36-thr k b)<10 ^ r:=JB (by omega) (by rw [Nat.pow_succ] at h;omega)
   have hd2:(q-thr k b) / (36-thr k b)<=q:=Nat.le_trans (Nat.div_le_self _ _) (by omega)
   have hm2:(q-thr k b) % (36-thr k b)<36-thr k b:=Nat.mod_lt _ (by omega)
   obtain ⟨n2,n3,e⟩:=ih ((q-thr k b) / (36-thr k b)) (k+1) n (l++[F7 (U0 (thr k b+(q-thr k b) % (36-thr k b)))]) hd (by omega) (by omega) (by omega) (by rw [List.length_append,List.length_singleton];omega)
   refine ⟨n2,n3,λR k0=>?_⟩
   rw [Ek]
   have c1:A2 ((q:Int)-(thr k b:Int))=((q-thr k b:Nat):Int):=by rw [A5];omega
   have c2:A2 ((36:Int)-(thr k b:Int))=((36-thr k b:Nat):Int):=by rw [A5];omega
   have c3:Int.tmod ((q-thr k b:Nat):Int) ((36-thr k b:Nat):Int)=(((q-thr k b) % (36-thr k b):Nat):Int):=Gm _ _
   have c4:Int.tdiv ((q-thr k b:Nat):Int) ((36-thr k b:Nat):Int)=(((q-thr k b) / (36-thr k b):Nat):Int):=K3 _ _
   have c7:((((36-thr k b:Nat):Int)) != 0)=true:=by rw [bne_iff_ne];omega
   rw [L6,L6,Qe,A7]
   simp only [vl,c1,c2,c3,c4,c7,cond_true,cond_false]
   rw [Sa hq]
   generalize hA:(q-thr k b) / (36-thr k b)=A at *
   generalize hB:(q-thr k b) % (36-thr k b)=B at *
   have c5:A2 ((thr k b:Int)+(B:Int))=((thr k b+B:Nat):Int):=by rw [A5];rfl
   have c6:A2 (A:Int)=(A:Int):=A5
   rw [c5,c6,L6,G2 (by omega),Int.toNat_natCast,show Int.add ((36*k:Nat):Int) 36=((36*(k+1):Nat):Int) from (by show ((36*k:Nat):Int)+36=_;omega)]
   refine Eq.trans (e R k0) ?_
   simp [List.append_assoc]
theorem Al3 (q b:Int) (z:Bool) (l:LL) (h0:ltN q 1152921504606846976=true) (h1:ltN b 1000000=true) (h2:Nat.ble l.length 100000=true) :
  ∃ (n2 n3:Int),∀ (R:Type) (k0:Bool->LL->Int->Int->Option R),Bx9 LF q b z l k0=k0 z (List.append l ((L4 q.toNat 0 b.toNat).map F7)) n2 n3:=by
 obtain ⟨a0,a1⟩:=H7.1 h0
 obtain ⟨b0,b1⟩:=H7.1 h1
 obtain ⟨q,rfl⟩:=Int.eq_ofNat_of_zero_le a0
 obtain ⟨b,rfl⟩:=Int.eq_ofNat_of_zero_le b0
 have hl:=Nat.le_of_ble_eq_true h2
 have hLF:=E5
 obtain ⟨n2,n3,e⟩:=Al2 z b (by omega) 19 q 0 LF l (by omega) (by omega) (by omega) (by omega) (by omega)
 exact ⟨n2,n3,λR k0=>e R _⟩
def U8 (l:List Int):LL:=l.map λx=>[SV.int .i64 x]
def B3 (l:List Nat):LL:=l.map λx:Nat=>[SV.int .i64 (x:Int)]
theorem Kn (l:List Nat):U8 (l.map λn:Nat=>(n:Int))=B3 l:=by simp [U8,B3,Function.comp_def]
theorem P5 (l:List Int):(U8 l).length=l.length:=by simp [U8]
theorem B9 (l:List Nat):(B3 l).length=l.length:=by simp [B3]
theorem Ji (a b:List Nat):B3 (a++b)=B3 a++B3 b:=by simp [B3]
theorem JV {l:List Int} {i:Nat} (h:i<l.length):okE Gk (U8 l) i 0=true:=by
 unfold okE U8 Gk
 simp [List.getD_eq_getElem?_getD,h,okS,SV.has]
theorem UK (l:List Int) (i:Nat) (h:i<l.length):gE (U8 l) i 0=l.getD i 0:=by
 unfold gE gC U8
 simp [List.getD_eq_getElem?_getD,List.getElem?_eq_getElem h,SV.gI]
theorem Ko {l:List Nat} {i:Nat} (h:i<l.length):okE Gk (B3 l) i 0=true:=by
 rw [<-Kn];exact JV (by simpa using h)
theorem Sf (l:List Nat) (i:Nat) (h:i<l.length):gE (B3 l) i 0=(l.getD i 0:Int):=by
 rw [<-Kn,UK _ _ (by simpa using h)]
 grind
theorem Ab8 {l:LL} (h:l.all Ok=true):∃ P:List Int,l=U8 P:=by
 induction l with
 | nil=>exact ⟨[],rfl⟩
 | cons x r ih=>
  simp only [List.all_cons,Bool.and_eq_true] at h
  obtain ⟨P,rfl⟩:=ih h.2
  have hx:=h.1
  unfold Ok at hx
  split at hx
  ·rename_i n
   exact ⟨n::P,rfl⟩
  ·cases hx
theorem MR (P:List Int):(U8 P).map elI=P:=by
 unfold U8
 rw [List.map_map]
 conv=>rhs;rw [<-List.map_id P]
 apply List.map_congr_left
 intro x _
 simp [elI,SV.gI]
theorem MQ (l:List Int) (i:Nat) (h:i<l.length):l.drop i=l.getD i 0::l.drop (i+1):=by simp_all
theorem Od (l:List Nat) (i:Nat) (h:i<l.length):l.drop i=l.getD i 0::l.drop (i+1):=by simp_all
theorem Bb7:∀ (r d k:Nat),d<456*35 ^ r->Rd d k<=k+36*r+36:=by
 intro r
 induction r with
 | zero=>
  intro d k h
  rw [Ls (by simp at h;omega)]
  have:36*d / (d+38)<=36:=by
   apply Nat.div_le_of_le_mul
   omega
  omega
 | succ r ih=>
  intro d k h
  by_cases hd:455<d
  ·rw [Xk hd]
   grind
  grind
theorem Im (d c:Nat) (f:Bool) (h:d<1152921504606846976):M0 d c f<=500:=by
 unfold M0
 have hx:∀ x:Nat,x<=d->Rd (x+x / c) 0<=500:=by
  intro x hx
  have:=Nat.div_le_self x c
  have:=Bb7 11 (x+x / c) 0 (by omega)
  omega
 grind
theorem CY {q k b:Nat} (h:q<1152921504606846976):(L4 q k b).length<=20:=UH b 19 q k (by omega)
theorem Bl3 (z t:Bool) (pts:List Nat) (basic m:Nat) (hm:m<=1114112) (hl:pts.length<=256):∀ (r i n:Nat) (s:LH),i+r=pts.length->r<n->s.delta+r<=1000000000000->s.bias<=500->s.out.length+20*r<=90000->s.done+r<=1000->basic<=256->
  (∀ (R:Type) (k0:Bool->Bool->LL->Int->Int->Int->Int->Int->LL->Option R),Y0 LF n z t (B3 pts) (basic:Int) (m:Int) (s.delta:Int) (s.bias:Int) (s.done:Int) (pts.length:Int) (i:Int) (s.out.map F7) k0 =
   k0 z t (B3 pts) (basic:Int) (m:Int) ((F8 m basic (pts.drop i) s).delta:Int) ((F8 m basic (pts.drop i) s).bias:Int) ((F8 m basic (pts.drop i) s).done:Int) ((F8 m basic (pts.drop i) s).out.map F7))/\
  (F8 m basic (pts.drop i) s).bias<=500/\(F8 m basic (pts.drop i) s).out.length<=s.out.length+20*(pts.drop i).countP (· == m)/\(F8 m basic (pts.drop i) s).done=s.done+(pts.drop i).countP (· == m)/\
  (F8 m basic (pts.drop i) s).delta<=(if 0<(pts.drop i).countP (· == m) then r else s.delta+r):=by
 intro r
 induction r with
 | zero=>
  intro i n s hi hn h1 h2 h3 h4 hb
  obtain ⟨n,rfl⟩:∃ m,n=m+1:=⟨n-1,by omega⟩
  rw [List.drop_of_length_le (by omega)]
  refine ⟨λR k0=>?_,h2,by simp [F8],by simp [F8],by simp [F8]⟩
  rw [Y0]
  rw [A7]
  rfl
 | succ r ih=>
  intro i n s hi hn h1 h2 h3 h4 hb
  obtain ⟨n,rfl⟩:∃ m,n=m+1:=⟨n-1,by omega⟩
  rw [Od pts i (by omega)]
  have hg:=Sf pts i (by omega)
  have ok:=Ko (l:=pts) (i:=i) (by omega)
  generalize pts.getD i 0=p at *
  have e1:A2 ((i:Int)+1)=((i+1:Nat):Int):=by rw [A5];rfl
  have e2:A2 ((s.delta:Int)+1)=((s.delta+1:Nat):Int):=by rw [A5];rfl
  have e3:A2 ((s.done:Int)+1)=((s.done+1:Nat):Int):=by rw [A5];rfl
  by_cases hp:p<m
  ·have hne:(p==m)=false:=by rw [beq_eq_false_iff_ne];omega
   have hs:F8 m basic (p::pts.drop (i+1)) s=F8 m basic (pts.drop (i+1)) { s with delta:=s.delta+1 }:=by rw [F8,if_pos hp]
   obtain ⟨q1,q2,q3,q4,q5⟩:=ih (i+1) n { s with delta:=s.delta+1 } (by omega) (by omega) (by simp only;omega) h2 (by simp only;omega) (by simp only;omega) hb
   rw [hs,List.countP_cons_of_neg (by rw [hne];simp)]
   refine ⟨λR k0=>?_,q2,q3,q4,?_⟩
   ·rw [Y0]
    rw [A9,B9,L5,Int.toNat_natCast,ok]
    simp only [cond_true,vl,hg,e1,e2]
    rw [A9,cond_true]
    exact q1 R k0
   ·simp only at q5
    split at q5<;>split<;>omega
  ·by_cases hq:p=m
   ·subst hq
    have hn20:=CY (q:=s.delta) (k:=0) (b:=s.bias) (by omega)
    have had:=Im s.delta (s.done+1) (s.done==basic) (by omega)
    have hs:F8 p basic (p::pts.drop (i+1)) s=F8 p basic (pts.drop (i+1)) { delta:=0,bias:=M0 s.delta (s.done+1) (s.done==basic),done:=s.done+1,out:=s.out++L4 s.delta 0 s.bias }:=by rw [F8,if_neg hp,if_pos rfl]
    obtain ⟨q1,q2,q3,q4,q5⟩:=ih (i+1) n { delta:=0,bias:=M0 s.delta (s.done+1) (s.done==basic),done:=s.done+1,out:=s.out++L4 s.delta 0 s.bias } (by omega) (by omega) (by simp only;omega) had (by simp only [List.length_append];omega) (by simp only;omega) hb
    rw [hs,List.countP_cons_of_pos (by simp)]
    refine ⟨λR k0=>?_,q2,?_,?_,?_⟩
    ·rw [Y0]
     have hbeq:((s.done:Int)==(basic:Int))=(s.done==basic):=by grind
     rw [A9,B9,L5,Int.toNat_natCast,ok]
     simp only [cond_true,vl,hg,e1,e3]
     rw [A7,cond_false,beq_self_eq_true,cond_true,L6,L6,List.length_map,Nat.ble_eq_true_of_le (show s.out.length<=100000 by omega),L6,A9,hbeq]
     simp only [cond_true,Int.toNat_natCast]
     have hrow:List.append (s.out.map F7) ((L4 s.delta 0 s.bias).map F7)=(s.out++L4 s.delta 0 s.bias).map F7:=by rw [List.map_append];rfl
     rw [hrow]
     exact q1 R k0
    ·simp only [List.length_append] at q3;omega
    ·simp only at q4;omega
    ·simp only at q5
     rw [Ge]
     split at q5<;>omega
   ·have hne:(p==m)=false:=by rw [beq_eq_false_iff_ne];omega
    have hs:F8 m basic (p::pts.drop (i+1)) s=F8 m basic (pts.drop (i+1)) s:=by rw [F8,if_neg hp,if_neg hq]
    obtain ⟨q1,q2,q3,q4,q5⟩:=ih (i+1) n s (by omega) (by omega) (by omega) h2 (by omega) (by omega) hb
    rw [hs,List.countP_cons_of_neg (by rw [hne];simp)]
    refine ⟨λR k0=>?_,q2,q3,q4,?_⟩
    ·rw [Y0]
     rw [A9,B9,L5,Int.toNat_natCast,ok]
     simp only [cond_true,vl,hg,e1]
     rw [A7,cond_false,show ((p:Int)==(m:Int))=false by rw [beq_eq_false_iff_ne];omega,cond_false]
     exact q1 R k0
    ·split at q5<;>split<;>omega
theorem WN {R:Type} {k0:Bool->Bool->LL->Int->Int->Int->Int->Int->Int->LL->Option R} (z t:Bool) (pts:List Nat) (hl:pts.length<=256) (n0:Nat) (basic delta bias done:Int) (l:LL):∀ (r i n m:Nat),i+r=pts.length->r<n->
  Em LF n z t (B3 pts) basic (n0:Int) delta bias done (m:Int) (pts.length:Int) (i:Int) l k0=k0 z t (B3 pts) basic (n0:Int) delta bias done ((G9 n0 (pts.drop i) m:Nat):Int) l:=by
 intro r
 induction r with
 | zero=>
  intro i n m hi hn
  obtain ⟨n,rfl⟩:∃ m,n=m+1:=⟨n-1,by omega⟩
  rw [Em]
  rw [A7,List.drop_of_length_le (by omega)]
  rfl
 | succ r ih=>
  intro i n m hi hn
  obtain ⟨n,rfl⟩:∃ m,n=m+1:=⟨n-1,by omega⟩
  have hg:=Sf pts i (by omega)
  have ok:=Ko (l:=pts) (i:=i) (by omega)
  rw [Em,Od pts i (by omega)]
  generalize pts.getD i 0=p at *
  have e1:A2 ((i:Int)+1)=((i+1:Nat):Int):=by rw [A5];rfl
  rw [A9,B9,L5,Int.toNat_natCast,ok]
  simp only [cond_true,vl,hg,e1,G9]
  by_cases h:n0<=p
  ·rw [if_pos h,A7,Bool.not_false,cond_true]
   have:(if (p:Int)<(m:Int) then (p:Int) else (m:Int))=((min m p:Nat):Int):=by split<;>omega
   rw [this]
   exact ih (i+1) n (min m p) (by omega) (by omega)
  ·rw [if_neg h,A9,Bool.not_true,cond_false]
   exact ih (i+1) n m (by omega) (by omega)
theorem Ei (n:Nat):∀ (l:List Nat) (m:Nat),(G9 n l m=m\/(G9 n l m∈l/\n<=G9 n l m))/\G9 n l m<=m/\∀ p∈l,n<=p->G9 n l m<=p
 | [],m=>⟨.inl rfl,Nat.le_refl _,λp h=>by cases h⟩
 | q::r,m=>by
  obtain ⟨h1,h2,h3⟩:=Ei n r (if n<=q then min m q else m)
  simp only [G9]
  grind
set_option maxRecDepth 100000
section
variable {σ R : Type} (lf : Nat) (cl : D7) (yh : Yh σ) (s : σ) (k : Out -> St σ -> Option R)
noncomputable abbrev Bv1:Code:=D3 Tryz.f198
noncomputable def Rt (lf:Nat):Cfg:=B8 lf [198] (A4 [(3,[0,1,0,0])]) [(194,Wq),(202,RA)] (A4 [(17,[2]),(16,[0,2,0,53]),(15,[0,2,0]),(14,[2]),(13,[0,2,0,1,45]),(12,[0,2,0,0,0]),(11,[2]),(10,[0,2,0,0,41]),(9,[0,2,0,0]),(8,[0,2,0,0]),(7,[2]),(6,[0,2,0,0,18]),(5,[0,2,0,0]),(4,[2]),(3,[0,2,0,11]),(2,[0,2,0]),(1,[0,2]),(0,[0])]) [202] (A4 [(0,[2]),(1,[0,2,0])]) (some [2]) [(201,Kb)] [] [201]
noncomputable def Bj {R:Type} (lf n:Nat) (w0:Int) (s1:By) (n2 n3 n4:Int) (b5 z6:Bool) (l7:LL) (n8v:Int) (k0:Int->By->Int->Int->Int->Bool->Bool->LL->Int->Option R):Option R:=match n with | 0=>none | n+1=>cond (s1==[]) (k0 4 s1 n2 n3 n4 b5 z6 l7 n8v) (cond (inR 0 s1.length) (cond (inR (bAt s1 (0:Int)) 256) (vl (C3 (u8n (bAt s1 (0:Int)))) λn'1=>cond (ltI n'1 0) (k0 4 s1 n2 n3 n4 b5 z6 l7 n8v) (cond (P2 1 (s1.length:Int) s1.length) (vl (cut s1 1 (s1.length:Int)) λs'3=>vl (A2 (n3+(A2 (n'1*w0)))) λn'5=>cond (ltI 1099511627776 n'5) (k0 19 s'3 n2 n'5 n4 b5 z6 l7 n8v) (cond (ltN n8v 1000000000000) (cond (ltN n4 1000000) (cond (ltI n'1 (I5 n8v n4)) (k0 0 s'3 n2 n'5 n4 b5 z6 l7 (Int.add n8v (36:Int))) (vl (A2 ((36:Int)-(I5 n8v n4))) λn'6=>cond (ltI 1099511627776 (A2 (w0*n'6))) (k0 19 s'3 n2 n'5 n4 b5 z6 l7 (Int.add n8v (36:Int))) (Bj lf n (A2 (w0*n'6)) s'3 n2 n'5 n4 b5 z6 l7 (Int.add n8v (36:Int)) k0))) none) none)) none)) none) none)
theorem UF (n w0 s1 n2 n3 n4 b5 z6 l7 n8v):E6 4 ((Rt lf).keep 3) (bd (Rt lf) cl yh (cd [1,1,1,0,0] Bv1)) n ⟨gp [(0,.ptr 0 0 0),(2,.fnr (Fn.func 201) [] [.ptr 3 0 0,.ptr 2 0 0]),(0,pI w0)] 54,[.box [pS s1,.fl 1,pI n2,pI n3,pI n4,pB b5],.arr z6 3 1 l7,.box [pI n4],.box [pI n8v]],s⟩ k =
 Bj lf n w0 s1 n2 n3 n4 b5 z6 l7 n8v (λn0 s1 n2 n3 n4 b5 z6 l7 n8v=>k .ret ⟨gp [(2,pI n0)] 56,[.box [pS s1,.fl 1,pI n2,pI n3,pI n4,pB b5],.arr z6 3 1 l7,.box [pI n4],.box [pI n8v]],s⟩):=by
 induction n generalizing w0 s1 n2 n3 n4 b5 z6 l7 n8v with
 | zero=>rfl
 | succ n ih=>rw [Bj];simp only [<-ih];kernel_rfl
noncomputable def Bw1 {R:Type} (lf:Nat) (rest:By) (n i b:Int) (st z:Bool) (l:LL) (k0:Int->By->Int->Int->Int->Bool->Bool->LL->Int->Option R):Option R:=Bj lf lf 1 rest n i b st z l 0 (λn'7 s'8 n'9 n'10 n'11 b'12 z'13 l'14 n'15=>k0 n'7 s'8 n'9 n'10 n'11 b'12 z'13 l'14 n'15)
theorem Bf7 (d:Nat) (rest n i b st z l):evC (Rt lf) (d+1) σ yh 198 [.ptr 0 0 0] [.box [pS rest,.fl 1,pI n,pI i,pI b,pB st],.arr z 3 1 l] s=Bw1 lf rest n i b st z l (λr0 s1 n2 n3 n4 b5 z6 l7 n8v=>some (pI r0,[.box [pS s1,.fl 1,pI n2,pI n3,pI n4,pB b5],.arr z6 3 1 l7,.box [pI n4],.box [pI n8v]],s)):=by
 refine (evE (fn:=Tryz.f198) (by kernel_rfl)).trans ?_
 generalize evC (Rt lf) d=cl
 unfold Bw1;exact (Eq.trans (by kernel_rfl) ((UF lf cl yh s (G8 0 (H4 (Rt lf) Tryz.f198)) lf 1 rest n i b st z l 0).trans (by kernel_rfl)))
noncomputable def IH (lf:Nat):Cfg:=B8 lf [189] (A4 []) [(186,Ij),(184,Ik)] (A4 [(16,[2]),(15,[]),(14,[0]),(13,[2]),(12,[0,67]),(11,[2]),(10,[0,4,60]),(9,[0,4]),(8,[0,4]),(7,[0,4]),(6,[0,4]),(5,[0,2,1]),(4,[2]),(3,[0,2,0,8]),(2,[0,2,0]),(1,[0,2]),(0,[0])]) [186,184] (A4 []) (some [2]) [(198,FI),(199,HN)] [] [198,199]
noncomputable def Ab0 {R:Type} (lf:Nat) (rest:By) (n i b:Int) (st z:Bool) (l:LL) (k0:Int->By->Int->Int->Int->Bool->Bool->LL->Option R):Option R:=cond (A1 rest.length) (cond (ltN b 1000000) (cond (ltN i 1099511627777) (cond ((Zd b rest i) != 0) (k0 (Zd b rest i) (Ze b rest i) n (Ms b rest i) b st z l) (vl (A2 ((l.length:Int)+1)) λn'1=>vl (A2 ((Ms b rest i)-i)) λn'4=>cond (ltN n'4 1152921504606846976) (cond (ltN n'1 1000000) (cond (ltI 0 n'1) (vl (↑(M0 (Int.toNat n'4) (Int.toNat n'1) (not st)):Int) λn'5=>cond (n'1 != 0) (vl (A2 (Int.tdiv (Ms b rest i) n'1)) λn'7=>cond (n'1 != 0) (vl (Int.tmod (Ms b rest i) n'1) λn'9=>cond (not (ptI (A2 (n+n'7)))) (k0 2 (Ze b rest i) (A2 (n+n'7)) n'9 n'5 true z l) (cond (ltI 256 n'1) (k0 3 (Ze b rest i) (A2 (n+n'7)) n'9 n'5 true z l) (cond (ltN n'9 (Nat.add l.length 1)) (cond (Nat.ble l.length 100000) (vl (Hb l (Int.toNat n'9) (A2 (n+n'7))) λl'11=>k0 0 (Ze b rest i) (A2 (n+n'7)) (A2 (n'9+1)) n'5 true z l'11) none) none))) none) none) none) none) none)) none) none) none
theorem Az1 (d:Nat) (rest n i b st z l):evC (IH lf) (d+1) σ yh 189 [.ptr 0 0 0] [.box [pS rest,.fl 1,pI n,pI i,pI b,pB st],.arr z 3 1 l] s=Ab0 lf rest n i b st z l (λr0 s1 n2 n3 n4 b5 z6 l7=>some (pI r0,[.box [pS s1,.fl 1,pI n2,pI n3,pI n4,pB b5],.arr z6 3 1 l7],s)):=by
 refine (evE (fn:=Tryz.f189) (by kernel_rfl)).trans ?_
 generalize evC (IH lf) d=cl
 unfold Ab0;kernel_rfl
noncomputable abbrev Lu:Code:=D3 Tryz.f170
noncomputable def T5 (lf:Nat):Cfg:=B8 lf [170] (A4 [(20,[2,0,1]),(13,[0,1,0,1,0,22,0]),(4,[0,1,0,9,0])]) [(97,Vb)] (A4 [(24,[2,0]),(23,[2,0]),(22,[5,2,59]),(21,[5,2]),(20,[5,58]),(19,[2,0]),(18,[5,53]),(17,[5]),(16,[0,4,0,22,0]),(15,[0,4,0,22,0]),(14,[0,4,0,0,21,0]),(13,[0,4,0,22,0,0]),(12,[0,4,0,22,0]),(11,[0,4,0,21]),(10,[0,4,0]),(9,[0,4]),(8,[0,12,0]),(7,[2,0]),(6,[0,12,0,5]),(5,[0,3,8,0]),(4,[0,12,0,0]),(3,[0,12,0]),(2,[2,0]),(1,[0,10]),(0,[0])]) [97] (A4 [(4,[5]),(5,[5]),(2,[0,4,0]),(3,[0,4,0,22,0]),(0,[0]),(1,[0,12,0])]) (some [2,0]) [(189,Va)] [] [189] (nt:=[(199,1,3,1)])
noncomputable def Hl {R:Type} (lf n:Nat) (s0:By) (n1 n2:Int) (k0:Unit->Option R) (k1:By->Option R):Option R:=match n with | 0=>none | n+1=>cond (ltI n2 n1) (cond (inR n2 s0.length) (cond (not (ltI (bAt s0 n2) (128:Int))) (k0 ()) (Hl lf n s0 n1 (A2 (n2+1)) k0 k1)) none) (k1 s0)
theorem WG (n s0 n1 n2):E6 0 ((T5 lf).keep 4) (bd (T5 lf) cl yh (cd [1,1,0,1,0,0] Lu)) n ⟨gp [(0,pS s0),(12,pI n1),(0,pI n2)] 59,[],s⟩ k =
 Hl lf n s0 n1 n2 (λ_=>k .ret ⟨gp [(2,.fl 0),(0,pI (4:Int))] 70,[.arr true 3 1 []],s⟩) (λs0=>k (.exit 0) ⟨gp [(0,pS s0)] 73,[],s⟩):=by
 induction n generalizing s0 n1 n2 with
 | zero=>rfl
 | succ n ih=>rw [Hl];simp only [<-ih];kernel_rfl
noncomputable def El {R:Type} (lf n:Nat) (s0:By) (kk1 n2:Int) (l3:LL) (k0:By->Int->LL->Option R):Option R:=match n with | 0=>none | n+1=>cond (ltI n2 kk1) (cond (inR n2 s0.length) (cond (G0 (l3.length+1)) (El lf n s0 kk1 (A2 (n2+1)) (l3++[[(SV.int .i64 (A2 (bAt s0 n2)))]]) k0) none) none) (k0 s0 kk1 l3)
theorem WH (n s0 kk1 n2 l3):E6 2 ((T5 lf).keep 13) (bd (T5 lf) cl yh (cd [1,1,1,1,0,1,1,0,0,1,0,0] Lu)) n ⟨gp [(0,pS s0),(4,.ptr 1 0 0),(0,pI kk1),(22,pI kk1),(0,pI n2)] 43,[.arr true 3 1 l3,.box [pS s0,.fl 0,pI (128:Int),pI (0:Int),pI (72:Int),pB false]],s⟩ k =
 El lf n s0 kk1 n2 l3 (λs0 kk1 l2=>k (.exit 2) ⟨gp [(0,pS s0),(4,.ptr 1 0 0),(0,pI kk1)] 67,[.arr true 3 1 l2,.box [pS s0,.fl 0,pI (128:Int),pI (0:Int),pI (72:Int),pB false]],s⟩):=by
 induction n generalizing s0 kk1 n2 l3 with
 | zero=>rfl
 | succ n ih=>rw [El];simp only [<-ih];kernel_rfl
noncomputable def N8 {R:Type} (lf n:Nat) (l0:LL) (s1:By) (n2 n3 n4:Int) (b5:Bool) (k0:Int->LL->By->Int->Int->Int->Bool->Option R) (k1:LL->By->Int->Int->Int->Bool->Option R):Option R:=match n with | 0=>none | n+1=>cond (not (s1==[])) (cond (A1 s1.length) (cond (ltN n4 1000000) (cond (ltN n3 1099511627777) (cond (ltN n2 1152921504606846976) (cond (Nat.ble l0.length 100000) (vl ((D0 (DS.mk s1 n2 n3 n4 b5 l0))).1 λn'10=>vl (DS.l ((D0 (DS.mk s1 n2 n3 n4 b5 l0))).2) λl'11=>cond (n'10 != 0) (k0 n'10 l'11 (DS.rest ((D0 (DS.mk s1 n2 n3 n4 b5 l0))).2) (DS.n ((D0 (DS.mk s1 n2 n3 n4 b5 l0))).2) (DS.i ((D0 (DS.mk s1 n2 n3 n4 b5 l0))).2) (DS.b ((D0 (DS.mk s1 n2 n3 n4 b5 l0))).2) (DS.st ((D0 (DS.mk s1 n2 n3 n4 b5 l0))).2)) (N8 lf n l'11 (DS.rest ((D0 (DS.mk s1 n2 n3 n4 b5 l0))).2) (DS.n ((D0 (DS.mk s1 n2 n3 n4 b5 l0))).2) (DS.i ((D0 (DS.mk s1 n2 n3 n4 b5 l0))).2) (DS.b ((D0 (DS.mk s1 n2 n3 n4 b5 l0))).2) (DS.st ((D0 (DS.mk s1 n2 n3 n4 b5 l0))).2) k0 k1)) none) none) none) none) none) (k1 l0 s1 n2 n3 n4 b5)
theorem Zl (n l0 s1 n2 n3 n4 b5):E6 2 ((T5 lf).keep 20) (bd (T5 lf) cl yh (cd [1,1,1,1,1,1,0,0,0] Lu)) n ⟨gp [(5,.ptr 1 0 0)] 68,[.arr true 3 1 l0,.box [pS s1,.fl 0,pI n2,pI n3,pI n4,pB b5]],s⟩ k =
 N8 lf n l0 s1 n2 n3 n4 b5 (λn0 l1 s2 n3 n4 n5 b6=>k .ret ⟨gp [(2,.fl 2),(0,pI n0)] 70,[.arr true 3 1 l1,.box [pS s2,.fl 0,pI n3,pI n4,pI n5,pB b6],.arr true 3 1 []],s⟩) (λl0 s1 n2 n3 n4 b5=>k (.exit 4) ⟨gp [(5,.ptr 1 0 0)] 68,[.arr true 3 1 l0,.box [pS s1,.fl 0,pI n2,pI n3,pI n4,pB b5]],s⟩):=by
 induction n generalizing l0 s1 n2 n3 n4 b5 with
 | zero=>rfl
 | succ n ih=>rw [N8];simp only [<-ih];kernel_rfl
noncomputable def Pe {R:Type} (lf:Nat) (s0:By) (k0:Int->Option R) (k1:Int->LL->By->Int->Int->Int->Bool->Option R) (k2:LL->By->Int->Int->Int->Bool->Option R):Option R:=cond (ltI 1024 (s0.length:Int)) (k0 3) (Hl lf lf s0 (s0.length:Int) 0 (λ_=>k0 4) (λs'0=>cond (A1 s'0.length) (vl (G4 (u8n (45:Int)) s'0) λn'4=>cond (ltI 0 n'4) (El lf lf s'0 n'4 0 [] (λs'5 kk'6 l'7=>vl (A2 (kk'6+1)) λn'8=>cond (P2 n'8 (s'5.length:Int) s'5.length) (vl (cut s'5 n'8 (s'5.length:Int)) λs'9=>cond (ltI 256 (l'7.length:Int)) (k1 3 l'7 s'9 128 0 72 false) (N8 lf lf l'7 s'9 128 0 72 false (λn'12 l'13 s'14 n'15 n'16 n'17 b'18=>k1 n'12 l'13 s'14 n'15 n'16 n'17 b'18) (λl'19 s'20 n'21 n'22 n'23 b'24=>k2 l'19 s'20 n'21 n'22 n'23 b'24))) none)) (N8 lf lf [] s'0 128 0 72 false (λn'25 l'26 s'27 n'28 n'29 n'30 b'31=>k1 n'25 l'26 s'27 n'28 n'29 n'30 b'31) (λl'32 s'33 n'34 n'35 n'36 b'37=>k2 l'32 s'33 n'34 n'35 n'36 b'37))) none))
theorem Bk8 (d:Nat) (s0):evC (T5 lf) (d+1) σ yh 170 [pS s0] [] s=Pe lf s0 (λr0=>some (.tup [.fl 0,pI r0],[.arr true 3 1 []],s)) (λr0 l1 s2 n3 n4 n5 b6=>some (.tup [.fl 2,pI r0],[.arr true 3 1 l1,.box [pS s2,.fl 0,pI n3,pI n4,pI n5,pB b6],.arr true 3 1 []],s)) (λl0 s1 n2 n3 n4 b5=>some (.tup [.fl 0,pI (0:Int)],[.arr true 3 1 l0,.box [pS s1,.fl 0,pI n2,pI n3,pI n4,pB b5]],s)):=by
 refine (evE (fn:=Tryz.f170) (by kernel_rfl)).trans ?_
 generalize evC (T5 lf) d=cl
 unfold Pe;exact let K0:=(G8 4 (I4 (T5 lf) cl yh (cd [1,1,1,1,1,1,1] Lu) (H4 (T5 lf) Tryz.f170)));(Eq.trans (by kernel_rfl) (A0 rfl ((WG lf cl yh s (G8 0 (I4 (T5 lf) cl yh (cd [1,1,1] Lu) (H4 (T5 lf) Tryz.f170))) lf s0 (s0.length:Int) 0).trans (congr (congr rfl (by kernel_rfl)) (fx1 λs'0=>(Eq.trans (by kernel_rfl) (A0 (A8 λn'4=>(A0 ((WH lf cl yh s (G8 2 (I4 (T5 lf) cl yh (cd [1,1,1,1,0,1,1,0,1] Lu) (I4 (T5 lf) cl yh (cd [1,1,1,1,1] Lu) (H4 (T5 lf) Tryz.f170)))) lf s'0 n'4 0 []).trans (congr rfl (fx3 λs'5 kk'6 l'7=>(Eq.trans (by kernel_rfl) (A8 λn'8=>(A0 (A8 λs'9=>(A0 rfl ((Zl lf cl yh s K0 lf l'7 s'9 128 0 72 false).trans (by kernel_rfl)))) rfl)))))) ((Zl lf cl yh s K0 lf [] s'0 128 0 72 false).trans (by kernel_rfl)))) rfl)))))))
noncomputable abbrev LY:Code:=D3 Tryz.f142
noncomputable def Cq (lf:Nat):Cfg:=B8 lf [142] (A4 [(2,[0,0,2,0])]) [] (A4 [(6,[4]),(3,[0,0,3]),(5,[4]),(4,[0,0,3,11]),(2,[0,0,3,4]),(1,[0,0,3]),(0,[0,0])]) [] (A4 [(0,[]),(1,[0,0,3])]) (some [4]) [] [] []
noncomputable def Z9 {R:Type} (lf n:Nat) (s0:By) (c1 i2:Int) (k0:Int->Option R) (k1:Unit->Option R):Option R:=match n with | 0=>none | n+1=>cond (not (ltI i2 0)) (cond (inR i2 s0.length) (cond ((bAt s0 i2)==c1) (k0 i2) (Z9 lf n s0 c1 (A2 (i2-1)) k0 k1)) none) (k1 ())
theorem JJ (n s0 c1 i2):E6 0 ((Cq lf).keep 2) (bd (Cq lf) cl yh (cd [1,0,1,0,0] LY)) n ⟨gp [(0,pS s0),(0,p8 c1),(3,pI i2)] 13,[],s⟩ k =
 Z9 lf n s0 c1 i2 (λn0=>k .ret ⟨gp [(4,pI n0)] 14,[],s⟩) (λ_=>k (.exit 0) ⟨gp [] 19,[],s⟩):=by
 induction n generalizing s0 c1 i2 with
 | zero=>rfl
 | succ n ih=>rw [Z9];simp only [<-ih];kernel_rfl
noncomputable def JI {R:Type} (lf:Nat) (s0:By) (c1:Int) (k0:Int->Option R):Option R:=vl (A2 ((s0.length:Int)-1)) λn'1=>Z9 lf lf s0 c1 n'1 (λn'2=>k0 n'2) (λ_=>k0 (-1))
theorem Ai7 (d:Nat) (s0 c1):evC (Cq lf) (d+1) σ yh 142 [pS s0,p8 c1] [] s=JI lf s0 c1 (λr0=>some (pI r0,[],s)):=by
 refine (evE (fn:=Tryz.f142) (by kernel_rfl)).trans ?_
 generalize evC (Cq lf) d=cl
 unfold JI;exact (Eq.trans (by kernel_rfl) (A8 λn'1=>((JJ lf cl yh s (G8 0 (I4 (Cq lf) cl yh (cd [1,1] LY) (H4 (Cq lf) Tryz.f142))) lf s0 c1 n'1).trans (by kernel_rfl))))
noncomputable def II (lf:Nat):Cfg:=B8 lf [97] (A4 []) [(142,LQ)] (A4 [(1,[4]),(0,[0,0])]) [142] (A4 []) (some [4]) [] [] []
noncomputable def Ac0 {R:Type} (lf:Nat) (s0:By) (c1:Int) (k0:Int->Option R):Option R:=cond (A1 s0.length) (cond (inR c1 256) (k0 (G4 (u8n c1) s0)) none) none
theorem A10 (d:Nat) (s0 c1):evC (II lf) (d+1) σ yh 97 [pS s0,p8 c1] [] s=Ac0 lf s0 c1 (λr0=>some (pI r0,[],s)):=by
 refine (evE (fn:=Tryz.f97) (by kernel_rfl)).trans ?_
 generalize evC (II lf) d=cl
 unfold Ac0;kernel_rfl
end
theorem Bz (c:UInt8):-1<=C3 c/\C3 c<=35:=by
 unfold C3 Ic
 grind
theorem Hr (k b:Int):1<=I5 k b/\I5 k b<=26:=by unfold I5;omega
theorem Af {x w:Int} (h0:0<=x) (h1:x<=35) (w0:0<=w) (w1:w<=1099511627776):0<=x*w/\x*w<=38482906972160:=by
 refine ⟨Int.mul_nonneg h0 w0,?_⟩
 have:=Int.mul_le_mul h1 w1 w0 (show (0:Int)<=35 by omega)
 omega
theorem Ob (b:Int):∀ (s:By) (i w k:Int),0<=i->0<=w->w<=1099511627776->(O5 b s i w k).1=0->i<=(O5 b s i w k).2.2/\(O5 b s i w k).2.2<=1099511627776/\(O5 b s i w k).2.1.length<s.length
 | [],i,w,k,_,_,_,h=>by simp [O5] at h
 | c::r,i,w,k,hi,hw,hw1,h=>by
  have hv:=Bz c
  have ht:=Hr k b
  unfold O5 at h ⊢
  split at h
  ·simp at h
  ·rename_i h1
   rw [if_neg h1]
   have hm:=Af (by omega) hv.2 hw hw1
   split at h
   ·simp at h
   ·rename_i h2
    rw [if_neg h2]
    split at h
    ·grind
    ·rename_i h3
     rw [if_neg h3]
     split at h
     ·omega
     ·rename_i h4
      rw [if_neg h4]
      obtain ⟨q1,q2,q3⟩:=Ob b r (i+C3 c*w) (w*(36-I5 k b)) (k+36) (by omega) (Int.mul_nonneg hw (by omega)) (by omega) h
      grind
theorem Ah2 (n2:Int) (b:Int) (st z:Bool) (l:LL) (hb0:0<=b) (hb1:b<1000000):∀ (s:By) (n:Nat) (i w k:Int),s.length<n->s.length<=1000000000->0<=i->i<=1099511627776->0<=w->w<=1099511627776->0<=k->k+36*s.length<=100000000000->
  ∃ k',∀ (R:Type) (k0:Int->By->Int->Int->Int->Bool->Bool->LL->Int->Option R),Bj LF n w s n2 i b st z l k k0=k0 (O5 b s i w k).1 (O5 b s i w k).2.1 n2 (O5 b s i w k).2.2 b st z l k':=by
 intro s
 induction s with
 | nil=>
  intro n i w k hn hs hi hi1 hw hw1 hk hk1
  obtain ⟨n,rfl⟩:∃ m,n=m+1:=⟨n-1,by omega⟩
  refine ⟨k,λR k0=>?_⟩
  rw [Bj]
  rfl
 | cons c r ih=>
  intro n i w k hn hs hi hi1 hw hw1 hk hk1
  obtain ⟨n,rfl⟩:∃ m,n=m+1:=⟨n-1,by omega⟩
  rw [List.length_cons] at hn hs hk1
  have hv:=Bz c
  have ht:=Hr k b
  have hu:u8n (bAt (c::r) 0)=c:=by unfold u8n bAt;simp
  have hin:inR (bAt (c::r) 0) 256=true:=by rw [Ip];have:=c.toNat_lt;exact K5 (by omega) (by simp;omega)
  have hcut:cut (c::r) 1 ((c::r).length:Int)=r:=by
   have:=Nx (c::r) 1 (c::r).length
   grind
  have hne:((c::r)==([]:By))=false:=rfl
  have start:∀ (R:Type) (k0:Int->By->Int->Int->Int->Bool->Bool->LL->Int->Option R),Bj LF (n+1) w (c::r) n2 i b st z l k k0 =
    cond (ltI (C3 c) 0) (k0 4 (c::r) n2 i b st z l k)
     (vl (A2 (i+(A2 (C3 c*w)))) λn'5=>cond (ltI 1099511627776 n'5) (k0 19 r n2 n'5 b st z l k)
      (cond (ltI (C3 c) (I5 k b)) (k0 0 r n2 n'5 b st z l (Int.add k 36))
       (vl (A2 (36-(I5 k b))) λn'6=>cond (ltI 1099511627776 (A2 (w*n'6))) (k0 19 r n2 n'5 b st z l (Int.add k 36)) (Bj LF n (A2 (w*n'6)) r n2 n'5 b st z l (Int.add k 36) k0)))):=by
   intro R k0
   rw [Bj]
   rw [hne,hin,K5 (by omega) (by rw [List.length_cons];omega),V2 (by omega) (by rw [List.length_cons];omega) (by omega),hcut,hu,L6,L6]
   rfl
  unfold O5
  by_cases h1:C3 c<0
  ·rw [if_pos h1]
   refine ⟨k,λR k0=>?_⟩
   rw [start,C6 h1]
   rfl
  ·rw [if_neg h1]
   have hm:=Af (by omega) hv.2 hw hw1
   have e1:A2 (C3 c*w)=C3 c*w:=A5
   have e2:A2 (i+C3 c*w)=i+C3 c*w:=A5
   by_cases h2:1099511627776<i+C3 c*w
   ·rw [if_pos h2]
    refine ⟨k,λR k0=>?_⟩
    rw [start,A7,e1,e2]
    simp only [vl,cond_false]
    rw [C6 h2]
    rfl
   ·rw [if_neg h2]
    by_cases h3:C3 c<I5 k b
    ·rw [if_pos h3]
     refine ⟨Int.add k 36,λR k0=>?_⟩
     rw [start,A7,e1,e2]
     simp only [vl,cond_false]
     rw [A7,C6 h3]
     rfl
    ·rw [if_neg h3]
     have e3:A2 (36-I5 k b)=36-I5 k b:=A5
     have hm2:=Af (x:=36-I5 k b) (by omega) (by omega) hw hw1
     rw [Int.mul_comm] at hm2
     have e4:A2 (w*(36-I5 k b))=w*(36-I5 k b):=A5
     by_cases h4:1099511627776<w*(36-I5 k b)
     ·rw [if_pos h4]
      refine ⟨Int.add k 36,λR k0=>?_⟩
      rw [start,A7,e1,e2]
      simp only [vl,cond_false]
      rw [A7,A7,e3,e4,C6 h4]
      rfl
     ·rw [if_neg h4]
      obtain ⟨k',e⟩:=ih n (i+C3 c*w) (w*(36-I5 k b)) (k+36) (by omega) (by omega) (by omega) (by omega) (by omega) (by omega) (by omega) (by omega)
      refine ⟨k',λR k0=>?_⟩
      rw [start,A7,e1,e2]
      simp only [vl,cond_false]
      rw [A7,A7,e3,e4,A7]
      exact e R k0
theorem Ah3 (rest:By) (n i b:Int) (st z:Bool) (l:LL) (h0:A1 rest.length=true) (h1:ltN b 1000000=true) (h2:ltN i 1099511627777=true) :
  ∃ k',∀ (R:Type) (k0:Int->By->Int->Int->Int->Bool->Bool->LL->Int->Option R),Bw1 LF rest n i b st z l k0=k0 (Zd b rest i) (Ze b rest i) n (Ms b rest i) b st z l k':=by
 have hs:=O0 h0
 obtain ⟨b0,b1⟩:=H7.1 h1
 obtain ⟨i0,i1⟩:=H7.1 h2
 have hLF:=E5
 obtain ⟨k',e⟩:=Ah2 n b st z l b0 (by omega) rest LF i 1 0 (by omega) (by omega) i0 (by omega) (by omega) (by omega) (by omega) (by omega)
 exact ⟨k',λR k0=>e R _⟩
theorem UG {R:Type} {k0:Int->By->Int->Int->Int->Bool->Bool->LL->Option R} (rest:By) (n i b:Int) (st z:Bool) (l:LL) (h0:A1 rest.length=true) (h1:ltN b 1000000=true) (h2:ltN i 1099511627777=true) (h3:ltN n 1152921504606846976=true) (h4:Nat.ble l.length 100000=true) :
  Ab0 LF rest n i b st z l k0=k0 (D0 ⟨rest,n,i,b,st,l⟩).1 (D0 ⟨rest,n,i,b,st,l⟩).2.rest (D0 ⟨rest,n,i,b,st,l⟩).2.n (D0 ⟨rest,n,i,b,st,l⟩).2.i (D0 ⟨rest,n,i,b,st,l⟩).2.b (D0 ⟨rest,n,i,b,st,l⟩).2.st z (D0 ⟨rest,n,i,b,st,l⟩).2.l:=by
 obtain ⟨i0,i1⟩:=H7.1 h2
 obtain ⟨n0,n1⟩:=H7.1 h3
 have hl:=Nat.le_of_ble_eq_true h4
 unfold Ab0 D0
 rw [h0,h1,h2]
 simp only [cond_true]
 by_cases he:Zd b rest i=0
 ·rw [if_pos he,he]
  obtain ⟨q1,q2,q3⟩:=Ob b rest i 1 0 i0 (by omega) (by omega) he
  have q1':i<=Ms b rest i:=q1
  have q2':Ms b rest i<=1099511627776:=q2
  have e1:A2 ((l.length:Int)+1)=(l.length:Int)+1:=A5
  simp only [vl]
  rw [e1]
  generalize Ms b rest i=x at *
  have hx0:0<=x:=by omega
  obtain ⟨X,rfl⟩:=Int.eq_ofNat_of_zero_le hx0
  have e2:A2 ((X:Int)-i)=(X:Int)-i:=A5
  have ec:((l.length:Int)+1)=((l.length+1:Nat):Int):=rfl
  have ed:Int.tdiv (X:Int) ((l.length+1:Nat):Int)=((X / (l.length+1):Nat):Int):=K3 _ _
  have em:Int.tmod (X:Int) ((l.length+1:Nat):Int)=((X % (l.length+1):Nat):Int):=Gm _ _
  have hd:=Nat.div_le_self X (l.length+1)
  have hm:=Nat.mod_lt X (show 0<l.length+1 by omega)
  rw [e2,ec,ed,em]
  generalize hA:X / (l.length+1)=A at *
  generalize hB:X % (l.length+1)=B at *
  have e3:A2 (A:Int)=(A:Int):=A5
  have e4:A2 (n+(A:Int))=n+(A:Int):=A5
  have e5:A2 ((B:Int)+1)=(B:Int)+1:=A5
  have c0:((0:Int) != 0)=false:=rfl
  have c1:((((l.length+1:Nat):Int)) != 0)=true:=by rw [bne_iff_ne];omega
  rw [e3,e4,e5,c0,L6,L6,A9,c1]
  simp only [cond_true,cond_false]
  cases hp:ptI (n+(A:Int)) with
  | false=>simp
  | true=>
   simp only [Bool.not_true,cond_false,if_true]
   by_cases h256:(256:Int)<((l.length+1:Nat):Int)
   ·rw [if_pos h256,C6 h256]
    rfl
   ·rw [if_neg h256,A7,cond_false,Ad1 (by omega) (by show (B:Int)<((l.length+1:Nat):Int);omega),h4]
    rfl
 ·rw [if_neg he,show (Zd b rest i != 0)=true from bne_iff_ne.2 he]
  rfl
theorem NT (c:UInt8):∀ l:By,-1<=G4 c l
 | []=>by simp [G4]
 | b::r=>by
  have:=NT c r
  unfold G4
  omega
theorem Yu (c b:UInt8):∀ l:By,G4 c (l++[b])=if b=c then (l.length:Int) else G4 c l
 | []=>by
  by_cases h:b=c<;>simp [G4,h]
 | a::l=>by
  have ih:=Yu c b l
  rw [List.cons_append,G4,ih]
  by_cases h:b=c
  ·grind
  ·rw [if_neg h,if_neg h]
   rfl
theorem NO {R:Type} {k0:Int->Option R} {k1:Unit->Option R} (s:By) (c:UInt8) (hs:s.length<=1000000000):∀ (m n:Nat),m<=s.length->m<n->
  Z9 LF n s (c.toNat:Int) ((m:Int)-1) k0 k1=if G4 c (s.take m)<0 then k1 () else k0 (G4 c (s.take m)):=by
 intro m
 induction m with
 | zero=>
  intro n hm hn
  obtain ⟨n,rfl⟩:∃ m,n=m+1:=⟨n-1,by omega⟩
  rw [Z9]
  rw [A9]
  rfl
 | succ m ih=>
  intro n hm hn
  obtain ⟨n,rfl⟩:∃ m,n=m+1:=⟨n-1,by omega⟩
  rw [Z9]
  have e0:(((m+1:Nat):Int)-1)=(m:Int):=by omega
  have e1:A2 ((m:Int)-1)=(m:Int)-1:=A5
  have ht:s.take (m+1)=s.take m++[s.getD m 0]:=by
   rw [List.take_add_one,List.getD_eq_getElem?_getD,List.getElem?_eq_getElem (by omega)]
   rfl
  rw [e0,e1,A7,L5,M6,ht,Yu]
  simp only [Bool.not_false,cond_true]
  by_cases h:s.getD m 0=c
  ·rw [if_pos h,h,beq_self_eq_true,cond_true,List.length_take,Nat.min_eq_left (by omega),G7]
  ·have hne:(((s.getD m 0).toNat:Int)==(c.toNat:Int))=false:=by
    rw [beq_eq_false_iff_ne]
    intro he
    exact h (UInt8.toNat.inj (Int.ofNat.inj he))
   rw [if_neg h,hne,cond_false]
   exact ih n (by omega) (by omega)
theorem A87 {c:Int} (h:inR c 256=true):c=((u8n c).toNat:Int):=by
 simp only [inR,Bool.and_eq_true,decide_eq_true_eq] at h
 unfold u8n
 simp
 omega
theorem NP {R:Type} {k0:Int->Option R} (s:By) (c:Int) (h0:A1 s.length=true) (h1:inR c 256=true):JI LF s c k0=k0 (G4 (u8n c) s):=by
 have hs:=O0 h0
 have hLF:=E5
 have hc:=A87 h1
 generalize u8n c=d at *
 subst hc
 unfold JI
 have e1:A2 ((s.length:Int)-1)=(s.length:Int)-1:=A5
 simp only [vl]
 rw [e1]
 refine Eq.trans (NO s d (by omega) s.length LF (by omega) (by omega)) ?_
 rw [List.take_length]
 have:=NT d s
 by_cases h:G4 d s<0
 ·rw [if_pos h,show G4 d s = -1 by omega]
 ·rw [if_neg h]
theorem UW {R:Type} {k0:Int->Option R} (s:By) (c:Int) (h0:A1 s.length=true) (h1:inR c 256=true):Ac0 LF s c k0=k0 (G4 (u8n c) s):=by
 unfold Ac0
 grind
theorem Jf:∀ s:By,(45∈s->G4 45 s=(E3 s:Int))/\(45∉s->G4 45 s = -1/\E3 s=0)
 | []=>⟨λh=>(by cases h),λ_=>⟨rfl,rfl⟩⟩
 | b::r=>by
  obtain ⟨h1,h2⟩:=Jf r
  unfold G4 E3
  grind
theorem PY {c:UInt8} (h:Ic c=none):C3 c = -1:=by unfold C3;rw [h]
theorem PZ {c:UInt8} {x:Nat} (h:Ic c=some x):C3 c=x:=by unfold C3;rw [h]
theorem Oc (b:Nat):∀ (s:By) (i w k:Nat),O5 (b:Int) s (i:Int) (w:Int) ((36*k:Nat):Int)=((((C2 b s i w k).2.2:Nat):Int),(O5 (b:Int) s (i:Int) (w:Int) ((36*k:Nat):Int)).2)/\
  ((C2 b s i w k).2.2=0->(O5 (b:Int) s (i:Int) (w:Int) ((36*k:Nat):Int)).2=((C2 b s i w k).2.1,((C2 b s i w k).1:Int)))
 | [],i,w,k=>⟨rfl,λh=>by simp [C2] at h⟩
 | c::r,i,w,k=>by
  unfold O5 C2
  cases hv:Ic c with
  | none=>
   rw [PY hv,Ge]
   grind
  | some x=>
   rw [PZ hv,G7,Qe]
   have e1:(i:Int)+(x:Int)*(w:Int)=((i+x*w:Nat):Int):=by push_cast;rfl
   have ht:=Q1 k b
   have e2:(w:Int)*(36-(thr k b:Int))=((w*(36-thr k b):Nat):Int):=by grind
   have e3:((36*k:Nat):Int)+36=((36*(k+1):Nat):Int):=by omega
   have hsat:Fj=1099511627776:=by decide
   rw [e1,e2,e3,hsat]
   simp only
   generalize i+x*w=I
   generalize w*(36-thr k b)=W
   by_cases h2:1099511627776<I
   ·grind
   ·rw [G7,if_neg h2]
    by_cases h3:x<thr k b
    ·grind
    ·rw [G7,if_neg h3]
     by_cases h4:1099511627776<W
     ·grind
     ·rw [G7,if_neg h4]
      exact Oc b r I W (k+1)
end
section
open Go Go.Op
set_option maxRecDepth 100000
theorem Ak8 {R:Type} {k0:Bool->Option R} (s:By):Bj7 LF s k0=k0 false:=by unfold Bj7;simp
theorem Ak7 {R:Type} {k0:Bool->Option R} (n:Int):Bj5 LF n k0=k0 false:=by unfold Bj5;simp
theorem Ax2 {R:Type} {k0:Int->Option R} (a b:By):ccs LF a b k0=k0 (T9 a b):=by
 unfold ccs T9
 cases h:bytesLess a b with
 | true=>rfl
 | false=>
  have e:(not (false || a==b))=bytesLess b a:=by
   rw [S8] at h ⊢
   have h:=of_decide_eq_false h
   by_cases hab:a=b
   ·subst hab;simp
   ·have:b<a:=by
     apply Decidable.byContradiction
     intro g
     exact hab (List.le_antisymm (List.not_lt.1 g) (List.not_lt.1 h))
    simp [hab,this]
  rw [e]
  cases bytesLess b a<;>rfl
theorem Ax1 {R:Type} {k0:Int->Option R} (a b:Int):cci LF a b k0=k0 (IZ a b):=by
 unfold cci IZ
 cases ltI a b<;>cases ltI b a<;>rfl
theorem Ac:∀ s:By,((46:UInt8)∉s/\G4 46 s = -1)\/∃ p q,s=p++46::q/\(46:UInt8)∉q/\G4 46 s=(p.length:Int)
 | []=>.inl ⟨by simp,rfl⟩
 | b::r=>by
  rcases Ac r with ⟨h1,h2⟩ | ⟨p,q,h1,h2,h3⟩
  ·by_cases hb:b=46
   ·exact .inr ⟨[],r,by rw [hb];rfl,h1,by unfold G4;rw [h2,if_pos (by decide),if_pos hb];rfl⟩
   ·exact .inl ⟨by simp [h1];exact λe=>hb e.symm,by unfold G4;rw [h2,if_pos (by decide),if_neg hb]⟩
  ·refine .inr ⟨b::p,q,by rw [h1];rfl,h2,?_⟩
   unfold G4
   rw [h3,G7]
   simp
theorem Zu {s:By} (h:(46:UInt8)∉s):rl s=[s]:=by
 unfold rl pcs
 rw [Bv 46 s [] h]
 rfl
theorem Zv (p:By) {q:By} (h:(46:UInt8)∉q):rl (p++46::q)=q::rl p:=by
 unfold rl pcs
 rw [Bu,Bv 46 q [] h,List.reverse_append]
 rfl
theorem Ae3 (s:By):rl s≠[]:=by
 unfold rl
 simpa using Jn 46 s
theorem V7 {a b:By} (h:T9 a b=0):a=b:=by
 unfold T9 at h
 cases h1:bytesLess a b with
 | true=>rw [h1] at h;cases h
 | false=>
  cases h2:bytesLess b a with
  | true=>rw [h1,h2] at h;cases h
  | false=>
   rw [S8] at h1 h2
   exact List.le_antisymm (List.not_lt.1 (of_decide_eq_false h2)) (List.not_lt.1 (of_decide_eq_false h1))
theorem BT (a:By):bytesLess a a=false:=by rw [S8];simp
def Rx (x y:List By):Int:=cond (Za x y) (-1) (cond (Za y x) 1 0)
theorem N0 {a b:By} {x y:List By} (h:T9 a b≠0):Rx (a::x) (b::y)=T9 a b:=by
 have hne:a≠b:=λe=>h (by rw [e];unfold T9;rw [BT];rfl)
 have e1:(a==b)=false:=by simpa using hne
 have e2:(b==a)=false:=by simpa using Ne.symm hne
 unfold Rx T9
 simp only [Za,e1,e2,Bool.false_and,Bool.or_false]
theorem M9 {a:By} {x y:List By}:Rx (a::x) (a::y)=Rx x y:=by
 unfold Rx
 simp only [Za,BT,beq_self_eq_true,Bool.true_and,Bool.false_or]
theorem DU {R:Type} {k0:Int->Option R}:∀ (n:Nat) (a b:By),a.length<=1000000000->b.length<=1000000000->a.length<n->
  Kr LF n a b k0 (λi k=>k0 (IZ (if ((0:Int)<i) then (0:Int) else i) (if ((0:Int)<k) then (0:Int) else k)))=k0 (M4 a b)
 | 0,a,b,_,_,h=>by omega
 | n+1,a,b,ha,hb,h=>by
  have e46:u8n (46:Int)=46:=rfl
  have hcmp:∀ x y:By,M4 x y=Rx (rl x) (rl y):=λx y=>rfl
  rw [Kr]
  simp only [vl,e46]
  rw [K7 ha,K7 hb,cond_true,cond_true,hcmp]
  rcases Ac a with ⟨a1,a2⟩ | ⟨p,q,rfl,a1,a2⟩<;>rcases Ac b with ⟨b1,b2⟩ | ⟨p',q',rfl,b1,b2⟩<;>rw [a2,b2]
  ·have e1:cut a (A2 (-1+1)) (a.length:Int)=a:=by rw [A5,N1];rfl
   have e2:cut b (A2 (-1+1)) (b.length:Int)=b:=by rw [A5,N1];rfl
   rw [e1,e2,Q5 (by rw [A5];omega) (by rw [A5];omega),Q5 (by rw [A5];omega) (by rw [A5];omega),cond_true,cond_true,Zu a1,Zu b1]
   by_cases hc:T9 a b=0
   ·rw [show (T9 a b != 0)=false by rw [hc];rfl,cond_false,A9,cond_true,V7 hc,M9];rfl
   ·rw [show (T9 a b != 0)=true by simpa using hc,cond_true,N0 hc]
  ·have e1:cut a (A2 (-1+1)) (a.length:Int)=a:=by rw [A5,N1];rfl
   have e2:cut (p'++46::q') (A2 ((p'.length:Int)+1)) ((p'++46::q').length:Int)=q':=by
    simp only [List.length_append,List.length_cons] at hb
    rw [A5,N1,show (((p'.length:Int)+1).toNat)=p'.length+1 by omega]
    simp
   have hl:(p'++46::q').length=p'.length+(q'.length+1):=by simp
   rw [e1,e2,Q5 (by rw [A5];omega) (by rw [A5];omega),Q5 (by rw [A5];omega) (by rw [A5];omega),cond_true,cond_true,Zu a1,Zv p' b1]
   by_cases hc:T9 a q'=0
   ·rw [show (T9 a q' != 0)=false by rw [hc];rfl,cond_false,A9,cond_true,V7 hc,M9,G7]
    have e3:(if (0:Int)<(p'.length:Int) then (0:Int) else (p'.length:Int))=0:=by split<;>omega
    rw [e3]
    have:Rx [] (rl p') = -1:=by
     unfold Rx
     cases hr:rl p' with
     | nil=>exact absurd hr (Ae3 p')
     | cons x r=>rfl
    rw [this];rfl
   ·rw [show (T9 a q' != 0)=true by simpa using hc,cond_true,N0 hc]
  ·have e1:cut (p++46::q) (A2 ((p.length:Int)+1)) ((p++46::q).length:Int)=q:=by
    simp only [List.length_append,List.length_cons] at ha
    rw [A5,N1,show (((p.length:Int)+1).toNat)=p.length+1 by omega]
    simp
   have e2:cut b (A2 (-1+1)) (b.length:Int)=b:=by rw [A5,N1];rfl
   have hl:(p++46::q).length=p.length+(q.length+1):=by simp
   rw [e1,e2,Q5 (by rw [A5];omega) (by rw [A5];omega),Q5 (by rw [A5];omega) (by rw [A5];omega),cond_true,cond_true,Zu b1,Zv p a1]
   by_cases hc:T9 q b=0
   ·rw [show (T9 q b != 0)=false by rw [hc];rfl,cond_false,A7,cond_false,A9,cond_true,V7 hc,M9]
    have e3:(if (0:Int)<(p.length:Int) then (0:Int) else (p.length:Int))=0:=by split<;>omega
    rw [e3,G7]
    have:Rx (rl p) []=1:=by
     unfold Rx
     cases hr:rl p with
     | nil=>exact absurd hr (Ae3 p)
     | cons x r=>rfl
    rw [this];rfl
   ·rw [show (T9 q b != 0)=true by simpa using hc,cond_true,N0 hc]
  ·have e1:cut (p++46::q) (A2 ((p.length:Int)+1)) ((p++46::q).length:Int)=q:=by
    simp only [List.length_append,List.length_cons] at ha
    rw [A5,N1,show (((p.length:Int)+1).toNat)=p.length+1 by omega]
    simp
   have e2:cut (p'++46::q') (A2 ((p'.length:Int)+1)) ((p'++46::q').length:Int)=q':=by
    simp only [List.length_append,List.length_cons] at hb
    rw [A5,N1,show (((p'.length:Int)+1).toNat)=p'.length+1 by omega]
    simp
   have hl:(p++46::q).length=p.length+(q.length+1):=by simp
   have hl':(p'++46::q').length=p'.length+(q'.length+1):=by simp
   rw [e1,e2,Q5 (by rw [A5];omega) (by rw [A5];omega),Q5 (by rw [A5];omega) (by rw [A5];omega),cond_true,cond_true,Zv p a1,Zv p' b1]
   by_cases hc:T9 q q'=0
   ·rw [show (T9 q q' != 0)=false by rw [hc];rfl,cond_false,A7,cond_false,A7,cond_false,Q5,cond_true,Q5,cond_true,V7 hc,M9,Aq,Aq,Int.toNat_natCast,Int.toNat_natCast,List.take_left,List.take_left,DU n p p' (by omega) (by omega) (by omega)]
    rfl
   ·rw [show (T9 q q' != 0)=true by simpa using hc,cond_true,N0 hc]
theorem Al5 {R:Type} {k0:Int->Option R} (a b:By) (h0:A1 a.length=true) (h1:A1 b.length=true):Bk6 LF a b k0=k0 (M4 a b):=by
 have hLF:=E5
 have ha:=O0 h0
 unfold Bk6
 exact DU LF a b ha (O0 h1) (by omega)
theorem Bl8 (h:By) (b:Bool) (e:Int) (h0:A1 h.length=true):∃ r H,Bl6 LF h b e (λr0 s1 b2 n3=>rv (.s (.bool r0)) [.box [.s (.str s1),.s (.bool b2),.s (.int .i64 n3)]])=rv r H/\r.stab [] H = .s (.bool (KB h e)):=by
 unfold Bl6 KB
 rw [h0]
 cases C5 h with
 | false=>exact ⟨_,_,rfl,rfl⟩
 | true=>cases ltI e 0<;>exact ⟨_,_,rfl,rfl⟩
theorem Ao4 {R:Type} {k0:Bool->Option R} (n m:Int):By5 LF n m k0=k0 (not (ltI m n)):=rfl
theorem Bi7 (h:By) (b:Bool) (h0:A1 h.length=true):∃ r H,Bi5 LF h b (λr0 s1 b2=>rv (.s (.bool r0)) [.box [.s (.str s1),.s (.bool b2)]])=rv r H/\r.stab [] H = .s (.bool (not (C5 h))):=by
 unfold Bi5
 rw [h0]
 exact ⟨_,_,rfl,rfl⟩
theorem Bx6 (h:By) (b:Bool) (s:By) (h0:A1 h.length=true) (h1:A1 s.length=true):∃ r H,lgf LF h b s (λr0 s1 b2=>rv (.s (.int .i64 r0)) [.box [.s (.str s1),.s (.bool b2)]])=rv r H/\r.stab [] H = .s (.int .i64 (M4 h s)):=by
 unfold lgf
 rw [h0,h1]
 exact ⟨_,_,rfl,rfl⟩
theorem Bz0 (h:By) (b:Bool) (e:Int) (s:By) (h0:A1 h.length=true) (h1:A1 s.length=true):∃ r H,tff LF h b e s (λr0 s1 b2 n3=>rv (.s (.int .i64 r0)) [.box [.s (.str s1),.s (.bool b2),.s (.int .i64 n3)]])=rv r H/\r.stab [] H = .s (.int .i64 (M4 h s)):=by
 unfold tff
 rw [h0,h1]
 exact ⟨_,_,rfl,rfl⟩
theorem Aj8 {R:Type} (z t:Bool) (l:List Ent) (hs:(D6 l).all smE=true) (k0:Int->Option R) (k1:Unit->Option R) (hl:l.length<=1000000000):∀ (r i m:Nat),i+r=l.length->r<m->
  Hh LF m z t (D6 l) (l.length:Int) (i:Int) k0 k1=match (l.drop i).findIdx? (λe=>!C5 e.1) with | some j=>k0 ((i+j:Nat):Int) | none=>k1 ():=by
 intro r
 induction r with
 | zero=>
  intro i m hi hm
  obtain ⟨m,rfl⟩:∃ q,m=q+1:=⟨m-1,by omega⟩
  rw [Hh,A7,List.drop_of_length_le (by omega)]
  rfl
 | succ r ih=>
  intro i m hi hm
  obtain ⟨m,rfl⟩:∃ q,m=q+1:=⟨m-1,by omega⟩
  have e1:A2 ((i:Int)+1)=((i+1:Nat):Int):=by rw [A5];rfl
  have hd:l.drop i=l.getD i noE::l.drop (i+1):=by
   rw [List.getD_eq_getElem?_getD,List.getElem?_eq_getElem (by omega),Option.getD_some,List.getElem_cons_drop]
  rw [Hh,A9,K5 (by omega) (by rw [D4];omega),Int.toNat_natCast,Oy (by omega),Jb (by omega),Wc hs (by omega),e1,hd,List.findIdx?_cons]
  simp only [cond_true]
  cases C5 (l.getD i noE).1 with
  | false=>simp
  | true=>
   rw [Bool.not_true,cond_false,ih (i+1) m (by omega) (by omega)]
   cases (l.drop (i+1)).findIdx? (λe=>!C5 e.1) with
   | none=>rfl
   | some j=>simp [Nat.add_assoc,Nat.add_comm 1 j]
theorem Aj9 {R:Type} {k0:Int->Option R} (z t:Bool) (l:LL) (h0:l.all D1=true) (h1:l.all smE=true) (h2:A1 l.length=true):Bi3 LF z t l k0=k0 (ixE (l.map A6)):=by
 have hLF:=E5
 have hl:=O0 h2
 rw [Ec h0] at h1 hl ⊢
 generalize l.map A6=q at h1 hl ⊢
 rw [D4] at hl
 unfold Bi3 ixE
 rw [D4,Kj]
 refine (Aj8 z t q h1 _ _ hl q.length 0 LF (by omega) (by omega)).trans ?_
 rw [List.drop_zero]
 cases q.findIdx? (λe=>!C5 e.1) with
 | none=>rfl
 | some j=>
  show k0 ((0+j:Nat):Int)=k0 (j:Int)
  rw [Nat.zero_add]
theorem Bx3 (l:List Ent):(!ltI (ixE l) 0)=RN l:=by
 unfold ixE RN
 cases h:l.findIdx? (λe=>!C5 e.1) with
 | none=>
  rw [List.findIdx?_eq_none_iff] at h
  show (!ltI (-1) 0)=_
  rw [A9]
  exact (List.any_eq_false.2 λx hx=>by rw [h x hx];simp).symm
 | some j=>
  show (!ltI (j:Int) 0)=_
  rw [A7]
  exact (List.any_eq_true.2 (by
   obtain ⟨hj,hp,_⟩:=List.findIdx?_eq_some_iff_getElem.1 h
   exact ⟨_,List.getElem_mem hj,hp⟩)).symm
theorem Aj5 {R:Type} {k0:Bool->Option R} (z t:Bool) (l:LL) (h0:l.all D1=true) (h1:l.all smE=true) (h2:A1 l.length=true):Bi0 LF z t l k0=k0 (RN (l.map A6)):=by
 unfold Bi0
 rw [h0,h1,h2,<-Bx3]
 rfl
theorem JS {z:Bool} {l:LL} (h:N7 z l=true) (hz:z=true):l=[]:=by
 subst hz
 simpa [N7] using h
theorem Aj3 {R:Type} {k0:Bool->LL->Option R} (z t:Bool) (l:LL) (h0:A1 l.length=true) (h1:N7 z l=true):Bh7 LF z t l k0=k0 z l:=by
 unfold Bh7
 cases z with
 | true=>rw [JS h1 rfl];rfl
 | false=>
  have:=O0 h0
  rw [G2 (by omega)]
  rfl
theorem Ap5 {R:Type} {k0:Bool->LL->Option R} (z t:Bool) (l:LL) (h0:A1 l.length=true) (h1:N7 z l=true):Bq0 LF z t l k0=k0 z l:=by
 unfold Bq0
 cases z with
 | true=>rw [JS h1 rfl];rfl
 | false=>
  have:=O0 h0
  rw [G2 (by omega)]
  rfl
theorem B47 {a b:Nat} (h:a+b<=4000000000):A2 (Ao5 .u64 (Aq0 (A2 ((a:Int)+(b:Int)))) 1)=(((a+b) / 2:Nat):Int):=by
 have e1:A2 ((a:Int)+(b:Int))=((a+b:Nat):Int):=by rw [A5];omega
 have e2:Aq0 ((a+b:Nat):Int)=((a+b:Nat):Int):=Af4 (by omega) (by omega)
 have e3:Ao5 .u64 ((a+b:Nat):Int) 1=(((a+b) / 2:Nat):Int):=Bp4 .u64 (a+b) 1 (by decide)
 rw [e1,e2,e3,A5]
theorem DL {R:Type} (z t:Bool) (l:List Ent) (s:By) (hs:(D6 l).all smE=true) (h1:A1 s.length=true) (n:Int) (k0:Bool->Bool->LL->By->Int->Int->Option R) (hl:l.length<=1000000000):∀ (r i j m:Nat),j-i<=r->i<=j->j<=l.length->r<m->
  Eh LF m z t (D6 l) s n (i:Int) (j:Int) k0=k0 z t (D6 l) s n ((Ft (λi=>M4 ((l.map Prod.fst).getD i []) s) (r+1) i j:Nat):Int):=by
 intro r
 induction r with
 | zero=>
  intro i j m hr hi hj hm
  obtain ⟨m,rfl⟩:∃ q,m=q+1:=⟨m-1,by omega⟩
  rw [Eh,A7]
  unfold Ft
  rw [G7]
  rfl
 | succ r ih=>
  intro i j m hr hi hj hm
  obtain ⟨m,rfl⟩:∃ q,m=q+1:=⟨m-1,by omega⟩
  rw [Eh]
  by_cases hij:i<j
  ·have hh:(i+j) / 2<l.length:=by omega
   rw [A9,Ft,if_pos hij]
   simp only [vl,cond_true]
   rw [B47 (by omega),K5 (by omega) (by rw [D4];omega),Int.toNat_natCast,Oy hh,Jb hh,Wc hs hh,h1,Vp Prod.fst (d:=noE) hh]
   simp only [cond_true]
   have e1:A2 ((((i+j) / 2:Nat):Int)+1)=(((i+j) / 2+1:Nat):Int):=by rw [A5];rfl
   by_cases hc:M4 (l.getD ((i+j) / 2) noE).1 s<0
   ·rw [C6 hc,cond_true,if_pos hc,e1,ih _ _ m (by omega) (by omega) hj (by omega)]
   ·rw [E9 (by omega),cond_false,if_neg hc,ih _ _ m (by omega) (by omega) (by omega) (by omega)]
  ·rw [A7,Ft,if_neg hij]
   rfl
theorem Aj2 {R:Type} {k0:Int->Bool->Option R} (z t:Bool) (l:LL) (s:By) (h0:l.all D1=true) (h1:l.all smE=true) (h2:A1 l.length=true) (h3:A1 s.length=true) :
  Bh5 LF z t l s k0=k0 (bsI ((l.map A6).map Prod.fst) s:Int) (bsB ((l.map A6).map Prod.fst) s):=by
 have hLF:=E5
 have hl:=O0 h2
 rw [Ec h0] at h1 hl ⊢
 generalize l.map A6=q at h1 hl ⊢
 rw [D4] at hl
 unfold Bh5
 rw [D4,Kj]
 have hlo:=DL (R:=R) z t q s h1 h3 (q.length:Int)
 refine (DL z t q s h1 h3 _ _ hl q.length 0 q.length LF (by omega) (by omega) (by omega) (by omega)).trans ?_
 have hle:=(Ni (λi=>M4 ((q.map Prod.fst).getD i []) s) (q.length+1) 0 q.length (by omega)).2
 have e:bsI (q.map Prod.fst) s=Ft (λi=>M4 ((q.map Prod.fst).getD i []) s) (q.length+1) 0 q.length:=by unfold bsI;rw [List.length_map]
 rw [<-e] at hle ⊢
 unfold bsB
 generalize bsI (q.map Prod.fst) s=i at hle ⊢
 rw [List.length_map]
 by_cases hi:i<q.length
 ·simp only [vl]
  rw [A9,K5 (by omega) (by rw [D4];omega),Int.toNat_natCast,Oy hi,Jb hi,Wc h1 hi,h3,show Nat.blt i q.length=true from U3.2 hi,Vp Prod.fst (d:=noE) hi,CS]
  rfl
 ·rw [A7,show Nat.blt i q.length=false by cases hb:Nat.blt i q.length with | false=>rfl | true=>exact absurd (U3.1 hb) hi]
  rfl
theorem Ap3 {R:Type} (z t:Bool) (l:List O6) (s:By) (hs:(Y1 l).all smE=true) (h1:A1 s.length=true) (n:Int) (k0:Bool->Bool->LL->By->Int->Int->Option R) (hl:l.length<=1000000000):∀ (r i j m:Nat),j-i<=r->i<=j->j<=l.length->r<m->
  Eu LF m z t (Y1 l) s n (i:Int) (j:Int) k0=k0 z t (Y1 l) s n ((Ft (λi=>M4 ((l.map Prod.fst).getD i []) s) (r+1) i j:Nat):Int):=by
 intro r
 induction r with
 | zero=>
  intro i j m hr hi hj hm
  obtain ⟨m,rfl⟩:∃ q,m=q+1:=⟨m-1,by omega⟩
  rw [Eu,A7]
  unfold Ft
  rw [G7]
  rfl
 | succ r ih=>
  intro i j m hr hi hj hm
  obtain ⟨m,rfl⟩:∃ q,m=q+1:=⟨m-1,by omega⟩
  rw [Eu]
  by_cases hij:i<j
  ·have hh:(i+j) / 2<l.length:=by omega
   rw [A9,Ft,if_pos hij]
   simp only [vl,cond_true]
   rw [B47 (by omega),K5 (by omega) (by rw [J3];omega),Int.toNat_natCast,Pa hh,Jc hh,Py hs hh,h1,Vp Prod.fst (d:=noP) hh]
   simp only [cond_true]
   have e1:A2 ((((i+j) / 2:Nat):Int)+1)=(((i+j) / 2+1:Nat):Int):=by rw [A5];rfl
   by_cases hc:M4 (l.getD ((i+j) / 2) noP).1 s<0
   ·rw [C6 hc,cond_true,if_pos hc,e1,ih _ _ m (by omega) (by omega) hj (by omega)]
   ·rw [E9 (by omega),cond_false,if_neg hc,ih _ _ m (by omega) (by omega) (by omega) (by omega)]
  ·rw [A7,Ft,if_neg hij]
   rfl
theorem Ap4 {R:Type} {k0:Int->Bool->Option R} (z t:Bool) (l:LL) (s:By) (h0:l.all F1=true) (h1:l.all smE=true) (h2:A1 l.length=true) (h3:A1 s.length=true) :
  Bp8 LF z t l s k0=k0 (bsI ((l.map B0).map Prod.fst) s:Int) (bsB ((l.map B0).map Prod.fst) s):=by
 have hLF:=E5
 have hl:=O0 h2
 rw [Pf h0] at h1 hl ⊢
 generalize l.map B0=q at h1 hl ⊢
 rw [J3] at hl
 unfold Bp8
 rw [J3,Bl5]
 refine (Ap3 z t q s h1 h3 _ _ hl q.length 0 q.length LF (by omega) (by omega) (by omega) (by omega)).trans ?_
 have hle:=(Ni (λi=>M4 ((q.map Prod.fst).getD i []) s) (q.length+1) 0 q.length (by omega)).2
 have e:bsI (q.map Prod.fst) s=Ft (λi=>M4 ((q.map Prod.fst).getD i []) s) (q.length+1) 0 q.length:=by unfold bsI;rw [List.length_map]
 rw [<-e] at hle ⊢
 unfold bsB
 generalize bsI (q.map Prod.fst) s=i at hle ⊢
 rw [List.length_map]
 by_cases hi:i<q.length
 ·simp only [vl]
  rw [A9,K5 (by omega) (by rw [J3];omega),Int.toNat_natCast,Pa hi,Jc hi,Py h1 hi,h3,show Nat.blt i q.length=true from U3.2 hi,Vp Prod.fst (d:=noP) hi,CS]
  rfl
 ·rw [A7,show Nat.blt i q.length=false by cases hb:Nat.blt i q.length with | false=>rfl | true=>exact absurd (U3.1 hb) hi]
  rfl
theorem A68 {l:List Ent} (h:(D6 l).all smE=true):∀ e∈l,e.1.length<=1000000000:=λe he=>by
 have:=List.all_eq_true.1 h (Uw e) (List.mem_map.2 ⟨e,he,rfl⟩)
 exact O0 this
end
section
open Go Go.Proofs
set_option maxRecDepth 100000
section
variable {σ R : Type} (lf : Nat) (cl : D7) (yh : Yh σ) (s : σ) (k : Out -> St σ -> Option R)
noncomputable abbrev Au9:Code:=D3 Tryz.f26
noncomputable def Md (lf:Nat):Cfg:=B8 lf [26] (A4 [(8,[2,0,0,0])]) [(57,FS),(60,FQ)] (A4 [(12,[2,0]),(9,[4,0]),(11,[2,0]),(10,[4,0,26]),(8,[4,0,12]),(7,[4,0]),(6,[4]),(5,[4]),(4,[2,0]),(3,[0,9]),(2,[2,0]),(1,[0,7]),(0,[0])]) [57] (A4 [(0,[4]),(1,[4,0])]) (some [2,0]) [] [] [] (nt:=[(105,0,63,2)]) (Z:=[(61,Qq)])
noncomputable def Aj {R:Type} (lf n:Nat) (i0:Int) (z1:Bool) (l2:LL) (k0:(List Blk)->Option R) (k1:Bool->LL->Option R):Option R:=match n with | 0=>none | n+1=>cond (ltI i0 (l2.length:Int)) (cond (inR i0 l2.length) (cond (okE Dy l2 (Int.toNat i0) 0) (cond (inR (A2 (i0-1)) l2.length) (cond (okE Dy l2 (Int.toNat (A2 (i0-1))) 0) (vl (gX l2 (Int.toNat (A2 (i0-1))) 0) λs'0=>cond ((gX l2 (Int.toNat i0) 0)==s'0) (k0 [(Blk.arr z1 63 2 l2)]) (Aj lf n (A2 (i0+1)) z1 l2 k0 k1)) none) none) none) none) (k1 z1 l2)
theorem VG (n i0 z1 l2):E6 1 ((Md lf).keep 8) (bd (Md lf) cl yh (cd [1,1,1,1,1,0,1,0,0] Au9)) n ⟨gp [(4,.fl 0),(0,pI i0)] 30,[.arr z1 63 2 l2],s⟩ k =
 Aj lf n i0 z1 l2 (λH0=>k .ret ⟨gp [(2,.s (.nilp)),(0,pI (17:Int))] 32,H0,s⟩) (λz0 l1=>k (.exit 0) ⟨gp [(4,.fl 0)] 31,[.arr z0 63 2 l1],s⟩):=by
 induction n generalizing i0 z1 l2 with
 | zero=>rfl
 | succ n ih=>rw [Aj];simp only [<-ih];kernel_rfl
noncomputable def Ak0 {R:Type} (lf:Nat) (l_z0 l_t1:Bool) (l2:LL) (k0:Int->(List Blk)->Option R) (k1:Bool->LL->(List Blk)->Option R):Option R:=cond (ltI 1000 (l2.length:Int)) (k0 3 []) (cond (List.all l2 D1) (cond (List.all l2 smE) (cond (A1 l2.length) (cond (RN (List.map A6 l2)) (k0 14 []) (cond (A1 l2.length) (cond (N7 l_z0 l2) (cond ((List.all l2 D1)&&((List.all l2 smE)&&(A1 l2.length))) (Aj lf lf 1 l_z0 (D6 (R9 (List.map A6 l2))) (λH'1=>k0 17 H'1) (λz'2 l'3=>k1 z'2 l'3 [])) none) none) none)) none) none) none)
theorem Ac6 (d:Nat) (l_z0 l_t1 l2):evC (Md lf) (d+1) σ yh 26 [.s (.sl l_z0 l_t1 2 l2)] [] s=Ak0 lf l_z0 l_t1 l2 (λr0 H1=>some (.tup [.s (.nilp),pI r0],H1,s)) (λz0 l1 H2=>some (.tup [.ptr 1 0 0,pI (0:Int)],(.arr z0 63 2 l1::.box [.fl 0]::H2),s)):=by
 refine (evE (fn:=Tryz.f26) (by kernel_rfl)).trans ?_
 generalize evC (Md lf) d=cl
 unfold Ak0;exact (Eq.trans (by kernel_rfl) (A0 rfl (A0 (A0 (A0 (A0 rfl (A0 (A0 (A0 ((VG lf cl yh s (G8 0 (I4 (Md lf) cl yh (cd [1,1,1,1,1,1] Au9) (H4 (Md lf) Tryz.f26))) lf 1 l_z0 (D6 (R9 (List.map A6 l2)))).trans (by kernel_rfl)) rfl) rfl) rfl)) rfl) rfl) rfl)))
noncomputable abbrev A18 (l_z0 l_t1:Bool) (l2:LL):Option (PV × List Blk × Unit):=Ak0 LF l_z0 l_t1 l2 (λr0 H1=>some (.tup [.s (.nilp),pI r0],H1,())) (λz0 l1 H2=>some (.tup [.ptr 1 0 0,pI (0:Int)],(.arr z0 63 2 l1::.box [.fl 0]::H2),()))
noncomputable def IP (lf:Nat):Cfg:=B8 lf [73] (A4 []) [] (A4 [(3,[2,0]),(2,[2,0]),(1,[0,8]),(0,[0])]) [] (A4 []) (some [2,0]) [] [] [] (nt:=[(87,0,48,3)])
noncomputable def Ad9 {R:Type} (lf:Nat) (n:Int) (k0:Unit->Option R) (k1:Int->Option R):Option R:=cond (ltI n 1) (k0 ()) (cond (ltI 1000 n) (k0 ()) (k1 n))
theorem A40 (d:Nat) (n):evC (IP lf) (d+1) σ yh 73 [pI n] [] s=Ad9 lf n (λ_=>some (.tup [.s (.nilp),pI (2:Int)],[],s)) (λn0=>some (.tup [.ptr 1 0 0,pI (0:Int)],[.arr true 48 3 [],.box [.fl 0,pI n0]],s)):=by
 refine (evE (fn:=Tryz.f73) (by kernel_rfl)).trans ?_
 generalize evC (IP lf) d=cl
 unfold Ad9;kernel_rfl
noncomputable abbrev LZ:Code:=D3 Tryz.f38
noncomputable def Cr (lf:Nat):Cfg:=B8 lf [38] (A4 [(7,[0,3,0,0,17,0,0])]) [(73,GM),(45,GJ),(63,Qt),(74,HQ)] (A4 [(15,[4,0]),(14,[6]),(13,[0,5,17,0,0]),(10,[4,0]),(12,[4,0]),(11,[0,5,17,0,0,8]),(9,[0,5,1,0,14,0,0,4]),(8,[0,5,1,0,14,0,0]),(7,[0,5,17,0,0,0]),(6,[0,5,17,0,0]),(3,[4,0]),(5,[4,0]),(4,[0,5,12]),(2,[0,0,4,0,7]),(1,[0,0,4,0]),(0,[0,0])]) [45,63] (A4 [(1,[0,5]),(2,[0,5,17,0,0]),(3,[0,5,17,0,0]),(0,[0,5])]) (some [4,0]) [] [] []
noncomputable def T1 {R:Type} (lf n:Nat) (pins_z0 pins_t1:Bool) (pins2:LL) (n3 n4:Int) (l5:LL) (n6:Int) (k0:Int->LL->Int->By->Bool->Int->Option R) (k1:Bool->Bool->LL->LL->Int->Option R):Option R:=match n with | 0=>none | n+1=>cond (ltI n4 n3) (cond (inR n4 pins2.length) (cond (okE ⟨true,true,[.str,.bool,.int .i64]⟩ pins2 (Int.toNat n4) 0) (vl (gX pins2 (Int.toNat n4) 0) λs'2=>vl (gE pins2 (Int.toNat n4) 2) λn'3=>cond (A1 s'2.length) (cond (not (KB s'2 n'3)) (k0 1 l5 n6 s'2 (gY pins2 (Int.toNat n4) 1) n'3) (cond (ltI 0 n4) (cond (inR (A2 (n4-1)) pins2.length) (cond (okE Dy pins2 (Int.toNat (A2 (n4-1))) 0) (vl (gX pins2 (Int.toNat (A2 (n4-1))) 0) λs'4=>cond (A1 s'4.length) (cond (A1 s'2.length) (cond (not (ltI (M4 s'4 s'2) (0:Int))) (k0 8 l5 n6 s'2 (gY pins2 (Int.toNat n4) 1) n'3) (T1 lf n pins_z0 pins_t1 pins2 n3 (A2 (n4+1)) l5 n6 k0 k1)) none) none) none) none) (T1 lf n pins_z0 pins_t1 pins2 n3 (A2 (n4+1)) l5 n6 k0 k1))) none) none) none) (k1 pins_z0 pins_t1 pins2 l5 n6)
theorem KD (n pins_z0 pins_t1 pins2 n3 n4 l5 n6):E6 2 ((Cr lf).keep 7) (bd (Cr lf) cl yh (cd [1,1,1,0,1,0,0] LZ)) n ⟨gp [(0,.s (.sl pins_z0 pins_t1 3 pins2)),(5,.ptr 1 0 0),(17,.s (.sl pins_z0 pins_t1 3 pins2)),(0,pI n3),(0,pI n4)] 30,[.arr true 48 3 l5,.box [.fl 0,pI n6]],s⟩ k =
 T1 lf n pins_z0 pins_t1 pins2 n3 n4 l5 n6 (λn0 l1 n2 s3 b4 n5=>k .ret ⟨gp [(4,.s (.nilp)),(0,pI n0)] 51,[.arr true 48 3 l1,.box [.fl 0,pI n2],.box [pS s3,pB b4,pI n5]],s⟩) (λpins_z0 pins_t1 pins2 l3 n4=>k (.exit 1) ⟨gp [(0,.s (.sl pins_z0 pins_t1 3 pins2)),(5,.ptr 1 0 0)] 50,[.arr true 48 3 l3,.box [.fl 0,pI n4]],s⟩):=by
 induction n generalizing pins_z0 pins_t1 pins2 n3 n4 l5 n6 with
 | zero=>rfl
 | succ n ih=>rw [T1];simp only [<-ih];kernel_rfl
noncomputable def Mv {R:Type} (lf:Nat) (t_z t_t:Bool) (t:LL) (cp:Int) (k0:LL->Int->Option R) (k1:Int->LL->Int->By->Bool->Int->Option R) (k2:LL->Int->Bool->LL->Option R):Option R:=cond ((ltI 0 cp)&&(ltI cp 1001)) (cond (ltI cp (t.length:Int)) (k0 List.nil cp) (T1 lf lf t_z t_t t (t.length:Int) 0 List.nil cp (λn'5 l'6 n'7 s'8 b'9 n'10=>k1 n'5 l'6 n'7 s'8 b'9 n'10) (λpins_z'11 pins_t'12 pins'13 l'14 n'15=>cond (A1 pins'13.length) (cond (N7 pins_z'11 pins'13) (k2 l'14 n'15 pins_z'11 pins'13) none) none))) none
theorem DV (d:Nat) (t_z t_t t cp):evC (Cr lf) (d+1) σ yh 38 [.s (.sl t_z t_t 3 t),pI cp] [] s=Mv lf t_z t_t t cp (λl0 n1=>some (.tup [.s (.nilp),pI (11:Int)],[.arr true 48 3 l0,.box [.fl 0,pI n1]],s)) (λr0 l1 n2 s3 b4 n5=>some (.tup [.s (.nilp),pI r0],[.arr true 48 3 l1,.box [.fl 0,pI n2],.box [pS s3,pB b4,pI n5]],s)) (λl0 n1 z2 l3=>some (.tup [.ptr 1 0 0,pI (0:Int)],[.arr true 48 3 l0,.box [.fl 2,pI n1],.arr z2 48 3 l3],s)):=by
 refine (evE (fn:=Tryz.f38) (by kernel_rfl)).trans ?_
 generalize evC (Cr lf) d=cl
 unfold Mv;exact (Eq.trans (by kernel_rfl) (A0 (A0 rfl ((KD lf cl yh s (G8 1 (I4 (Cr lf) cl yh (cd [1,1,1,1] LZ) (H4 (Cr lf) Tryz.f38))) lf t_z t_t t (t.length:Int) 0 List.nil cp).trans (by kernel_rfl))) rfl))
noncomputable abbrev OI (t_z t_t:Bool) (t:LL) (cp:Int):Option (PV × List Blk × Unit):=Mv LF t_z t_t t cp (λl0 n1=>some (.tup [.s (.nilp),pI (11:Int)],[.arr true 48 3 l0,.box [.fl 0,pI n1]],())) (λr0 l1 n2 s3 b4 n5=>some (.tup [.s (.nilp),pI r0],[.arr true 48 3 l1,.box [.fl 0,pI n2],.box [pS s3,pB b4,pI n5]],())) (λl0 n1 z2 l3=>some (.tup [.ptr 1 0 0,pI (0:Int)],[.arr true 48 3 l0,.box [.fl 2,pI n1],.arr z2 48 3 l3],()))
noncomputable def IK (lf:Nat):Cfg:=B8 lf [28] (A4 []) [(65,QR)] (A4 [(6,[4,0]),(5,[4,0]),(4,[0,3,1,14]),(3,[0,3,1,0]),(2,[4,0]),(1,[0,0,2,4]),(0,[0,0,2])]) [65] (A4 []) (some [4,0]) [] [] []
noncomputable def Ac4 {R:Type} (lf:Nat) (lz lt:Bool) (l:LL) (q:By) (k0:By->Bool->Bool->By->Bool->Option R):Option R:=cond (List.all l D1) (cond (List.all l smE) (cond (A1 l.length) (cond (A1 q.length) (vl (↑(bsI (List.map Prod.fst (List.map A6 l)) q):Int) λn'1=>cond (not (bsB (List.map Prod.fst (List.map A6 l)) q)) (k0 ([]:List UInt8) false false ([]:List UInt8) false) (cond (inR n'1 l.length) (cond (okE ⟨true,true,[.str,.bool]⟩ l (Int.toNat n'1) 0) (k0 (gX l (Int.toNat n'1) 0) (gY l (Int.toNat n'1) 1) true (gX l (Int.toNat n'1) 0) (gY l (Int.toNat n'1) 1)) none) none)) none) none) none) none
theorem A13 (d:Nat) (lz lt l q):evC (IK lf) (d+1) σ yh 28 [.s (.sp [[.sl lz lt 2 l]] 0 0),pS q] [] s=Ac4 lf lz lt l q (λr0 r1 r2 s3 b4=>some (.tup [.agg [pS r0,pB r1],pB r2],[.box [pS s3,pB b4]],s)):=by
 refine (evE (fn:=Tryz.f28) (by kernel_rfl)).trans ?_
 generalize evC (IK lf) d=cl
 unfold Ac4;kernel_rfl
noncomputable abbrev Ac5 (lz lt:Bool) (l:LL) (q:By):Option (PV × List Blk × Unit):=Ac4 LF lz lt l q (λr0 r1 r2 s3 b4=>some (.tup [.agg [pS r0,pB r1],pB r2],[.box [pS s3,pB b4]],()))
noncomputable def IL (lf:Nat):Cfg:=B8 lf [28] (A4 []) [] (A4 [(6,[4,0]),(5,[4,0]),(4,[0,3,1,14]),(3,[0,3,1,0]),(2,[4,0]),(1,[0,0,2,4]),(0,[0,0,2])]) [] (A4 []) (some [4,0]) [] [] []
noncomputable def A15 {R:Type} (lf:Nat) (q:By) (k0:Unit->Option R):Option R:=k0 ()
theorem A16 (d:Nat) (q):evC (IL lf) (d+1) σ yh 28 [.s (.nilp),pS q] [] s=A15 lf q (λ_=>some (.tup [.agg [pS ([]:List UInt8),pB false],pB false],[.box [pS ([]:List UInt8),pB false]],s)):=by
 refine (evE (fn:=Tryz.f28) (by kernel_rfl)).trans ?_
 generalize evC (IL lf) d=cl
 unfold A15;kernel_rfl
noncomputable abbrev Bi2 (q:By):Option (PV × List Blk × Unit):=A15 LF q (λ_=>some (.tup [.agg [pS ([]:List UInt8),pB false],pB false],[.box [pS ([]:List UInt8),pB false]],()))
noncomputable def Sp {R:Type} (lf:Nat) (x'2:By) (xs:List By) (self:Bool->Bool->LL->By->Bool->Option R) (z0 t1:Bool) (l2:LL) (s3:By) (b4:Bool) (k0:Bool->Bool->LL->By->Bool->Option R) (k1:Bool->Bool->LL->By->Bool->By->Bool->Option R):Option R:=cond (List.all l2 D1) (cond (List.all l2 smE) (cond (A1 l2.length) (cond (A1 x'2.length) (vl (((H6 (List.map A6 l2) x'2)).1).1 λs'3=>cond ((H6 (List.map A6 l2) x'2)).2 (cond (((H6 (List.map A6 l2) x'2)).1).2 (k1 z0 t1 l2 s'3 (((H6 (List.map A6 l2) x'2)).1).2 s3 b4) (self z0 t1 l2 s3 b4)) (self z0 t1 l2 s3 b4)) none) none) none) none
noncomputable def Yw {R:Type} (lf:Nat) (L:List By) (z0 t1:Bool) (l2:LL) (s3:By) (b4:Bool) (k0:Bool->Bool->LL->By->Bool->Option R) (k1:Bool->Bool->LL->By->Bool->By->Bool->Option R):Option R:=XC (α:=Bool->Bool->LL->By->Bool->Option R) (λz0 t1 l2 s3 b4=>k0 z0 t1 l2 s3 b4) (λx'2 xs self z0 t1 l2 s3 b4=>Sp lf x'2 xs self z0 t1 l2 s3 b4 k0 k1) L z0 t1 l2 s3 b4
theorem VD {R:Type} (lf:Nat) (x'2:By) (xs:List By) (z0 t1:Bool) (l2:LL) (s3:By) (b4:Bool) (k0:Bool->Bool->LL->By->Bool->Option R) (k1:Bool->Bool->LL->By->Bool->By->Bool->Option R):Yw lf (x'2::xs) z0 t1 l2 s3 b4 k0 k1=Sp lf x'2 xs (λz0 t1 l2 s3 b4=>Yw lf xs z0 t1 l2 s3 b4 k0 k1) z0 t1 l2 s3 b4 k0 k1:=rfl
noncomputable def IT (lf:Nat):Cfg:=B8 lf [44] (A4 []) [(77,RG)] (A4 [(3,[4,0]),(2,[4,0]),(1,[0,0,5]),(0,[0,0])]) [77] (A4 []) (some [4,0]) [] [] []
noncomputable def Af0 {R:Type} (lf:Nat) (tz tt:Bool) (t:LL) (cp:Int) (q:By) (k0:Int->Bool->Option R):Option R:=cond (List.all t F1) (cond (List.all t smE) (cond (A1 t.length) (cond (A1 q.length) (vl (↑(bsI (List.map Prod.fst (List.map B0 t)) q):Int) λn'0=>k0 n'0 (bsB (List.map Prod.fst (List.map B0 t)) q)) none) none) none) none
theorem A74 (d:Nat) (tz tt t cp q):evC (IT lf) (d+1) σ yh 44 [.s (.sp [[.sl tz tt 3 t,.int .i64 cp]] 0 0),pS q] [] s=Af0 lf tz tt t cp q (λr0 r1=>some (.tup [pI r0,pB r1],[],s)):=by
 refine (evE (fn:=Tryz.f44) (by kernel_rfl)).trans ?_
 generalize evC (IT lf) d=cl
 unfold Af0;kernel_rfl
noncomputable def IU (lf:Nat):Cfg:=B8 lf [44] (A4 []) [] (A4 [(3,[4,0]),(2,[4,0]),(1,[0,0,5]),(0,[0,0])]) [] (A4 []) (some [4,0]) [] [] []
noncomputable def A75 {R:Type} (lf:Nat) (q:By) (k0:Unit->Option R):Option R:=k0 ()
theorem A76 (d:Nat) (q):evC (IU lf) (d+1) σ yh 44 [.s (.nilp),pS q] [] s=A75 lf q (λ_=>some (.tup [pI (0:Int),pB false],[],s)):=by
 refine (evE (fn:=Tryz.f44) (by kernel_rfl)).trans ?_
 generalize evC (IU lf) d=cl
 unfold A75;kernel_rfl
noncomputable def IV (lf:Nat):Cfg:=B8 lf [20] (A4 []) [(44,RJ)] (A4 [(4,[4,0]),(3,[4,0]),(2,[0,3,1,8]),(1,[0,3,1,0]),(0,[0,0,2])]) [44] (A4 []) (some [4,0]) [] [] []
noncomputable def Af1 {R:Type} (lf:Nat) (tz tt:Bool) (t:LL) (cp:Int) (q:By) (k0:By->Bool->Int->Bool->By->Bool->Int->Option R):Option R:=cond (List.all t F1) (cond (List.all t smE) (cond (A1 t.length) (cond (A1 q.length) (vl (↑(bsI (List.map Prod.fst (List.map B0 t)) q):Int) λn'1=>cond (not (bsB (List.map Prod.fst (List.map B0 t)) q)) (k0 ([]:List UInt8) false 0 false ([]:List UInt8) false 0) (cond (inR n'1 t.length) (cond (okE ⟨true,true,[.str,.bool,.int .i64]⟩ t (Int.toNat n'1) 0) (k0 (gX t (Int.toNat n'1) 0) (gY t (Int.toNat n'1) 1) (gE t (Int.toNat n'1) 2) true (gX t (Int.toNat n'1) 0) (gY t (Int.toNat n'1) 1) (gE t (Int.toNat n'1) 2)) none) none)) none) none) none) none
theorem A77 (d:Nat) (tz tt t cp q):evC (IV lf) (d+1) σ yh 20 [.s (.sp [[.sl tz tt 3 t,.int .i64 cp]] 0 0),pS q] [] s=Af1 lf tz tt t cp q (λr0 r1 r2 r3 s4 b5 n6=>some (.tup [.agg [pS r0,pB r1,pI r2],pB r3],[.box [pS s4,pB b5,pI n6]],s)):=by
 refine (evE (fn:=Tryz.f20) (by kernel_rfl)).trans ?_
 generalize evC (IV lf) d=cl
 unfold Af1;kernel_rfl
noncomputable abbrev Af2 (tz tt:Bool) (t:LL) (cp:Int) (q:By):Option (PV × List Blk × Unit):=Af1 LF tz tt t cp q (λr0 r1 r2 r3 s4 b5 n6=>some (.tup [.agg [pS r0,pB r1,pI r2],pB r3],[.box [pS s4,pB b5,pI n6]],()))
noncomputable def IW (lf:Nat):Cfg:=B8 lf [20] (A4 []) [(44,RJ)] (A4 [(4,[4,0]),(3,[4,0]),(2,[0,3,1,8]),(1,[0,3,1,0]),(0,[0,0,2])]) [44] (A4 []) (some [4,0]) [] [] []
noncomputable def A79 {R:Type} (lf:Nat) (q:By) (k0:Unit->Option R):Option R:=k0 ()
theorem A80 (d:Nat) (q):evC (IW lf) (d+1) σ yh 20 [.s (.nilp),pS q] [] s=A79 lf q (λ_=>some (.tup [.agg [pS ([]:List UInt8),pB false,pI (0:Int)],pB false],[.box [pS ([]:List UInt8),pB false,pI (0:Int)]],s)):=by
 refine (evE (fn:=Tryz.f20) (by kernel_rfl)).trans ?_
 generalize evC (IW lf) d=cl
 unfold A79;kernel_rfl
noncomputable abbrev Bq2 (q:By):Option (PV × List Blk × Unit):=A79 LF q (λ_=>some (.tup [.agg [pS ([]:List UInt8),pB false,pI (0:Int)],pB false],[.box [pS ([]:List UInt8),pB false,pI (0:Int)]],()))
noncomputable abbrev IB:Code:=D3 Tryz.f40
noncomputable def Ez (lf:Nat):Cfg:=B8 lf [40] (A4 []) [(20,Xg),(75,HG),(28,Wk)] (A4 [(7,[10,0]),(6,[10,0]),(5,[3,0,5,42]),(4,[3,0,5,3,0]),(3,[10,0]),(2,[2,0,0,5,25]),(1,[0,1,0,0,5,1,0]),(0,[0,0,0,0,0,5])]) [75] (A4 []) (some [10,0]) [] [] []
noncomputable def Vd {R:Type} (l2:LL) (name3:By) (exact4 b5:Bool) (s6:By) (n7:Int) (k0:Bool->Int->By->Bool->By->Bool->Int->By->Bool->Option R):Option R:=cond (List.all l2 D1) (cond (List.all l2 smE) (cond (A1 l2.length) (cond (A1 name3.length) (vl (((H6 (List.map A6 l2) name3)).1).1 λs'9=>cond ((H6 (List.map A6 l2) name3)).2 (cond exact4 (k0 true 2 name3 exact4 s6 b5 n7 s'9 (((H6 (List.map A6 l2) name3)).1).2) (cond (((H6 (List.map A6 l2) name3)).1).2 (k0 true 2 name3 exact4 s6 b5 n7 s'9 (((H6 (List.map A6 l2) name3)).1).2) (k0 false 0 ([]:List UInt8) false s6 b5 n7 s'9 (((H6 (List.map A6 l2) name3)).1).2))) (k0 false 0 ([]:List UInt8) false s6 b5 n7 s'9 (((H6 (List.map A6 l2) name3)).1).2)) none) none) none) none
abbrev BU (b:Code):Prop:=∀ (k:Out->St σ->Option R) l_z0 l_t1 l2 name3 exact4 b5 s6 n7,B2 (Ez lf) cl yh b ⟨gp [(2,.s (.sp [[.sl l_z0 l_t1 2 l2]] 0 0)),(0,pS name3),(0,pB exact4),(5,.ptr 0 0 0),(25,pB b5)] 21,[.box [pI (0:Int),pS ([]:List UInt8),pB false],.box [pS s6,pB b5,pI n7]],s⟩ k=Vd l2 name3 exact4 b5 s6 n7 (λb0 n1 s2 b3 s4 b5 n6 s7 b8=>k .ret ⟨gp [(10,.ptr 0 0 0),(0,pB b0)] 46,[.box [pI n1,pS s2,pB b3],.box [pS s4,pB b5,pI n6],.box [pS s7,pB b8]],s⟩)
theorem TA:BU (R:=R) lf cl yh s (cd [1,1] IB):=by
 intro k l_z0 l_t1 l2 name3 exact4 b5 s6 n7;unfold Vd;kernel_rfl
noncomputable def Nl {R:Type} (l2:LL) (name3:By) (exact4:Bool) (s5:By) (b6:Bool) (n7:Int) (k0:Bool->Int->By->Bool->By->Bool->Int->By->Bool->Option R):Option R:=cond (List.all l2 D1) (cond (List.all l2 smE) (cond (A1 l2.length) (cond (A1 name3.length) (vl (((H6 (List.map A6 l2) name3)).1).1 λs'20=>cond ((H6 (List.map A6 l2) name3)).2 (cond exact4 (k0 true 2 name3 exact4 s5 b6 n7 s'20 (((H6 (List.map A6 l2) name3)).1).2) (cond (((H6 (List.map A6 l2) name3)).1).2 (k0 true 2 name3 exact4 s5 b6 n7 s'20 (((H6 (List.map A6 l2) name3)).1).2) (k0 false 0 ([]:List UInt8) false s5 b6 n7 s'20 (((H6 (List.map A6 l2) name3)).1).2))) (k0 false 0 ([]:List UInt8) false s5 b6 n7 s'20 (((H6 (List.map A6 l2) name3)).1).2)) none) none) none) none
abbrev BW (b:Code):Prop:=∀ (k:Out->St σ->Option R) l_z0 l_t1 l2 name3 exact4 s5 b6 n7,B2 (Ez lf) cl yh b ⟨gp [(2,.s (.sp [[.sl l_z0 l_t1 2 l2]] 0 0)),(0,pS name3),(0,pB exact4),(5,.ptr 0 0 0),(25,pB false)] 21,[.box [pI (0:Int),pS ([]:List UInt8),pB false],.box [pS s5,pB b6,pI n7]],s⟩ k=Nl l2 name3 exact4 s5 b6 n7 (λb0 n1 s2 b3 s4 b5 n6 s7 b8=>k .ret ⟨gp [(10,.ptr 0 0 0),(0,pB b0)] 46,[.box [pI n1,pS s2,pB b3],.box [pS s4,pB b5,pI n6],.box [pS s7,pB b8]],s⟩)
theorem TB:BW (R:=R) lf cl yh s (cd [1,1] IB):=by
 intro k l_z0 l_t1 l2 name3 exact4 s5 b6 n7;unfold Nl;kernel_rfl
noncomputable def Aw4 {R:Type} (lf:Nat) (now:Int) (tz tt:Bool) (t:LL) (cp:Int) (lz lt:Bool) (l:LL) (u:By) (ex:Bool) (k0:By->Bool->By->Bool->Int->Option R) (k1:Int->By->Bool->Bool->By->Bool->Int->By->Bool->Option R):Option R:=cond (List.all t F1) (cond (List.all t smE) (cond (A1 t.length) (cond (A1 u.length) (vl (((M5 (List.map B0 t) u)).1).1 λs'6=>vl ((((M5 (List.map B0 t) u)).1).2).2 λn'7=>cond ((M5 (List.map B0 t) u)).2 (cond (not (not (ltI now n'7))) (cond ex (k0 u ex s'6 ((((M5 (List.map B0 t) u)).1).2).1 n'7) (cond ((((M5 (List.map B0 t) u)).1).2).1 (k0 u ex s'6 ((((M5 (List.map B0 t) u)).1).2).1 n'7) (Vd l u ex ((((M5 (List.map B0 t) u)).1).2).1 s'6 n'7 (λb'10 n'11 s'12 b'13 s'14 b'15 n'16 s'17 b'18=>k1 n'11 s'12 b'13 b'10 s'14 b'15 n'16 s'17 b'18)))) (Nl l u ex s'6 ((((M5 (List.map B0 t) u)).1).2).1 n'7 (λb'21 n'22 s'23 b'24 s'25 b'26 n'27 s'28 b'29=>k1 n'22 s'23 b'24 b'21 s'25 b'26 n'27 s'28 b'29))) (Nl l u ex s'6 ((((M5 (List.map B0 t) u)).1).2).1 n'7 (λb'30 n'31 s'32 b'33 s'34 b'35 n'36 s'37 b'38=>k1 n'31 s'32 b'33 b'30 s'34 b'35 n'36 s'37 b'38))) none) none) none) none
theorem Bc2 (b_11:Code) (h_catA_j0:BU (R:=PV × List Blk × σ) lf cl yh s b_11) (h_catA_j1:BW (R:=PV × List Blk × σ) lf cl yh s b_11) (now:Int) (tz tt:Bool) (t:LL) (cp:Int) (lz lt:Bool) (l:LL) (u:By) (ex:Bool):B2 (Ez lf) cl yh (cd [] (R1 [1,1] b_11 IB)) ⟨[pI now,.s (.sp [[.sl tz tt 3 t,.int .i64 cp]] 0 0),.s (.sp [[.sl lz lt 2 l]] 0 0),pS u,pB ex]++tps 53,[],s⟩ (H4 (Ez lf) Tryz.f40)=Aw4 lf now tz tt t cp lz lt l u ex (λr0 r1 s2 b3 n4=>some (.tup [.agg [pI (1:Int),pS r0,pB r1],pB true],[.box [pI (1:Int),pS r0,pB r1],.box [pS s2,pB b3,pI n4]],s)) (λr0 r1 r2 r3 s4 b5 n6 s7 b8=>some (.tup [.agg [pI r0,pS r1,pB r2],pB r3],[.box [pI r0,pS r1,pB r2],.box [pS s4,pB b5,pI n6],.box [pS s7,pB b8]],s)):=by
 unfold Aw4;exact let K0:=(H4 (Ez lf) Tryz.f40);(Eq.trans (by kernel_rfl) (A0 (A0 (A0 (A0 (A8 λs'6=>(A8 λn'7=>(A0 (A0 (A0 rfl (A0 rfl ((h_catA_j0 K0 lz lt l u ex ((((M5 (List.map B0 t) u)).1).2).1 s'6 n'7).trans (by kernel_rfl)))) ((h_catA_j1 K0 lz lt l u ex s'6 ((((M5 (List.map B0 t) u)).1).2).1 n'7).trans (by kernel_rfl))) ((h_catA_j1 K0 lz lt l u ex s'6 ((((M5 (List.map B0 t) u)).1).2).1 n'7).trans (by kernel_rfl))))) rfl) rfl) rfl) rfl))
theorem Bc3 (d:Nat) (now tz tt t cp lz lt l u ex):evC (Ez lf) (d+1) σ yh 40 [pI now,.s (.sp [[.sl tz tt 3 t,.int .i64 cp]] 0 0),.s (.sp [[.sl lz lt 2 l]] 0 0),pS u,pB ex] [] s=Aw4 lf now tz tt t cp lz lt l u ex (λr0 r1 s2 b3 n4=>some (.tup [.agg [pI (1:Int),pS r0,pB r1],pB true],[.box [pI (1:Int),pS r0,pB r1],.box [pS s2,pB b3,pI n4]],s)) (λr0 r1 r2 r3 s4 b5 n6 s7 b8=>some (.tup [.agg [pI r0,pS r1,pB r2],pB r3],[.box [pI r0,pS r1,pB r2],.box [pS s4,pB b5,pI n6],.box [pS s7,pB b8]],s)):=
 (evE (fn:=Tryz.f40) (by kernel_rfl)).trans (Eq.trans (by kernel_rfl) (Bc2 lf (evC (Ez lf) d) yh s (cd [1,1] IB) (TA lf (evC (Ez lf) d) yh s) (TB lf (evC (Ez lf) d) yh s) now tz tt t cp lz lt l u ex))
noncomputable abbrev Aw5 (now:Int) (tz tt:Bool) (t:LL) (cp:Int) (lz lt:Bool) (l:LL) (u:By) (ex:Bool):Option (PV × List Blk × Unit):=Aw4 LF now tz tt t cp lz lt l u ex (λr0 r1 s2 b3 n4=>some (.tup [.agg [pI (1:Int),pS r0,pB r1],pB true],[.box [pI (1:Int),pS r0,pB r1],.box [pS s2,pB b3,pI n4]],())) (λr0 r1 r2 r3 s4 b5 n6 s7 b8=>some (.tup [.agg [pI r0,pS r1,pB r2],pB r3],[.box [pI r0,pS r1,pB r2],.box [pS s4,pB b5,pI n6],.box [pS s7,pB b8]],()))
noncomputable def RU (lf:Nat):Cfg:=B8 lf [40] (A4 []) [(20,Xg),(28,Wk)] (A4 [(7,[10,0]),(6,[10,0]),(5,[3,0,5,42]),(4,[3,0,5,3,0]),(3,[10,0]),(2,[2,0,0,5,25]),(1,[0,1,0,0,5,1,0]),(0,[0,0,0,0,0,5])]) [] (A4 []) (some [10,0]) [] [] []
noncomputable def Bc5 {R:Type} (lf:Nat) (now:Int) (lz lt:Bool) (l:LL) (u:By) (ex:Bool) (k0:Int->By->Bool->Bool->Int->By->Bool->Option R):Option R:=cond (List.all l D1) (cond (List.all l smE) (cond (A1 l.length) (cond (A1 u.length) (vl (((H6 (List.map A6 l) u)).1).1 λs'1=>cond ((H6 (List.map A6 l) u)).2 (cond ex (k0 2 u ex true 2 s'1 (((H6 (List.map A6 l) u)).1).2) (cond (((H6 (List.map A6 l) u)).1).2 (k0 2 u ex true 2 s'1 (((H6 (List.map A6 l) u)).1).2) (k0 0 ([]:List UInt8) false false 0 s'1 (((H6 (List.map A6 l) u)).1).2))) (k0 0 ([]:List UInt8) false false 0 s'1 (((H6 (List.map A6 l) u)).1).2)) none) none) none) none
theorem Bc6 (d:Nat) (now lz lt l u ex):evC (RU lf) (d+1) σ yh 40 [pI now,.s (.nilp),.s (.sp [[.sl lz lt 2 l]] 0 0),pS u,pB ex] [] s=Bc5 lf now lz lt l u ex (λr0 r1 r2 r3 n4 s5 b6=>some (.tup [.agg [pI r0,pS r1,pB r2],pB r3],[.box [pI n4,pS r1,pB r2],.box [pS ([]:List UInt8),pB false,pI (0:Int)],.box [pS s5,pB b6]],s)):=by
 refine (evE (fn:=Tryz.f40) (by kernel_rfl)).trans ?_
 generalize evC (RU lf) d=cl
 unfold Bc5;kernel_rfl
noncomputable abbrev Aw6 (now:Int) (lz lt:Bool) (l:LL) (u:By) (ex:Bool):Option (PV × List Blk × Unit):=Bc5 LF now lz lt l u ex (λr0 r1 r2 r3 n4 s5 b6=>some (.tup [.agg [pI r0,pS r1,pB r2],pB r3],[.box [pI n4,pS r1,pB r2],.box [pS ([]:List UInt8),pB false,pI (0:Int)],.box [pS s5,pB b6]],()))
noncomputable abbrev IC:Code:=D3 Tryz.f40
noncomputable def Fa (lf:Nat):Cfg:=B8 lf [40] (A4 []) [(20,Xg),(75,HG),(28,Wk)] (A4 [(7,[10,0]),(6,[10,0]),(5,[3,0,5,42]),(4,[3,0,5,3,0]),(3,[10,0]),(2,[2,0,0,5,25]),(1,[0,1,0,0,5,1,0]),(0,[0,0,0,0,0,5])]) [75] (A4 []) (some [10,0]) [] [] []
noncomputable def Ve {R:Type} (b2:Bool) (s3:By) (n4:Int) (k0:By->Bool->Int->Option R):Option R:=k0 s3 b2 n4
abbrev BX (b:Code):Prop:=∀ (k:Out->St σ->Option R) name0 exact1 b2 s3 n4,B2 (Fa lf) cl yh b ⟨gp [(2,.s (.nilp)),(0,pS name0),(0,pB exact1),(5,.ptr 0 0 0),(25,pB b2)] 21,[.box [pI (0:Int),pS ([]:List UInt8),pB false],.box [pS s3,pB b2,pI n4]],s⟩ k=Ve b2 s3 n4 (λs0 b1 n2=>k .ret ⟨gp [(10,.ptr 0 0 0),(0,pB false)] 46,[.box [pI (0:Int),pS ([]:List UInt8),pB false],.box [pS s0,pB b1,pI n2],.box [pS ([]:List UInt8),pB false]],s⟩)
theorem TC:BX (R:=R) lf cl yh s (cd [1,1] IC):=by
 intro k name0 exact1 b2 s3 n4;unfold Ve;kernel_rfl
noncomputable def Nm {R:Type} (s2:By) (b3:Bool) (n4:Int) (k0:By->Bool->Int->Option R):Option R:=k0 s2 b3 n4
abbrev BY (b:Code):Prop:=∀ (k:Out->St σ->Option R) name0 exact1 s2 b3 n4,B2 (Fa lf) cl yh b ⟨gp [(2,.s (.nilp)),(0,pS name0),(0,pB exact1),(5,.ptr 0 0 0),(25,pB false)] 21,[.box [pI (0:Int),pS ([]:List UInt8),pB false],.box [pS s2,pB b3,pI n4]],s⟩ k=Nm s2 b3 n4 (λs0 b1 n2=>k .ret ⟨gp [(10,.ptr 0 0 0),(0,pB false)] 46,[.box [pI (0:Int),pS ([]:List UInt8),pB false],.box [pS s0,pB b1,pI n2],.box [pS ([]:List UInt8),pB false]],s⟩)
theorem TD:BY (R:=R) lf cl yh s (cd [1,1] IC):=by
 intro k name0 exact1 s2 b3 n4;unfold Nm;kernel_rfl
noncomputable def Aw7 {R:Type} (lf:Nat) (now:Int) (tz tt:Bool) (t:LL) (cp:Int) (u:By) (ex:Bool) (k0:By->Bool->By->Bool->Int->Option R) (k1:By->Bool->Int->Option R):Option R:=cond (List.all t F1) (cond (List.all t smE) (cond (A1 t.length) (cond (A1 u.length) (vl (((M5 (List.map B0 t) u)).1).1 λs'6=>vl ((((M5 (List.map B0 t) u)).1).2).2 λn'7=>cond ((M5 (List.map B0 t) u)).2 (cond (not (not (ltI now n'7))) (cond ex (k0 u ex s'6 ((((M5 (List.map B0 t) u)).1).2).1 n'7) (cond ((((M5 (List.map B0 t) u)).1).2).1 (k0 u ex s'6 ((((M5 (List.map B0 t) u)).1).2).1 n'7) (Ve ((((M5 (List.map B0 t) u)).1).2).1 s'6 n'7 (λs'8 b'9 n'10=>k1 s'8 b'9 n'10)))) (Nm s'6 ((((M5 (List.map B0 t) u)).1).2).1 n'7 (λs'11 b'12 n'13=>k1 s'11 b'12 n'13))) (Nm s'6 ((((M5 (List.map B0 t) u)).1).2).1 n'7 (λs'14 b'15 n'16=>k1 s'14 b'15 n'16))) none) none) none) none
theorem Bc8 (b_11:Code) (h_catC_j0:BX (R:=PV × List Blk × σ) lf cl yh s b_11) (h_catC_j1:BY (R:=PV × List Blk × σ) lf cl yh s b_11) (now:Int) (tz tt:Bool) (t:LL) (cp:Int) (u:By) (ex:Bool):B2 (Fa lf) cl yh (cd [] (R1 [1,1] b_11 IC)) ⟨[pI now,.s (.sp [[.sl tz tt 3 t,.int .i64 cp]] 0 0),.s (.nilp),pS u,pB ex]++tps 53,[],s⟩ (H4 (Fa lf) Tryz.f40)=Aw7 lf now tz tt t cp u ex (λr0 r1 s2 b3 n4=>some (.tup [.agg [pI (1:Int),pS r0,pB r1],pB true],[.box [pI (1:Int),pS r0,pB r1],.box [pS s2,pB b3,pI n4]],s)) (λs0 b1 n2=>some (.tup [.agg [pI (0:Int),pS ([]:List UInt8),pB false],pB false],[.box [pI (0:Int),pS ([]:List UInt8),pB false],.box [pS s0,pB b1,pI n2],.box [pS ([]:List UInt8),pB false]],s)):=by
 unfold Aw7;exact let K0:=(H4 (Fa lf) Tryz.f40);(Eq.trans (by kernel_rfl) (A0 (A0 (A0 (A0 (A8 λs'6=>(A8 λn'7=>(A0 (A0 (A0 rfl (A0 rfl ((h_catC_j0 K0 u ex ((((M5 (List.map B0 t) u)).1).2).1 s'6 n'7).trans (by kernel_rfl)))) ((h_catC_j1 K0 u ex s'6 ((((M5 (List.map B0 t) u)).1).2).1 n'7).trans (by kernel_rfl))) ((h_catC_j1 K0 u ex s'6 ((((M5 (List.map B0 t) u)).1).2).1 n'7).trans (by kernel_rfl))))) rfl) rfl) rfl) rfl))
theorem Bc9 (d:Nat) (now tz tt t cp u ex):evC (Fa lf) (d+1) σ yh 40 [pI now,.s (.sp [[.sl tz tt 3 t,.int .i64 cp]] 0 0),.s (.nilp),pS u,pB ex] [] s=Aw7 lf now tz tt t cp u ex (λr0 r1 s2 b3 n4=>some (.tup [.agg [pI (1:Int),pS r0,pB r1],pB true],[.box [pI (1:Int),pS r0,pB r1],.box [pS s2,pB b3,pI n4]],s)) (λs0 b1 n2=>some (.tup [.agg [pI (0:Int),pS ([]:List UInt8),pB false],pB false],[.box [pI (0:Int),pS ([]:List UInt8),pB false],.box [pS s0,pB b1,pI n2],.box [pS ([]:List UInt8),pB false]],s)):=
 (evE (fn:=Tryz.f40) (by kernel_rfl)).trans (Eq.trans (by kernel_rfl) (Bc8 lf (evC (Fa lf) d) yh s (cd [1,1] IC) (TC lf (evC (Fa lf) d) yh s) (TD lf (evC (Fa lf) d) yh s) now tz tt t cp u ex))
noncomputable abbrev Aw8 (now:Int) (tz tt:Bool) (t:LL) (cp:Int) (u:By) (ex:Bool):Option (PV × List Blk × Unit):=Aw7 LF now tz tt t cp u ex (λr0 r1 s2 b3 n4=>some (.tup [.agg [pI (1:Int),pS r0,pB r1],pB true],[.box [pI (1:Int),pS r0,pB r1],.box [pS s2,pB b3,pI n4]],())) (λs0 b1 n2=>some (.tup [.agg [pI (0:Int),pS ([]:List UInt8),pB false],pB false],[.box [pI (0:Int),pS ([]:List UInt8),pB false],.box [pS s0,pB b1,pI n2],.box [pS ([]:List UInt8),pB false]],()))
noncomputable def RV (lf:Nat):Cfg:=B8 lf [40] (A4 []) [(20,Xg),(28,Wk)] (A4 [(7,[10,0]),(6,[10,0]),(5,[3,0,5,42]),(4,[3,0,5,3,0]),(3,[10,0]),(2,[2,0,0,5,25]),(1,[0,1,0,0,5,1,0]),(0,[0,0,0,0,0,5])]) [] (A4 []) (some [10,0]) [] [] []
noncomputable def Bd1 {R:Type} (lf:Nat) (now:Int) (u:By) (ex:Bool) (k0:Unit->Option R):Option R:=k0 ()
theorem Bd2 (d:Nat) (now u ex):evC (RV lf) (d+1) σ yh 40 [pI now,.s (.nilp),.s (.nilp),pS u,pB ex] [] s=Bd1 lf now u ex (λ_=>some (.tup [.agg [pI (0:Int),pS ([]:List UInt8),pB false],pB false],[.box [pI (0:Int),pS ([]:List UInt8),pB false],.box [pS ([]:List UInt8),pB false,pI (0:Int)],.box [pS ([]:List UInt8),pB false]],s)):=by
 refine (evE (fn:=Tryz.f40) (by kernel_rfl)).trans ?_
 generalize evC (RV lf) d=cl
 unfold Bd1;kernel_rfl
noncomputable abbrev Aw9 (now:Int) (u:By) (ex:Bool):Option (PV × List Blk × Unit):=Bd1 LF now u ex (λ_=>some (.tup [.agg [pI (0:Int),pS ([]:List UInt8),pB false],pB false],[.box [pI (0:Int),pS ([]:List UInt8),pB false],.box [pS ([]:List UInt8),pB false,pI (0:Int)],.box [pS ([]:List UInt8),pB false]],()))
noncomputable abbrev Rf:Code:=D3 Tryz.f15
noncomputable def Cl (lf:Nat):Cfg:=B8 lf [15] (A4 []) [(39,Ex),(40,Nc),(41,Ew)] (A4 [(12,[8]),(11,[8,0]),(10,[4,0,0,1,0,3,33]),(9,[4,0,0,1,0,3,0]),(8,[4,0,0,1,0,2]),(7,[4,0,0,1,0,27]),(6,[8]),(5,[4,0,0,0,0,0,0,22]),(4,[4,0,0,0,0,0,0,0]),(3,[8]),(2,[4,0,0,0,0,0,12]),(1,[4,0,0,0,0,0]),(0,[4,0,0,0,0])]) [39] (A4 [(0,[8,0]),(1,[4,0,0,1,0])]) (some [8]) [] [(76,W8)] []
noncomputable def No {R:Type} (lf:Nat) (x'4:By) (xs:List By) (self:Int->Bool->Bool->LL->Int->Bool->Bool->LL->Int->By->Int->Int->Int->Int->Int->Int->Int->Int->Int->Int->By->Bool->Option R) (n0:Int) (z1 t2:Bool) (l3:LL) (n4:Int) (z5 t6:Bool) (l7:LL) (n8v:Int) (s9:By) (n10 n11 n12 n13 n14 n15 n16 n17 n18 n19:Int) (s20:By) (b21:Bool) (k0:Int->Bool->Bool->LL->Int->Bool->Bool->LL->Int->By->Int->Int->Int->Int->Int->Int->Int->Int->Int->Int->By->Bool->Option R) (k1:Int->Bool->Bool->LL->Int->Bool->Bool->LL->Int->By->Int->Int->Int->Int->Int->Int->Int->Int->Int->Int->By->Bool->Int->By->Bool->Option R):Option R:=cond (List.all l3 F1) (cond (List.all l3 smE) (cond (A1 l3.length) (cond (List.all l7 D1) (cond (List.all l7 smE) (cond (A1 l7.length) (cond (A1 x'4.length) (vl (((atV n0 (List.map B0 l3) (List.map A6 l7) x'4 false)).1).1 λn'5=>vl ((((atV n0 (List.map B0 l3) (List.map A6 l7) x'4 false)).1).2).1 λs'6=>cond ((atV n0 (List.map B0 l3) (List.map A6 l7) x'4 false)).2 (k1 n0 z1 t2 l3 n4 z5 t6 l7 n8v s9 n10 n11 n12 n13 n14 n15 n16 n17 n18 n'5 s'6 ((((atV n0 (List.map B0 l3) (List.map A6 l7) x'4 false)).1).2).2 n19 s20 b21) (self n0 z1 t2 l3 n4 z5 t6 l7 n8v s9 n10 n11 n12 n13 n14 n15 n16 n17 n18 n19 s20 b21)) none) none) none) none) none) none) none
noncomputable def Nn {R:Type} (lf:Nat) (L:List By) (n0:Int) (z1 t2:Bool) (l3:LL) (n4:Int) (z5 t6:Bool) (l7:LL) (n8v:Int) (s9:By) (n10 n11 n12 n13 n14 n15 n16 n17 n18 n19:Int) (s20:By) (b21:Bool) (k0:Int->Bool->Bool->LL->Int->Bool->Bool->LL->Int->By->Int->Int->Int->Int->Int->Int->Int->Int->Int->Int->By->Bool->Option R) (k1:Int->Bool->Bool->LL->Int->Bool->Bool->LL->Int->By->Int->Int->Int->Int->Int->Int->Int->Int->Int->Int->By->Bool->Int->By->Bool->Option R):Option R:=XC (α:=Int->Bool->Bool->LL->Int->Bool->Bool->LL->Int->By->Int->Int->Int->Int->Int->Int->Int->Int->Int->Int->By->Bool->Option R) (λn0 z1 t2 l3 n4 z5 t6 l7 n8v s9 n10 n11 n12 n13 n14 n15 n16 n17 n18 n19 s20 b21=>k0 n0 z1 t2 l3 n4 z5 t6 l7 n8v s9 n10 n11 n12 n13 n14 n15 n16 n17 n18 n19 s20 b21) (λx'4 xs self n0 z1 t2 l3 n4 z5 t6 l7 n8v s9 n10 n11 n12 n13 n14 n15 n16 n17 n18 n19 s20 b21=>No lf x'4 xs self n0 z1 t2 l3 n4 z5 t6 l7 n8v s9 n10 n11 n12 n13 n14 n15 n16 n17 n18 n19 s20 b21 k0 k1) L n0 z1 t2 l3 n4 z5 t6 l7 n8v s9 n10 n11 n12 n13 n14 n15 n16 n17 n18 n19 s20 b21
theorem CA {R:Type} (lf:Nat) (x'4:By) (xs:List By) (n0:Int) (z1 t2:Bool) (l3:LL) (n4:Int) (z5 t6:Bool) (l7:LL) (n8v:Int) (s9:By) (n10 n11 n12 n13 n14 n15 n16 n17 n18 n19:Int) (s20:By) (b21:Bool) (k0:Int->Bool->Bool->LL->Int->Bool->Bool->LL->Int->By->Int->Int->Int->Int->Int->Int->Int->Int->Int->Int->By->Bool->Option R) (k1:Int->Bool->Bool->LL->Int->Bool->Bool->LL->Int->By->Int->Int->Int->Int->Int->Int->Int->Int->Int->Int->By->Bool->Int->By->Bool->Option R):Nn lf (x'4::xs) n0 z1 t2 l3 n4 z5 t6 l7 n8v s9 n10 n11 n12 n13 n14 n15 n16 n17 n18 n19 s20 b21 k0 k1=No lf x'4 xs (λn0 z1 t2 l3 n4 z5 t6 l7 n8v s9 n10 n11 n12 n13 n14 n15 n16 n17 n18 n19 s20 b21=>Nn lf xs n0 z1 t2 l3 n4 z5 t6 l7 n8v s9 n10 n11 n12 n13 n14 n15 n16 n17 n18 n19 s20 b21 k0 k1) n0 z1 t2 l3 n4 z5 t6 l7 n8v s9 n10 n11 n12 n13 n14 n15 n16 n17 n18 n19 s20 b21 k0 k1:=rfl
theorem TF (L:List By) (n0:Int) (z1 t2:Bool) (l3:LL) (n4:Int) (z5 t6:Bool) (l7:LL) (n8v:Int) (s9:By) (n10 n11 n12 n13 n14 n15 n16 n17 n18 n19:Int) (s20:By) (b21:Bool):N9 #[38] (gp [(4,.ptr 0 0 0),(0,.ptr 1 0 0),(0,.ptr 2 0 0),(1,.ptr 4 0 0),(0,.ptr 5 0 0),(27,.fnr (Fn.func 76) [] [.bad])] 12) (bd (Cl lf) cl yh (cd [1,0,1,1,1,1,0,1,0,0] Rf)) (bd (Cl lf) cl yh (cd [1,0,1,1,1,1,0,1,0,1] Rf)) (L.map (λ(x'4:By)=>([pS x'4]:List PV))) [.box [pI n0],.box [.s (.sp [[.sl z1 t2 3 l3,.int .i64 n4]] 0 0)],.box [.s (.sp [[.sl z5 t6 2 l7]] 0 0)],.box [pI n8v,pS s9,p32 n10,p16 n11,p16 n12,p16 n13,p16 n14,p16 n15,p16 n16,p16 n17,p16 n18],.box [pI (0:Int),pS ([]:List UInt8),pB false],.box [pI (0:Int),pS ([]:List UInt8),pB false],.box [pI n19,pS s20,pB b21],.dead] s (rgK (gp [(4,.ptr 0 0 0),(0,.ptr 1 0 0),(0,.ptr 2 0 0),(1,.ptr 4 0 0),(0,.ptr 5 0 0),(27,.fnr (Fn.func 76) [] [.bad])] 12) (λH=>P0 H [7] [.box [.bad]]) k) =
 Nn lf L n0 z1 t2 l3 n4 z5 t6 l7 n8v s9 n10 n11 n12 n13 n14 n15 n16 n17 n18 n19 s20 b21 (λn0 z1 t2 l3 n4 z5 t6 l7 n8v s9 n10 n11 n12 n13 n14 n15 n16 n17 n18 n19 s20 b21=>k .normal ⟨gp [(4,.ptr 0 0 0),(0,.ptr 1 0 0),(0,.ptr 2 0 0),(1,.ptr 4 0 0),(0,.ptr 5 0 0),(27,.fnr (Fn.func 76) [] [.bad])] 12,[.box [pI n0],.box [.s (.sp [[.sl z1 t2 3 l3,.int .i64 n4]] 0 0)],.box [.s (.sp [[.sl z5 t6 2 l7]] 0 0)],.box [pI n8v,pS s9,p32 n10,p16 n11,p16 n12,p16 n13,p16 n14,p16 n15,p16 n16,p16 n17,p16 n18],.box [pI (0:Int),pS ([]:List UInt8),pB false],.box [pI (0:Int),pS ([]:List UInt8),pB false],.box [pI n19,pS s20,pB b21],.box [.bad]],s⟩) (λn0 z1 t2 l3 n4 z5 t6 l7 n8v s9 n10 n11 n12 n13 n14 n15 n16 n17 n18 n19 s20 b21 n22 s23 b24=>k (.exit 0) ⟨gp [(4,.ptr 0 0 0),(0,.ptr 1 0 0),(0,.ptr 2 0 0),(1,.ptr 4 0 0),(0,.ptr 5 0 0),(27,.fnr (Fn.func 76) [] [.bad])] 12,[.box [pI n0],.box [.s (.sp [[.sl z1 t2 3 l3,.int .i64 n4]] 0 0)],.box [.s (.sp [[.sl z5 t6 2 l7]] 0 0)],.box [pI n8v,pS s9,p32 n10,p16 n11,p16 n12,p16 n13,p16 n14,p16 n15,p16 n16,p16 n17,p16 n18],.box [pI (0:Int),pS ([]:List UInt8),pB false],.box [pI n19,pS s20,pB b21],.box [pI n22,pS s23,pB b24],.box [.bad]],s⟩):=by
 induction L generalizing n0 z1 t2 l3 n4 z5 t6 l7 n8v s9 n10 n11 n12 n13 n14 n15 n16 n17 n18 n19 s20 b21 with
 | nil=>rfl
 | cons x'4 xs ih=>rw [CA];unfold No;exact (Eq.trans (by kernel_rfl) (A0 (A0 (A0 (A0 (A0 (A0 (A0 (A8 λn'5=>(A8 λs'6=>(A0 rfl (ih n0 z1 t2 l3 n4 z5 t6 l7 n8v s9 n10 n11 n12 n13 n14 n15 n16 n17 n18 n19 s20 b21)))) rfl) rfl) rfl) rfl) rfl) rfl) rfl))
noncomputable def Vf {R:Type} (lf:Nat) (n0:Int) (z1 t2:Bool) (l3:LL) (n4:Int) (z5 t6:Bool) (l7:LL) (n8v:Int) (s9:By) (n10 n11 n12 n13 n14 n15 n16 n17 n18 n19:Int) (s20:By) (b21:Bool) (k0:Int->Bool->Bool->LL->Int->Bool->Bool->LL->Int->By->Int->Int->Int->Int->Int->Int->Int->Int->Int->Int->By->Bool->Option R) (k1:Int->Bool->Bool->LL->Int->Bool->Bool->LL->Int->By->Int->Int->Int->Int->Int->Int->Int->Int->Int->Int->By->Bool->Int->By->Bool->Option R):Option R:=cond (A1 s9.length) (Nn lf (E2 s9) n0 z1 t2 l3 n4 z5 t6 l7 n8v s9 n10 n11 n12 n13 n14 n15 n16 n17 n18 n19 s20 b21 k0 k1) none
abbrev BZ (b:Code):Prop:=∀ (k:Out->St σ->Option R) n0 z1 t2 l3 n4 z5 t6 l7 n8v s9 n10 n11 n12 n13 n14 n15 n16 n17 n18 n19 s20 b21,B2 (Cl lf) cl yh b ⟨gp [(4,.ptr 0 0 0),(0,.ptr 1 0 0),(0,.ptr 2 0 0),(1,.ptr 4 0 0),(0,.ptr 5 0 0),(27,.fnr (Fn.func 76) [] [.ptr 7 0 0])] 12,[.box [pI n0],.box [.s (.sp [[.sl z1 t2 3 l3,.int .i64 n4]] 0 0)],.box [.s (.sp [[.sl z5 t6 2 l7]] 0 0)],.box [pI n8v,pS s9,p32 n10,p16 n11,p16 n12,p16 n13,p16 n14,p16 n15,p16 n16,p16 n17,p16 n18],.box [pI (0:Int),pS ([]:List UInt8),pB false],.box [pI (0:Int),pS ([]:List UInt8),pB false],.box [pI n19,pS s20,pB b21],.box [pS s9]],s⟩ k=Vf lf n0 z1 t2 l3 n4 z5 t6 l7 n8v s9 n10 n11 n12 n13 n14 n15 n16 n17 n18 n19 s20 b21 (λn0 z1 t2 l3 n4 z5 t6 l7 n8v s9 n10 n11 n12 n13 n14 n15 n16 n17 n18 n19 s20 b21=>k .normal ⟨gp [(4,.ptr 0 0 0),(0,.ptr 1 0 0),(0,.ptr 2 0 0),(1,.ptr 4 0 0),(0,.ptr 5 0 0),(27,.fnr (Fn.func 76) [] [.bad])] 12,[.box [pI n0],.box [.s (.sp [[.sl z1 t2 3 l3,.int .i64 n4]] 0 0)],.box [.s (.sp [[.sl z5 t6 2 l7]] 0 0)],.box [pI n8v,pS s9,p32 n10,p16 n11,p16 n12,p16 n13,p16 n14,p16 n15,p16 n16,p16 n17,p16 n18],.box [pI (0:Int),pS ([]:List UInt8),pB false],.box [pI (0:Int),pS ([]:List UInt8),pB false],.box [pI n19,pS s20,pB b21],.box [.bad]],s⟩) (λn0 z1 t2 l3 n4 z5 t6 l7 n8v s9 n10 n11 n12 n13 n14 n15 n16 n17 n18 n19 s20 b21 n22 s23 b24=>k (.exit 0) ⟨gp [(4,.ptr 0 0 0),(0,.ptr 1 0 0),(0,.ptr 2 0 0),(1,.ptr 4 0 0),(0,.ptr 5 0 0),(27,.fnr (Fn.func 76) [] [.bad])] 12,[.box [pI n0],.box [.s (.sp [[.sl z1 t2 3 l3,.int .i64 n4]] 0 0)],.box [.s (.sp [[.sl z5 t6 2 l7]] 0 0)],.box [pI n8v,pS s9,p32 n10,p16 n11,p16 n12,p16 n13,p16 n14,p16 n15,p16 n16,p16 n17,p16 n18],.box [pI (0:Int),pS ([]:List UInt8),pB false],.box [pI n19,pS s20,pB b21],.box [pI n22,pS s23,pB b24],.box [.bad]],s⟩)
theorem TE:BZ (R:=R) lf cl yh s (cd [1,0,1,1,1,1,0,1,0] Rf):=by
 intro k n0 z1 t2 l3 n4 z5 t6 l7 n8v s9 n10 n11 n12 n13 n14 n15 n16 n17 n18 n19 s20 b21;unfold Vf;exact ((MU [1,0,1,1,1,1,0,1,0] (by kernel_rfl)).trans (by kernel_rfl)).trans (Df (TF lf cl yh s k (E2 s9) n0 z1 t2 l3 n4 z5 t6 l7 n8v s9 n10 n11 n12 n13 n14 n15 n16 n17 n18 n19 s20 b21))
noncomputable def Ax3 {R:Type} (lf:Nat) (now:Int) (tz tt:Bool) (t:LL) (cp:Int) (lz lt:Bool) (l:LL) (kd:Int) (nm:By) (v4 a0 a1 a2 a3 a4 a5 a6 a7:Int) (k0:Int->Bool->Bool->LL->Int->Bool->Bool->LL->Int->By->Int->Int->Int->Int->Int->Int->Int->Int->Int->Option R) (k1:Int->By->Bool->Int->Bool->Bool->LL->Int->Bool->Bool->LL->Int->By->Int->Int->Int->Int->Int->Int->Int->Int->Int->Option R) (k2:Int->By->Bool->Int->Bool->Bool->LL->Int->Bool->Bool->LL->Int->By->Int->Int->Int->Int->Int->Int->Int->Int->Int->Int->By->Bool->Int->By->Bool->Int->By->Bool->Option R):Option R:=cond (kd != 1) (k0 now tz tt t cp lz lt l kd nm v4 a0 a1 a2 a3 a4 a5 a6 a7) (cond (A1 nm.length) (cond (ltN v4 4294967296) (cond (ok8 a0 a1 a2 a3 a4 a5 a6 a7) (cond (not (M8 (mkH kd nm v4 (n8 a0 a1 a2 a3 a4 a5 a6 a7)))) (k0 now tz tt t cp lz lt l kd nm v4 a0 a1 a2 a3 a4 a5 a6 a7) (cond (List.all t F1) (cond (List.all t smE) (cond (A1 t.length) (cond (List.all l D1) (cond (List.all l smE) (cond (A1 l.length) (cond (A1 nm.length) (vl (((atV now (List.map B0 t) (List.map A6 l) nm true)).1).1 λn'2=>vl ((((atV now (List.map B0 t) (List.map A6 l) nm true)).1).2).1 λs'3=>cond ((atV now (List.map B0 t) (List.map A6 l) nm true)).2 (k1 n'2 s'3 ((((atV now (List.map B0 t) (List.map A6 l) nm true)).1).2).2 now tz tt t cp lz lt l kd nm v4 a0 a1 a2 a3 a4 a5 a6 a7) (Vf lf now tz tt t cp lz lt l kd nm v4 a0 a1 a2 a3 a4 a5 a6 a7 n'2 s'3 ((((atV now (List.map B0 t) (List.map A6 l) nm true)).1).2).2 (λn'7 z'8 t'9 l'10 n'11 z'12 t'13 l'14 n'15 s'16 n'17 n'18 n'19 n'20 n'21 n'22 n'23 n'24 n'25 n'26 s'27 b'28=>k2 0 ([]:List UInt8) false n'7 z'8 t'9 l'10 n'11 z'12 t'13 l'14 n'15 s'16 n'17 n'18 n'19 n'20 n'21 n'22 n'23 n'24 n'25 0 ([]:List UInt8) false 0 ([]:List UInt8) false n'26 s'27 b'28) (λn'29 z'30 t'31 l'32 n'33 z'34 t'35 l'36 n'37 s'38 n'39 n'40 n'41 n'42 n'43 n'44 n'45 n'46 n'47 n'48 s'49 b'50 n'51 s'52 b'53=>k2 n'48 s'49 b'50 n'29 z'30 t'31 l'32 n'33 z'34 t'35 l'36 n'37 s'38 n'39 n'40 n'41 n'42 n'43 n'44 n'45 n'46 n'47 n'48 s'49 b'50 n'48 s'49 b'50 n'51 s'52 b'53))) none) none) none) none) none) none) none)) none) none) none)
theorem Bd5 (b_101111010:Code) (h_cfdA_e1:BZ (R:=PV × List Blk × σ) lf cl yh s b_101111010) (now:Int) (tz tt:Bool) (t:LL) (cp:Int) (lz lt:Bool) (l:LL) (kd:Int) (nm:By) (v4 a0 a1 a2 a3 a4 a5 a6 a7:Int):B2 (Cl lf) cl yh (cd [] (R1 [1,0,1,1,1,1,0,1,0] b_101111010 Rf)) ⟨[pI now,.s (.sp [[.sl tz tt 3 t,.int .i64 cp]] 0 0),.s (.sp [[.sl lz lt 2 l]] 0 0),.agg [pI kd,pS nm,p32 v4,p16 a0,p16 a1,p16 a2,p16 a3,p16 a4,p16 a5,p16 a6,p16 a7]]++tps 46,[],s⟩ (H4 (Cl lf) Tryz.f15)=Ax3 lf now tz tt t cp lz lt l kd nm v4 a0 a1 a2 a3 a4 a5 a6 a7 (λn0 z1 t2 l3 n4 z5 t6 l7 n8v s9 n10 n11 n12 n13 n14 n15 n16 n17 n18=>some (.agg [pI (0:Int),pS ([]:List UInt8),pB false],[.box [pI n0],.box [.s (.sp [[.sl z1 t2 3 l3,.int .i64 n4]] 0 0)],.box [.s (.sp [[.sl z5 t6 2 l7]] 0 0)],.box [pI n8v,pS s9,p32 n10,p16 n11,p16 n12,p16 n13,p16 n14,p16 n15,p16 n16,p16 n17,p16 n18],.box [pI (0:Int),pS ([]:List UInt8),pB false],.box [pI (0:Int),pS ([]:List UInt8),pB false]],s)) (λr0 r1 r2 n3 z4 t5 l6 n7 z8 t9 l10 n11 s12 n13 n14 n15 n16 n17 n18 n19 n20 n21=>some (.agg [pI r0,pS r1,pB r2],[.box [pI n3],.box [.s (.sp [[.sl z4 t5 3 l6,.int .i64 n7]] 0 0)],.box [.s (.sp [[.sl z8 t9 2 l10]] 0 0)],.box [pI n11,pS s12,p32 n13,p16 n14,p16 n15,p16 n16,p16 n17,p16 n18,p16 n19,p16 n20,p16 n21],.box [pI r0,pS r1,pB r2],.box [pI (0:Int),pS ([]:List UInt8),pB false],.box [pI r0,pS r1,pB r2]],s)) (λr0 r1 r2 n3 z4 t5 l6 n7 z8 t9 l10 n11 s12 n13 n14 n15 n16 n17 n18 n19 n20 n21 n22 s23 b24 n25 s26 b27 n28 s29 b30=>some (.agg [pI r0,pS r1,pB r2],[.box [pI n3],.box [.s (.sp [[.sl z4 t5 3 l6,.int .i64 n7]] 0 0)],.box [.s (.sp [[.sl z8 t9 2 l10]] 0 0)],.box [pI n11,pS s12,p32 n13,p16 n14,p16 n15,p16 n16,p16 n17,p16 n18,p16 n19,p16 n20,p16 n21],.box [pI n22,pS s23,pB b24],.box [pI n25,pS s26,pB b27],.box [pI n28,pS s29,pB b30],.box [.bad]],s)):=by
 unfold Ax3;exact (Eq.trans (by kernel_rfl) (A0 rfl (A0 (A0 (A0 (A0 rfl (A0 (A0 (A0 (A0 (A0 (A0 (A0 (A8 λn'2=>(A8 λs'3=>(A0 rfl ((h_cfdA_e1 (G8 0 (I4 (Cl lf) cl yh (cd [1,0,1,1,1,1,1] Rf) (H4 (Cl lf) Tryz.f15))) now tz tt t cp lz lt l kd nm v4 a0 a1 a2 a3 a4 a5 a6 a7 n'2 s'3 ((((atV now (List.map B0 t) (List.map A6 l) nm true)).1).2).2).trans (by kernel_rfl))))) rfl) rfl) rfl) rfl) rfl) rfl) rfl)) rfl) rfl) rfl)))
theorem Bd6 (d:Nat) (now tz tt t cp lz lt l kd nm v4 a0 a1 a2 a3 a4 a5 a6 a7):evC (Cl lf) (d+1) σ yh 15 [pI now,.s (.sp [[.sl tz tt 3 t,.int .i64 cp]] 0 0),.s (.sp [[.sl lz lt 2 l]] 0 0),.agg [pI kd,pS nm,p32 v4,p16 a0,p16 a1,p16 a2,p16 a3,p16 a4,p16 a5,p16 a6,p16 a7]] [] s=Ax3 lf now tz tt t cp lz lt l kd nm v4 a0 a1 a2 a3 a4 a5 a6 a7 (λn0 z1 t2 l3 n4 z5 t6 l7 n8v s9 n10 n11 n12 n13 n14 n15 n16 n17 n18=>some (.agg [pI (0:Int),pS ([]:List UInt8),pB false],[.box [pI n0],.box [.s (.sp [[.sl z1 t2 3 l3,.int .i64 n4]] 0 0)],.box [.s (.sp [[.sl z5 t6 2 l7]] 0 0)],.box [pI n8v,pS s9,p32 n10,p16 n11,p16 n12,p16 n13,p16 n14,p16 n15,p16 n16,p16 n17,p16 n18],.box [pI (0:Int),pS ([]:List UInt8),pB false],.box [pI (0:Int),pS ([]:List UInt8),pB false]],s)) (λr0 r1 r2 n3 z4 t5 l6 n7 z8 t9 l10 n11 s12 n13 n14 n15 n16 n17 n18 n19 n20 n21=>some (.agg [pI r0,pS r1,pB r2],[.box [pI n3],.box [.s (.sp [[.sl z4 t5 3 l6,.int .i64 n7]] 0 0)],.box [.s (.sp [[.sl z8 t9 2 l10]] 0 0)],.box [pI n11,pS s12,p32 n13,p16 n14,p16 n15,p16 n16,p16 n17,p16 n18,p16 n19,p16 n20,p16 n21],.box [pI r0,pS r1,pB r2],.box [pI (0:Int),pS ([]:List UInt8),pB false],.box [pI r0,pS r1,pB r2]],s)) (λr0 r1 r2 n3 z4 t5 l6 n7 z8 t9 l10 n11 s12 n13 n14 n15 n16 n17 n18 n19 n20 n21 n22 s23 b24 n25 s26 b27 n28 s29 b30=>some (.agg [pI r0,pS r1,pB r2],[.box [pI n3],.box [.s (.sp [[.sl z4 t5 3 l6,.int .i64 n7]] 0 0)],.box [.s (.sp [[.sl z8 t9 2 l10]] 0 0)],.box [pI n11,pS s12,p32 n13,p16 n14,p16 n15,p16 n16,p16 n17,p16 n18,p16 n19,p16 n20,p16 n21],.box [pI n22,pS s23,pB b24],.box [pI n25,pS s26,pB b27],.box [pI n28,pS s29,pB b30],.box [.bad]],s)):=
 (evE (fn:=Tryz.f15) (by kernel_rfl)).trans (Eq.trans (by kernel_rfl) (Bd5 lf (evC (Cl lf) d) yh s (cd [1,0,1,1,1,1,0,1,0] Rf) (TE lf (evC (Cl lf) d) yh s) now tz tt t cp lz lt l kd nm v4 a0 a1 a2 a3 a4 a5 a6 a7))
noncomputable abbrev Ax4 (now:Int) (tz tt:Bool) (t:LL) (cp:Int) (lz lt:Bool) (l:LL) (kd:Int) (nm:By) (v4 a0 a1 a2 a3 a4 a5 a6 a7:Int):Option (PV × List Blk × Unit):=Ax3 LF now tz tt t cp lz lt l kd nm v4 a0 a1 a2 a3 a4 a5 a6 a7 (λn0 z1 t2 l3 n4 z5 t6 l7 n8v s9 n10 n11 n12 n13 n14 n15 n16 n17 n18=>some (.agg [pI (0:Int),pS ([]:List UInt8),pB false],[.box [pI n0],.box [.s (.sp [[.sl z1 t2 3 l3,.int .i64 n4]] 0 0)],.box [.s (.sp [[.sl z5 t6 2 l7]] 0 0)],.box [pI n8v,pS s9,p32 n10,p16 n11,p16 n12,p16 n13,p16 n14,p16 n15,p16 n16,p16 n17,p16 n18],.box [pI (0:Int),pS ([]:List UInt8),pB false],.box [pI (0:Int),pS ([]:List UInt8),pB false]],())) (λr0 r1 r2 n3 z4 t5 l6 n7 z8 t9 l10 n11 s12 n13 n14 n15 n16 n17 n18 n19 n20 n21=>some (.agg [pI r0,pS r1,pB r2],[.box [pI n3],.box [.s (.sp [[.sl z4 t5 3 l6,.int .i64 n7]] 0 0)],.box [.s (.sp [[.sl z8 t9 2 l10]] 0 0)],.box [pI n11,pS s12,p32 n13,p16 n14,p16 n15,p16 n16,p16 n17,p16 n18,p16 n19,p16 n20,p16 n21],.box [pI r0,pS r1,pB r2],.box [pI (0:Int),pS ([]:List UInt8),pB false],.box [pI r0,pS r1,pB r2]],())) (λr0 r1 r2 n3 z4 t5 l6 n7 z8 t9 l10 n11 s12 n13 n14 n15 n16 n17 n18 n19 n20 n21 n22 s23 b24 n25 s26 b27 n28 s29 b30=>some (.agg [pI r0,pS r1,pB r2],[.box [pI n3],.box [.s (.sp [[.sl z4 t5 3 l6,.int .i64 n7]] 0 0)],.box [.s (.sp [[.sl z8 t9 2 l10]] 0 0)],.box [pI n11,pS s12,p32 n13,p16 n14,p16 n15,p16 n16,p16 n17,p16 n18,p16 n19,p16 n20,p16 n21],.box [pI n22,pS s23,pB b24],.box [pI n25,pS s26,pB b27],.box [pI n28,pS s29,pB b30],.box [.bad]],()))
noncomputable abbrev Rg:Code:=D3 Tryz.f15
noncomputable def Cm (lf:Nat):Cfg:=B8 lf [15] (A4 []) [(39,Ex),(40,Nc),(41,Ew)] (A4 [(12,[8]),(11,[8,0]),(10,[4,0,0,1,0,3,33]),(9,[4,0,0,1,0,3,0]),(8,[4,0,0,1,0,2]),(7,[4,0,0,1,0,27]),(6,[8]),(5,[4,0,0,0,0,0,0,22]),(4,[4,0,0,0,0,0,0,0]),(3,[8]),(2,[4,0,0,0,0,0,12]),(1,[4,0,0,0,0,0]),(0,[4,0,0,0,0])]) [39] (A4 [(0,[8,0]),(1,[4,0,0,1,0])]) (some [8]) [] [(76,W8)] []
noncomputable def Nq {R:Type} (lf:Nat) (x'4:By) (xs:List By) (self:Int->Bool->Bool->LL->Int->By->Int->Int->Int->Int->Int->Int->Int->Int->Int->Int->By->Bool->Option R) (n0:Int) (z1 t2:Bool) (l3:LL) (n4:Int) (s5:By) (n6 n7 n8v n9 n10 n11 n12 n13 n14 n15:Int) (s16:By) (b17:Bool) (k0:Int->Bool->Bool->LL->Int->By->Int->Int->Int->Int->Int->Int->Int->Int->Int->Int->By->Bool->Option R) (k1:Int->Bool->Bool->LL->Int->By->Int->Int->Int->Int->Int->Int->Int->Int->Int->Int->By->Bool->Int->By->Bool->Option R):Option R:=cond (List.all l3 D1) (cond (List.all l3 smE) (cond (A1 l3.length) (cond (A1 x'4.length) (vl (((atV n0 List.nil (List.map A6 l3) x'4 false)).1).1 λn'5=>vl ((((atV n0 List.nil (List.map A6 l3) x'4 false)).1).2).1 λs'6=>cond ((atV n0 List.nil (List.map A6 l3) x'4 false)).2 (k1 n0 z1 t2 l3 n4 s5 n6 n7 n8v n9 n10 n11 n12 n13 n14 n'5 s'6 ((((atV n0 List.nil (List.map A6 l3) x'4 false)).1).2).2 n15 s16 b17) (self n0 z1 t2 l3 n4 s5 n6 n7 n8v n9 n10 n11 n12 n13 n14 n15 s16 b17)) none) none) none) none
noncomputable def Np {R:Type} (lf:Nat) (L:List By) (n0:Int) (z1 t2:Bool) (l3:LL) (n4:Int) (s5:By) (n6 n7 n8v n9 n10 n11 n12 n13 n14 n15:Int) (s16:By) (b17:Bool) (k0:Int->Bool->Bool->LL->Int->By->Int->Int->Int->Int->Int->Int->Int->Int->Int->Int->By->Bool->Option R) (k1:Int->Bool->Bool->LL->Int->By->Int->Int->Int->Int->Int->Int->Int->Int->Int->Int->By->Bool->Int->By->Bool->Option R):Option R:=XC (α:=Int->Bool->Bool->LL->Int->By->Int->Int->Int->Int->Int->Int->Int->Int->Int->Int->By->Bool->Option R) (λn0 z1 t2 l3 n4 s5 n6 n7 n8v n9 n10 n11 n12 n13 n14 n15 s16 b17=>k0 n0 z1 t2 l3 n4 s5 n6 n7 n8v n9 n10 n11 n12 n13 n14 n15 s16 b17) (λx'4 xs self n0 z1 t2 l3 n4 s5 n6 n7 n8v n9 n10 n11 n12 n13 n14 n15 s16 b17=>Nq lf x'4 xs self n0 z1 t2 l3 n4 s5 n6 n7 n8v n9 n10 n11 n12 n13 n14 n15 s16 b17 k0 k1) L n0 z1 t2 l3 n4 s5 n6 n7 n8v n9 n10 n11 n12 n13 n14 n15 s16 b17
theorem CD {R:Type} (lf:Nat) (x'4:By) (xs:List By) (n0:Int) (z1 t2:Bool) (l3:LL) (n4:Int) (s5:By) (n6 n7 n8v n9 n10 n11 n12 n13 n14 n15:Int) (s16:By) (b17:Bool) (k0:Int->Bool->Bool->LL->Int->By->Int->Int->Int->Int->Int->Int->Int->Int->Int->Int->By->Bool->Option R) (k1:Int->Bool->Bool->LL->Int->By->Int->Int->Int->Int->Int->Int->Int->Int->Int->Int->By->Bool->Int->By->Bool->Option R):Np lf (x'4::xs) n0 z1 t2 l3 n4 s5 n6 n7 n8v n9 n10 n11 n12 n13 n14 n15 s16 b17 k0 k1=Nq lf x'4 xs (λn0 z1 t2 l3 n4 s5 n6 n7 n8v n9 n10 n11 n12 n13 n14 n15 s16 b17=>Np lf xs n0 z1 t2 l3 n4 s5 n6 n7 n8v n9 n10 n11 n12 n13 n14 n15 s16 b17 k0 k1) n0 z1 t2 l3 n4 s5 n6 n7 n8v n9 n10 n11 n12 n13 n14 n15 s16 b17 k0 k1:=rfl
theorem TH (L:List By) (n0:Int) (z1 t2:Bool) (l3:LL) (n4:Int) (s5:By) (n6 n7 n8v n9 n10 n11 n12 n13 n14 n15:Int) (s16:By) (b17:Bool):N9 #[38] (gp [(4,.ptr 0 0 0),(0,.ptr 1 0 0),(0,.ptr 2 0 0),(1,.ptr 4 0 0),(0,.ptr 5 0 0),(27,.fnr (Fn.func 76) [] [.bad])] 12) (bd (Cm lf) cl yh (cd [1,0,1,1,1,1,0,1,0,0] Rg)) (bd (Cm lf) cl yh (cd [1,0,1,1,1,1,0,1,0,1] Rg)) (L.map (λ(x'4:By)=>([pS x'4]:List PV))) [.box [pI n0],.box [.s (.nilp)],.box [.s (.sp [[.sl z1 t2 2 l3]] 0 0)],.box [pI n4,pS s5,p32 n6,p16 n7,p16 n8v,p16 n9,p16 n10,p16 n11,p16 n12,p16 n13,p16 n14],.box [pI (0:Int),pS ([]:List UInt8),pB false],.box [pI (0:Int),pS ([]:List UInt8),pB false],.box [pI n15,pS s16,pB b17],.dead] s (rgK (gp [(4,.ptr 0 0 0),(0,.ptr 1 0 0),(0,.ptr 2 0 0),(1,.ptr 4 0 0),(0,.ptr 5 0 0),(27,.fnr (Fn.func 76) [] [.bad])] 12) (λH=>P0 H [7] [.box [.bad]]) k) =
 Np lf L n0 z1 t2 l3 n4 s5 n6 n7 n8v n9 n10 n11 n12 n13 n14 n15 s16 b17 (λn0 z1 t2 l3 n4 s5 n6 n7 n8v n9 n10 n11 n12 n13 n14 n15 s16 b17=>k .normal ⟨gp [(4,.ptr 0 0 0),(0,.ptr 1 0 0),(0,.ptr 2 0 0),(1,.ptr 4 0 0),(0,.ptr 5 0 0),(27,.fnr (Fn.func 76) [] [.bad])] 12,[.box [pI n0],.box [.s (.nilp)],.box [.s (.sp [[.sl z1 t2 2 l3]] 0 0)],.box [pI n4,pS s5,p32 n6,p16 n7,p16 n8v,p16 n9,p16 n10,p16 n11,p16 n12,p16 n13,p16 n14],.box [pI (0:Int),pS ([]:List UInt8),pB false],.box [pI (0:Int),pS ([]:List UInt8),pB false],.box [pI n15,pS s16,pB b17],.box [.bad]],s⟩) (λn0 z1 t2 l3 n4 s5 n6 n7 n8v n9 n10 n11 n12 n13 n14 n15 s16 b17 n18 s19 b20=>k (.exit 0) ⟨gp [(4,.ptr 0 0 0),(0,.ptr 1 0 0),(0,.ptr 2 0 0),(1,.ptr 4 0 0),(0,.ptr 5 0 0),(27,.fnr (Fn.func 76) [] [.bad])] 12,[.box [pI n0],.box [.s (.nilp)],.box [.s (.sp [[.sl z1 t2 2 l3]] 0 0)],.box [pI n4,pS s5,p32 n6,p16 n7,p16 n8v,p16 n9,p16 n10,p16 n11,p16 n12,p16 n13,p16 n14],.box [pI (0:Int),pS ([]:List UInt8),pB false],.box [pI n15,pS s16,pB b17],.box [pI n18,pS s19,pB b20],.box [.bad]],s⟩):=by
 induction L generalizing n0 z1 t2 l3 n4 s5 n6 n7 n8v n9 n10 n11 n12 n13 n14 n15 s16 b17 with
 | nil=>rfl
 | cons x'4 xs ih=>rw [CD];unfold Nq;exact (Eq.trans (by kernel_rfl) (A0 (A0 (A0 (A0 (A8 λn'5=>(A8 λs'6=>(A0 rfl (ih n0 z1 t2 l3 n4 s5 n6 n7 n8v n9 n10 n11 n12 n13 n14 n15 s16 b17)))) rfl) rfl) rfl) rfl))
noncomputable def Vg {R:Type} (lf:Nat) (n0:Int) (z1 t2:Bool) (l3:LL) (n4:Int) (s5:By) (n6 n7 n8v n9 n10 n11 n12 n13 n14 n15:Int) (s16:By) (b17:Bool) (k0:Int->Bool->Bool->LL->Int->By->Int->Int->Int->Int->Int->Int->Int->Int->Int->Int->By->Bool->Option R) (k1:Int->Bool->Bool->LL->Int->By->Int->Int->Int->Int->Int->Int->Int->Int->Int->Int->By->Bool->Int->By->Bool->Option R):Option R:=cond (A1 s5.length) (Np lf (E2 s5) n0 z1 t2 l3 n4 s5 n6 n7 n8v n9 n10 n11 n12 n13 n14 n15 s16 b17 k0 k1) none
abbrev CC (b:Code):Prop:=∀ (k:Out->St σ->Option R) n0 z1 t2 l3 n4 s5 n6 n7 n8v n9 n10 n11 n12 n13 n14 n15 s16 b17,B2 (Cm lf) cl yh b ⟨gp [(4,.ptr 0 0 0),(0,.ptr 1 0 0),(0,.ptr 2 0 0),(1,.ptr 4 0 0),(0,.ptr 5 0 0),(27,.fnr (Fn.func 76) [] [.ptr 7 0 0])] 12,[.box [pI n0],.box [.s (.nilp)],.box [.s (.sp [[.sl z1 t2 2 l3]] 0 0)],.box [pI n4,pS s5,p32 n6,p16 n7,p16 n8v,p16 n9,p16 n10,p16 n11,p16 n12,p16 n13,p16 n14],.box [pI (0:Int),pS ([]:List UInt8),pB false],.box [pI (0:Int),pS ([]:List UInt8),pB false],.box [pI n15,pS s16,pB b17],.box [pS s5]],s⟩ k=Vg lf n0 z1 t2 l3 n4 s5 n6 n7 n8v n9 n10 n11 n12 n13 n14 n15 s16 b17 (λn0 z1 t2 l3 n4 s5 n6 n7 n8v n9 n10 n11 n12 n13 n14 n15 s16 b17=>k .normal ⟨gp [(4,.ptr 0 0 0),(0,.ptr 1 0 0),(0,.ptr 2 0 0),(1,.ptr 4 0 0),(0,.ptr 5 0 0),(27,.fnr (Fn.func 76) [] [.bad])] 12,[.box [pI n0],.box [.s (.nilp)],.box [.s (.sp [[.sl z1 t2 2 l3]] 0 0)],.box [pI n4,pS s5,p32 n6,p16 n7,p16 n8v,p16 n9,p16 n10,p16 n11,p16 n12,p16 n13,p16 n14],.box [pI (0:Int),pS ([]:List UInt8),pB false],.box [pI (0:Int),pS ([]:List UInt8),pB false],.box [pI n15,pS s16,pB b17],.box [.bad]],s⟩) (λn0 z1 t2 l3 n4 s5 n6 n7 n8v n9 n10 n11 n12 n13 n14 n15 s16 b17 n18 s19 b20=>k (.exit 0) ⟨gp [(4,.ptr 0 0 0),(0,.ptr 1 0 0),(0,.ptr 2 0 0),(1,.ptr 4 0 0),(0,.ptr 5 0 0),(27,.fnr (Fn.func 76) [] [.bad])] 12,[.box [pI n0],.box [.s (.nilp)],.box [.s (.sp [[.sl z1 t2 2 l3]] 0 0)],.box [pI n4,pS s5,p32 n6,p16 n7,p16 n8v,p16 n9,p16 n10,p16 n11,p16 n12,p16 n13,p16 n14],.box [pI (0:Int),pS ([]:List UInt8),pB false],.box [pI n15,pS s16,pB b17],.box [pI n18,pS s19,pB b20],.box [.bad]],s⟩)
theorem TG:CC (R:=R) lf cl yh s (cd [1,0,1,1,1,1,0,1,0] Rg):=by
 intro k n0 z1 t2 l3 n4 s5 n6 n7 n8v n9 n10 n11 n12 n13 n14 n15 s16 b17;unfold Vg;exact ((MU [1,0,1,1,1,1,0,1,0] (by kernel_rfl)).trans (by kernel_rfl)).trans (Df (TH lf cl yh s k (E2 s5) n0 z1 t2 l3 n4 s5 n6 n7 n8v n9 n10 n11 n12 n13 n14 n15 s16 b17))
noncomputable def Ax5 {R:Type} (lf:Nat) (now:Int) (lz lt:Bool) (l:LL) (kd:Int) (nm:By) (v4 a0 a1 a2 a3 a4 a5 a6 a7:Int) (k0:Int->Bool->Bool->LL->Int->By->Int->Int->Int->Int->Int->Int->Int->Int->Int->Option R) (k1:Int->By->Bool->Int->Bool->Bool->LL->Int->By->Int->Int->Int->Int->Int->Int->Int->Int->Int->Option R) (k2:Int->By->Bool->Int->Bool->Bool->LL->Int->By->Int->Int->Int->Int->Int->Int->Int->Int->Int->Int->By->Bool->Int->By->Bool->Int->By->Bool->Option R):Option R:=cond (kd != 1) (k0 now lz lt l kd nm v4 a0 a1 a2 a3 a4 a5 a6 a7) (cond (A1 nm.length) (cond (ltN v4 4294967296) (cond (ok8 a0 a1 a2 a3 a4 a5 a6 a7) (cond (not (M8 (mkH kd nm v4 (n8 a0 a1 a2 a3 a4 a5 a6 a7)))) (k0 now lz lt l kd nm v4 a0 a1 a2 a3 a4 a5 a6 a7) (cond (List.all l D1) (cond (List.all l smE) (cond (A1 l.length) (cond (A1 nm.length) (vl (((atV now List.nil (List.map A6 l) nm true)).1).1 λn'2=>vl ((((atV now List.nil (List.map A6 l) nm true)).1).2).1 λs'3=>cond ((atV now List.nil (List.map A6 l) nm true)).2 (k1 n'2 s'3 ((((atV now List.nil (List.map A6 l) nm true)).1).2).2 now lz lt l kd nm v4 a0 a1 a2 a3 a4 a5 a6 a7) (Vg lf now lz lt l kd nm v4 a0 a1 a2 a3 a4 a5 a6 a7 n'2 s'3 ((((atV now List.nil (List.map A6 l) nm true)).1).2).2 (λn'7 z'8 t'9 l'10 n'11 s'12 n'13 n'14 n'15 n'16 n'17 n'18 n'19 n'20 n'21 n'22 s'23 b'24=>k2 0 ([]:List UInt8) false n'7 z'8 t'9 l'10 n'11 s'12 n'13 n'14 n'15 n'16 n'17 n'18 n'19 n'20 n'21 0 ([]:List UInt8) false 0 ([]:List UInt8) false n'22 s'23 b'24) (λn'25 z'26 t'27 l'28 n'29 s'30 n'31 n'32 n'33 n'34 n'35 n'36 n'37 n'38 n'39 n'40 s'41 b'42 n'43 s'44 b'45=>k2 n'40 s'41 b'42 n'25 z'26 t'27 l'28 n'29 s'30 n'31 n'32 n'33 n'34 n'35 n'36 n'37 n'38 n'39 n'40 s'41 b'42 n'40 s'41 b'42 n'43 s'44 b'45))) none) none) none) none)) none) none) none)
theorem Bd8 (b_101111010:Code) (h_cfdB_e1:CC (R:=PV × List Blk × σ) lf cl yh s b_101111010) (now:Int) (lz lt:Bool) (l:LL) (kd:Int) (nm:By) (v4 a0 a1 a2 a3 a4 a5 a6 a7:Int):B2 (Cm lf) cl yh (cd [] (R1 [1,0,1,1,1,1,0,1,0] b_101111010 Rg)) ⟨[pI now,.s (.nilp),.s (.sp [[.sl lz lt 2 l]] 0 0),.agg [pI kd,pS nm,p32 v4,p16 a0,p16 a1,p16 a2,p16 a3,p16 a4,p16 a5,p16 a6,p16 a7]]++tps 46,[],s⟩ (H4 (Cm lf) Tryz.f15)=Ax5 lf now lz lt l kd nm v4 a0 a1 a2 a3 a4 a5 a6 a7 (λn0 z1 t2 l3 n4 s5 n6 n7 n8v n9 n10 n11 n12 n13 n14=>some (.agg [pI (0:Int),pS ([]:List UInt8),pB false],[.box [pI n0],.box [.s (.nilp)],.box [.s (.sp [[.sl z1 t2 2 l3]] 0 0)],.box [pI n4,pS s5,p32 n6,p16 n7,p16 n8v,p16 n9,p16 n10,p16 n11,p16 n12,p16 n13,p16 n14],.box [pI (0:Int),pS ([]:List UInt8),pB false],.box [pI (0:Int),pS ([]:List UInt8),pB false]],s)) (λr0 r1 r2 n3 z4 t5 l6 n7 s8 n9 n10 n11 n12 n13 n14 n15 n16 n17=>some (.agg [pI r0,pS r1,pB r2],[.box [pI n3],.box [.s (.nilp)],.box [.s (.sp [[.sl z4 t5 2 l6]] 0 0)],.box [pI n7,pS s8,p32 n9,p16 n10,p16 n11,p16 n12,p16 n13,p16 n14,p16 n15,p16 n16,p16 n17],.box [pI r0,pS r1,pB r2],.box [pI (0:Int),pS ([]:List UInt8),pB false],.box [pI r0,pS r1,pB r2]],s)) (λr0 r1 r2 n3 z4 t5 l6 n7 s8 n9 n10 n11 n12 n13 n14 n15 n16 n17 n18 s19 b20 n21 s22 b23 n24 s25 b26=>some (.agg [pI r0,pS r1,pB r2],[.box [pI n3],.box [.s (.nilp)],.box [.s (.sp [[.sl z4 t5 2 l6]] 0 0)],.box [pI n7,pS s8,p32 n9,p16 n10,p16 n11,p16 n12,p16 n13,p16 n14,p16 n15,p16 n16,p16 n17],.box [pI n18,pS s19,pB b20],.box [pI n21,pS s22,pB b23],.box [pI n24,pS s25,pB b26],.box [.bad]],s)):=by
 unfold Ax5;exact (Eq.trans (by kernel_rfl) (A0 rfl (A0 (A0 (A0 (A0 rfl (A0 (A0 (A0 (A0 (A8 λn'2=>(A8 λs'3=>(A0 rfl ((h_cfdB_e1 (G8 0 (I4 (Cm lf) cl yh (cd [1,0,1,1,1,1,1] Rg) (H4 (Cm lf) Tryz.f15))) now lz lt l kd nm v4 a0 a1 a2 a3 a4 a5 a6 a7 n'2 s'3 ((((atV now List.nil (List.map A6 l) nm true)).1).2).2).trans (by kernel_rfl))))) rfl) rfl) rfl) rfl)) rfl) rfl) rfl)))
theorem Bd9 (d:Nat) (now lz lt l kd nm v4 a0 a1 a2 a3 a4 a5 a6 a7):evC (Cm lf) (d+1) σ yh 15 [pI now,.s (.nilp),.s (.sp [[.sl lz lt 2 l]] 0 0),.agg [pI kd,pS nm,p32 v4,p16 a0,p16 a1,p16 a2,p16 a3,p16 a4,p16 a5,p16 a6,p16 a7]] [] s=Ax5 lf now lz lt l kd nm v4 a0 a1 a2 a3 a4 a5 a6 a7 (λn0 z1 t2 l3 n4 s5 n6 n7 n8v n9 n10 n11 n12 n13 n14=>some (.agg [pI (0:Int),pS ([]:List UInt8),pB false],[.box [pI n0],.box [.s (.nilp)],.box [.s (.sp [[.sl z1 t2 2 l3]] 0 0)],.box [pI n4,pS s5,p32 n6,p16 n7,p16 n8v,p16 n9,p16 n10,p16 n11,p16 n12,p16 n13,p16 n14],.box [pI (0:Int),pS ([]:List UInt8),pB false],.box [pI (0:Int),pS ([]:List UInt8),pB false]],s)) (λr0 r1 r2 n3 z4 t5 l6 n7 s8 n9 n10 n11 n12 n13 n14 n15 n16 n17=>some (.agg [pI r0,pS r1,pB r2],[.box [pI n3],.box [.s (.nilp)],.box [.s (.sp [[.sl z4 t5 2 l6]] 0 0)],.box [pI n7,pS s8,p32 n9,p16 n10,p16 n11,p16 n12,p16 n13,p16 n14,p16 n15,p16 n16,p16 n17],.box [pI r0,pS r1,pB r2],.box [pI (0:Int),pS ([]:List UInt8),pB false],.box [pI r0,pS r1,pB r2]],s)) (λr0 r1 r2 n3 z4 t5 l6 n7 s8 n9 n10 n11 n12 n13 n14 n15 n16 n17 n18 s19 b20 n21 s22 b23 n24 s25 b26=>some (.agg [pI r0,pS r1,pB r2],[.box [pI n3],.box [.s (.nilp)],.box [.s (.sp [[.sl z4 t5 2 l6]] 0 0)],.box [pI n7,pS s8,p32 n9,p16 n10,p16 n11,p16 n12,p16 n13,p16 n14,p16 n15,p16 n16,p16 n17],.box [pI n18,pS s19,pB b20],.box [pI n21,pS s22,pB b23],.box [pI n24,pS s25,pB b26],.box [.bad]],s)):=
 (evE (fn:=Tryz.f15) (by kernel_rfl)).trans (Eq.trans (by kernel_rfl) (Bd8 lf (evC (Cm lf) d) yh s (cd [1,0,1,1,1,1,0,1,0] Rg) (TG lf (evC (Cm lf) d) yh s) now lz lt l kd nm v4 a0 a1 a2 a3 a4 a5 a6 a7))
noncomputable abbrev Ax6 (now:Int) (lz lt:Bool) (l:LL) (kd:Int) (nm:By) (v4 a0 a1 a2 a3 a4 a5 a6 a7:Int):Option (PV × List Blk × Unit):=Ax5 LF now lz lt l kd nm v4 a0 a1 a2 a3 a4 a5 a6 a7 (λn0 z1 t2 l3 n4 s5 n6 n7 n8v n9 n10 n11 n12 n13 n14=>some (.agg [pI (0:Int),pS ([]:List UInt8),pB false],[.box [pI n0],.box [.s (.nilp)],.box [.s (.sp [[.sl z1 t2 2 l3]] 0 0)],.box [pI n4,pS s5,p32 n6,p16 n7,p16 n8v,p16 n9,p16 n10,p16 n11,p16 n12,p16 n13,p16 n14],.box [pI (0:Int),pS ([]:List UInt8),pB false],.box [pI (0:Int),pS ([]:List UInt8),pB false]],())) (λr0 r1 r2 n3 z4 t5 l6 n7 s8 n9 n10 n11 n12 n13 n14 n15 n16 n17=>some (.agg [pI r0,pS r1,pB r2],[.box [pI n3],.box [.s (.nilp)],.box [.s (.sp [[.sl z4 t5 2 l6]] 0 0)],.box [pI n7,pS s8,p32 n9,p16 n10,p16 n11,p16 n12,p16 n13,p16 n14,p16 n15,p16 n16,p16 n17],.box [pI r0,pS r1,pB r2],.box [pI (0:Int),pS ([]:List UInt8),pB false],.box [pI r0,pS r1,pB r2]],())) (λr0 r1 r2 n3 z4 t5 l6 n7 s8 n9 n10 n11 n12 n13 n14 n15 n16 n17 n18 s19 b20 n21 s22 b23 n24 s25 b26=>some (.agg [pI r0,pS r1,pB r2],[.box [pI n3],.box [.s (.nilp)],.box [.s (.sp [[.sl z4 t5 2 l6]] 0 0)],.box [pI n7,pS s8,p32 n9,p16 n10,p16 n11,p16 n12,p16 n13,p16 n14,p16 n15,p16 n16,p16 n17],.box [pI n18,pS s19,pB b20],.box [pI n21,pS s22,pB b23],.box [pI n24,pS s25,pB b26],.box [.bad]],()))
noncomputable abbrev Rh:Code:=D3 Tryz.f15
noncomputable def Cn (lf:Nat):Cfg:=B8 lf [15] (A4 []) [(39,Ex),(40,Nc),(41,Ew)] (A4 [(12,[8]),(11,[8,0]),(10,[4,0,0,1,0,3,33]),(9,[4,0,0,1,0,3,0]),(8,[4,0,0,1,0,2]),(7,[4,0,0,1,0,27]),(6,[8]),(5,[4,0,0,0,0,0,0,22]),(4,[4,0,0,0,0,0,0,0]),(3,[8]),(2,[4,0,0,0,0,0,12]),(1,[4,0,0,0,0,0]),(0,[4,0,0,0,0])]) [39] (A4 [(0,[8,0]),(1,[4,0,0,1,0])]) (some [8]) [] [(76,W8)] []
noncomputable def Ns {R:Type} (lf:Nat) (x'4:By) (xs:List By) (self:Int->Bool->Bool->LL->Int->Int->By->Int->Int->Int->Int->Int->Int->Int->Int->Int->Int->By->Bool->Option R) (n0:Int) (z1 t2:Bool) (l3:LL) (n4 n5:Int) (s6:By) (n7 n8v n9 n10 n11 n12 n13 n14 n15 n16:Int) (s17:By) (b18:Bool) (k0:Int->Bool->Bool->LL->Int->Int->By->Int->Int->Int->Int->Int->Int->Int->Int->Int->Int->By->Bool->Option R) (k1:Int->Bool->Bool->LL->Int->Int->By->Int->Int->Int->Int->Int->Int->Int->Int->Int->Int->By->Bool->Int->By->Bool->Option R):Option R:=cond (List.all l3 F1) (cond (List.all l3 smE) (cond (A1 l3.length) (cond (A1 x'4.length) (vl (((atV n0 (List.map B0 l3) List.nil x'4 false)).1).1 λn'5=>vl ((((atV n0 (List.map B0 l3) List.nil x'4 false)).1).2).1 λs'6=>cond ((atV n0 (List.map B0 l3) List.nil x'4 false)).2 (k1 n0 z1 t2 l3 n4 n5 s6 n7 n8v n9 n10 n11 n12 n13 n14 n15 n'5 s'6 ((((atV n0 (List.map B0 l3) List.nil x'4 false)).1).2).2 n16 s17 b18) (self n0 z1 t2 l3 n4 n5 s6 n7 n8v n9 n10 n11 n12 n13 n14 n15 n16 s17 b18)) none) none) none) none
noncomputable def Nr {R:Type} (lf:Nat) (L:List By) (n0:Int) (z1 t2:Bool) (l3:LL) (n4 n5:Int) (s6:By) (n7 n8v n9 n10 n11 n12 n13 n14 n15 n16:Int) (s17:By) (b18:Bool) (k0:Int->Bool->Bool->LL->Int->Int->By->Int->Int->Int->Int->Int->Int->Int->Int->Int->Int->By->Bool->Option R) (k1:Int->Bool->Bool->LL->Int->Int->By->Int->Int->Int->Int->Int->Int->Int->Int->Int->Int->By->Bool->Int->By->Bool->Option R):Option R:=XC (α:=Int->Bool->Bool->LL->Int->Int->By->Int->Int->Int->Int->Int->Int->Int->Int->Int->Int->By->Bool->Option R) (λn0 z1 t2 l3 n4 n5 s6 n7 n8v n9 n10 n11 n12 n13 n14 n15 n16 s17 b18=>k0 n0 z1 t2 l3 n4 n5 s6 n7 n8v n9 n10 n11 n12 n13 n14 n15 n16 s17 b18) (λx'4 xs self n0 z1 t2 l3 n4 n5 s6 n7 n8v n9 n10 n11 n12 n13 n14 n15 n16 s17 b18=>Ns lf x'4 xs self n0 z1 t2 l3 n4 n5 s6 n7 n8v n9 n10 n11 n12 n13 n14 n15 n16 s17 b18 k0 k1) L n0 z1 t2 l3 n4 n5 s6 n7 n8v n9 n10 n11 n12 n13 n14 n15 n16 s17 b18
theorem CG {R:Type} (lf:Nat) (x'4:By) (xs:List By) (n0:Int) (z1 t2:Bool) (l3:LL) (n4 n5:Int) (s6:By) (n7 n8v n9 n10 n11 n12 n13 n14 n15 n16:Int) (s17:By) (b18:Bool) (k0:Int->Bool->Bool->LL->Int->Int->By->Int->Int->Int->Int->Int->Int->Int->Int->Int->Int->By->Bool->Option R) (k1:Int->Bool->Bool->LL->Int->Int->By->Int->Int->Int->Int->Int->Int->Int->Int->Int->Int->By->Bool->Int->By->Bool->Option R):Nr lf (x'4::xs) n0 z1 t2 l3 n4 n5 s6 n7 n8v n9 n10 n11 n12 n13 n14 n15 n16 s17 b18 k0 k1=Ns lf x'4 xs (λn0 z1 t2 l3 n4 n5 s6 n7 n8v n9 n10 n11 n12 n13 n14 n15 n16 s17 b18=>Nr lf xs n0 z1 t2 l3 n4 n5 s6 n7 n8v n9 n10 n11 n12 n13 n14 n15 n16 s17 b18 k0 k1) n0 z1 t2 l3 n4 n5 s6 n7 n8v n9 n10 n11 n12 n13 n14 n15 n16 s17 b18 k0 k1:=rfl
theorem TK (L:List By) (n0:Int) (z1 t2:Bool) (l3:LL) (n4 n5:Int) (s6:By) (n7 n8v n9 n10 n11 n12 n13 n14 n15 n16:Int) (s17:By) (b18:Bool):N9 #[38] (gp [(4,.ptr 0 0 0),(0,.ptr 1 0 0),(0,.ptr 2 0 0),(1,.ptr 4 0 0),(0,.ptr 5 0 0),(27,.fnr (Fn.func 76) [] [.bad])] 12) (bd (Cn lf) cl yh (cd [1,0,1,1,1,1,0,1,0,0] Rh)) (bd (Cn lf) cl yh (cd [1,0,1,1,1,1,0,1,0,1] Rh)) (L.map (λ(x'4:By)=>([pS x'4]:List PV))) [.box [pI n0],.box [.s (.sp [[.sl z1 t2 3 l3,.int .i64 n4]] 0 0)],.box [.s (.nilp)],.box [pI n5,pS s6,p32 n7,p16 n8v,p16 n9,p16 n10,p16 n11,p16 n12,p16 n13,p16 n14,p16 n15],.box [pI (0:Int),pS ([]:List UInt8),pB false],.box [pI (0:Int),pS ([]:List UInt8),pB false],.box [pI n16,pS s17,pB b18],.dead] s (rgK (gp [(4,.ptr 0 0 0),(0,.ptr 1 0 0),(0,.ptr 2 0 0),(1,.ptr 4 0 0),(0,.ptr 5 0 0),(27,.fnr (Fn.func 76) [] [.bad])] 12) (λH=>P0 H [7] [.box [.bad]]) k) =
 Nr lf L n0 z1 t2 l3 n4 n5 s6 n7 n8v n9 n10 n11 n12 n13 n14 n15 n16 s17 b18 (λn0 z1 t2 l3 n4 n5 s6 n7 n8v n9 n10 n11 n12 n13 n14 n15 n16 s17 b18=>k .normal ⟨gp [(4,.ptr 0 0 0),(0,.ptr 1 0 0),(0,.ptr 2 0 0),(1,.ptr 4 0 0),(0,.ptr 5 0 0),(27,.fnr (Fn.func 76) [] [.bad])] 12,[.box [pI n0],.box [.s (.sp [[.sl z1 t2 3 l3,.int .i64 n4]] 0 0)],.box [.s (.nilp)],.box [pI n5,pS s6,p32 n7,p16 n8v,p16 n9,p16 n10,p16 n11,p16 n12,p16 n13,p16 n14,p16 n15],.box [pI (0:Int),pS ([]:List UInt8),pB false],.box [pI (0:Int),pS ([]:List UInt8),pB false],.box [pI n16,pS s17,pB b18],.box [.bad]],s⟩) (λn0 z1 t2 l3 n4 n5 s6 n7 n8v n9 n10 n11 n12 n13 n14 n15 n16 s17 b18 n19 s20 b21=>k (.exit 0) ⟨gp [(4,.ptr 0 0 0),(0,.ptr 1 0 0),(0,.ptr 2 0 0),(1,.ptr 4 0 0),(0,.ptr 5 0 0),(27,.fnr (Fn.func 76) [] [.bad])] 12,[.box [pI n0],.box [.s (.sp [[.sl z1 t2 3 l3,.int .i64 n4]] 0 0)],.box [.s (.nilp)],.box [pI n5,pS s6,p32 n7,p16 n8v,p16 n9,p16 n10,p16 n11,p16 n12,p16 n13,p16 n14,p16 n15],.box [pI (0:Int),pS ([]:List UInt8),pB false],.box [pI n16,pS s17,pB b18],.box [pI n19,pS s20,pB b21],.box [.bad]],s⟩):=by
 induction L generalizing n0 z1 t2 l3 n4 n5 s6 n7 n8v n9 n10 n11 n12 n13 n14 n15 n16 s17 b18 with
 | nil=>rfl
 | cons x'4 xs ih=>rw [CG];unfold Ns;exact (Eq.trans (by kernel_rfl) (A0 (A0 (A0 (A0 (A8 λn'5=>(A8 λs'6=>(A0 rfl (ih n0 z1 t2 l3 n4 n5 s6 n7 n8v n9 n10 n11 n12 n13 n14 n15 n16 s17 b18)))) rfl) rfl) rfl) rfl))
noncomputable def Vh {R:Type} (lf:Nat) (n0:Int) (z1 t2:Bool) (l3:LL) (n4 n5:Int) (s6:By) (n7 n8v n9 n10 n11 n12 n13 n14 n15 n16:Int) (s17:By) (b18:Bool) (k0:Int->Bool->Bool->LL->Int->Int->By->Int->Int->Int->Int->Int->Int->Int->Int->Int->Int->By->Bool->Option R) (k1:Int->Bool->Bool->LL->Int->Int->By->Int->Int->Int->Int->Int->Int->Int->Int->Int->Int->By->Bool->Int->By->Bool->Option R):Option R:=cond (A1 s6.length) (Nr lf (E2 s6) n0 z1 t2 l3 n4 n5 s6 n7 n8v n9 n10 n11 n12 n13 n14 n15 n16 s17 b18 k0 k1) none
abbrev CF (b:Code):Prop:=∀ (k:Out->St σ->Option R) n0 z1 t2 l3 n4 n5 s6 n7 n8v n9 n10 n11 n12 n13 n14 n15 n16 s17 b18,B2 (Cn lf) cl yh b ⟨gp [(4,.ptr 0 0 0),(0,.ptr 1 0 0),(0,.ptr 2 0 0),(1,.ptr 4 0 0),(0,.ptr 5 0 0),(27,.fnr (Fn.func 76) [] [.ptr 7 0 0])] 12,[.box [pI n0],.box [.s (.sp [[.sl z1 t2 3 l3,.int .i64 n4]] 0 0)],.box [.s (.nilp)],.box [pI n5,pS s6,p32 n7,p16 n8v,p16 n9,p16 n10,p16 n11,p16 n12,p16 n13,p16 n14,p16 n15],.box [pI (0:Int),pS ([]:List UInt8),pB false],.box [pI (0:Int),pS ([]:List UInt8),pB false],.box [pI n16,pS s17,pB b18],.box [pS s6]],s⟩ k=Vh lf n0 z1 t2 l3 n4 n5 s6 n7 n8v n9 n10 n11 n12 n13 n14 n15 n16 s17 b18 (λn0 z1 t2 l3 n4 n5 s6 n7 n8v n9 n10 n11 n12 n13 n14 n15 n16 s17 b18=>k .normal ⟨gp [(4,.ptr 0 0 0),(0,.ptr 1 0 0),(0,.ptr 2 0 0),(1,.ptr 4 0 0),(0,.ptr 5 0 0),(27,.fnr (Fn.func 76) [] [.bad])] 12,[.box [pI n0],.box [.s (.sp [[.sl z1 t2 3 l3,.int .i64 n4]] 0 0)],.box [.s (.nilp)],.box [pI n5,pS s6,p32 n7,p16 n8v,p16 n9,p16 n10,p16 n11,p16 n12,p16 n13,p16 n14,p16 n15],.box [pI (0:Int),pS ([]:List UInt8),pB false],.box [pI (0:Int),pS ([]:List UInt8),pB false],.box [pI n16,pS s17,pB b18],.box [.bad]],s⟩) (λn0 z1 t2 l3 n4 n5 s6 n7 n8v n9 n10 n11 n12 n13 n14 n15 n16 s17 b18 n19 s20 b21=>k (.exit 0) ⟨gp [(4,.ptr 0 0 0),(0,.ptr 1 0 0),(0,.ptr 2 0 0),(1,.ptr 4 0 0),(0,.ptr 5 0 0),(27,.fnr (Fn.func 76) [] [.bad])] 12,[.box [pI n0],.box [.s (.sp [[.sl z1 t2 3 l3,.int .i64 n4]] 0 0)],.box [.s (.nilp)],.box [pI n5,pS s6,p32 n7,p16 n8v,p16 n9,p16 n10,p16 n11,p16 n12,p16 n13,p16 n14,p16 n15],.box [pI (0:Int),pS ([]:List UInt8),pB false],.box [pI n16,pS s17,pB b18],.box [pI n19,pS s20,pB b21],.box [.bad]],s⟩)
theorem TJ:CF (R:=R) lf cl yh s (cd [1,0,1,1,1,1,0,1,0] Rh):=by
 intro k n0 z1 t2 l3 n4 n5 s6 n7 n8v n9 n10 n11 n12 n13 n14 n15 n16 s17 b18;unfold Vh;exact ((MU [1,0,1,1,1,1,0,1,0] (by kernel_rfl)).trans (by kernel_rfl)).trans (Df (TK lf cl yh s k (E2 s6) n0 z1 t2 l3 n4 n5 s6 n7 n8v n9 n10 n11 n12 n13 n14 n15 n16 s17 b18))
noncomputable def Ax7 {R:Type} (lf:Nat) (now:Int) (tz tt:Bool) (t:LL) (cp kd:Int) (nm:By) (v4 a0 a1 a2 a3 a4 a5 a6 a7:Int) (k0:Int->Bool->Bool->LL->Int->Int->By->Int->Int->Int->Int->Int->Int->Int->Int->Int->Option R) (k1:Int->By->Bool->Int->Bool->Bool->LL->Int->Int->By->Int->Int->Int->Int->Int->Int->Int->Int->Int->Option R) (k2:Int->By->Bool->Int->Bool->Bool->LL->Int->Int->By->Int->Int->Int->Int->Int->Int->Int->Int->Int->Int->By->Bool->Int->By->Bool->Int->By->Bool->Option R):Option R:=cond (kd != 1) (k0 now tz tt t cp kd nm v4 a0 a1 a2 a3 a4 a5 a6 a7) (cond (A1 nm.length) (cond (ltN v4 4294967296) (cond (ok8 a0 a1 a2 a3 a4 a5 a6 a7) (cond (not (M8 (mkH kd nm v4 (n8 a0 a1 a2 a3 a4 a5 a6 a7)))) (k0 now tz tt t cp kd nm v4 a0 a1 a2 a3 a4 a5 a6 a7) (cond (List.all t F1) (cond (List.all t smE) (cond (A1 t.length) (cond (A1 nm.length) (vl (((atV now (List.map B0 t) List.nil nm true)).1).1 λn'2=>vl ((((atV now (List.map B0 t) List.nil nm true)).1).2).1 λs'3=>cond ((atV now (List.map B0 t) List.nil nm true)).2 (k1 n'2 s'3 ((((atV now (List.map B0 t) List.nil nm true)).1).2).2 now tz tt t cp kd nm v4 a0 a1 a2 a3 a4 a5 a6 a7) (Vh lf now tz tt t cp kd nm v4 a0 a1 a2 a3 a4 a5 a6 a7 n'2 s'3 ((((atV now (List.map B0 t) List.nil nm true)).1).2).2 (λn'7 z'8 t'9 l'10 n'11 n'12 s'13 n'14 n'15 n'16 n'17 n'18 n'19 n'20 n'21 n'22 n'23 s'24 b'25=>k2 0 ([]:List UInt8) false n'7 z'8 t'9 l'10 n'11 n'12 s'13 n'14 n'15 n'16 n'17 n'18 n'19 n'20 n'21 n'22 0 ([]:List UInt8) false 0 ([]:List UInt8) false n'23 s'24 b'25) (λn'26 z'27 t'28 l'29 n'30 n'31 s'32 n'33 n'34 n'35 n'36 n'37 n'38 n'39 n'40 n'41 n'42 s'43 b'44 n'45 s'46 b'47=>k2 n'42 s'43 b'44 n'26 z'27 t'28 l'29 n'30 n'31 s'32 n'33 n'34 n'35 n'36 n'37 n'38 n'39 n'40 n'41 n'42 s'43 b'44 n'42 s'43 b'44 n'45 s'46 b'47))) none) none) none) none)) none) none) none)
theorem Be1 (b_101111010:Code) (h_cfdC_e1:CF (R:=PV × List Blk × σ) lf cl yh s b_101111010) (now:Int) (tz tt:Bool) (t:LL) (cp kd:Int) (nm:By) (v4 a0 a1 a2 a3 a4 a5 a6 a7:Int):B2 (Cn lf) cl yh (cd [] (R1 [1,0,1,1,1,1,0,1,0] b_101111010 Rh)) ⟨[pI now,.s (.sp [[.sl tz tt 3 t,.int .i64 cp]] 0 0),.s (.nilp),.agg [pI kd,pS nm,p32 v4,p16 a0,p16 a1,p16 a2,p16 a3,p16 a4,p16 a5,p16 a6,p16 a7]]++tps 46,[],s⟩ (H4 (Cn lf) Tryz.f15)=Ax7 lf now tz tt t cp kd nm v4 a0 a1 a2 a3 a4 a5 a6 a7 (λn0 z1 t2 l3 n4 n5 s6 n7 n8v n9 n10 n11 n12 n13 n14 n15=>some (.agg [pI (0:Int),pS ([]:List UInt8),pB false],[.box [pI n0],.box [.s (.sp [[.sl z1 t2 3 l3,.int .i64 n4]] 0 0)],.box [.s (.nilp)],.box [pI n5,pS s6,p32 n7,p16 n8v,p16 n9,p16 n10,p16 n11,p16 n12,p16 n13,p16 n14,p16 n15],.box [pI (0:Int),pS ([]:List UInt8),pB false],.box [pI (0:Int),pS ([]:List UInt8),pB false]],s)) (λr0 r1 r2 n3 z4 t5 l6 n7 n8v s9 n10 n11 n12 n13 n14 n15 n16 n17 n18=>some (.agg [pI r0,pS r1,pB r2],[.box [pI n3],.box [.s (.sp [[.sl z4 t5 3 l6,.int .i64 n7]] 0 0)],.box [.s (.nilp)],.box [pI n8v,pS s9,p32 n10,p16 n11,p16 n12,p16 n13,p16 n14,p16 n15,p16 n16,p16 n17,p16 n18],.box [pI r0,pS r1,pB r2],.box [pI (0:Int),pS ([]:List UInt8),pB false],.box [pI r0,pS r1,pB r2]],s)) (λr0 r1 r2 n3 z4 t5 l6 n7 n8v s9 n10 n11 n12 n13 n14 n15 n16 n17 n18 n19 s20 b21 n22 s23 b24 n25 s26 b27=>some (.agg [pI r0,pS r1,pB r2],[.box [pI n3],.box [.s (.sp [[.sl z4 t5 3 l6,.int .i64 n7]] 0 0)],.box [.s (.nilp)],.box [pI n8v,pS s9,p32 n10,p16 n11,p16 n12,p16 n13,p16 n14,p16 n15,p16 n16,p16 n17,p16 n18],.box [pI n19,pS s20,pB b21],.box [pI n22,pS s23,pB b24],.box [pI n25,pS s26,pB b27],.box [.bad]],s)):=by
 unfold Ax7;exact (Eq.trans (by kernel_rfl) (A0 rfl (A0 (A0 (A0 (A0 rfl (A0 (A0 (A0 (A0 (A8 λn'2=>(A8 λs'3=>(A0 rfl ((h_cfdC_e1 (G8 0 (I4 (Cn lf) cl yh (cd [1,0,1,1,1,1,1] Rh) (H4 (Cn lf) Tryz.f15))) now tz tt t cp kd nm v4 a0 a1 a2 a3 a4 a5 a6 a7 n'2 s'3 ((((atV now (List.map B0 t) List.nil nm true)).1).2).2).trans (by kernel_rfl))))) rfl) rfl) rfl) rfl)) rfl) rfl) rfl)))
theorem Be2 (d:Nat) (now tz tt t cp kd nm v4 a0 a1 a2 a3 a4 a5 a6 a7):evC (Cn lf) (d+1) σ yh 15 [pI now,.s (.sp [[.sl tz tt 3 t,.int .i64 cp]] 0 0),.s (.nilp),.agg [pI kd,pS nm,p32 v4,p16 a0,p16 a1,p16 a2,p16 a3,p16 a4,p16 a5,p16 a6,p16 a7]] [] s=Ax7 lf now tz tt t cp kd nm v4 a0 a1 a2 a3 a4 a5 a6 a7 (λn0 z1 t2 l3 n4 n5 s6 n7 n8v n9 n10 n11 n12 n13 n14 n15=>some (.agg [pI (0:Int),pS ([]:List UInt8),pB false],[.box [pI n0],.box [.s (.sp [[.sl z1 t2 3 l3,.int .i64 n4]] 0 0)],.box [.s (.nilp)],.box [pI n5,pS s6,p32 n7,p16 n8v,p16 n9,p16 n10,p16 n11,p16 n12,p16 n13,p16 n14,p16 n15],.box [pI (0:Int),pS ([]:List UInt8),pB false],.box [pI (0:Int),pS ([]:List UInt8),pB false]],s)) (λr0 r1 r2 n3 z4 t5 l6 n7 n8v s9 n10 n11 n12 n13 n14 n15 n16 n17 n18=>some (.agg [pI r0,pS r1,pB r2],[.box [pI n3],.box [.s (.sp [[.sl z4 t5 3 l6,.int .i64 n7]] 0 0)],.box [.s (.nilp)],.box [pI n8v,pS s9,p32 n10,p16 n11,p16 n12,p16 n13,p16 n14,p16 n15,p16 n16,p16 n17,p16 n18],.box [pI r0,pS r1,pB r2],.box [pI (0:Int),pS ([]:List UInt8),pB false],.box [pI r0,pS r1,pB r2]],s)) (λr0 r1 r2 n3 z4 t5 l6 n7 n8v s9 n10 n11 n12 n13 n14 n15 n16 n17 n18 n19 s20 b21 n22 s23 b24 n25 s26 b27=>some (.agg [pI r0,pS r1,pB r2],[.box [pI n3],.box [.s (.sp [[.sl z4 t5 3 l6,.int .i64 n7]] 0 0)],.box [.s (.nilp)],.box [pI n8v,pS s9,p32 n10,p16 n11,p16 n12,p16 n13,p16 n14,p16 n15,p16 n16,p16 n17,p16 n18],.box [pI n19,pS s20,pB b21],.box [pI n22,pS s23,pB b24],.box [pI n25,pS s26,pB b27],.box [.bad]],s)):=
 (evE (fn:=Tryz.f15) (by kernel_rfl)).trans (Eq.trans (by kernel_rfl) (Be1 lf (evC (Cn lf) d) yh s (cd [1,0,1,1,1,1,0,1,0] Rh) (TJ lf (evC (Cn lf) d) yh s) now tz tt t cp kd nm v4 a0 a1 a2 a3 a4 a5 a6 a7))
noncomputable abbrev Ax8 (now:Int) (tz tt:Bool) (t:LL) (cp kd:Int) (nm:By) (v4 a0 a1 a2 a3 a4 a5 a6 a7:Int):Option (PV × List Blk × Unit):=Ax7 LF now tz tt t cp kd nm v4 a0 a1 a2 a3 a4 a5 a6 a7 (λn0 z1 t2 l3 n4 n5 s6 n7 n8v n9 n10 n11 n12 n13 n14 n15=>some (.agg [pI (0:Int),pS ([]:List UInt8),pB false],[.box [pI n0],.box [.s (.sp [[.sl z1 t2 3 l3,.int .i64 n4]] 0 0)],.box [.s (.nilp)],.box [pI n5,pS s6,p32 n7,p16 n8v,p16 n9,p16 n10,p16 n11,p16 n12,p16 n13,p16 n14,p16 n15],.box [pI (0:Int),pS ([]:List UInt8),pB false],.box [pI (0:Int),pS ([]:List UInt8),pB false]],())) (λr0 r1 r2 n3 z4 t5 l6 n7 n8v s9 n10 n11 n12 n13 n14 n15 n16 n17 n18=>some (.agg [pI r0,pS r1,pB r2],[.box [pI n3],.box [.s (.sp [[.sl z4 t5 3 l6,.int .i64 n7]] 0 0)],.box [.s (.nilp)],.box [pI n8v,pS s9,p32 n10,p16 n11,p16 n12,p16 n13,p16 n14,p16 n15,p16 n16,p16 n17,p16 n18],.box [pI r0,pS r1,pB r2],.box [pI (0:Int),pS ([]:List UInt8),pB false],.box [pI r0,pS r1,pB r2]],())) (λr0 r1 r2 n3 z4 t5 l6 n7 n8v s9 n10 n11 n12 n13 n14 n15 n16 n17 n18 n19 s20 b21 n22 s23 b24 n25 s26 b27=>some (.agg [pI r0,pS r1,pB r2],[.box [pI n3],.box [.s (.sp [[.sl z4 t5 3 l6,.int .i64 n7]] 0 0)],.box [.s (.nilp)],.box [pI n8v,pS s9,p32 n10,p16 n11,p16 n12,p16 n13,p16 n14,p16 n15,p16 n16,p16 n17,p16 n18],.box [pI n19,pS s20,pB b21],.box [pI n22,pS s23,pB b24],.box [pI n25,pS s26,pB b27],.box [.bad]],()))
noncomputable abbrev Ri:Code:=D3 Tryz.f15
noncomputable def Co (lf:Nat):Cfg:=B8 lf [15] (A4 []) [(39,Ex),(40,Nc),(41,Ew)] (A4 [(12,[8]),(11,[8,0]),(10,[4,0,0,1,0,3,33]),(9,[4,0,0,1,0,3,0]),(8,[4,0,0,1,0,2]),(7,[4,0,0,1,0,27]),(6,[8]),(5,[4,0,0,0,0,0,0,22]),(4,[4,0,0,0,0,0,0,0]),(3,[8]),(2,[4,0,0,0,0,0,12]),(1,[4,0,0,0,0,0]),(0,[4,0,0,0,0])]) [39] (A4 [(0,[8,0]),(1,[4,0,0,1,0])]) (some [8]) [] [(76,W8)] []
noncomputable def Nu {R:Type} (lf:Nat) (x'4:By) (xs:List By) (self:Int->Int->By->Int->Int->Int->Int->Int->Int->Int->Int->Int->Int->By->Bool->Option R) (n0 n1:Int) (s2:By) (n3 n4 n5 n6 n7 n8v n9 n10 n11 n12:Int) (s13:By) (b14:Bool) (k0:Int->Int->By->Int->Int->Int->Int->Int->Int->Int->Int->Int->Int->By->Bool->Option R) (k1:Int->Int->By->Int->Int->Int->Int->Int->Int->Int->Int->Int->Int->By->Bool->Int->By->Bool->Option R):Option R:=cond (A1 x'4.length) (vl (((atV n0 List.nil List.nil x'4 false)).1).1 λn'5=>vl ((((atV n0 List.nil List.nil x'4 false)).1).2).1 λs'6=>cond ((atV n0 List.nil List.nil x'4 false)).2 (k1 n0 n1 s2 n3 n4 n5 n6 n7 n8v n9 n10 n11 n'5 s'6 ((((atV n0 List.nil List.nil x'4 false)).1).2).2 n12 s13 b14) (self n0 n1 s2 n3 n4 n5 n6 n7 n8v n9 n10 n11 n12 s13 b14)) none
noncomputable def Nt {R:Type} (lf:Nat) (L:List By) (n0 n1:Int) (s2:By) (n3 n4 n5 n6 n7 n8v n9 n10 n11 n12:Int) (s13:By) (b14:Bool) (k0:Int->Int->By->Int->Int->Int->Int->Int->Int->Int->Int->Int->Int->By->Bool->Option R) (k1:Int->Int->By->Int->Int->Int->Int->Int->Int->Int->Int->Int->Int->By->Bool->Int->By->Bool->Option R):Option R:=XC (α:=Int->Int->By->Int->Int->Int->Int->Int->Int->Int->Int->Int->Int->By->Bool->Option R) (λn0 n1 s2 n3 n4 n5 n6 n7 n8v n9 n10 n11 n12 s13 b14=>k0 n0 n1 s2 n3 n4 n5 n6 n7 n8v n9 n10 n11 n12 s13 b14) (λx'4 xs self n0 n1 s2 n3 n4 n5 n6 n7 n8v n9 n10 n11 n12 s13 b14=>Nu lf x'4 xs self n0 n1 s2 n3 n4 n5 n6 n7 n8v n9 n10 n11 n12 s13 b14 k0 k1) L n0 n1 s2 n3 n4 n5 n6 n7 n8v n9 n10 n11 n12 s13 b14
theorem CJ {R:Type} (lf:Nat) (x'4:By) (xs:List By) (n0 n1:Int) (s2:By) (n3 n4 n5 n6 n7 n8v n9 n10 n11 n12:Int) (s13:By) (b14:Bool) (k0:Int->Int->By->Int->Int->Int->Int->Int->Int->Int->Int->Int->Int->By->Bool->Option R) (k1:Int->Int->By->Int->Int->Int->Int->Int->Int->Int->Int->Int->Int->By->Bool->Int->By->Bool->Option R):Nt lf (x'4::xs) n0 n1 s2 n3 n4 n5 n6 n7 n8v n9 n10 n11 n12 s13 b14 k0 k1=Nu lf x'4 xs (λn0 n1 s2 n3 n4 n5 n6 n7 n8v n9 n10 n11 n12 s13 b14=>Nt lf xs n0 n1 s2 n3 n4 n5 n6 n7 n8v n9 n10 n11 n12 s13 b14 k0 k1) n0 n1 s2 n3 n4 n5 n6 n7 n8v n9 n10 n11 n12 s13 b14 k0 k1:=rfl
theorem TM (L:List By) (n0 n1:Int) (s2:By) (n3 n4 n5 n6 n7 n8v n9 n10 n11 n12:Int) (s13:By) (b14:Bool):N9 #[38] (gp [(4,.ptr 0 0 0),(0,.ptr 1 0 0),(0,.ptr 2 0 0),(1,.ptr 4 0 0),(0,.ptr 5 0 0),(27,.fnr (Fn.func 76) [] [.bad])] 12) (bd (Co lf) cl yh (cd [1,0,1,1,1,1,0,1,0,0] Ri)) (bd (Co lf) cl yh (cd [1,0,1,1,1,1,0,1,0,1] Ri)) (L.map (λ(x'4:By)=>([pS x'4]:List PV))) [.box [pI n0],.box [.s (.nilp)],.box [.s (.nilp)],.box [pI n1,pS s2,p32 n3,p16 n4,p16 n5,p16 n6,p16 n7,p16 n8v,p16 n9,p16 n10,p16 n11],.box [pI (0:Int),pS ([]:List UInt8),pB false],.box [pI (0:Int),pS ([]:List UInt8),pB false],.box [pI n12,pS s13,pB b14],.dead] s (rgK (gp [(4,.ptr 0 0 0),(0,.ptr 1 0 0),(0,.ptr 2 0 0),(1,.ptr 4 0 0),(0,.ptr 5 0 0),(27,.fnr (Fn.func 76) [] [.bad])] 12) (λH=>P0 H [7] [.box [.bad]]) k) =
 Nt lf L n0 n1 s2 n3 n4 n5 n6 n7 n8v n9 n10 n11 n12 s13 b14 (λn0 n1 s2 n3 n4 n5 n6 n7 n8v n9 n10 n11 n12 s13 b14=>k .normal ⟨gp [(4,.ptr 0 0 0),(0,.ptr 1 0 0),(0,.ptr 2 0 0),(1,.ptr 4 0 0),(0,.ptr 5 0 0),(27,.fnr (Fn.func 76) [] [.bad])] 12,[.box [pI n0],.box [.s (.nilp)],.box [.s (.nilp)],.box [pI n1,pS s2,p32 n3,p16 n4,p16 n5,p16 n6,p16 n7,p16 n8v,p16 n9,p16 n10,p16 n11],.box [pI (0:Int),pS ([]:List UInt8),pB false],.box [pI (0:Int),pS ([]:List UInt8),pB false],.box [pI n12,pS s13,pB b14],.box [.bad]],s⟩) (λn0 n1 s2 n3 n4 n5 n6 n7 n8v n9 n10 n11 n12 s13 b14 n15 s16 b17=>k (.exit 0) ⟨gp [(4,.ptr 0 0 0),(0,.ptr 1 0 0),(0,.ptr 2 0 0),(1,.ptr 4 0 0),(0,.ptr 5 0 0),(27,.fnr (Fn.func 76) [] [.bad])] 12,[.box [pI n0],.box [.s (.nilp)],.box [.s (.nilp)],.box [pI n1,pS s2,p32 n3,p16 n4,p16 n5,p16 n6,p16 n7,p16 n8v,p16 n9,p16 n10,p16 n11],.box [pI (0:Int),pS ([]:List UInt8),pB false],.box [pI n12,pS s13,pB b14],.box [pI n15,pS s16,pB b17],.box [.bad]],s⟩):=by
 induction L generalizing n0 n1 s2 n3 n4 n5 n6 n7 n8v n9 n10 n11 n12 s13 b14 with
 | nil=>rfl
 | cons x'4 xs ih=>rw [CJ];unfold Nu;exact (Eq.trans (by kernel_rfl) (A0 (A8 λn'5=>(A8 λs'6=>(A0 rfl (ih n0 n1 s2 n3 n4 n5 n6 n7 n8v n9 n10 n11 n12 s13 b14)))) rfl))
noncomputable def Vi {R:Type} (lf:Nat) (n0 n1:Int) (s2:By) (n3 n4 n5 n6 n7 n8v n9 n10 n11 n12:Int) (s13:By) (b14:Bool) (k0:Int->Int->By->Int->Int->Int->Int->Int->Int->Int->Int->Int->Int->By->Bool->Option R) (k1:Int->Int->By->Int->Int->Int->Int->Int->Int->Int->Int->Int->Int->By->Bool->Int->By->Bool->Option R):Option R:=cond (A1 s2.length) (Nt lf (E2 s2) n0 n1 s2 n3 n4 n5 n6 n7 n8v n9 n10 n11 n12 s13 b14 k0 k1) none
abbrev CI (b:Code):Prop:=∀ (k:Out->St σ->Option R) n0 n1 s2 n3 n4 n5 n6 n7 n8v n9 n10 n11 n12 s13 b14,B2 (Co lf) cl yh b ⟨gp [(4,.ptr 0 0 0),(0,.ptr 1 0 0),(0,.ptr 2 0 0),(1,.ptr 4 0 0),(0,.ptr 5 0 0),(27,.fnr (Fn.func 76) [] [.ptr 7 0 0])] 12,[.box [pI n0],.box [.s (.nilp)],.box [.s (.nilp)],.box [pI n1,pS s2,p32 n3,p16 n4,p16 n5,p16 n6,p16 n7,p16 n8v,p16 n9,p16 n10,p16 n11],.box [pI (0:Int),pS ([]:List UInt8),pB false],.box [pI (0:Int),pS ([]:List UInt8),pB false],.box [pI n12,pS s13,pB b14],.box [pS s2]],s⟩ k=Vi lf n0 n1 s2 n3 n4 n5 n6 n7 n8v n9 n10 n11 n12 s13 b14 (λn0 n1 s2 n3 n4 n5 n6 n7 n8v n9 n10 n11 n12 s13 b14=>k .normal ⟨gp [(4,.ptr 0 0 0),(0,.ptr 1 0 0),(0,.ptr 2 0 0),(1,.ptr 4 0 0),(0,.ptr 5 0 0),(27,.fnr (Fn.func 76) [] [.bad])] 12,[.box [pI n0],.box [.s (.nilp)],.box [.s (.nilp)],.box [pI n1,pS s2,p32 n3,p16 n4,p16 n5,p16 n6,p16 n7,p16 n8v,p16 n9,p16 n10,p16 n11],.box [pI (0:Int),pS ([]:List UInt8),pB false],.box [pI (0:Int),pS ([]:List UInt8),pB false],.box [pI n12,pS s13,pB b14],.box [.bad]],s⟩) (λn0 n1 s2 n3 n4 n5 n6 n7 n8v n9 n10 n11 n12 s13 b14 n15 s16 b17=>k (.exit 0) ⟨gp [(4,.ptr 0 0 0),(0,.ptr 1 0 0),(0,.ptr 2 0 0),(1,.ptr 4 0 0),(0,.ptr 5 0 0),(27,.fnr (Fn.func 76) [] [.bad])] 12,[.box [pI n0],.box [.s (.nilp)],.box [.s (.nilp)],.box [pI n1,pS s2,p32 n3,p16 n4,p16 n5,p16 n6,p16 n7,p16 n8v,p16 n9,p16 n10,p16 n11],.box [pI (0:Int),pS ([]:List UInt8),pB false],.box [pI n12,pS s13,pB b14],.box [pI n15,pS s16,pB b17],.box [.bad]],s⟩)
theorem TL:CI (R:=R) lf cl yh s (cd [1,0,1,1,1,1,0,1,0] Ri):=by
 intro k n0 n1 s2 n3 n4 n5 n6 n7 n8v n9 n10 n11 n12 s13 b14;unfold Vi;exact ((MU [1,0,1,1,1,1,0,1,0] (by kernel_rfl)).trans (by kernel_rfl)).trans (Df (TM lf cl yh s k (E2 s2) n0 n1 s2 n3 n4 n5 n6 n7 n8v n9 n10 n11 n12 s13 b14))
noncomputable def Ax9 {R:Type} (lf:Nat) (now kd:Int) (nm:By) (v4 a0 a1 a2 a3 a4 a5 a6 a7:Int) (k0:Int->Int->By->Int->Int->Int->Int->Int->Int->Int->Int->Int->Option R) (k1:Int->By->Bool->Int->Int->By->Int->Int->Int->Int->Int->Int->Int->Int->Int->Option R) (k2:Int->By->Bool->Int->Int->By->Int->Int->Int->Int->Int->Int->Int->Int->Int->Int->By->Bool->Int->By->Bool->Int->By->Bool->Option R):Option R:=cond (kd != 1) (k0 now kd nm v4 a0 a1 a2 a3 a4 a5 a6 a7) (cond (A1 nm.length) (cond (ltN v4 4294967296) (cond (ok8 a0 a1 a2 a3 a4 a5 a6 a7) (cond (not (M8 (mkH kd nm v4 (n8 a0 a1 a2 a3 a4 a5 a6 a7)))) (k0 now kd nm v4 a0 a1 a2 a3 a4 a5 a6 a7) (cond (A1 nm.length) (vl (((atV now List.nil List.nil nm true)).1).1 λn'2=>vl ((((atV now List.nil List.nil nm true)).1).2).1 λs'3=>cond ((atV now List.nil List.nil nm true)).2 (k1 n'2 s'3 ((((atV now List.nil List.nil nm true)).1).2).2 now kd nm v4 a0 a1 a2 a3 a4 a5 a6 a7) (Vi lf now kd nm v4 a0 a1 a2 a3 a4 a5 a6 a7 n'2 s'3 ((((atV now List.nil List.nil nm true)).1).2).2 (λn'7 n'8 s'9 n'10 n'11 n'12 n'13 n'14 n'15 n'16 n'17 n'18 n'19 s'20 b'21=>k2 0 ([]:List UInt8) false n'7 n'8 s'9 n'10 n'11 n'12 n'13 n'14 n'15 n'16 n'17 n'18 0 ([]:List UInt8) false 0 ([]:List UInt8) false n'19 s'20 b'21) (λn'22 n'23 s'24 n'25 n'26 n'27 n'28 n'29 n'30 n'31 n'32 n'33 n'34 s'35 b'36 n'37 s'38 b'39=>k2 n'34 s'35 b'36 n'22 n'23 s'24 n'25 n'26 n'27 n'28 n'29 n'30 n'31 n'32 n'33 n'34 s'35 b'36 n'34 s'35 b'36 n'37 s'38 b'39))) none)) none) none) none)
theorem Be4 (b_101111010:Code) (h_cfdD_e1:CI (R:=PV × List Blk × σ) lf cl yh s b_101111010) (now kd:Int) (nm:By) (v4 a0 a1 a2 a3 a4 a5 a6 a7:Int):B2 (Co lf) cl yh (cd [] (R1 [1,0,1,1,1,1,0,1,0] b_101111010 Ri)) ⟨[pI now,.s (.nilp),.s (.nilp),.agg [pI kd,pS nm,p32 v4,p16 a0,p16 a1,p16 a2,p16 a3,p16 a4,p16 a5,p16 a6,p16 a7]]++tps 46,[],s⟩ (H4 (Co lf) Tryz.f15)=Ax9 lf now kd nm v4 a0 a1 a2 a3 a4 a5 a6 a7 (λn0 n1 s2 n3 n4 n5 n6 n7 n8v n9 n10 n11=>some (.agg [pI (0:Int),pS ([]:List UInt8),pB false],[.box [pI n0],.box [.s (.nilp)],.box [.s (.nilp)],.box [pI n1,pS s2,p32 n3,p16 n4,p16 n5,p16 n6,p16 n7,p16 n8v,p16 n9,p16 n10,p16 n11],.box [pI (0:Int),pS ([]:List UInt8),pB false],.box [pI (0:Int),pS ([]:List UInt8),pB false]],s)) (λr0 r1 r2 n3 n4 s5 n6 n7 n8v n9 n10 n11 n12 n13 n14=>some (.agg [pI r0,pS r1,pB r2],[.box [pI n3],.box [.s (.nilp)],.box [.s (.nilp)],.box [pI n4,pS s5,p32 n6,p16 n7,p16 n8v,p16 n9,p16 n10,p16 n11,p16 n12,p16 n13,p16 n14],.box [pI r0,pS r1,pB r2],.box [pI (0:Int),pS ([]:List UInt8),pB false],.box [pI r0,pS r1,pB r2]],s)) (λr0 r1 r2 n3 n4 s5 n6 n7 n8v n9 n10 n11 n12 n13 n14 n15 s16 b17 n18 s19 b20 n21 s22 b23=>some (.agg [pI r0,pS r1,pB r2],[.box [pI n3],.box [.s (.nilp)],.box [.s (.nilp)],.box [pI n4,pS s5,p32 n6,p16 n7,p16 n8v,p16 n9,p16 n10,p16 n11,p16 n12,p16 n13,p16 n14],.box [pI n15,pS s16,pB b17],.box [pI n18,pS s19,pB b20],.box [pI n21,pS s22,pB b23],.box [.bad]],s)):=by
 unfold Ax9;exact (Eq.trans (by kernel_rfl) (A0 rfl (A0 (A0 (A0 (A0 rfl (A0 (A8 λn'2=>(A8 λs'3=>(A0 rfl ((h_cfdD_e1 (G8 0 (I4 (Co lf) cl yh (cd [1,0,1,1,1,1,1] Ri) (H4 (Co lf) Tryz.f15))) now kd nm v4 a0 a1 a2 a3 a4 a5 a6 a7 n'2 s'3 ((((atV now List.nil List.nil nm true)).1).2).2).trans (by kernel_rfl))))) rfl)) rfl) rfl) rfl)))
theorem Be5 (d:Nat) (now kd nm v4 a0 a1 a2 a3 a4 a5 a6 a7):evC (Co lf) (d+1) σ yh 15 [pI now,.s (.nilp),.s (.nilp),.agg [pI kd,pS nm,p32 v4,p16 a0,p16 a1,p16 a2,p16 a3,p16 a4,p16 a5,p16 a6,p16 a7]] [] s=Ax9 lf now kd nm v4 a0 a1 a2 a3 a4 a5 a6 a7 (λn0 n1 s2 n3 n4 n5 n6 n7 n8v n9 n10 n11=>some (.agg [pI (0:Int),pS ([]:List UInt8),pB false],[.box [pI n0],.box [.s (.nilp)],.box [.s (.nilp)],.box [pI n1,pS s2,p32 n3,p16 n4,p16 n5,p16 n6,p16 n7,p16 n8v,p16 n9,p16 n10,p16 n11],.box [pI (0:Int),pS ([]:List UInt8),pB false],.box [pI (0:Int),pS ([]:List UInt8),pB false]],s)) (λr0 r1 r2 n3 n4 s5 n6 n7 n8v n9 n10 n11 n12 n13 n14=>some (.agg [pI r0,pS r1,pB r2],[.box [pI n3],.box [.s (.nilp)],.box [.s (.nilp)],.box [pI n4,pS s5,p32 n6,p16 n7,p16 n8v,p16 n9,p16 n10,p16 n11,p16 n12,p16 n13,p16 n14],.box [pI r0,pS r1,pB r2],.box [pI (0:Int),pS ([]:List UInt8),pB false],.box [pI r0,pS r1,pB r2]],s)) (λr0 r1 r2 n3 n4 s5 n6 n7 n8v n9 n10 n11 n12 n13 n14 n15 s16 b17 n18 s19 b20 n21 s22 b23=>some (.agg [pI r0,pS r1,pB r2],[.box [pI n3],.box [.s (.nilp)],.box [.s (.nilp)],.box [pI n4,pS s5,p32 n6,p16 n7,p16 n8v,p16 n9,p16 n10,p16 n11,p16 n12,p16 n13,p16 n14],.box [pI n15,pS s16,pB b17],.box [pI n18,pS s19,pB b20],.box [pI n21,pS s22,pB b23],.box [.bad]],s)):=
 (evE (fn:=Tryz.f15) (by kernel_rfl)).trans (Eq.trans (by kernel_rfl) (Be4 lf (evC (Co lf) d) yh s (cd [1,0,1,1,1,1,0,1,0] Ri) (TL lf (evC (Co lf) d) yh s) now kd nm v4 a0 a1 a2 a3 a4 a5 a6 a7))
noncomputable abbrev Ay0 (now kd:Int) (nm:By) (v4 a0 a1 a2 a3 a4 a5 a6 a7:Int):Option (PV × List Blk × Unit):=Ax9 LF now kd nm v4 a0 a1 a2 a3 a4 a5 a6 a7 (λn0 n1 s2 n3 n4 n5 n6 n7 n8v n9 n10 n11=>some (.agg [pI (0:Int),pS ([]:List UInt8),pB false],[.box [pI n0],.box [.s (.nilp)],.box [.s (.nilp)],.box [pI n1,pS s2,p32 n3,p16 n4,p16 n5,p16 n6,p16 n7,p16 n8v,p16 n9,p16 n10,p16 n11],.box [pI (0:Int),pS ([]:List UInt8),pB false],.box [pI (0:Int),pS ([]:List UInt8),pB false]],())) (λr0 r1 r2 n3 n4 s5 n6 n7 n8v n9 n10 n11 n12 n13 n14=>some (.agg [pI r0,pS r1,pB r2],[.box [pI n3],.box [.s (.nilp)],.box [.s (.nilp)],.box [pI n4,pS s5,p32 n6,p16 n7,p16 n8v,p16 n9,p16 n10,p16 n11,p16 n12,p16 n13,p16 n14],.box [pI r0,pS r1,pB r2],.box [pI (0:Int),pS ([]:List UInt8),pB false],.box [pI r0,pS r1,pB r2]],())) (λr0 r1 r2 n3 n4 s5 n6 n7 n8v n9 n10 n11 n12 n13 n14 n15 s16 b17 n18 s19 b20 n21 s22 b23=>some (.agg [pI r0,pS r1,pB r2],[.box [pI n3],.box [.s (.nilp)],.box [.s (.nilp)],.box [pI n4,pS s5,p32 n6,p16 n7,p16 n8v,p16 n9,p16 n10,p16 n11,p16 n12,p16 n13,p16 n14],.box [pI n15,pS s16,pB b17],.box [pI n18,pS s19,pB b20],.box [pI n21,pS s22,pB b23],.box [.bad]],()))
noncomputable def Ro (lf:Nat):Cfg:=B8 lf [17] (A4 []) [(15,Wf)] (A4 [(1,[8]),(0,[0,0,0,4])]) [] (A4 []) (some [8]) [] [] []
noncomputable def Vj {R:Type} (lf:Nat) (now:Int) (tz tt:Bool) (t:LL) (cp:Int) (lz lt:Bool) (l:LL) (kd:Int) (nm:By) (v4 a0 a1 a2 a3 a4 a5 a6 a7:Int) (k0:Bool->Int->By->Int->Int->Int->Int->Int->Int->Int->Int->Int->Option R):Option R:=cond (List.all t F1) (cond (List.all t smE) (cond (A1 t.length) (cond (List.all l D1) (cond (List.all l smE) (cond (A1 l.length) (cond (A1 nm.length) (cond (ltN v4 4294967296) (cond (ok8 a0 a1 a2 a3 a4 a5 a6 a7) (vl ((E0 now (List.map B0 t) (List.map A6 l) kd (mkH kd nm v4 (n8 a0 a1 a2 a3 a4 a5 a6 a7)))).1 λn'0=>vl (((E0 now (List.map B0 t) (List.map A6 l) kd (mkH kd nm v4 (n8 a0 a1 a2 a3 a4 a5 a6 a7)))).2).1 λs'1=>k0 (n'0 != 0) kd nm v4 a0 a1 a2 a3 a4 a5 a6 a7) none) none) none) none) none) none) none) none) none
theorem TN (d:Nat) (now tz tt t cp lz lt l kd nm v4 a0 a1 a2 a3 a4 a5 a6 a7):evC (Ro lf) (d+1) σ yh 17 [pI now,.s (.sp [[.sl tz tt 3 t,.int .i64 cp]] 0 0),.s (.sp [[.sl lz lt 2 l]] 0 0),.agg [pI kd,pS nm,p32 v4,p16 a0,p16 a1,p16 a2,p16 a3,p16 a4,p16 a5,p16 a6,p16 a7]] [] s=Vj lf now tz tt t cp lz lt l kd nm v4 a0 a1 a2 a3 a4 a5 a6 a7 (λr0 n1 s2 n3 n4 n5 n6 n7 n8v n9 n10 n11=>some (pB r0,[.box [pI n1,pS s2,p32 n3,p16 n4,p16 n5,p16 n6,p16 n7,p16 n8v,p16 n9,p16 n10,p16 n11]],s)):=by
 refine (evE (fn:=Tryz.f17) (by kernel_rfl)).trans ?_
 generalize evC (Ro lf) d=cl
 unfold Vj;kernel_rfl
noncomputable abbrev CN (now:Int) (tz tt:Bool) (t:LL) (cp:Int) (lz lt:Bool) (l:LL) (kd:Int) (nm:By) (v4 a0 a1 a2 a3 a4 a5 a6 a7:Int):Option (PV × List Blk × Unit):=Vj LF now tz tt t cp lz lt l kd nm v4 a0 a1 a2 a3 a4 a5 a6 a7 (λr0 n1 s2 n3 n4 n5 n6 n7 n8v n9 n10 n11=>some (pB r0,[.box [pI n1,pS s2,p32 n3,p16 n4,p16 n5,p16 n6,p16 n7,p16 n8v,p16 n9,p16 n10,p16 n11]],()))
noncomputable def Rp (lf:Nat):Cfg:=B8 lf [17] (A4 []) [(15,Wf)] (A4 [(1,[8]),(0,[0,0,0,4])]) [] (A4 []) (some [8]) [] [] []
noncomputable def Vk {R:Type} (lf:Nat) (now:Int) (lz lt:Bool) (l:LL) (kd:Int) (nm:By) (v4 a0 a1 a2 a3 a4 a5 a6 a7:Int) (k0:Bool->Int->By->Int->Int->Int->Int->Int->Int->Int->Int->Int->Option R):Option R:=cond (List.all l D1) (cond (List.all l smE) (cond (A1 l.length) (cond (A1 nm.length) (cond (ltN v4 4294967296) (cond (ok8 a0 a1 a2 a3 a4 a5 a6 a7) (vl ((E0 now List.nil (List.map A6 l) kd (mkH kd nm v4 (n8 a0 a1 a2 a3 a4 a5 a6 a7)))).1 λn'0=>vl (((E0 now List.nil (List.map A6 l) kd (mkH kd nm v4 (n8 a0 a1 a2 a3 a4 a5 a6 a7)))).2).1 λs'1=>k0 (n'0 != 0) kd nm v4 a0 a1 a2 a3 a4 a5 a6 a7) none) none) none) none) none) none
theorem TP (d:Nat) (now lz lt l kd nm v4 a0 a1 a2 a3 a4 a5 a6 a7):evC (Rp lf) (d+1) σ yh 17 [pI now,.s (.nilp),.s (.sp [[.sl lz lt 2 l]] 0 0),.agg [pI kd,pS nm,p32 v4,p16 a0,p16 a1,p16 a2,p16 a3,p16 a4,p16 a5,p16 a6,p16 a7]] [] s=Vk lf now lz lt l kd nm v4 a0 a1 a2 a3 a4 a5 a6 a7 (λr0 n1 s2 n3 n4 n5 n6 n7 n8v n9 n10 n11=>some (pB r0,[.box [pI n1,pS s2,p32 n3,p16 n4,p16 n5,p16 n6,p16 n7,p16 n8v,p16 n9,p16 n10,p16 n11]],s)):=by
 refine (evE (fn:=Tryz.f17) (by kernel_rfl)).trans ?_
 generalize evC (Rp lf) d=cl
 unfold Vk;kernel_rfl
noncomputable abbrev CO (now:Int) (lz lt:Bool) (l:LL) (kd:Int) (nm:By) (v4 a0 a1 a2 a3 a4 a5 a6 a7:Int):Option (PV × List Blk × Unit):=Vk LF now lz lt l kd nm v4 a0 a1 a2 a3 a4 a5 a6 a7 (λr0 n1 s2 n3 n4 n5 n6 n7 n8v n9 n10 n11=>some (pB r0,[.box [pI n1,pS s2,p32 n3,p16 n4,p16 n5,p16 n6,p16 n7,p16 n8v,p16 n9,p16 n10,p16 n11]],()))
noncomputable def Rq (lf:Nat):Cfg:=B8 lf [17] (A4 []) [(15,Wf)] (A4 [(1,[8]),(0,[0,0,0,4])]) [] (A4 []) (some [8]) [] [] []
noncomputable def Vl {R:Type} (lf:Nat) (now:Int) (tz tt:Bool) (t:LL) (cp kd:Int) (nm:By) (v4 a0 a1 a2 a3 a4 a5 a6 a7:Int) (k0:Bool->Int->By->Int->Int->Int->Int->Int->Int->Int->Int->Int->Option R):Option R:=cond (List.all t F1) (cond (List.all t smE) (cond (A1 t.length) (cond (A1 nm.length) (cond (ltN v4 4294967296) (cond (ok8 a0 a1 a2 a3 a4 a5 a6 a7) (vl ((E0 now (List.map B0 t) List.nil kd (mkH kd nm v4 (n8 a0 a1 a2 a3 a4 a5 a6 a7)))).1 λn'0=>vl (((E0 now (List.map B0 t) List.nil kd (mkH kd nm v4 (n8 a0 a1 a2 a3 a4 a5 a6 a7)))).2).1 λs'1=>k0 (n'0 != 0) kd nm v4 a0 a1 a2 a3 a4 a5 a6 a7) none) none) none) none) none) none
theorem TR (d:Nat) (now tz tt t cp kd nm v4 a0 a1 a2 a3 a4 a5 a6 a7):evC (Rq lf) (d+1) σ yh 17 [pI now,.s (.sp [[.sl tz tt 3 t,.int .i64 cp]] 0 0),.s (.nilp),.agg [pI kd,pS nm,p32 v4,p16 a0,p16 a1,p16 a2,p16 a3,p16 a4,p16 a5,p16 a6,p16 a7]] [] s=Vl lf now tz tt t cp kd nm v4 a0 a1 a2 a3 a4 a5 a6 a7 (λr0 n1 s2 n3 n4 n5 n6 n7 n8v n9 n10 n11=>some (pB r0,[.box [pI n1,pS s2,p32 n3,p16 n4,p16 n5,p16 n6,p16 n7,p16 n8v,p16 n9,p16 n10,p16 n11]],s)):=by
 refine (evE (fn:=Tryz.f17) (by kernel_rfl)).trans ?_
 generalize evC (Rq lf) d=cl
 unfold Vl;kernel_rfl
noncomputable abbrev CP (now:Int) (tz tt:Bool) (t:LL) (cp kd:Int) (nm:By) (v4 a0 a1 a2 a3 a4 a5 a6 a7:Int):Option (PV × List Blk × Unit):=Vl LF now tz tt t cp kd nm v4 a0 a1 a2 a3 a4 a5 a6 a7 (λr0 n1 s2 n3 n4 n5 n6 n7 n8v n9 n10 n11=>some (pB r0,[.box [pI n1,pS s2,p32 n3,p16 n4,p16 n5,p16 n6,p16 n7,p16 n8v,p16 n9,p16 n10,p16 n11]],()))
noncomputable def Rs (lf:Nat):Cfg:=B8 lf [17] (A4 []) [(15,Wf)] (A4 [(1,[8]),(0,[0,0,0,4])]) [] (A4 []) (some [8]) [] [] []
noncomputable def Vm {R:Type} (lf:Nat) (now kd:Int) (nm:By) (v4 a0 a1 a2 a3 a4 a5 a6 a7:Int) (k0:Bool->Int->By->Int->Int->Int->Int->Int->Int->Int->Int->Int->Option R):Option R:=cond (A1 nm.length) (cond (ltN v4 4294967296) (cond (ok8 a0 a1 a2 a3 a4 a5 a6 a7) (vl ((E0 now List.nil List.nil kd (mkH kd nm v4 (n8 a0 a1 a2 a3 a4 a5 a6 a7)))).1 λn'0=>vl (((E0 now List.nil List.nil kd (mkH kd nm v4 (n8 a0 a1 a2 a3 a4 a5 a6 a7)))).2).1 λs'1=>k0 (n'0 != 0) kd nm v4 a0 a1 a2 a3 a4 a5 a6 a7) none) none) none
theorem TT (d:Nat) (now kd nm v4 a0 a1 a2 a3 a4 a5 a6 a7):evC (Rs lf) (d+1) σ yh 17 [pI now,.s (.nilp),.s (.nilp),.agg [pI kd,pS nm,p32 v4,p16 a0,p16 a1,p16 a2,p16 a3,p16 a4,p16 a5,p16 a6,p16 a7]] [] s=Vm lf now kd nm v4 a0 a1 a2 a3 a4 a5 a6 a7 (λr0 n1 s2 n3 n4 n5 n6 n7 n8v n9 n10 n11=>some (pB r0,[.box [pI n1,pS s2,p32 n3,p16 n4,p16 n5,p16 n6,p16 n7,p16 n8v,p16 n9,p16 n10,p16 n11]],s)):=by
 refine (evE (fn:=Tryz.f17) (by kernel_rfl)).trans ?_
 generalize evC (Rs lf) d=cl
 unfold Vm;kernel_rfl
noncomputable abbrev CQ (now kd:Int) (nm:By) (v4 a0 a1 a2 a3 a4 a5 a6 a7:Int):Option (PV × List Blk × Unit):=Vm LF now kd nm v4 a0 a1 a2 a3 a4 a5 a6 a7 (λr0 n1 s2 n3 n4 n5 n6 n7 n8v n9 n10 n11=>some (pB r0,[.box [pI n1,pS s2,p32 n3,p16 n4,p16 n5,p16 n6,p16 n7,p16 n8v,p16 n9,p16 n10,p16 n11]],()))
end
end
section
open Go Go.Op
abbrev leE (a b:Ent):Prop:=N5 b.1 a.1=false
theorem AD (d:Array Lk):(Fo d).toList.Perm d.toList/\(Fo d).size=d.size/\∀ i j,i<j->j<d.size->N5 ((Fo d)[j]!).1.1 ((Fo d)[i]!).1.1=false:=by
 obtain ⟨⟨h1,_,h3⟩,h4⟩:=Sort.pdq_sorts (Go.Proofs.ltOf λx y:Lk=>M4 x.1.1 y.1.1) (PT λx:Lk=>x.1.1) d 0 d.size (Lib.bitLen d.size) true true (Nat.zero_le _) (Nat.le_refl _) (.inl rfl)
 have hs:(Fo d).size=d.size:=h1
 refine ⟨?_,hs,λi j hij hj=>?_⟩
 ·have h3:((Fo d).extract 0 d.size).toList.Perm (d.extract 0 d.size).toList:=h3
  rw [<-hs] at h3
  rw [Array.extract_size,hs,Array.extract_size] at h3
  exact h3
 ·have:=h4 i j (Nat.zero_le _) hij hj
  unfold Go.Proofs.ltOf at this
  rw [X2] at this
  exact this
theorem Ad5 {e:Ent} (h:e.1.length<=1000000000):(mkS e).1=e:=by unfold mkS;rw [dif_pos h]
theorem Dq {l:List Ent} (hl:∀ e∈l,e.1.length<=1000000000):(R9 l).Perm l:=by
 have h:=((AD (l.map mkS).toArray).1).map (·.1)
 unfold R9
 refine h.trans ?_
 simp only [List.map_map]
 rw [show List.map ((λx:Lk=>x.1) ∘ mkS) l=l from (List.map_congr_left (g:=id) λe he=>Ad5 (hl e he)).trans (List.map_id l)]
theorem Pz (l:List Ent):(R9 l).Pairwise leE:=by
 obtain ⟨_,h2,h3⟩:=AD (l.map mkS).toArray
 unfold R9
 rw [List.pairwise_map,List.pairwise_iff_getElem]
 intro i j hi hj hij
 have hj':j<(Fo (l.map mkS).toArray).size:=by simpa using hj
 have hi':i<(Fo (l.map mkS).toArray).size:=by simpa using hi
 have:=h3 i j hij (by omega)
 simp only [getElem!_pos,hi',hj'] at this
 simpa using this
theorem Sl (e:Ent):∀ l:List Ent,(AQ e l).Perm (e::l)
 | []=>.refl _
 | a::r=>by
  unfold AQ
  split
  ·exact ((Sl e r).cons a).trans (.swap e a r)
  ·exact .refl _
theorem Tx (e:Ent):∀ {l:List Ent},l.Pairwise leE->(AQ e l).Pairwise leE
 | [],_=>by simp [AQ]
 | a::r,h=>by
  rw [List.pairwise_cons] at h
  unfold AQ
  split
  ·rename_i hlt
   rw [List.pairwise_cons]
   refine ⟨λb hb=>?_,Tx e h.2⟩
   rcases List.mem_cons.1 ((Sl e r).mem_iff.1 hb) with rfl | hb
   ·exact VU hlt
   ·exact h.1 b hb
  ·rename_i hlt
   have hlt:N5 a.1 e.1=false:=by simpa using hlt
   rw [List.pairwise_cons]
   refine ⟨λb hb=>?_,List.pairwise_cons.2 h⟩
   rcases List.mem_cons.1 hb with rfl | hb
   ·exact hlt
   ·exact Ud (h.1 b hb) hlt
theorem UT:∀ (l acc:List Ent),(l.foldl (λacc e=>AQ e acc) acc).Perm (l++acc)/\(acc.Pairwise leE->(l.foldl (λacc e=>AQ e acc) acc).Pairwise leE)
 | [],acc=>⟨.refl _,id⟩
 | e::r,acc=>by
  obtain ⟨h1,h2⟩:=UT r (AQ e acc)
  exact ⟨h1.trans (((Sl e acc).append_left r).trans List.perm_middle),λh=>h2 (Tx e h)⟩
theorem Jd (l:List Ent):(isE l).Perm l:=by simpa [isE] using (UT l []).1
theorem Ys (l:List Ent):(isE l).Pairwise leE:=(UT l []).2 .nil
theorem Fz:∀ {l:List By},Mn l=false↔l.Nodup
 | []=>by simp [Mn]
 | a::r=>by
  unfold Mn
  rw [Bool.or_eq_false_iff,Fz,List.nodup_cons]
  simp
theorem Ao6 {l:List Ent} (hl:∀ e∈l,e.1.length<=1000000000) (hd:Mn (l.map Prod.fst)=false):R9 l=isE l:=by
 have hn:=Fz.1 hd
 have key:∀ a b:Ent,a∈l->b∈l->a.1=b.1->a=b:=by
  clear hl hd
  induction l with
  | nil=>intro a b ha;cases ha
  | cons x r ih=>
   rw [List.map_cons,List.nodup_cons] at hn
   intro a b ha hb e
   rcases List.mem_cons.1 ha with ha | ha<;>rcases List.mem_cons.1 hb with hb | hb
   ·rw [ha,hb]
   ·exact absurd (List.mem_map.2 ⟨b,hb,by rw [<-e,ha]⟩) hn.1
   ·exact absurd (List.mem_map.2 ⟨a,ha,by rw [e,hb]⟩) hn.1
   ·exact ih hn.2 a b ha hb e
 refine List.Perm.eq_of_pairwise (le:=leE) (λa b ha hb h1 h2=>key a b ((Dq hl).mem_iff.1 ha) ((Jd l).mem_iff.1 hb) (Jj h2 h1)) (Pz l) (Ys l) ((Dq hl).trans (Jd l).symm)
def HY:List Ent->Bool
 | a::b::r=>(b.1==a.1) || HY (b::r)
 | _=>false
theorem At5:∀ {l:List Ent},l.Pairwise leE->HY l=false->(l.map Prod.fst).Nodup
 | [],_,_=>.nil
 | [a],_,_=>by simp
 | a::b::r,hp,h=>by
  unfold HY at h
  rw [Bool.or_eq_false_iff] at h
  rw [List.pairwise_cons] at hp
  have ih:=At5 hp.2 h.2
  rw [List.map_cons,List.nodup_cons]
  refine ⟨λhm=>?_,ih⟩
  obtain ⟨c,hc,e⟩:=List.mem_map.1 hm
  have hab:N5 a.1 b.1=true:=by
   cases q:N5 a.1 b.1 with
   | true=>rfl
   | false=>
    have:=Jj (hp.1 b (by simp)) q
    rw [this] at h
    simp at h
  rcases List.mem_cons.1 hc with rfl | hc
  ·rw [e,R7] at hab;cases hab
  ·have:=(List.pairwise_cons.1 hp.2).1 c hc
   have this:N5 c.1 b.1=false:=this
   rw [e,hab] at this;cases this
theorem Aa2:∀ {l:List Ent},HY l=true->Mn (l.map Prod.fst)=true
 | a::b::r,h=>by
  unfold HY at h
  rw [Bool.or_eq_true] at h
  rw [List.map_cons]
  unfold Mn
  rw [Bool.or_eq_true]
  rcases h with h | h
  ·exact .inl (by simp [eq_of_beq h])
  ·exact .inr (Aa2 h)
theorem At6 {l:List Ent} (hl:∀ e∈l,e.1.length<=1000000000):HY (R9 l)=Mn (l.map Prod.fst):=by
 have hp:=(Dq hl).map Prod.fst
 cases h:HY (R9 l) with
 | true=>
  have:=Aa2 h
  cases hd:Mn (l.map Prod.fst) with
  | true=>rfl
  | false=>
   rw [Fz.2 (hp.nodup_iff.2 (Fz.1 hd))] at this
   cases this
 | false=>exact (Fz.2 (hp.nodup_iff.1 (At5 (Pz l) h))).symm
theorem Au2:∀ {l:List Ent},l.Pairwise leE->(l.map Prod.fst).Nodup->asc (l.map Prod.fst)=true
 | [],_,_=>rfl
 | [a],_,_=>rfl
 | a::b::r,hp,hn=>by
  rw [List.pairwise_cons] at hp
  rw [List.map_cons,List.nodup_cons] at hn
  show (N5 a.1 b.1&&asc ((b::r).map Prod.fst))=true
  rw [Au2 hp.2 hn.2,Bool.and_true]
  cases q:N5 a.1 b.1 with
  | true=>rfl
  | false=>exact absurd (by rw [Jj q (hp.1 b (by simp))];simp) hn.1
theorem Ab9 {l:List Ent} (hd:Mn (l.map Prod.fst)=false):asc ((isE l).map Prod.fst)=true:=
 Au2 (Ys l) (((Jd l).map Prod.fst).nodup_iff.2 (Fz.1 hd))
set_option maxRecDepth 100000
theorem Oz {l:List Ent} {i:Nat} (h:i<l.length):okE Dy (D6 l) i 0=true:=by unfold okE;rw [Iw h];simp [h,okS,Uw,SV.has,Dy]
theorem Pb {l:List O6} {i:Nat} (h:i<l.length):okE Dy (Y1 l) i 0=true:=by unfold okE;rw [Gi h];simp [h,okS,A35,SV.has,Dy]
theorem X3 {α:Type} (d:α) {l:List α} {i:Nat} (h:i<l.length):l.drop i=l.getD i d::l.drop (i+1):=by
 rw [List.getD_eq_getElem?_getD,List.getElem?_eq_getElem h,Option.getD_some,List.getElem_cons_drop]
theorem DN {R:Type} (z:Bool) (S:List Ent) (k0:List Blk->Option R) (k1:Bool->LL->Option R) (hl:S.length<=1000000000):∀ (r j m:Nat),j+1+r=S.length->r<m->
  Aj LF m ((j+1:Nat):Int) z (D6 S) k0 k1=if HY (S.drop j) then k0 [.arr z 63 2 (D6 S)] else k1 z (D6 S)
 | 0,j,m,hj,hm=>by
  obtain ⟨m,rfl⟩:∃ q,m=q+1:=⟨m-1,by omega⟩
  rw [Aj,E9 (by rw [D4];omega),X3 noE (by omega),List.drop_of_length_le (i:=j+1) (by omega)]
  rfl
 | r+1,j,m,hj,hm=>by
  obtain ⟨m,rfl⟩:∃ q,m=q+1:=⟨m-1,by omega⟩
  have e1:A2 (((j+1:Nat):Int)-1)=(j:Int):=by rw [A5];omega
  have e2:A2 (((j+1:Nat):Int)+1)=((j+1+1:Nat):Int):=by rw [A5];rfl
  rw [Aj,C6 (by rw [D4];omega),K5 (by omega) (by rw [D4];omega),Int.toNat_natCast,Oz (by omega),e1,K5 (by omega) (by rw [D4];omega),Int.toNat_natCast,Oz (by omega),Jb (by omega),Jb (by omega),e2]
  simp only [cond_true,vl]
  rw [X3 noE (by omega:j<S.length),X3 noE (by omega:j+1<S.length)]
  unfold HY
  cases hq:((S.getD (j+1) noE).1==(S.getD j noE).1) with
  | true=>rfl
  | false=>
   rw [cond_false,DN z S k0 k1 hl r (j+1) m (by omega) (by omega),X3 noE (by omega:j+1<S.length),Bool.false_or]
theorem DO {R:Type} {k0:Int->List Blk->Option R} {k1:Bool->LL->List Blk->Option R} (z t:Bool) (l:LL) (h0:l.all D1=true) (h1:l.all smE=true) (h2:A1 l.length=true) (hz:N7 z l=true) :
  (Bl (l.map A6)=0->Ak0 LF z t l k0 k1=k1 z (D6 (isE (l.map A6))) [])/\(Bl (l.map A6)≠0->∃ H,Ak0 LF z t l k0 k1=k0 (Bl (l.map A6):Nat) H):=by
 have hLF:=E5
 have hl:=O0 h2
 have hr:=Ec h0
 generalize hE:l.map A6=E at hr
 subst hr
 rw [D4] at hl
 have hs:=A68 h1
 have hp:=(Dq hs).length_eq
 unfold Ak0 Bl
 rw [Kj] at hE ⊢
 by_cases c1:1000<E.length
 ·rw [C6 (by rw [D4];omega),if_pos c1]
  exact ⟨λh=>(by cases h),λ_=>⟨_,rfl⟩⟩
 ·rw [E9 (by rw [D4];omega),if_neg c1,cond_false,h0,h1,h2]
  simp only [cond_true,Bool.and_self]
  cases c2:RN E with
  | true=>exact ⟨λh=>(by cases h),λ_=>⟨_,rfl⟩⟩
  | false=>
   rw [hz]
   simp only [cond_true,cond_false,Bool.false_eq_true,if_false]
   have key:Aj LF LF 1 z (D6 (R9 E)) (λH=>k0 17 H) (λz l=>k1 z l [])=if Mn (E.map Prod.fst) then k0 17 [.arr z 63 2 (D6 (R9 E))] else k1 z (D6 (R9 E)) []:=by
    rw [<-At6 hs]
    by_cases c0:E.length=0
    ·have e0:R9 E=[]:=List.eq_nil_of_length_eq_zero (by omega)
     rw [e0]
     obtain ⟨m,hm⟩:∃ q,LF=q+1:=⟨LF-1,by omega⟩
     have:∀ m,m=LF->Aj LF m 1 z (D6 []) (λH=>k0 17 H) (λz l=>k1 z l [])=k1 z (D6 []) []:=λm' hm'=>by
      obtain ⟨q,rfl⟩:∃ q,m'=q+1:=⟨m'-1,by omega⟩
      rw [Aj];rfl
     exact this LF rfl
    ·exact DN z (R9 E) (λH=>k0 17 H) (λz l=>k1 z l []) (by omega) (E.length-1) 0 LF (by omega) (by omega)
   rw [key]
   cases c3:Mn (E.map Prod.fst) with
   | true=>exact ⟨λh=>(by cases h),λ_=>⟨_,rfl⟩⟩
   | false=>
    rw [Ao6 hs c3]
    exact ⟨λ_=>rfl,λh=>absurd rfl h⟩
theorem Ug {R:Type} (z t:Bool) (T:List O6) (N:LL) (cp:Int) (k0:Int->LL->Int->By->Bool->Int->Option R) (k1:Bool->Bool->LL->LL->Int->Option R) (hs:(Y1 T).all smE=true) (hl:T.length<=1000000000):∀ (r i m:Nat),i+r=T.length->r<m->
  (JN (if i=0 then none else some (T.getD (i-1) noP).1) (T.drop i)=0->T1 LF m z t (Y1 T) (T.length:Int) (i:Int) N cp k0 k1=k1 z t (Y1 T) N cp)/\
  (JN (if i=0 then none else some (T.getD (i-1) noP).1) (T.drop i)≠0->∃ s b n,T1 LF m z t (Y1 T) (T.length:Int) (i:Int) N cp k0 k1=k0 ((JN (if i=0 then none else some (T.getD (i-1) noP).1) (T.drop i):Nat):Int) N cp s b n)
 | 0,i,m,hi,hm=>by
  obtain ⟨m,rfl⟩:∃ q,m=q+1:=⟨m-1,by omega⟩
  rw [T1,E9 (by omega),List.drop_of_length_le (by omega)]
  exact ⟨λ_=>rfl,λh=>absurd rfl h⟩
 | r+1,i,m,hi,hm=>by
  obtain ⟨m,rfl⟩:∃ q,m=q+1:=⟨m-1,by omega⟩
  have hlt:i<T.length:=by omega
  have ih:=Ug z t T N cp k0 k1 hs hl r (i+1) m (by omega) (by omega)
  rw [if_neg (Nat.succ_ne_zero i),Nat.add_sub_cancel] at ih
  have e2:A2 ((i:Int)+1)=((i+1:Nat):Int):=by rw [A5];rfl
  rw [T1,C6 (by omega),K5 (by omega) (by rw [J3];omega),Int.toNat_natCast,Pa hlt,Jc hlt,UM hlt,UL hlt,e2,X3 noP hlt]
  simp only [cond_true,vl]
  rw [Py hs hlt,cond_true]
  unfold JN
  cases hv:KB (T.getD i noP).1 (T.getD i noP).2.2 with
  | false=>exact ⟨λh=>(by cases h),λ_=>⟨_,_,_,rfl⟩⟩
  | true=>
   simp only [Bool.not_true,cond_false,if_true]
   by_cases h0:i=0
   ·subst h0
    rw [E9 (by omega),cond_false]
    exact ih
   ·have e1:A2 ((i:Int)-1)=((i-1:Nat):Int):=by rw [A5];omega
    rw [C6 (by omega),e1,K5 (by omega) (by rw [J3];omega),Int.toNat_natCast,Pb (by omega),Jc (by omega),Py hs (by omega:i-1<T.length),if_neg h0]
    simp only [cond_true]
    have ec:ltI (M4 (T.getD (i-1) noP).1 (T.getD i noP).1) 0=N5 (T.getD (i-1) noP).1 (T.getD i noP).1:=by rw [R5];exact X2 _ _
    rw [ec]
    cases hn:N5 (T.getD (i-1) noP).1 (T.getD i noP).1 with
    | false=>exact ⟨λh=>(by cases h),λ_=>⟨_,_,_,rfl⟩⟩
    | true=>exact ih
theorem Uh {R:Type} {k0:LL->Int->Option R} {k1:Int->LL->Int->By->Bool->Int->Option R} {k2:LL->Int->Bool->LL->Option R} (z t:Bool) (l:LL) (cp:Int) (h0:l.all F1=true) (h1:l.all smE=true) (h2:A1 l.length=true) (hz:N7 z l=true) (hc:(ltI 0 cp&&ltI cp 1001)=true) :
  (X8 cp (l.map B0)=0->Mv LF z t l cp k0 k1 k2=k2 [] cp z l)/\(X8 cp (l.map B0)≠0->(X8 cp (l.map B0)=11/\Mv LF z t l cp k0 k1 k2=k0 [] cp)\/∃ s b n,Mv LF z t l cp k0 k1 k2=k1 (X8 cp (l.map B0):Nat) [] cp s b n):=by
 have hLF:=E5
 have hl:=O0 h2
 have hr:=Pf h0
 generalize hE:l.map B0=T at hr
 subst hr
 rw [J3] at hl
 unfold Mv X8
 rw [hc,cond_true,J3]
 cases c1:ltI cp (T.length:Nat) with
 | true=>exact ⟨λh=>(by cases h),λ_=>.inl ⟨rfl,rfl⟩⟩
 | false=>
  simp only [cond_false]
  have key:=Ug z t T [] cp (λn l m s b e=>k1 n l m s b e) (λz' t' p l n=>cond (A1 p.length) (cond (N7 z' p) (k2 l n z' p) none) none) h1 hl T.length 0 LF (by omega) (by omega)
  rw [if_pos rfl,List.drop_zero] at key
  refine ⟨λh=>?_,λh=>.inr (key.2 h)⟩
  refine (key.1 h).trans ?_
  rw [h2,hz]
  rfl
theorem Ac7 (z t:Bool) (l:LL) (h0:l.all D1=true) (h1:l.all smE=true) (h2:A1 l.length=true) (hz:N7 z l=true) {b:Bool} (hb:(Bl (l.map A6)==0)=b) :
  ∃ r H,A18 z t l=rv r H/\r.stabQ [0,0] [2] H=cond b (.tup [.s (.sp [[.sl z z 2 (D6 (isE (l.map A6)))]] 0 0),pI 0]) (.tup [.s .nilp,pI (Bl (l.map A6):Nat)]):=by
 unfold A18
 cases b with
 | true=>
  refine ⟨_,_,(DO z t l h0 h1 h2 hz).1 (eq_of_beq hb),?_⟩
  have hzz:(z&&(D6 (isE (l.map A6))).isEmpty)=z:=by
   cases z with
   | false=>rfl
   | true=>rw [JS hz rfl];rfl
  show PV.tup [.s (.sp [[.sl (z&&(D6 (isE (l.map A6))).isEmpty) (z&&(D6 (isE (l.map A6))).isEmpty) 2 (D6 (isE (l.map A6)))]] 0 0),pI 0]=_
  rw [hzz];rfl
 | false=>
  obtain ⟨H,e⟩:=(DO z t l h0 h1 h2 hz).2 (by simpa using hb)
  exact ⟨_,_,e,rfl⟩
theorem DW (z t:Bool) (l:LL) (cp:Int) (h0:l.all F1=true) (h1:l.all smE=true) (h2:A1 l.length=true) (hz:N7 z l=true) (hc:(ltI 0 cp&&ltI cp 1001)=true) {b:Bool} (hb:(X8 cp (l.map B0)==0)=b) :
  ∃ r H,OI z t l cp=rv r H/\r.stabQ [0,0] [3,0] H=cond b (.tup [.s (.sp [[.sl z z 3 l,.int .i64 cp]] 0 0),pI 0]) (.tup [.s .nilp,pI (X8 cp (l.map B0):Nat)]):=by
 unfold OI
 cases b with
 | true=>
  refine ⟨_,_,(Uh z t l cp h0 h1 h2 hz hc).1 (eq_of_beq hb),?_⟩
  have hzz:(z&&l.isEmpty)=z:=by
   cases z with
   | false=>rfl
   | true=>rw [JS hz rfl];rfl
  show PV.tup [.s (.sp [[.sl (z&&l.isEmpty) (z&&l.isEmpty) 3 l,.int .i64 cp]] 0 0),pI 0]=_
  rw [hzz];rfl
 | false=>
  rcases (Uh z t l cp h0 h1 h2 hz hc).2 (by simpa using hb) with ⟨e0,e⟩ | ⟨s,b',n,e⟩
  ·rw [e0]
   exact ⟨_,_,e,rfl⟩
  ·exact ⟨_,_,e,rfl⟩
theorem WQ {R:Type} {k0:Unit->Option R} {k1:Int->Option R} (n:Int) (h:(ltI 0 n&&ltI n 1001)=true):Ad9 LF n k0 k1=k1 n:=by
 rw [Bool.and_eq_true,R5,R5,decide_eq_true_eq,decide_eq_true_eq] at h
 unfold Ad9
 rw [E9 (by omega),E9 (by omega)]
 rfl
theorem Av7 {h:List By} {s:By} (H:bsB h s=true):bsI h s<h.length:=by
 unfold bsB at H
 rw [Bool.and_eq_true] at H
 exact U3.1 H.1
theorem A14 (lz lt:Bool) (l:LL) (q:By) (h0:l.all D1=true) (h1:l.all smE=true) (h2:A1 l.length=true) (h3:A1 q.length=true) :
  ∃ r H,Ac5 lz lt l q=rv r H/\r.stab [0,0] H = .tup [.agg [pS (H6 (l.map A6) q).1.1,pB (H6 (l.map A6) q).1.2],pB (H6 (l.map A6) q).2]:=by
 have hl:=O0 h2
 have hr:=Ec h0
 unfold Ac5 Ac4
 rw [h0,h1,h2,h3]
 simp only [cond_true,vl]
 generalize hE:l.map A6=E at hr
 subst hr
 rw [D4] at hl ⊢
 unfold H6 JF
 cases hb:bsB (E.map Prod.fst) q with
 | false=>exact ⟨_,_,rfl,rfl⟩
 | true=>
  have hlt:bsI (E.map Prod.fst) q<E.length:=by have:=Av7 hb;rwa [List.length_map] at this
  rw [Bool.not_true,cond_false,K5 (by omega) (by omega),Int.toNat_natCast,Oy hlt,Jb hlt,A01 hlt]
  exact ⟨_,_,rfl,rfl⟩
theorem A17 (q:By):∃ r H,Bi2 q=rv r H/\r.stab [0,0] H = .tup [.agg [pS [],pB false],pB false]:=⟨_,_,rfl,rfl⟩
theorem ZA {R:Type} {k0:Int->Bool->Option R} (tz tt:Bool) (t:LL) (cp:Int) (q:By) (h0:t.all F1=true) (h1:t.all smE=true) (h2:A1 t.length=true) (h3:A1 q.length=true) :
  Af0 LF tz tt t cp q k0=k0 ((bsI ((t.map B0).map Prod.fst) q:Nat):Int) (bsB ((t.map B0).map Prod.fst) q):=by
 unfold Af0
 rw [h0,h1,h2,h3]
 rfl
theorem ZB {R:Type} {k0:Unit->Option R} (q:By):A75 LF q k0=k0 ():=rfl
theorem A78 (tz tt:Bool) (t:LL) (cp:Int) (q:By) (h0:t.all F1=true) (h1:t.all smE=true) (h2:A1 t.length=true) (h3:A1 q.length=true) :
  ∃ r H,Af2 tz tt t cp q=rv r H/\r.stab [0,0] H = .tup [.agg [pS (M5 (t.map B0) q).1.1,pB (M5 (t.map B0) q).1.2.1,pI (M5 (t.map B0) q).1.2.2],pB (M5 (t.map B0) q).2]:=by
 have hl:=O0 h2
 have hr:=Pf h0
 unfold Af2 Af1
 rw [h0,h1,h2,h3]
 simp only [cond_true,vl]
 generalize hE:t.map B0=T at hr
 subst hr
 rw [J3] at hl ⊢
 unfold M5 JF
 cases hb:bsB (T.map Prod.fst) q with
 | false=>exact ⟨_,_,rfl,rfl⟩
 | true=>
  have hlt:bsI (T.map Prod.fst) q<T.length:=by have:=Av7 hb;rwa [List.length_map] at this
  rw [Bool.not_true,cond_false,K5 (by omega) (by omega),Int.toNat_natCast,Pa hlt,Jc hlt,UM hlt,UL hlt]
  exact ⟨_,_,rfl,rfl⟩
theorem A81 (q:By):∃ r H,Bq2 q=rv r H/\r.stab [0,0] H = .tup [.agg [pS [],pB false,pI 0],pB false]:=⟨_,_,rfl,rfl⟩
abbrev Bg4 (v:Lb × Bool):PV:=.tup [.agg [pI v.1.1,pS v.1.2.1,pB v.1.2.2],pB v.2]
theorem NF (u:By):M5 [] u=(noP,false):=rfl
theorem NE (u:By):H6 [] u=(noE,false):=rfl
theorem Bc4 (now:Int) (tz tt:Bool) (t:LL) (cp:Int) (lz lt:Bool) (l:LL) (u:By) (ex:Bool) (h0:t.all F1=true) (h1:t.all smE=true) (h2:A1 t.length=true) (h3:l.all D1=true) (h4:l.all smE=true) (h5:A1 l.length=true) (h6:A1 u.length=true) :
  ∃ r H,Aw5 now tz tt t cp lz lt l u ex=rv r H/\r.stab [0,0] H=Bg4 (atV now (t.map B0) (l.map A6) u ex):=by
 unfold Aw5 Aw4 Vd Nl atV NU
 rw [h0,h1,h2,h3,h4,h5,h6]
 simp only [cond_true,vl,Bool.not_not]
 generalize M5 (t.map B0) u=p
 generalize H6 (l.map A6) u=e
 obtain ⟨⟨ph,pb,pe⟩,pk⟩:=p
 obtain ⟨⟨eh,eb⟩,ek⟩:=e
 cases pk<;>cases (ltI now pe)<;>cases ex<;>cases pb<;>cases ek<;>cases eb<;>exact ⟨_,_,rfl,rfl⟩
theorem Bc7 (now:Int) (lz lt:Bool) (l:LL) (u:By) (ex:Bool) (h3:l.all D1=true) (h4:l.all smE=true) (h5:A1 l.length=true) (h6:A1 u.length=true) :
  ∃ r H,Aw6 now lz lt l u ex=rv r H/\r.stab [0,0] H=Bg4 (atV now [] (l.map A6) u ex):=by
 unfold Aw6 Bc5 atV NU
 rw [h3,h4,h5,h6,NF]
 simp only [cond_true,vl]
 generalize H6 (l.map A6) u=e
 obtain ⟨⟨eh,eb⟩,ek⟩:=e
 cases ex<;>cases ek<;>cases eb<;>exact ⟨_,_,rfl,rfl⟩
theorem Bd0 (now:Int) (tz tt:Bool) (t:LL) (cp:Int) (u:By) (ex:Bool) (h0:t.all F1=true) (h1:t.all smE=true) (h2:A1 t.length=true) (h6:A1 u.length=true) :
  ∃ r H,Aw8 now tz tt t cp u ex=rv r H/\r.stab [0,0] H=Bg4 (atV now (t.map B0) [] u ex):=by
 unfold Aw8 Aw7 Ve Nm atV NU
 rw [h0,h1,h2,h6,NE]
 simp only [cond_true,vl,Bool.not_not]
 generalize M5 (t.map B0) u=p
 obtain ⟨⟨ph,pb,pe⟩,pk⟩:=p
 cases pk<;>cases (ltI now pe)<;>cases ex<;>cases pb<;>exact ⟨_,_,rfl,rfl⟩
theorem Bd3 (now:Int) (u:By) (ex:Bool) (h6:A1 u.length=true):∃ r H,Aw9 now u ex=rv r H/\r.stab [0,0] H=Bg4 (atV now [] [] u ex):=by
 unfold Aw9 Bd1 atV
 rw [NF,NE]
 exact ⟨_,_,rfl,rfl⟩
theorem Bw {s:By} (h:A1 s.length=true):∀ u∈E2 s,A1 u.length=true:=λu hu=>by
 have:=(Z6 (Q0 s) u hu).2
 have:=O0 h
 exact Ae9
theorem VE {R:Type} (z t:Bool) (l:LL) (s:By) (b:Bool) (k0:Bool->Bool->LL->By->Bool->Option R) (k1:Bool->Bool->LL->By->Bool->By->Bool->Option R) (h0:l.all D1=true) (h1:l.all smE=true) (h2:A1 l.length=true):∀ L:List By,(∀ u∈L,A1 u.length=true)->
  Yw LF L z t l s b k0 k1=match L.find? λu=>(H6 (l.map A6) u).2&&(H6 (l.map A6) u).1.2 with
   | some u=>k1 z t l (H6 (l.map A6) u).1.1 (H6 (l.map A6) u).1.2 s b
   | none=>k0 z t l s b
 | [],_=>rfl
 | x::r,hs=>by
  have ih:=VE z t l s b k0 k1 h0 h1 h2 r λu hu=>hs u (by simp [hu])
  rw [VD]
  unfold Sp
  rw [h0,h1,h2,hs x (by simp),List.find?_cons]
  simp only [cond_true,vl]
  rw [ih]
  cases q1:(H6 (l.map A6) x).2 with
  | false=>rfl
  | true=>
   cases q2:(H6 (l.map A6) x).1.2 with
   | false=>rfl
   | true=>show k1 z t l _ true s b=k1 z t l _ (H6 (l.map A6) x).1.2 s b;rw [q2]
abbrev gC3 (v:Lb):PV:=.agg [pI v.1,pS v.2.1,pB v.2.2]
theorem CB {R:Type} (now:Int) (tz tt:Bool) (t:LL) (cp:Int) (lz lt:Bool) (l:LL) (kd:Int) (nm:By) (v4 a0 a1 a2 a3 a4 a5 a6 a7:Int) (n:Int) (s:By) (b:Bool) (k0 k1:_) (h0:t.all F1=true) (h1:t.all smE=true) (h2:A1 t.length=true) (h3:l.all D1=true) (h4:l.all smE=true) (h5:A1 l.length=true):∀ L:List By,(∀ u∈L,A1 u.length=true)->
  Nn (R:=R) LF L now tz tt t cp lz lt l kd nm v4 a0 a1 a2 a3 a4 a5 a6 a7 n s b k0 k1=match L.find? λu=>(atV now (t.map B0) (l.map A6) u false).2 with
   | some u=>k1 now tz tt t cp lz lt l kd nm v4 a0 a1 a2 a3 a4 a5 a6 a7 (atV now (t.map B0) (l.map A6) u false).1.1 (atV now (t.map B0) (l.map A6) u false).1.2.1 (atV now (t.map B0) (l.map A6) u false).1.2.2 n s b
   | none=>k0 now tz tt t cp lz lt l kd nm v4 a0 a1 a2 a3 a4 a5 a6 a7 n s b
 | [],_=>rfl
 | x::r,hs=>by
  have ih:=CB now tz tt t cp lz lt l kd nm v4 a0 a1 a2 a3 a4 a5 a6 a7 n s b k0 k1 h0 h1 h2 h3 h4 h5 r λu hu=>hs u (by simp [hu])
  rw [CA]
  unfold No
  rw [h0,h1,h2,h3,h4,h5,hs x (by simp),List.find?_cons]
  simp only [cond_true,vl]
  rw [ih]
  cases q1:(atV now (t.map B0) (l.map A6) x false).2<;>rfl
theorem Bd7 (now:Int) (tz tt:Bool) (t:LL) (cp:Int) (lz lt:Bool) (l:LL) (kd:Int) (nm:By) (v4 a0 a1 a2 a3 a4 a5 a6 a7:Int) (h0:t.all F1=true) (h1:t.all smE=true) (h2:A1 t.length=true) (h3:l.all D1=true) (h4:l.all smE=true) (h5:A1 l.length=true) (g0:A1 nm.length=true) (g1:ltN v4 4294967296=true) (g2:ok8 a0 a1 a2 a3 a4 a5 a6 a7=true):∃ r H,Ax4 now tz tt t cp lz lt l kd nm v4 a0 a1 a2 a3 a4 a5 a6 a7=rv r H/\r.stab [] H=gC3 (E0 now (t.map B0) (l.map A6) kd (mkH kd nm v4 (n8 a0 a1 a2 a3 a4 a5 a6 a7))):=by
 unfold Ax4 Ax3 Vf E0
 by_cases hk:kd=1
 ·subst hk
  rw [show ((1:Int) != 1)=false from rfl,show ((1:Int)==1)=true from rfl,g0,g1,g2,h0,h1,h2,h3,h4,h5]
  simp only [cond_true,cond_false,vl]
  cases hv:M8 (mkH 1 nm v4 (n8 a0 a1 a2 a3 a4 a5 a6 a7)) with
  | false=>exact ⟨_,_,rfl,rfl⟩
  | true=>
   simp only [Bool.not_true,cond_true,cond_false]
   show ∃ (r:PV) (H:List Blk),_/\r.stab [] H=gC3 (Da now (t.map B0) (l.map A6) nm)
   unfold Da
   cases hg:(atV now (t.map B0) (l.map A6) nm true).2 with
   | true=>exact ⟨_,_,rfl,rfl⟩
   | false=>
    rw [cond_false,CB now tz tt t cp lz lt l 1 nm v4 a0 a1 a2 a3 a4 a5 a6 a7 _ _ _ _ _ h0 h1 h2 h3 h4 h5 _ (Bw g0),if_neg (by simp)]
    cases hf:(E2 nm).find? λu=>(atV now (t.map B0) (l.map A6) u false).2 with
    | none=>exact ⟨_,_,rfl,rfl⟩
    | some u=>exact ⟨_,_,rfl,rfl⟩
 ·rw [show (kd != 1)=true by simpa using hk,show (kd==1)=false by simpa using hk]
  exact ⟨_,_,rfl,rfl⟩
theorem TO (now:Int) (tz tt:Bool) (t:LL) (cp:Int) (lz lt:Bool) (l:LL) (kd:Int) (nm:By) (v4 a0 a1 a2 a3 a4 a5 a6 a7:Int) (h0:t.all F1=true) (h1:t.all smE=true) (h2:A1 t.length=true) (h3:l.all D1=true) (h4:l.all smE=true) (h5:A1 l.length=true) (g0:A1 nm.length=true) (g1:ltN v4 4294967296=true) (g2:ok8 a0 a1 a2 a3 a4 a5 a6 a7=true):∃ r H,CN now tz tt t cp lz lt l kd nm v4 a0 a1 a2 a3 a4 a5 a6 a7=rv r H/\r.stab [] H=pB ((E0 now (t.map B0) (l.map A6) kd (mkH kd nm v4 (n8 a0 a1 a2 a3 a4 a5 a6 a7))).1 != 0):=by
 unfold CN Vj
 rw [h0,h1,h2,h3,h4,h5,g0,g1,g2]
 exact ⟨_,_,rfl,rfl⟩
theorem CE {R:Type} (now:Int) (lz lt:Bool) (l:LL) (kd:Int) (nm:By) (v4 a0 a1 a2 a3 a4 a5 a6 a7:Int) (n:Int) (s:By) (b:Bool) (k0 k1:_) (h3:l.all D1=true) (h4:l.all smE=true) (h5:A1 l.length=true):∀ L:List By,(∀ u∈L,A1 u.length=true)->
  Np (R:=R) LF L now lz lt l kd nm v4 a0 a1 a2 a3 a4 a5 a6 a7 n s b k0 k1=match L.find? λu=>(atV now [] (l.map A6) u false).2 with
   | some u=>k1 now lz lt l kd nm v4 a0 a1 a2 a3 a4 a5 a6 a7 (atV now [] (l.map A6) u false).1.1 (atV now [] (l.map A6) u false).1.2.1 (atV now [] (l.map A6) u false).1.2.2 n s b
   | none=>k0 now lz lt l kd nm v4 a0 a1 a2 a3 a4 a5 a6 a7 n s b
 | [],_=>rfl
 | x::r,hs=>by
  have ih:=CE now lz lt l kd nm v4 a0 a1 a2 a3 a4 a5 a6 a7 n s b k0 k1 h3 h4 h5 r λu hu=>hs u (by simp [hu])
  rw [CD]
  unfold Nq
  rw [h3,h4,h5,hs x (by simp),List.find?_cons]
  simp only [cond_true,vl]
  rw [ih]
  cases q1:(atV now [] (l.map A6) x false).2<;>rfl
theorem Be0 (now:Int) (lz lt:Bool) (l:LL) (kd:Int) (nm:By) (v4 a0 a1 a2 a3 a4 a5 a6 a7:Int) (h3:l.all D1=true) (h4:l.all smE=true) (h5:A1 l.length=true) (g0:A1 nm.length=true) (g1:ltN v4 4294967296=true) (g2:ok8 a0 a1 a2 a3 a4 a5 a6 a7=true):∃ r H,Ax6 now lz lt l kd nm v4 a0 a1 a2 a3 a4 a5 a6 a7=rv r H/\r.stab [] H=gC3 (E0 now [] (l.map A6) kd (mkH kd nm v4 (n8 a0 a1 a2 a3 a4 a5 a6 a7))):=by
 unfold Ax6 Ax5 Vg E0
 by_cases hk:kd=1
 ·subst hk
  rw [show ((1:Int) != 1)=false from rfl,show ((1:Int)==1)=true from rfl,g0,g1,g2,h3,h4,h5]
  simp only [cond_true,cond_false,vl]
  cases hv:M8 (mkH 1 nm v4 (n8 a0 a1 a2 a3 a4 a5 a6 a7)) with
  | false=>exact ⟨_,_,rfl,rfl⟩
  | true=>
   simp only [Bool.not_true,cond_true,cond_false]
   show ∃ (r:PV) (H:List Blk),_/\r.stab [] H=gC3 (Da now [] (l.map A6) nm)
   unfold Da
   cases hg:(atV now [] (l.map A6) nm true).2 with
   | true=>exact ⟨_,_,rfl,rfl⟩
   | false=>
    rw [cond_false,CE now lz lt l 1 nm v4 a0 a1 a2 a3 a4 a5 a6 a7 _ _ _ _ _ h3 h4 h5 _ (Bw g0),if_neg (by simp)]
    cases hf:(E2 nm).find? λu=>(atV now [] (l.map A6) u false).2 with
    | none=>exact ⟨_,_,rfl,rfl⟩
    | some u=>exact ⟨_,_,rfl,rfl⟩
 ·rw [show (kd != 1)=true by simpa using hk,show (kd==1)=false by simpa using hk]
  exact ⟨_,_,rfl,rfl⟩
theorem TQ (now:Int) (lz lt:Bool) (l:LL) (kd:Int) (nm:By) (v4 a0 a1 a2 a3 a4 a5 a6 a7:Int) (h3:l.all D1=true) (h4:l.all smE=true) (h5:A1 l.length=true) (g0:A1 nm.length=true) (g1:ltN v4 4294967296=true) (g2:ok8 a0 a1 a2 a3 a4 a5 a6 a7=true):∃ r H,CO now lz lt l kd nm v4 a0 a1 a2 a3 a4 a5 a6 a7=rv r H/\r.stab [] H=pB ((E0 now [] (l.map A6) kd (mkH kd nm v4 (n8 a0 a1 a2 a3 a4 a5 a6 a7))).1 != 0):=by
 unfold CO Vk
 rw [h3,h4,h5,g0,g1,g2]
 exact ⟨_,_,rfl,rfl⟩
theorem CH {R:Type} (now:Int) (tz tt:Bool) (t:LL) (cp:Int) (kd:Int) (nm:By) (v4 a0 a1 a2 a3 a4 a5 a6 a7:Int) (n:Int) (s:By) (b:Bool) (k0 k1:_) (h0:t.all F1=true) (h1:t.all smE=true) (h2:A1 t.length=true):∀ L:List By,(∀ u∈L,A1 u.length=true)->
  Nr (R:=R) LF L now tz tt t cp kd nm v4 a0 a1 a2 a3 a4 a5 a6 a7 n s b k0 k1=match L.find? λu=>(atV now (t.map B0) [] u false).2 with
   | some u=>k1 now tz tt t cp kd nm v4 a0 a1 a2 a3 a4 a5 a6 a7 (atV now (t.map B0) [] u false).1.1 (atV now (t.map B0) [] u false).1.2.1 (atV now (t.map B0) [] u false).1.2.2 n s b
   | none=>k0 now tz tt t cp kd nm v4 a0 a1 a2 a3 a4 a5 a6 a7 n s b
 | [],_=>rfl
 | x::r,hs=>by
  have ih:=CH now tz tt t cp kd nm v4 a0 a1 a2 a3 a4 a5 a6 a7 n s b k0 k1 h0 h1 h2 r λu hu=>hs u (by simp [hu])
  rw [CG]
  unfold Ns
  rw [h0,h1,h2,hs x (by simp),List.find?_cons]
  simp only [cond_true,vl]
  rw [ih]
  cases q1:(atV now (t.map B0) [] x false).2<;>rfl
theorem Be3 (now:Int) (tz tt:Bool) (t:LL) (cp:Int) (kd:Int) (nm:By) (v4 a0 a1 a2 a3 a4 a5 a6 a7:Int) (h0:t.all F1=true) (h1:t.all smE=true) (h2:A1 t.length=true) (g0:A1 nm.length=true) (g1:ltN v4 4294967296=true) (g2:ok8 a0 a1 a2 a3 a4 a5 a6 a7=true):∃ r H,Ax8 now tz tt t cp kd nm v4 a0 a1 a2 a3 a4 a5 a6 a7=rv r H/\r.stab [] H=gC3 (E0 now (t.map B0) [] kd (mkH kd nm v4 (n8 a0 a1 a2 a3 a4 a5 a6 a7))):=by
 unfold Ax8 Ax7 Vh E0
 by_cases hk:kd=1
 ·subst hk
  rw [show ((1:Int) != 1)=false from rfl,show ((1:Int)==1)=true from rfl,g0,g1,g2,h0,h1,h2]
  simp only [cond_true,cond_false,vl]
  cases hv:M8 (mkH 1 nm v4 (n8 a0 a1 a2 a3 a4 a5 a6 a7)) with
  | false=>exact ⟨_,_,rfl,rfl⟩
  | true=>
   simp only [Bool.not_true,cond_true,cond_false]
   show ∃ (r:PV) (H:List Blk),_/\r.stab [] H=gC3 (Da now (t.map B0) [] nm)
   unfold Da
   cases hg:(atV now (t.map B0) [] nm true).2 with
   | true=>exact ⟨_,_,rfl,rfl⟩
   | false=>
    rw [cond_false,CH now tz tt t cp 1 nm v4 a0 a1 a2 a3 a4 a5 a6 a7 _ _ _ _ _ h0 h1 h2 _ (Bw g0),if_neg (by simp)]
    cases hf:(E2 nm).find? λu=>(atV now (t.map B0) [] u false).2 with
    | none=>exact ⟨_,_,rfl,rfl⟩
    | some u=>exact ⟨_,_,rfl,rfl⟩
 ·rw [show (kd != 1)=true by simpa using hk,show (kd==1)=false by simpa using hk]
  exact ⟨_,_,rfl,rfl⟩
theorem TS (now:Int) (tz tt:Bool) (t:LL) (cp:Int) (kd:Int) (nm:By) (v4 a0 a1 a2 a3 a4 a5 a6 a7:Int) (h0:t.all F1=true) (h1:t.all smE=true) (h2:A1 t.length=true) (g0:A1 nm.length=true) (g1:ltN v4 4294967296=true) (g2:ok8 a0 a1 a2 a3 a4 a5 a6 a7=true):∃ r H,CP now tz tt t cp kd nm v4 a0 a1 a2 a3 a4 a5 a6 a7=rv r H/\r.stab [] H=pB ((E0 now (t.map B0) [] kd (mkH kd nm v4 (n8 a0 a1 a2 a3 a4 a5 a6 a7))).1 != 0):=by
 unfold CP Vl
 rw [h0,h1,h2,g0,g1,g2]
 exact ⟨_,_,rfl,rfl⟩
theorem CL {R:Type} (now:Int) (kd:Int) (nm:By) (v4 a0 a1 a2 a3 a4 a5 a6 a7:Int) (n:Int) (s:By) (b:Bool) (k0 k1:_):∀ L:List By,(∀ u∈L,A1 u.length=true)->
  Nt (R:=R) LF L now kd nm v4 a0 a1 a2 a3 a4 a5 a6 a7 n s b k0 k1=match L.find? λu=>(atV now [] [] u false).2 with
   | some u=>k1 now kd nm v4 a0 a1 a2 a3 a4 a5 a6 a7 (atV now [] [] u false).1.1 (atV now [] [] u false).1.2.1 (atV now [] [] u false).1.2.2 n s b
   | none=>k0 now kd nm v4 a0 a1 a2 a3 a4 a5 a6 a7 n s b
 | [],_=>rfl
 | x::r,hs=>by
  have ih:=CL now kd nm v4 a0 a1 a2 a3 a4 a5 a6 a7 n s b k0 k1  r λu hu=>hs u (by simp [hu])
  rw [CJ]
  unfold Nu
  rw [hs x (by simp),List.find?_cons]
  simp only [cond_true,vl]
  rw [ih]
  cases q1:(atV now [] [] x false).2<;>rfl
theorem Be6 (now:Int) (kd:Int) (nm:By) (v4 a0 a1 a2 a3 a4 a5 a6 a7:Int) (g0:A1 nm.length=true) (g1:ltN v4 4294967296=true) (g2:ok8 a0 a1 a2 a3 a4 a5 a6 a7=true):∃ r H,Ay0 now kd nm v4 a0 a1 a2 a3 a4 a5 a6 a7=rv r H/\r.stab [] H=gC3 (E0 now [] [] kd (mkH kd nm v4 (n8 a0 a1 a2 a3 a4 a5 a6 a7))):=by
 unfold Ay0 Ax9 Vi E0
 by_cases hk:kd=1
 ·subst hk
  rw [show ((1:Int) != 1)=false from rfl,show ((1:Int)==1)=true from rfl,g0,g1,g2]
  simp only [cond_true,cond_false,vl]
  cases hv:M8 (mkH 1 nm v4 (n8 a0 a1 a2 a3 a4 a5 a6 a7)) with
  | false=>exact ⟨_,_,rfl,rfl⟩
  | true=>
   simp only [Bool.not_true,cond_true,cond_false]
   show ∃ (r:PV) (H:List Blk),_/\r.stab [] H=gC3 (Da now [] [] nm)
   unfold Da
   cases hg:(atV now [] [] nm true).2 with
   | true=>exact ⟨_,_,rfl,rfl⟩
   | false=>
    rw [cond_false,CL now 1 nm v4 a0 a1 a2 a3 a4 a5 a6 a7 _ _ _ _ _  _ (Bw g0),if_neg (by simp)]
    cases hf:(E2 nm).find? λu=>(atV now [] [] u false).2 with
    | none=>exact ⟨_,_,rfl,rfl⟩
    | some u=>exact ⟨_,_,rfl,rfl⟩
 ·rw [show (kd != 1)=true by simpa using hk,show (kd==1)=false by simpa using hk]
  exact ⟨_,_,rfl,rfl⟩
theorem TU (now:Int) (kd:Int) (nm:By) (v4 a0 a1 a2 a3 a4 a5 a6 a7:Int) (g0:A1 nm.length=true) (g1:ltN v4 4294967296=true) (g2:ok8 a0 a1 a2 a3 a4 a5 a6 a7=true):∃ r H,CQ now kd nm v4 a0 a1 a2 a3 a4 a5 a6 a7=rv r H/\r.stab [] H=pB ((E0 now [] [] kd (mkH kd nm v4 (n8 a0 a1 a2 a3 a4 a5 a6 a7))).1 != 0):=by
 unfold CQ Vm
 rw [g0,g1,g2]
 exact ⟨_,_,rfl,rfl⟩
end
section
open Go Go.Proofs
set_option maxRecDepth 100000
section
variable {σ R : Type} (lf : Nat) (cl : D7) (yh : Yh σ) (s : σ) (k : Out -> St σ -> Option R)
noncomputable def SQ (lf:Nat):Cfg:=B8 lf [67] (A4 []) [(32,Wx),(19,GS)] (A4 [(1,[4]),(0,[1,0])]) [32,19] (A4 []) (some [4]) [] [] []
noncomputable def Bn9 {R:Type} (lf:Nat) (e0:By) (e1:Bool) (name2:By) (k0:Bool->(List Blk)->Option R):Option R:=cond (A1 name2.length) (cond (C5 name2) (cond (e0==name2) (k0 true [(Blk.box [(PV.s (SV.str e0)),(PV.s (SV.bool e1))])]) (cond e1 (cond (A1 e0.length) (cond (A1 name2.length) (k0 (D2 e0 name2) [(Blk.box [(PV.s (SV.str e0)),(PV.s (SV.bool e1))])]) none) none) (k0 false [(Blk.box [(PV.s (SV.str e0)),(PV.s (SV.bool e1))])]))) (k0 false [(Blk.box [(PV.s (SV.str e0)),(PV.s (SV.bool e1))])])) none
theorem Bo0 (d:Nat) (e0 e1 name2):evC (SQ lf) (d+1) σ yh 67 [.agg [pS e0,pB e1],pS name2] [] s=Bn9 lf e0 e1 name2 (λr0 H1=>some (pB r0,H1,s)):=by
 refine (evE (fn:=Tryz.f67) (by kernel_rfl)).trans ?_
 generalize evC (SQ lf) d=cl
 unfold Bn9;kernel_rfl
noncomputable abbrev A57 (e0:By) (e1:Bool) (name2:By):Option (PV × List Blk × Unit):=Bn9 LF e0 e1 name2 (λr0 H1=>some (pB r0,H1,()))
noncomputable abbrev Av3:Code:=D3 Tryz.f31
noncomputable def Mi (lf:Nat):Cfg:=B8 lf [31] (A4 [(3,[0,0,2,0,0,0])]) [(67,At0)] (A4 [(7,[4,0]),(4,[0,0,2,1,0]),(6,[0,0,2,1,0]),(5,[0,0,2,1,0,24]),(3,[0,0,2,1,0,4]),(2,[0,0,2,1,0]),(1,[0,0,2,1]),(0,[0,0,2])]) [67] (A4 [(0,[4,1]),(1,[0,0,2,1,0])]) (some [4,0]) [] [] [] (fr:=[(7,[2,4],[0])])
noncomputable def Bp {R:Type} (lf n:Nat) (l_z0 l_t1:Bool) (l2:LL) (name3:By) (i4:Int) (s5:By) (b6:Bool) (k0:By->Bool->Option R):Option R:=match n with | 0=>none | n+1=>cond (ltI i4 (l2.length:Int)) (cond (inR i4 l2.length) (cond (okE ⟨true,true,[.str,.bool]⟩ l2 (Int.toNat i4) 0) (cond (A1 (List.length (gX l2 (Int.toNat i4) 0))) (cond (A1 name3.length) (cond (Bc name3 (A23 (gX l2 (Int.toNat i4) 0) (gY l2 (Int.toNat i4) 1))) (cond (inR i4 l2.length) (cond (okE Dy l2 (Int.toNat i4) 0) (cond (ltI (s5.length:Int) (↑(List.length (gX l2 (Int.toNat i4) 0)):Int)) (cond (inR i4 l2.length) (cond (okE ⟨true,true,[.str,.bool]⟩ l2 (Int.toNat i4) 0) (Bp lf n l_z0 l_t1 l2 name3 (A2 (i4+1)) (gX l2 (Int.toNat i4) 0) (gY l2 (Int.toNat i4) 1) k0) none) none) (Bp lf n l_z0 l_t1 l2 name3 (A2 (i4+1)) s5 b6 k0)) none) none) (Bp lf n l_z0 l_t1 l2 name3 (A2 (i4+1)) s5 b6 k0)) none) none) none) none) (k0 s5 b6)
theorem XQ (n l_z0 l_t1 l2 name3 i4 s5 b6):E6 2 ((Mi lf).keep 3) (bd (Mi lf) cl yh (cd [1,1,0,1,0,0] Av3)) n ⟨gp [(0,.s (.sl l_z0 l_t1 2 l2)),(0,pS name3),(2,.ptr 0 0 0),(1,.ptr 1 0 0),(0,pI i4)] 33,[.box [pS ([]:List UInt8),pB false],.box [pS s5,pB b6]],s⟩ k =
 Bp lf n l_z0 l_t1 l2 name3 i4 s5 b6 (λs0 b1=>k (.exit 0) ⟨gp [(4,.ptr 0 0 0),(1,.ptr 1 0 0)] 34,[.box [pS ([]:List UInt8),pB false],.box [pS s0,pB b1]],s⟩):=by
 induction n generalizing l_z0 l_t1 l2 name3 i4 s5 b6 with
 | zero=>rfl
 | succ n ih=>rw [Bp];simp only [<-ih];kernel_rfl
noncomputable def Bo2 {R:Type} (lf:Nat) (l_z0 l_t1:Bool) (l2:LL) (name3:By) (k0:By->Bool->Bool->(List Blk)->Option R):Option R:=Bp lf lf l_z0 l_t1 l2 name3 0 ([]:List UInt8) false (λs'0 b'1=>k0 s'0 b'1 (not (s'0==[])) [(Blk.box [(PV.s (SV.str s'0)),(PV.s (SV.bool b'1))]),(Blk.box [(PV.s (SV.str s'0)),(PV.s (SV.bool b'1))])])
theorem Bo3 (d:Nat) (l_z0 l_t1 l2 name3):evC (Mi lf) (d+1) σ yh 31 [.s (.sl l_z0 l_t1 2 l2),pS name3] [] s=Bo2 lf l_z0 l_t1 l2 name3 (λr0 r1 r2 H3=>some (.tup [.agg [pS r0,pB r1],pB r2],H3,s)):=by
 refine (evE (fn:=Tryz.f31) (by kernel_rfl)).trans ?_
 generalize evC (Mi lf) d=cl
 unfold Bo2;exact (Eq.trans (by kernel_rfl) ((XQ lf cl yh s (G8 0 (I4 (Mi lf) cl yh (cd [1,1,1] Av3) (H4 (Mi lf) Tryz.f31))) lf l_z0 l_t1 l2 name3 0 ([]:List UInt8) false).trans (by kernel_rfl)))
noncomputable abbrev A58 (l_z0 l_t1:Bool) (l2:LL) (name3:By):Option (PV × List Blk × Unit):=Bo2 LF l_z0 l_t1 l2 name3 (λr0 r1 r2 H3=>some (.tup [.agg [pS r0,pB r1],pB r2],H3,()))
noncomputable def SP (lf:Nat):Cfg:=B8 lf [43] (A4 []) [(32,Wx),(19,GS)] (A4 [(1,[6]),(0,[1,0,0])]) [32,19] (A4 []) (some [6]) [] [] []
noncomputable def Bm5 {R:Type} (lf:Nat) (p0:By) (p1:Bool) (p2 now3:Int) (name4:By) (k0:Bool->(List Blk)->Option R):Option R:=cond (ltI now3 p2) (cond (A1 name4.length) (cond (C5 name4) (cond (p0==name4) (k0 true [(Blk.box [(PV.s (SV.str p0)),(PV.s (SV.bool p1)),(PV.s (SV.int .i64 p2))])]) (cond p1 (cond (A1 p0.length) (cond (A1 name4.length) (k0 (D2 p0 name4) [(Blk.box [(PV.s (SV.str p0)),(PV.s (SV.bool p1)),(PV.s (SV.int .i64 p2))])]) none) none) (k0 false [(Blk.box [(PV.s (SV.str p0)),(PV.s (SV.bool p1)),(PV.s (SV.int .i64 p2))])]))) (k0 false [(Blk.box [(PV.s (SV.str p0)),(PV.s (SV.bool p1)),(PV.s (SV.int .i64 p2))])])) none) (k0 false [(Blk.box [(PV.s (SV.str p0)),(PV.s (SV.bool p1)),(PV.s (SV.int .i64 p2))])])
theorem Bm6 (d:Nat) (p0 p1 p2 now3 name4):evC (SP lf) (d+1) σ yh 43 [.agg [pS p0,pB p1,pI p2],pI now3,pS name4] [] s=Bm5 lf p0 p1 p2 now3 name4 (λr0 H1=>some (pB r0,H1,s)):=by
 refine (evE (fn:=Tryz.f43) (by kernel_rfl)).trans ?_
 generalize evC (SP lf) d=cl
 unfold Bm5;kernel_rfl
noncomputable abbrev A44 (p0:By) (p1:Bool) (p2 now3:Int) (name4:By):Option (PV × List Blk × Unit):=Bm5 LF p0 p1 p2 now3 name4 (λr0 H1=>some (pB r0,H1,()))
noncomputable abbrev Lw:Code:=D3 Tryz.f16
noncomputable def X1 (lf:Nat):Cfg:=B8 lf [16] (A4 [(8,[0,0,5,0,0,2])]) [(42,ZU),(31,At1),(43,As7)] (A4 [(12,[8]),(9,[0,0,5,0,0,2]),(11,[0,0,5,0,0,2]),(10,[0,0,5,0,0,2,50]),(8,[0,0,5,0,0,2,28]),(7,[0,0,5,0,0,2]),(6,[0,0,5,0,0]),(5,[0,0,5,0,0,0,18]),(4,[0,0,5,0,0,0,0]),(3,[0,0,0,4,0,0]),(2,[8]),(1,[0,0,0,4,0,11]),(0,[0,0,0,4,0])]) [42,43] (A4 [(0,[8,0]),(1,[0,0,5,0,0,2])]) (some [8]) [] [] []
noncomputable def Pk {R:Type} (now0:Int) (pins_z1 pins_t2:Bool) (pins3:LL) (i4:Int) (b5:Bool) (n6:Int) (s7:By) (n8v n9 n10 n11 n12 n13 n14 n15 n16 n17:Int) (s18:By) (b19:Bool) (s20:By) (b21:Bool) (k0:Int->Bool->Bool->LL->Int->Int->By->Int->Int->Int->Int->Int->Int->Int->Int->Int->By->Bool->By->Bool->Option R) (k1:Int->Bool->Bool->LL->Int->Bool->Int->By->Int->Int->Int->Int->Int->Int->Int->Int->Int->Int->By->Bool->By->Bool->Option R):Option R:=cond b5 (cond (inR i4 pins3.length) (cond (okE Dy pins3 (Int.toNat i4) 0) (vl (gX pins3 (Int.toNat i4) 0) λs'10=>cond (inR i4 pins3.length) (cond (okE Dy pins3 (Int.toNat i4) 0) (vl (gX pins3 (Int.toNat i4) 0) λs'11=>k0 now0 pins_z1 pins_t2 pins3 i4 n6 s7 n8v n9 n10 n11 n12 n13 n14 n15 n16 s'10 (s'11==s7) s20 b21) none) none) none) none) (k1 now0 pins_z1 pins_t2 pins3 i4 b5 n6 s7 n8v n9 n10 n11 n12 n13 n14 n15 n16 n17 s18 b19 s20 b21)
abbrev Sx (b:Code):Prop:=∀ (k:Out->St σ->Option R) now0 pins_z1 pins_t2 pins3 i4 b5 n6 s7 n8v n9 n10 n11 n12 n13 n14 n15 n16 n17 s18 b19 s20 b21,B2 (X1 lf) cl yh b ⟨gp [(0,pI now0),(0,.s (.sl pins_z1 pins_t2 3 pins3)),(5,.ptr 0 0 0),(0,.ptr 1 0 0),(0,.ptr 2 0 0),(2,pI i4),(50,pB b5)] 15,[.box [pI n6,pS s7,p32 n8v,p16 n9,p16 n10,p16 n11,p16 n12,p16 n13,p16 n14,p16 n15,p16 n16],.box [pI (0:Int),pS ([]:List UInt8),pB false],.box [pI n17,pS s18,pB b19],.box [pS s20,pB b21]],s⟩ k=Pk now0 pins_z1 pins_t2 pins3 i4 b5 n6 s7 n8v n9 n10 n11 n12 n13 n14 n15 n16 n17 s18 b19 s20 b21 (λnow0 pins_z1 pins_t2 pins3 i4 n5 s6 n7 n8v n9 n10 n11 n12 n13 n14 n15 s16 b17 s18 b19=>k .normal ⟨gp [(0,pI now0),(0,.s (.sl pins_z1 pins_t2 3 pins3)),(5,.ptr 0 0 0),(0,.ptr 1 0 0),(0,.ptr 2 0 0),(2,pI i4)] 66,[.box [pI n5,pS s6,p32 n7,p16 n8v,p16 n9,p16 n10,p16 n11,p16 n12,p16 n13,p16 n14,p16 n15],.box [pI (0:Int),pS ([]:List UInt8),pB false],.box [pI (1:Int),pS s16,pB b17],.box [pS s18,pB b19]],s⟩) (λnow0 pins_z1 pins_t2 pins3 i4 b5 n6 s7 n8v n9 n10 n11 n12 n13 n14 n15 n16 n17 s18 b19 s20 b21=>k .normal ⟨gp [(0,pI now0),(0,.s (.sl pins_z1 pins_t2 3 pins3)),(5,.ptr 0 0 0),(0,.ptr 1 0 0),(0,.ptr 2 0 0),(2,pI i4),(50,pB b5)] 15,[.box [pI n6,pS s7,p32 n8v,p16 n9,p16 n10,p16 n11,p16 n12,p16 n13,p16 n14,p16 n15,p16 n16],.box [pI (0:Int),pS ([]:List UInt8),pB false],.box [pI n17,pS s18,pB b19],.box [pS s20,pB b21]],s⟩)
theorem WW:Sx (R:=R) lf cl yh s (cd [1,1,1,1,0,1,0,0,1,0,0,1] Lw):=by
 intro k now0 pins_z1 pins_t2 pins3 i4 b5 n6 s7 n8v n9 n10 n11 n12 n13 n14 n15 n16 n17 s18 b19 s20 b21;unfold Pk;kernel_rfl
noncomputable def U6 {R:Type} (lf n:Nat) (now0:Int) (pins_z1 pins_t2:Bool) (pins3:LL) (i4 n5:Int) (s6:By) (n7 n8v n9 n10 n11 n12 n13 n14 n15 n16:Int) (s17:By) (b18:Bool) (s19:By) (b20:Bool) (k0:Int->By->Int->Int->Int->Int->Int->Int->Int->Int->Int->Int->By->Bool->By->Bool->Option R):Option R:=match n with | 0=>none | n+1=>cond (ltI i4 (pins3.length:Int)) (cond (inR i4 pins3.length) (cond (okE ⟨true,true,[.str,.bool,.int .i64]⟩ pins3 (Int.toNat i4) 0) (vl (gX pins3 (Int.toNat i4) 0) λs'7=>vl (gE pins3 (Int.toNat i4) 2) λn'8=>cond (A1 s'7.length) (cond (A1 s6.length) (cond (Mm now0 s6 (A26 s'7 (gY pins3 (Int.toNat i4) 1) n'8)) (cond (inR i4 pins3.length) (cond (okE Dy pins3 (Int.toNat i4) 0) (vl (gX pins3 (Int.toNat i4) 0) λs'9=>Pk now0 pins_z1 pins_t2 pins3 i4 (not (ltI (s'9.length:Int) (s17.length:Int))) n5 s6 n7 n8v n9 n10 n11 n12 n13 n14 n15 n16 s17 b18 s19 b20 (λnow'12 pins_z'13 pins_t'14 pins'15 i'16 n'17 s'18 n'19 n'20 n'21 n'22 n'23 n'24 n'25 n'26 n'27 s'28 b'29 s'30 b'31=>vl (A2 (i'16+1)) λn'54=>U6 lf n now'12 pins_z'13 pins_t'14 pins'15 n'54 n'17 s'18 n'19 n'20 n'21 n'22 n'23 n'24 n'25 n'26 n'27 1 s'28 b'29 s'30 b'31 k0) (λnow'32 pins_z'33 pins_t'34 pins'35 i'36 b'37 n'38 s'39 n'40 n'41 n'42 n'43 n'44 n'45 n'46 n'47 n'48 n'49 s'50 b'51 s'52 b'53=>vl (A2 (i'36+1)) λn'55=>U6 lf n now'32 pins_z'33 pins_t'34 pins'35 n'55 n'38 s'39 n'40 n'41 n'42 n'43 n'44 n'45 n'46 n'47 n'48 n'49 s'50 b'51 s'52 b'53 k0)) none) none) (Pk now0 pins_z1 pins_t2 pins3 i4 false n5 s6 n7 n8v n9 n10 n11 n12 n13 n14 n15 n16 s17 b18 s19 b20 (λnow'56 pins_z'57 pins_t'58 pins'59 i'60 n'61 s'62 n'63 n'64 n'65 n'66 n'67 n'68 n'69 n'70 n'71 s'72 b'73 s'74 b'75=>vl (A2 (i'60+1)) λn'98=>U6 lf n now'56 pins_z'57 pins_t'58 pins'59 n'98 n'61 s'62 n'63 n'64 n'65 n'66 n'67 n'68 n'69 n'70 n'71 1 s'72 b'73 s'74 b'75 k0) (λnow'76 pins_z'77 pins_t'78 pins'79 i'80 b'81 n'82 s'83 n'84 n'85 n'86 n'87 n'88 n'89 n'90 n'91 n'92 n'93 s'94 b'95 s'96 b'97=>vl (A2 (i'80+1)) λn'99=>U6 lf n now'76 pins_z'77 pins_t'78 pins'79 n'99 n'82 s'83 n'84 n'85 n'86 n'87 n'88 n'89 n'90 n'91 n'92 n'93 s'94 b'95 s'96 b'97 k0))) none) none) none) none) (k0 n5 s6 n7 n8v n9 n10 n11 n12 n13 n14 n15 n16 s17 b18 s19 b20)
theorem Zr (b_111101001001:Code) (h_rcfd_j0:Sx (R:=R) lf cl yh s b_111101001001) (n:Nat) (now0:Int) (pins_z1 pins_t2:Bool) (pins3:LL) (i4 n5:Int) (s6:By) (n7 n8v n9 n10 n11 n12 n13 n14 n15 n16:Int) (s17:By) (b18:Bool) (s19:By) (b20:Bool):E6 4 ((X1 lf).keep 8) (bd (X1 lf) cl yh (cd [1,1,1,1,0,1,0,0] (R1 [1,1,1,1,0,1,0,0,1,0,0,1] b_111101001001 Lw))) n ⟨gp [(0,pI now0),(0,.s (.sl pins_z1 pins_t2 3 pins3)),(5,.ptr 0 0 0),(0,.ptr 1 0 0),(0,.ptr 2 0 0),(2,pI i4)] 66,[.box [pI n5,pS s6,p32 n7,p16 n8v,p16 n9,p16 n10,p16 n11,p16 n12,p16 n13,p16 n14,p16 n15],.box [pI (0:Int),pS ([]:List UInt8),pB false],.box [pI n16,pS s17,pB b18],.box [pS s19,pB b20]],s⟩ k =
 U6 lf n now0 pins_z1 pins_t2 pins3 i4 n5 s6 n7 n8v n9 n10 n11 n12 n13 n14 n15 n16 s17 b18 s19 b20 (λn0 s1 n2 n3 n4 n5 n6 n7 n8v n9 n10 n11 s12 b13 s14 b15=>k (.exit 0) ⟨gp [(8,.ptr 1 0 0),(0,.ptr 2 0 0)] 69,[.box [pI n0,pS s1,p32 n2,p16 n3,p16 n4,p16 n5,p16 n6,p16 n7,p16 n8v,p16 n9,p16 n10],.box [pI (0:Int),pS ([]:List UInt8),pB false],.box [pI n11,pS s12,pB b13],.box [pS s14,pB b15]],s⟩):=by
 induction n generalizing now0 pins_z1 pins_t2 pins3 i4 n5 s6 n7 n8v n9 n10 n11 n12 n13 n14 n15 n16 s17 b18 s19 b20 with
 | zero=>rfl
 | succ n ih=>rw [U6];exact let K0:=(G8 1 (I4 (X1 lf) cl yh (cd [1,1,1,1,0,1,0,0,1,1] Lw) (lpK 4 ((X1 lf).keep 8) (bd (X1 lf) cl yh (cd [1,1,1,1,0,1,0,0] (R1 [1,1,1,1,0,1,0,0,1,0,0,1] b_111101001001 Lw))) n k)));(Eq.trans (by kernel_rfl) (A0 (A0 (A0 (A8 λs'7=>(A8 λn'8=>(A0 (A0 (A0 (A0 (A0 (A8 λs'9=>((h_rcfd_j0 K0 now0 pins_z1 pins_t2 pins3 i4 (not (ltI (s'9.length:Int) (s17.length:Int))) n5 s6 n7 n8v n9 n10 n11 n12 n13 n14 n15 n16 s17 b18 s19 b20).trans (congr (congr rfl (fx1 λnow'12=>(fx1 λpins_z'13=>(fx1 λpins_t'14=>(fx1 λpins'15=>(fx1 λi'16=>(fx1 λn'17=>(fx1 λs'18=>(fx1 λn'19=>(fx1 λn'20=>(fx1 λn'21=>(fx1 λn'22=>(fx1 λn'23=>(fx1 λn'24=>(fx1 λn'25=>(fx1 λn'26=>(fx1 λn'27=>(fx1 λs'28=>(fx1 λb'29=>(fx1 λs'30=>(fx1 λb'31=>(Eq.trans (by kernel_rfl) (A8 λn'54=>(ih now'12 pins_z'13 pins_t'14 pins'15 n'54 n'17 s'18 n'19 n'20 n'21 n'22 n'23 n'24 n'25 n'26 n'27 1 s'28 b'29 s'30 b'31)))))))))))))))))))))))) (fx1 λnow'32=>(fx1 λpins_z'33=>(fx1 λpins_t'34=>(fx1 λpins'35=>(fx1 λi'36=>(fx1 λb'37=>(fx1 λn'38=>(fx1 λs'39=>(fx1 λn'40=>(fx1 λn'41=>(fx1 λn'42=>(fx1 λn'43=>(fx1 λn'44=>(fx1 λn'45=>(fx1 λn'46=>(fx1 λn'47=>(fx1 λn'48=>(fx1 λn'49=>(fx1 λs'50=>(fx1 λb'51=>(fx1 λs'52=>(fx1 λb'53=>(Eq.trans (by kernel_rfl) (A8 λn'55=>(ih now'32 pins_z'33 pins_t'34 pins'35 n'55 n'38 s'39 n'40 n'41 n'42 n'43 n'44 n'45 n'46 n'47 n'48 n'49 s'50 b'51 s'52 b'53)))))))))))))))))))))))))))) rfl) rfl) ((h_rcfd_j0 K0 now0 pins_z1 pins_t2 pins3 i4 false n5 s6 n7 n8v n9 n10 n11 n12 n13 n14 n15 n16 s17 b18 s19 b20).trans (congr (congr rfl (fx1 λnow'56=>(fx1 λpins_z'57=>(fx1 λpins_t'58=>(fx1 λpins'59=>(fx1 λi'60=>(fx1 λn'61=>(fx1 λs'62=>(fx1 λn'63=>(fx1 λn'64=>(fx1 λn'65=>(fx1 λn'66=>(fx1 λn'67=>(fx1 λn'68=>(fx1 λn'69=>(fx1 λn'70=>(fx1 λn'71=>(fx1 λs'72=>(fx1 λb'73=>(fx1 λs'74=>(fx1 λb'75=>(Eq.trans (by kernel_rfl) (A8 λn'98=>(ih now'56 pins_z'57 pins_t'58 pins'59 n'98 n'61 s'62 n'63 n'64 n'65 n'66 n'67 n'68 n'69 n'70 n'71 1 s'72 b'73 s'74 b'75)))))))))))))))))))))))) (fx1 λnow'76=>(fx1 λpins_z'77=>(fx1 λpins_t'78=>(fx1 λpins'79=>(fx1 λi'80=>(fx1 λb'81=>(fx1 λn'82=>(fx1 λs'83=>(fx1 λn'84=>(fx1 λn'85=>(fx1 λn'86=>(fx1 λn'87=>(fx1 λn'88=>(fx1 λn'89=>(fx1 λn'90=>(fx1 λn'91=>(fx1 λn'92=>(fx1 λn'93=>(fx1 λs'94=>(fx1 λb'95=>(fx1 λs'96=>(fx1 λb'97=>(Eq.trans (by kernel_rfl) (A8 λn'99=>(ih now'76 pins_z'77 pins_t'78 pins'79 n'99 n'82 s'83 n'84 n'85 n'86 n'87 n'88 n'89 n'90 n'91 n'92 n'93 s'94 b'95 s'96 b'97)))))))))))))))))))))))))))) rfl) rfl))) rfl) rfl) rfl))
noncomputable def A45 {R:Type} (lf:Nat) (now0:Int) (pins_z1 pins_t2:Bool) (pins3:LL) (l_z4 l_t5:Bool) (l6:LL) (h7:Int) (h8:By) (h9 h10 h11 h12 h13 h14 h15 h16 h17:Int) (k0:Int->By->Bool->(List Blk)->Option R):Option R:=cond (A1 h8.length) (cond (ltN h9 4294967296) (cond (ok8 h10 h11 h12 h13 h14 h15 h16 h17) (cond (not (M8 (mkH h7 h8 h9 (n8 h10 h11 h12 h13 h14 h15 h16 h17)))) (k0 0 ([]:List UInt8) false [(Blk.box [(PV.s (SV.int .i64 h7)),(PV.s (SV.str h8)),(PV.s (SV.int .u32 h9)),(PV.s (SV.int .u16 h10)),(PV.s (SV.int .u16 h11)),(PV.s (SV.int .u16 h12)),(PV.s (SV.int .u16 h13)),(PV.s (SV.int .u16 h14)),(PV.s (SV.int .u16 h15)),(PV.s (SV.int .u16 h16)),(PV.s (SV.int .u16 h17))]),(Blk.box [(PV.s (SV.int .i64 (0:Int))),(PV.s (SV.str ([]:List UInt8))),(PV.s (SV.bool false))])]) (cond (h7 != 1) (k0 0 ([]:List UInt8) false [(Blk.box [(PV.s (SV.int .i64 h7)),(PV.s (SV.str h8)),(PV.s (SV.int .u32 h9)),(PV.s (SV.int .u16 h10)),(PV.s (SV.int .u16 h11)),(PV.s (SV.int .u16 h12)),(PV.s (SV.int .u16 h13)),(PV.s (SV.int .u16 h14)),(PV.s (SV.int .u16 h15)),(PV.s (SV.int .u16 h16)),(PV.s (SV.int .u16 h17))]),(Blk.box [(PV.s (SV.int .i64 (0:Int))),(PV.s (SV.str ([]:List UInt8))),(PV.s (SV.bool false))])]) (cond (List.all l6 D1) (cond (List.all l6 smE) (cond (A1 l6.length) (cond (A1 h8.length) (vl ((L0 (List.map A6 l6) h8)).1 λs'3=>cond (not (List.isEmpty ((L0 (List.map A6 l6) h8)).1)) (U6 lf lf now0 pins_z1 pins_t2 pins3 0 h7 h8 h9 h10 h11 h12 h13 h14 h15 h16 h17 2 s'3 (s'3==h8) s'3 ((L0 (List.map A6 l6) h8)).2 (λn'100 s'101 n'102 n'103 n'104 n'105 n'106 n'107 n'108 n'109 n'110 n'111 s'112 b'113 s'114 b'115=>k0 n'111 s'112 b'113 [(Blk.box [(PV.s (SV.int .i64 n'100)),(PV.s (SV.str s'101)),(PV.s (SV.int .u32 n'102)),(PV.s (SV.int .u16 n'103)),(PV.s (SV.int .u16 n'104)),(PV.s (SV.int .u16 n'105)),(PV.s (SV.int .u16 n'106)),(PV.s (SV.int .u16 n'107)),(PV.s (SV.int .u16 n'108)),(PV.s (SV.int .u16 n'109)),(PV.s (SV.int .u16 n'110))]),(Blk.box [(PV.s (SV.int .i64 n'111)),(PV.s (SV.str s'112)),(PV.s (SV.bool b'113))]),(Blk.box [(PV.s (SV.int .i64 n'111)),(PV.s (SV.str s'112)),(PV.s (SV.bool b'113))]),(Blk.box [(PV.s (SV.str s'114)),(PV.s (SV.bool b'115))])])) (U6 lf lf now0 pins_z1 pins_t2 pins3 0 h7 h8 h9 h10 h11 h12 h13 h14 h15 h16 h17 0 ([]:List UInt8) false s'3 ((L0 (List.map A6 l6) h8)).2 (λn'116 s'117 n'118 n'119 n'120 n'121 n'122 n'123 n'124 n'125 n'126 n'127 s'128 b'129 s'130 b'131=>k0 n'127 s'128 b'129 [(Blk.box [(PV.s (SV.int .i64 n'116)),(PV.s (SV.str s'117)),(PV.s (SV.int .u32 n'118)),(PV.s (SV.int .u16 n'119)),(PV.s (SV.int .u16 n'120)),(PV.s (SV.int .u16 n'121)),(PV.s (SV.int .u16 n'122)),(PV.s (SV.int .u16 n'123)),(PV.s (SV.int .u16 n'124)),(PV.s (SV.int .u16 n'125)),(PV.s (SV.int .u16 n'126))]),(Blk.box [(PV.s (SV.int .i64 n'127)),(PV.s (SV.str s'128)),(PV.s (SV.bool b'129))]),(Blk.box [(PV.s (SV.int .i64 n'127)),(PV.s (SV.str s'128)),(PV.s (SV.bool b'129))]),(Blk.box [(PV.s (SV.str s'130)),(PV.s (SV.bool b'131))])]))) none) none) none) none))) none) none) none
theorem Bm8 (b_111101001001:Code) (h_rcfd_j0:Sx (R:=PV × List Blk × σ) lf cl yh s b_111101001001) (now0:Int) (pins_z1 pins_t2:Bool) (pins3:LL) (l_z4 l_t5:Bool) (l6:LL) (h7:Int) (h8:By) (h9 h10 h11 h12 h13 h14 h15 h16 h17:Int):B2 (X1 lf) cl yh (cd [] (R1 [1,1,1,1,0,1,0,0,1,0,0,1] b_111101001001 Lw)) ⟨[pI now0,.s (.sl pins_z1 pins_t2 3 pins3),.s (.sl l_z4 l_t5 2 l6),.agg [pI h7,pS h8,p32 h9,p16 h10,p16 h11,p16 h12,p16 h13,p16 h14,p16 h15,p16 h16,p16 h17]]++tps 75,[],s⟩ (H4 (X1 lf) Tryz.f16)=A45 lf now0 pins_z1 pins_t2 pins3 l_z4 l_t5 l6 h7 h8 h9 h10 h11 h12 h13 h14 h15 h16 h17 (λr0 r1 r2 H3=>some (.agg [pI r0,pS r1,pB r2],H3,s)):=by
 unfold A45;exact let K0:=(G8 0 (I4 (X1 lf) cl yh (cd [1,1,1,1,1] Lw) (H4 (X1 lf) Tryz.f16)));(Eq.trans (by kernel_rfl) (A0 (A0 (A0 (A0 rfl (A0 rfl (A0 (A0 (A0 (A0 (A8 λs'3=>(A0 ((Zr lf cl yh s K0 b_111101001001 h_rcfd_j0 lf now0 pins_z1 pins_t2 pins3 0 h7 h8 h9 h10 h11 h12 h13 h14 h15 h16 h17 2 s'3 (s'3==h8) s'3 ((L0 (List.map A6 l6) h8)).2).trans (by kernel_rfl)) ((Zr lf cl yh s K0 b_111101001001 h_rcfd_j0 lf now0 pins_z1 pins_t2 pins3 0 h7 h8 h9 h10 h11 h12 h13 h14 h15 h16 h17 0 ([]:List UInt8) false s'3 ((L0 (List.map A6 l6) h8)).2).trans (by kernel_rfl)))) rfl) rfl) rfl) rfl))) rfl) rfl) rfl))
theorem Bm9 (d:Nat) (now0 pins_z1 pins_t2 pins3 l_z4 l_t5 l6 h7 h8 h9 h10 h11 h12 h13 h14 h15 h16 h17):evC (X1 lf) (d+1) σ yh 16 [pI now0,.s (.sl pins_z1 pins_t2 3 pins3),.s (.sl l_z4 l_t5 2 l6),.agg [pI h7,pS h8,p32 h9,p16 h10,p16 h11,p16 h12,p16 h13,p16 h14,p16 h15,p16 h16,p16 h17]] [] s=A45 lf now0 pins_z1 pins_t2 pins3 l_z4 l_t5 l6 h7 h8 h9 h10 h11 h12 h13 h14 h15 h16 h17 (λr0 r1 r2 H3=>some (.agg [pI r0,pS r1,pB r2],H3,s)):=
 (evE (fn:=Tryz.f16) (by kernel_rfl)).trans (Eq.trans (by kernel_rfl) (Bm8 lf (evC (X1 lf) d) yh s (cd [1,1,1,1,0,1,0,0,1,0,0,1] Lw) (WW lf (evC (X1 lf) d) yh s) now0 pins_z1 pins_t2 pins3 l_z4 l_t5 l6 h7 h8 h9 h10 h11 h12 h13 h14 h15 h16 h17))
noncomputable abbrev A46 (now0:Int) (pins_z1 pins_t2:Bool) (pins3:LL) (l_z4 l_t5:Bool) (l6:LL) (h7:Int) (h8:By) (h9 h10 h11 h12 h13 h14 h15 h16 h17:Int):Option (PV × List Blk × Unit):=A45 LF now0 pins_z1 pins_t2 pins3 l_z4 l_t5 l6 h7 h8 h9 h10 h11 h12 h13 h14 h15 h16 h17 (λr0 r1 r2 H3=>some (.agg [pI r0,pS r1,pB r2],H3,()))
noncomputable abbrev Au6:Code:=D3 Tryz.f11
noncomputable def Ma (lf:Nat):Cfg:=B8 lf [11] (A4 [(4,[0,3,0])]) [] (A4 [(8,[4]),(5,[0,4]),(7,[4]),(6,[0,4,16]),(4,[0,4,7]),(3,[0,4]),(2,[4]),(1,[0,8]),(0,[0,0])]) [] (A4 [(0,[]),(1,[0,4])]) (some [4]) [] [] []
noncomputable def Hg {R:Type} (lf n:Nat) (l_z0 l_t1:Bool) (l2:LL) (i3:Int) (k0:Unit->Option R) (k1:Unit->Option R):Option R:=match n with | 0=>none | n+1=>cond (ltI i3 (l2.length:Int)) (cond (inR i3 l2.length) (cond (okE Dy l2 (Int.toNat i3) 0) (cond (ltI 300 (↑(List.length (gX l2 (Int.toNat i3) 0)):Int)) (k0 ()) (Hg lf n l_z0 l_t1 l2 (A2 (i3+1)) k0 k1)) none) none) (k1 ())
theorem UV (n l_z0 l_t1 l2 i3):E6 0 ((Ma lf).keep 4) (bd (Ma lf) cl yh (cd [1,1,0,1,0,0] Au6)) n ⟨gp [(0,.s (.sl l_z0 l_t1 3 l2)),(4,pI i3)] 17,[],s⟩ k =
 Hg lf n l_z0 l_t1 l2 i3 (λ_=>k .ret ⟨gp [(4,pB false)] 18,[],s⟩) (λ_=>k (.exit 0) ⟨gp [] 23,[],s⟩):=by
 induction n generalizing l_z0 l_t1 l2 i3 with
 | zero=>rfl
 | succ n ih=>rw [Hg];simp only [<-ih];kernel_rfl
noncomputable def Bh2 {R:Type} (lf:Nat) (l_z0 l_t1:Bool) (l2:LL) (n3:Int) (k0:Bool->Option R):Option R:=cond (ltI n3 (l2.length:Int)) (k0 false) (Hg lf lf l_z0 l_t1 l2 0 (λ_=>k0 false) (λ_=>k0 true))
theorem Bh3 (d:Nat) (l_z0 l_t1 l2 n3):evC (Ma lf) (d+1) σ yh 11 [.s (.sl l_z0 l_t1 3 l2),pI n3] [] s=Bh2 lf l_z0 l_t1 l2 n3 (λr0=>some (pB r0,[],s)):=by
 refine (evE (fn:=Tryz.f11) (by kernel_rfl)).trans ?_
 generalize evC (Ma lf) d=cl
 unfold Bh2;exact (Eq.trans (by kernel_rfl) (A0 rfl ((UV lf cl yh s (G8 0 (I4 (Ma lf) cl yh (cd [1,1,1] Au6) (H4 (Ma lf) Tryz.f11))) lf l_z0 l_t1 l2 0).trans (by kernel_rfl))))
noncomputable abbrev Au5:Code:=D3 Tryz.f12
noncomputable def Lz (lf:Nat):Cfg:=B8 lf [12] (A4 [(4,[0,3,0])]) [] (A4 [(8,[4]),(5,[0,4]),(7,[4]),(6,[0,4,16]),(4,[0,4,7]),(3,[0,4]),(2,[4]),(1,[0,8]),(0,[0,0])]) [] (A4 [(0,[]),(1,[0,4])]) (some [4]) [] [] []
noncomputable def Hf {R:Type} (lf n:Nat) (l_z0 l_t1:Bool) (l2:LL) (i3:Int) (k0:Unit->Option R) (k1:Unit->Option R):Option R:=match n with | 0=>none | n+1=>cond (ltI i3 (l2.length:Int)) (cond (inR i3 l2.length) (cond (okE Dy l2 (Int.toNat i3) 0) (cond (ltI 300 (↑(List.length (gX l2 (Int.toNat i3) 0)):Int)) (k0 ()) (Hf lf n l_z0 l_t1 l2 (A2 (i3+1)) k0 k1)) none) none) (k1 ())
theorem UU (n l_z0 l_t1 l2 i3):E6 0 ((Lz lf).keep 4) (bd (Lz lf) cl yh (cd [1,1,0,1,0,0] Au5)) n ⟨gp [(0,.s (.sl l_z0 l_t1 2 l2)),(4,pI i3)] 17,[],s⟩ k =
 Hf lf n l_z0 l_t1 l2 i3 (λ_=>k .ret ⟨gp [(4,pB false)] 18,[],s⟩) (λ_=>k (.exit 0) ⟨gp [] 23,[],s⟩):=by
 induction n generalizing l_z0 l_t1 l2 i3 with
 | zero=>rfl
 | succ n ih=>rw [Hf];simp only [<-ih];kernel_rfl
noncomputable def Bh0 {R:Type} (lf:Nat) (l_z0 l_t1:Bool) (l2:LL) (n3:Int) (k0:Bool->Option R):Option R:=cond (ltI n3 (l2.length:Int)) (k0 false) (Hf lf lf l_z0 l_t1 l2 0 (λ_=>k0 false) (λ_=>k0 true))
theorem Bh1 (d:Nat) (l_z0 l_t1 l2 n3):evC (Lz lf) (d+1) σ yh 12 [.s (.sl l_z0 l_t1 2 l2),pI n3] [] s=Bh0 lf l_z0 l_t1 l2 n3 (λr0=>some (pB r0,[],s)):=by
 refine (evE (fn:=Tryz.f12) (by kernel_rfl)).trans ?_
 generalize evC (Lz lf) d=cl
 unfold Bh0;exact (Eq.trans (by kernel_rfl) (A0 rfl ((UU lf cl yh s (G8 0 (I4 (Lz lf) cl yh (cd [1,1,1] Au5) (H4 (Lz lf) Tryz.f12))) lf l_z0 l_t1 l2 0).trans (by kernel_rfl))))
noncomputable def SJ (lf:Nat):Cfg:=B8 lf [14] (A4 []) [(38,Wr),(26,QT)] (A4 [(3,[4,0,0]),(2,[7,0,0,0]),(1,[1,5,0]),(0,[0,0])]) [] (A4 []) (some [4,0,0]) [] [] []
noncomputable def Bj2 {R:Type} (lf:Nat) (pins_z0 pins_t1:Bool) (pins2:LL) (l_z3 l_t4:Bool) (l5:LL) (k0:Bool->LL->Bool->LL->Option R) (k1:Bool->LL->Bool->Option R) (k2:Bool->LL->Bool->Option R) (k3:Bool->Option R):Option R:=cond (List.all pins2 F1) (cond (List.all pins2 smE) (cond (A1 pins2.length) (cond (N7 pins_z0 pins2) (cond ((ltI 0 1000)&&(ltI 1000 1001)) (cond ((X8 (1000:Int) (List.map B0 pins2))==0) (cond (List.all l5 D1) (cond (List.all l5 smE) (cond (A1 l5.length) (cond (N7 l_z3 l5) (cond ((Bl (List.map A6 l5))==0) (k0 pins_z0 pins2 l_z3 (D6 (isE (List.map A6 l5)))) (vl (↑(Bl (List.map A6 l5)):Int) λn'2=>k1 pins_z0 pins2 (n'2==0))) none) none) none) none) (vl (↑(X8 (1000:Int) (List.map B0 pins2)):Int) λn'3=>cond (List.all l5 D1) (cond (List.all l5 smE) (cond (A1 l5.length) (cond (N7 l_z3 l5) (cond ((Bl (List.map A6 l5))==0) (cond (n'3==0) (k2 l_z3 (D6 (isE (List.map A6 l5))) true) (k2 l_z3 (D6 (isE (List.map A6 l5))) false)) (vl (↑(Bl (List.map A6 l5)):Int) λn'5=>cond (n'3==0) (k3 (n'5==0)) (k3 false))) none) none) none) none)) none) none) none) none) none
theorem Vr (d:Nat) (pins_z0 pins_t1 pins2 l_z3 l_t4 l5):evC (SJ lf) (d+1) σ yh 14 [.s (.sl pins_z0 pins_t1 3 pins2),.s (.sl l_z3 l_t4 2 l5)] [] s=Bj2 lf pins_z0 pins_t1 pins2 l_z3 l_t4 l5 (λr_z0 r1 r_z2 r3=>some (.tup [.s (.sp [[.sl r_z0 r_z0 3 r1,.int .i64 (1000:Int)]] 0 0),.s (.sp [[.sl r_z2 r_z2 2 r3]] 0 0),pB true],[],s)) (λr_z0 r1 r2=>some (.tup [.s (.sp [[.sl r_z0 r_z0 3 r1,.int .i64 (1000:Int)]] 0 0),.s (.nilp),pB r2],[],s)) (λr_z0 r1 r2=>some (.tup [.s (.nilp),.s (.sp [[.sl r_z0 r_z0 2 r1]] 0 0),pB r2],[],s)) (λr0=>some (.tup [.s (.nilp),.s (.nilp),pB r0],[],s)):=by
 refine (evE (fn:=Tryz.f14) (by kernel_rfl)).trans ?_
 generalize evC (SJ lf) d=cl
 unfold Bj2;kernel_rfl
noncomputable abbrev A22 (pins_z0 pins_t1:Bool) (pins2:LL) (l_z3 l_t4:Bool) (l5:LL):Option (PV × List Blk × Unit):=Bj2 LF pins_z0 pins_t1 pins2 l_z3 l_t4 l5 (λr_z0 r1 r_z2 r3=>some (.tup [.s (.sp [[.sl r_z0 r_z0 3 r1,.int .i64 (1000:Int)]] 0 0),.s (.sp [[.sl r_z2 r_z2 2 r3]] 0 0),pB true],[],())) (λr_z0 r1 r2=>some (.tup [.s (.sp [[.sl r_z0 r_z0 3 r1,.int .i64 (1000:Int)]] 0 0),.s (.nilp),pB r2],[],())) (λr_z0 r1 r2=>some (.tup [.s (.nilp),.s (.sp [[.sl r_z0 r_z0 2 r1]] 0 0),pB r2],[],())) (λr0=>some (.tup [.s (.nilp),.s (.nilp),pB r0],[],()))
noncomputable def ME (lf:Nat):Cfg:=B8 lf [3] (A4 []) [(11,QQ),(12,QP),(13,Qm),(14,QW),(15,Wf),(16,RC),(17,Wg)] (A4 [(7,[8]),(6,[0,0,0,4,1,0,1]),(5,[8]),(4,[0,0,0,4,1,0,25]),(3,[0,0,0,4,1,0,0]),(2,[8]),(1,[0,0,0,4,18]),(0,[0,0,0,4])]) [11,12,13] (A4 []) (some [8]) [] [] []
noncomputable def lcm {R:Type} (lf:Nat) (now0:Int) (pins_z1 pins_t2:Bool) (pins3:LL) (l_z4 l_t5:Bool) (l6:LL) (h7:Int) (h8:By) (h9 h10 h11 h12 h13 h14 h15 h16 h17:Int) (k0:Bool->(List Blk)->Option R):Option R:=cond (List.all pins3 F1) (cond (ltI 40 1001) (cond (not (Be (40:Int) pins3)) (k0 true [(Blk.box [(PV.s (SV.int .i64 h7)),(PV.s (SV.str h8)),(PV.s (SV.int .u32 h9)),(PV.s (SV.int .u16 h10)),(PV.s (SV.int .u16 h11)),(PV.s (SV.int .u16 h12)),(PV.s (SV.int .u16 h13)),(PV.s (SV.int .u16 h14)),(PV.s (SV.int .u16 h15)),(PV.s (SV.int .u16 h16)),(PV.s (SV.int .u16 h17))])]) (cond (List.all l6 D1) (cond (ltI 40 1001) (cond (not (Be (40:Int) l6)) (k0 true [(Blk.box [(PV.s (SV.int .i64 h7)),(PV.s (SV.str h8)),(PV.s (SV.int .u32 h9)),(PV.s (SV.int .u16 h10)),(PV.s (SV.int .u16 h11)),(PV.s (SV.int .u16 h12)),(PV.s (SV.int .u16 h13)),(PV.s (SV.int .u16 h14)),(PV.s (SV.int .u16 h15)),(PV.s (SV.int .u16 h16)),(PV.s (SV.int .u16 h17))])]) (cond (ltI 400 (h8.length:Int)) (k0 true [(Blk.box [(PV.s (SV.int .i64 h7)),(PV.s (SV.str h8)),(PV.s (SV.int .u32 h9)),(PV.s (SV.int .u16 h10)),(PV.s (SV.int .u16 h11)),(PV.s (SV.int .u16 h12)),(PV.s (SV.int .u16 h13)),(PV.s (SV.int .u16 h14)),(PV.s (SV.int .u16 h15)),(PV.s (SV.int .u16 h16)),(PV.s (SV.int .u16 h17))])]) (cond (List.all pins3 F1) (cond (List.all pins3 smE) (cond (A1 pins3.length) (cond (List.all l6 D1) (cond (List.all l6 smE) (cond (A1 l6.length) (cond (N7 pins_z1 pins3) (cond (N7 l_z4 l6) (cond ((X8 (1000:Int) (List.map B0 pins3))==0) (cond ((Bl (List.map A6 l6))==0) (cond (List.all pins3 F1) (cond (List.all pins3 smE) (cond (A1 pins3.length) (cond (List.all (D6 (isE (List.map A6 l6))) D1) (cond (List.all (D6 (isE (List.map A6 l6))) smE) (cond (A1 (List.length (D6 (isE (List.map A6 l6))))) (cond (A1 h8.length) (cond (ltN h9 4294967296) (cond (ok8 h10 h11 h12 h13 h14 h15 h16 h17) (vl ((E0 now0 (List.map B0 pins3) (List.map A6 (D6 (isE (List.map A6 l6)))) h7 (mkH h7 h8 h9 (n8 h10 h11 h12 h13 h14 h15 h16 h17)))).1 λn'2=>vl (((E0 now0 (List.map B0 pins3) (List.map A6 (D6 (isE (List.map A6 l6)))) h7 (mkH h7 h8 h9 (n8 h10 h11 h12 h13 h14 h15 h16 h17)))).2).1 λs'3=>cond (List.all pins3 F1) (cond (List.all pins3 smE) (cond (A1 pins3.length) (cond (List.all l6 D1) (cond (List.all l6 smE) (cond (A1 l6.length) (cond (A1 h8.length) (cond (ltN h9 4294967296) (cond (ok8 h10 h11 h12 h13 h14 h15 h16 h17) (vl ((Jp now0 (List.map B0 pins3) (List.map A6 l6) h7 (mkH h7 h8 h9 (n8 h10 h11 h12 h13 h14 h15 h16 h17)))).1 λn'4=>vl (((Jp now0 (List.map B0 pins3) (List.map A6 l6) h7 (mkH h7 h8 h9 (n8 h10 h11 h12 h13 h14 h15 h16 h17)))).2).1 λs'5=>cond ((n'2==n'4)&&((s'3==s'5)&&(((((E0 now0 (List.map B0 pins3) (List.map A6 (D6 (isE (List.map A6 l6)))) h7 (mkH h7 h8 h9 (n8 h10 h11 h12 h13 h14 h15 h16 h17)))).2).2==(((Jp now0 (List.map B0 pins3) (List.map A6 l6) h7 (mkH h7 h8 h9 (n8 h10 h11 h12 h13 h14 h15 h16 h17)))).2).2)&&true))) (cond (List.all pins3 F1) (cond (List.all pins3 smE) (cond (A1 pins3.length) (cond (List.all (D6 (isE (List.map A6 l6))) D1) (cond (List.all (D6 (isE (List.map A6 l6))) smE) (cond (A1 (List.length (D6 (isE (List.map A6 l6))))) (cond (A1 h8.length) (cond (ltN h9 4294967296) (cond (ok8 h10 h11 h12 h13 h14 h15 h16 h17) (cond ((((E0 now0 (List.map B0 pins3) (List.map A6 (D6 (isE (List.map A6 l6)))) h7 (mkH h7 h8 h9 (n8 h10 h11 h12 h13 h14 h15 h16 h17)))).1 != 0)==(n'2 != 0)) (cond (List.all (D6 (isE (List.map A6 l6))) D1) (cond (List.all (D6 (isE (List.map A6 l6))) smE) (cond (A1 (List.length (D6 (isE (List.map A6 l6))))) (cond (A1 h8.length) (cond (ltN h9 4294967296) (cond (ok8 h10 h11 h12 h13 h14 h15 h16 h17) (vl ((E0 now0 List.nil (List.map A6 (D6 (isE (List.map A6 l6)))) h7 (mkH h7 h8 h9 (n8 h10 h11 h12 h13 h14 h15 h16 h17)))).1 λn'6=>vl (((E0 now0 List.nil (List.map A6 (D6 (isE (List.map A6 l6)))) h7 (mkH h7 h8 h9 (n8 h10 h11 h12 h13 h14 h15 h16 h17)))).2).1 λs'7=>cond (List.all [] F1) (cond (List.all [] smE) (cond (List.all l6 D1) (cond (List.all l6 smE) (cond (A1 l6.length) (cond (A1 h8.length) (cond (ltN h9 4294967296) (cond (ok8 h10 h11 h12 h13 h14 h15 h16 h17) (vl ((Jp now0 (List.map B0 []) (List.map A6 l6) h7 (mkH h7 h8 h9 (n8 h10 h11 h12 h13 h14 h15 h16 h17)))).1 λn'8=>vl (((Jp now0 (List.map B0 []) (List.map A6 l6) h7 (mkH h7 h8 h9 (n8 h10 h11 h12 h13 h14 h15 h16 h17)))).2).1 λs'9=>cond ((n'6==n'8)&&((s'7==s'9)&&(((((E0 now0 List.nil (List.map A6 (D6 (isE (List.map A6 l6)))) h7 (mkH h7 h8 h9 (n8 h10 h11 h12 h13 h14 h15 h16 h17)))).2).2==(((Jp now0 (List.map B0 []) (List.map A6 l6) h7 (mkH h7 h8 h9 (n8 h10 h11 h12 h13 h14 h15 h16 h17)))).2).2)&&true))) (cond (List.all pins3 F1) (cond (List.all pins3 smE) (cond (A1 pins3.length) (cond (A1 h8.length) (cond (ltN h9 4294967296) (cond (ok8 h10 h11 h12 h13 h14 h15 h16 h17) (vl ((E0 now0 (List.map B0 pins3) List.nil h7 (mkH h7 h8 h9 (n8 h10 h11 h12 h13 h14 h15 h16 h17)))).1 λn'10=>vl (((E0 now0 (List.map B0 pins3) List.nil h7 (mkH h7 h8 h9 (n8 h10 h11 h12 h13 h14 h15 h16 h17)))).2).1 λs'11=>cond (List.all pins3 F1) (cond (List.all pins3 smE) (cond (A1 pins3.length) (cond (List.all [] D1) (cond (List.all [] smE) (cond (A1 h8.length) (cond (ltN h9 4294967296) (cond (ok8 h10 h11 h12 h13 h14 h15 h16 h17) (vl ((Jp now0 (List.map B0 pins3) (List.map A6 []) h7 (mkH h7 h8 h9 (n8 h10 h11 h12 h13 h14 h15 h16 h17)))).1 λn'12=>vl (((Jp now0 (List.map B0 pins3) (List.map A6 []) h7 (mkH h7 h8 h9 (n8 h10 h11 h12 h13 h14 h15 h16 h17)))).2).1 λs'13=>cond ((n'10==n'12)&&((s'11==s'13)&&(((((E0 now0 (List.map B0 pins3) List.nil h7 (mkH h7 h8 h9 (n8 h10 h11 h12 h13 h14 h15 h16 h17)))).2).2==(((Jp now0 (List.map B0 pins3) (List.map A6 []) h7 (mkH h7 h8 h9 (n8 h10 h11 h12 h13 h14 h15 h16 h17)))).2).2)&&true))) (cond (A1 h8.length) (cond (ltN h9 4294967296) (cond (ok8 h10 h11 h12 h13 h14 h15 h16 h17) (cond (not (((E0 now0 List.nil List.nil h7 (mkH h7 h8 h9 (n8 h10 h11 h12 h13 h14 h15 h16 h17)))).1 != 0)) (k0 true [(Blk.box [(PV.s (SV.int .i64 h7)),(PV.s (SV.str h8)),(PV.s (SV.int .u32 h9)),(PV.s (SV.int .u16 h10)),(PV.s (SV.int .u16 h11)),(PV.s (SV.int .u16 h12)),(PV.s (SV.int .u16 h13)),(PV.s (SV.int .u16 h14)),(PV.s (SV.int .u16 h15)),(PV.s (SV.int .u16 h16)),(PV.s (SV.int .u16 h17))]),(Blk.box [(PV.s (SV.int .i64 n'2)),(PV.s (SV.str s'3)),(PV.s (SV.bool (((E0 now0 (List.map B0 pins3) (List.map A6 (D6 (isE (List.map A6 l6)))) h7 (mkH h7 h8 h9 (n8 h10 h11 h12 h13 h14 h15 h16 h17)))).2).2))])]) (k0 false [(Blk.box [(PV.s (SV.int .i64 h7)),(PV.s (SV.str h8)),(PV.s (SV.int .u32 h9)),(PV.s (SV.int .u16 h10)),(PV.s (SV.int .u16 h11)),(PV.s (SV.int .u16 h12)),(PV.s (SV.int .u16 h13)),(PV.s (SV.int .u16 h14)),(PV.s (SV.int .u16 h15)),(PV.s (SV.int .u16 h16)),(PV.s (SV.int .u16 h17))]),(Blk.box [(PV.s (SV.int .i64 n'2)),(PV.s (SV.str s'3)),(PV.s (SV.bool (((E0 now0 (List.map B0 pins3) (List.map A6 (D6 (isE (List.map A6 l6)))) h7 (mkH h7 h8 h9 (n8 h10 h11 h12 h13 h14 h15 h16 h17)))).2).2))])])) none) none) none) (k0 false [(Blk.box [(PV.s (SV.int .i64 h7)),(PV.s (SV.str h8)),(PV.s (SV.int .u32 h9)),(PV.s (SV.int .u16 h10)),(PV.s (SV.int .u16 h11)),(PV.s (SV.int .u16 h12)),(PV.s (SV.int .u16 h13)),(PV.s (SV.int .u16 h14)),(PV.s (SV.int .u16 h15)),(PV.s (SV.int .u16 h16)),(PV.s (SV.int .u16 h17))]),(Blk.box [(PV.s (SV.int .i64 n'2)),(PV.s (SV.str s'3)),(PV.s (SV.bool (((E0 now0 (List.map B0 pins3) (List.map A6 (D6 (isE (List.map A6 l6)))) h7 (mkH h7 h8 h9 (n8 h10 h11 h12 h13 h14 h15 h16 h17)))).2).2))])])) none) none) none) none) none) none) none) none) none) none) none) none) none) none) (k0 false [(Blk.box [(PV.s (SV.int .i64 h7)),(PV.s (SV.str h8)),(PV.s (SV.int .u32 h9)),(PV.s (SV.int .u16 h10)),(PV.s (SV.int .u16 h11)),(PV.s (SV.int .u16 h12)),(PV.s (SV.int .u16 h13)),(PV.s (SV.int .u16 h14)),(PV.s (SV.int .u16 h15)),(PV.s (SV.int .u16 h16)),(PV.s (SV.int .u16 h17))]),(Blk.box [(PV.s (SV.int .i64 n'2)),(PV.s (SV.str s'3)),(PV.s (SV.bool (((E0 now0 (List.map B0 pins3) (List.map A6 (D6 (isE (List.map A6 l6)))) h7 (mkH h7 h8 h9 (n8 h10 h11 h12 h13 h14 h15 h16 h17)))).2).2))])])) none) none) none) none) none) none) none) none) none) none) none) none) none) none) (k0 false [(Blk.box [(PV.s (SV.int .i64 h7)),(PV.s (SV.str h8)),(PV.s (SV.int .u32 h9)),(PV.s (SV.int .u16 h10)),(PV.s (SV.int .u16 h11)),(PV.s (SV.int .u16 h12)),(PV.s (SV.int .u16 h13)),(PV.s (SV.int .u16 h14)),(PV.s (SV.int .u16 h15)),(PV.s (SV.int .u16 h16)),(PV.s (SV.int .u16 h17))]),(Blk.box [(PV.s (SV.int .i64 n'2)),(PV.s (SV.str s'3)),(PV.s (SV.bool (((E0 now0 (List.map B0 pins3) (List.map A6 (D6 (isE (List.map A6 l6)))) h7 (mkH h7 h8 h9 (n8 h10 h11 h12 h13 h14 h15 h16 h17)))).2).2))])])) none) none) none) none) none) none) none) none) none) (k0 false [(Blk.box [(PV.s (SV.int .i64 h7)),(PV.s (SV.str h8)),(PV.s (SV.int .u32 h9)),(PV.s (SV.int .u16 h10)),(PV.s (SV.int .u16 h11)),(PV.s (SV.int .u16 h12)),(PV.s (SV.int .u16 h13)),(PV.s (SV.int .u16 h14)),(PV.s (SV.int .u16 h15)),(PV.s (SV.int .u16 h16)),(PV.s (SV.int .u16 h17))]),(Blk.box [(PV.s (SV.int .i64 n'2)),(PV.s (SV.str s'3)),(PV.s (SV.bool (((E0 now0 (List.map B0 pins3) (List.map A6 (D6 (isE (List.map A6 l6)))) h7 (mkH h7 h8 h9 (n8 h10 h11 h12 h13 h14 h15 h16 h17)))).2).2))])])) none) none) none) none) none) none) none) none) none) none) none) none) none) none) none) none) none) none) (k0 true [(Blk.box [(PV.s (SV.int .i64 h7)),(PV.s (SV.str h8)),(PV.s (SV.int .u32 h9)),(PV.s (SV.int .u16 h10)),(PV.s (SV.int .u16 h11)),(PV.s (SV.int .u16 h12)),(PV.s (SV.int .u16 h13)),(PV.s (SV.int .u16 h14)),(PV.s (SV.int .u16 h15)),(PV.s (SV.int .u16 h16)),(PV.s (SV.int .u16 h17))])])) (cond ((Bl (List.map A6 l6))==0) (k0 true [(Blk.box [(PV.s (SV.int .i64 h7)),(PV.s (SV.str h8)),(PV.s (SV.int .u32 h9)),(PV.s (SV.int .u16 h10)),(PV.s (SV.int .u16 h11)),(PV.s (SV.int .u16 h12)),(PV.s (SV.int .u16 h13)),(PV.s (SV.int .u16 h14)),(PV.s (SV.int .u16 h15)),(PV.s (SV.int .u16 h16)),(PV.s (SV.int .u16 h17))])]) (k0 true [(Blk.box [(PV.s (SV.int .i64 h7)),(PV.s (SV.str h8)),(PV.s (SV.int .u32 h9)),(PV.s (SV.int .u16 h10)),(PV.s (SV.int .u16 h11)),(PV.s (SV.int .u16 h12)),(PV.s (SV.int .u16 h13)),(PV.s (SV.int .u16 h14)),(PV.s (SV.int .u16 h15)),(PV.s (SV.int .u16 h16)),(PV.s (SV.int .u16 h17))])]))) none) none) none) none) none) none) none) none))) none) none)) none) none
theorem Bx4 (d:Nat) (now0 pins_z1 pins_t2 pins3 l_z4 l_t5 l6 h7 h8 h9 h10 h11 h12 h13 h14 h15 h16 h17):evC (ME lf) (d+1) σ yh 3 [pI now0,.s (.sl pins_z1 pins_t2 3 pins3),.s (.sl l_z4 l_t5 2 l6),.agg [pI h7,pS h8,p32 h9,p16 h10,p16 h11,p16 h12,p16 h13,p16 h14,p16 h15,p16 h16,p16 h17]] [] s=lcm lf now0 pins_z1 pins_t2 pins3 l_z4 l_t5 l6 h7 h8 h9 h10 h11 h12 h13 h14 h15 h16 h17 (λr0 H1=>some (pB r0,H1,s)):=by
 refine (evE (fn:=Tryz.f3) (by kernel_rfl)).trans ?_
 generalize evC (ME lf) d=cl
 unfold lcm;kernel_rfl
end
section
variable {σ R : Type} (lf : Nat) (cl : D7) (yh : Yh σ) (s : σ) (k : Out -> St σ -> Option R)
noncomputable def IM (lf:Nat):Cfg:=B8 lf [81] (A4 []) [] (A4 [(1,[6]),(0,[3,0,0])]) [] (A4 []) (some [6]) [] [] []
noncomputable def A20 {R:Type} (lf:Nat) (s0 sep1:By) (sepSave2:Int) (k0:By->By->Int->Option R):Option R:=k0 s0 sep1 sepSave2
theorem A21 (d:Nat) (s0 sep1 sepSave2):evC (IM lf) (d+1) σ yh 81 [pS s0,pS sep1,pI sepSave2] [] s=A20 lf s0 sep1 sepSave2 (λs0 s1 n2=>some (.fnr (Fn.func 106) [] [.ptr 1 0 0,.ptr 0 0 0,.ptr 2 0 0],[.box [pS s0],.box [pS s1],.box [pI n2]],s)):=by
 refine (evE (fn:=Tryz.f81) (by kernel_rfl)).trans ?_
 generalize evC (IM lf) d=cl
 unfold A20;kernel_rfl
noncomputable def SX (lf:Nat):Cfg:=B8 lf [49] (A4 []) [(81,FZ)] (A4 [(1,[4]),(0,[0,0])]) [] (A4 []) (some [4]) [] [] []
noncomputable def By6 {R:Type} (lf:Nat) (s0 sep1:By) (k0:By->By->Option R):Option R:=k0 s0 sep1
theorem Bp5 (d:Nat) (s0 sep1):evC (SX lf) (d+1) σ yh 49 [pS s0,pS sep1] [] s=By6 lf s0 sep1 (λs0 s1=>some (.fnr (Fn.func 106) [] [.ptr 1 0 0,.ptr 0 0 0,.ptr 2 0 0],[.box [pS s0],.box [pS s1],.box [pI (0:Int)]],s)):=by
 refine (evE (fn:=Tryz.f49) (by kernel_rfl)).trans ?_
 generalize evC (SX lf) d=cl
 unfold By6;kernel_rfl
noncomputable abbrev BN:Code:=D3 Tryz.f59
noncomputable def It (lf:Nat):Cfg:=B8 lf [59] (A4 []) [(93,Qr),(49,RF),(94,QX)] (A4 [(7,[2]),(6,[2]),(5,[2,13]),(4,[2,0]),(3,[2,9]),(2,[2]),(1,[0,1,7]),(0,[0,1])]) [93,94] (A4 [(0,[2]),(1,[2])]) (some [2]) [] [(106,Vc)] []
noncomputable def Vo {R:Type} (lf:Nat) (x'0:By) (xs:List By) (self:Unit->Option R) (k0:Unit->Option R) (k1:Unit->Option R):Option R:=cond (A1 x'0.length) (cond (not (P3 x'0)) (k1 ()) (self ())) none
noncomputable def Yp {R:Type} (lf:Nat) (L:List By) (k0:Unit->Option R) (k1:Unit->Option R):Option R:=XC (α:=Unit->Option R) (λ_=>k0 ()) (λx'0 xs self _=>Vo lf x'0 xs self  k0 k1) L ()
theorem NM {R:Type} (lf:Nat) (x'0:By) (xs:List By) (k0:Unit->Option R) (k1:Unit->Option R):Yp lf (x'0::xs)  k0 k1=Vo lf x'0 xs (λ_=>Yp lf xs  k0 k1)  k0 k1:=rfl
theorem Ai5 (L:List By):N9 #[13] (gp [(2,.ptr 0 0 0),(9,.fnr (Fn.func 106) [] [.bad,.bad,.bad])] 4) (bd (It lf) cl yh (cd [1,1,0,1,0,0] BN)) (bd (It lf) cl yh (cd [1,1,0,1,0,1] BN)) (L.map (λ(x'0:By)=>([pS x'0]:List PV))) [.box [pB false],.dead,.dead,.dead] s (rgK (gp [(2,.ptr 0 0 0),(9,.fnr (Fn.func 106) [] [.bad,.bad,.bad])] 4) (λH=>P0 H [2,1,3] [.box [.bad],.box [.bad],.box [.bad]]) k) =
 Yp lf L  (λ_=>k .normal ⟨gp [(2,.ptr 0 0 0),(9,.fnr (Fn.func 106) [] [.bad,.bad,.bad])] 4,[.box [pB false],.box [.bad],.box [.bad],.box [.bad]],s⟩) (λ_=>k .ret ⟨gp [(2,.ptr 0 0 0),(9,.fnr (Fn.func 106) [] [.bad,.bad,.bad])] 4,[.box [pB false],.box [.bad],.box [.bad],.box [.bad]],s⟩):=by
 induction L with
 | nil=>rfl
 | cons x'0 xs ih=>rw [NM];unfold Vo;exact (Eq.trans (by kernel_rfl) (A0 (A0 rfl ih) rfl))
noncomputable def JH {R:Type} (lf:Nat) (s0:By) (k0:Unit->Option R) (k1:Unit->Option R):Option R:=cond ((A1 s0.length)&&((1==1)&&((0:Int)==0))) (Yp lf (pcs (List.getD ([46]:List UInt8) 0 0) s0)  k0 k1) none
abbrev NL (b:Code):Prop:=∀ (k:Out->St σ->Option R) s0,B2 (It lf) cl yh b ⟨gp [(2,.ptr 0 0 0),(9,.fnr (Fn.func 106) [] [.ptr 2 0 0,.ptr 1 0 0,.ptr 3 0 0])] 4,[.box [pB false],.box [pS s0],.box [pS ([46]:List UInt8)],.box [pI (0:Int)]],s⟩ k=JH lf s0 (λ_=>k .normal ⟨gp [(2,.ptr 0 0 0),(9,.fnr (Fn.func 106) [] [.bad,.bad,.bad])] 4,[.box [pB false],.box [.bad],.box [.bad],.box [.bad]],s⟩) (λ_=>k .ret ⟨gp [(2,.ptr 0 0 0),(9,.fnr (Fn.func 106) [] [.bad,.bad,.bad])] 4,[.box [pB false],.box [.bad],.box [.bad],.box [.bad]],s⟩)
theorem Ai4:NL (R:=R) lf cl yh s (cd [1,1,0,1,0] BN):=by
 intro k s0;unfold JH;exact ((MU [1,1,0,1,0] (by kernel_rfl)).trans (by kernel_rfl)).trans (Df (Ai5 lf cl yh s k (pcs (List.getD ([46]:List UInt8) 0 0) s0) ))
noncomputable def hvn {R:Type} (lf:Nat) (name0:By) (k0:Unit->Option R) (k1:Bool->Bool->Option R):Option R:=cond (ltI 253 (name0.length:Int)) (k0 ()) (cond (A1 name0.length) (cond (O2 name0) (k0 ()) (JH lf name0 (λ_=>k1 true true) (λ_=>k1 false false))) none)
theorem Bw7 (b_11010:Code) (h_hvn_e1:NL (R:=PV × List Blk × σ) lf cl yh s b_11010) (name0:By):B2 (It lf) cl yh (cd [] (R1 [1,1,0,1,0] b_11010 BN)) ⟨[pS name0]++tps 16,[],s⟩ (H4 (It lf) Tryz.f59)=hvn lf name0 (λ_=>some (pB false,[.box [pB false]],s)) (λr0 b1=>some (pB r0,[.box [pB b1],.box [.bad],.box [.bad],.box [.bad]],s)):=by
 unfold hvn;exact (Eq.trans (by kernel_rfl) (A0 rfl (A0 (A0 rfl ((h_hvn_e1 (G8 0 (I4 (It lf) cl yh (cd [1,1,1] BN) (H4 (It lf) Tryz.f59))) name0).trans (by kernel_rfl))) rfl)))
theorem Bw8 (d:Nat) (name0):evC (It lf) (d+1) σ yh 59 [pS name0] [] s=hvn lf name0 (λ_=>some (pB false,[.box [pB false]],s)) (λr0 b1=>some (pB r0,[.box [pB b1],.box [.bad],.box [.bad],.box [.bad]],s)):=
 (evE (fn:=Tryz.f59) (by kernel_rfl)).trans (Eq.trans (by kernel_rfl) (Bw7 lf (evC (It lf) d) yh s (cd [1,1,0,1,0] BN) (Ai4 lf (evC (It lf) d) yh s) name0))
noncomputable def RZ (lf:Nat):Cfg:=B8 lf [41] (A4 []) [] (A4 [(1,[2]),(0,[1])]) [] (A4 []) (some [2]) [] [] []
noncomputable def Bw6 {R:Type} (lf:Nat) (name0:By) (k0:By->Option R):Option R:=k0 name0
theorem Bg8 (d:Nat) (name0):evC (RZ lf) (d+1) σ yh 41 [pS name0] [] s=Bw6 lf name0 (λs0=>some (.fnr (Fn.func 76) [] [.ptr 0 0 0],[.box [pS s0]],s)):=by
 refine (evE (fn:=Tryz.f41) (by kernel_rfl)).trans ?_
 generalize evC (RZ lf) d=cl
 unfold Bw6;kernel_rfl
noncomputable abbrev Nh:Code:=D3 Tryz.f106
noncomputable def U4 (lf:Nat):Cfg:=B8 lf [106] (A4 [(5,[0,0,0,0]),(1,[0,1])]) [(107,Nd),(108,HJ)] (A4 [(10,[]),(9,[0,0,0,0]),(8,[0,0,0,0,3,34]),(7,[0,0,0,0,3,0]),(6,[0,0,0,0,3,25]),(5,[0,0,0,0,3]),(4,[0,1]),(3,[0,1,3,18]),(2,[0,1,3]),(1,[0,1,11]),(0,[0,0,0,0,7])]) [108] (A4 [(2,[0,1]),(3,[0,0,0,0]),(0,[]),(1,[0,1])]) (some []) [] [] []
noncomputable def AE {σ R:Type} (yh:Yh σ) (lf n:Nat) (s0 s1:By) (n2:Int) (s:σ) (k0:By->By->Int->σ->Option R):Option R:=match n with | 0=>none | n+1=>cond (ltI 0 (s1.length:Int)) none (k0 s0 s1 n2 s)
theorem PM (n:Nat) (s0 s1:By) (n2:Int) (s:σ):E6 3 ((U4 lf).keep 1) (bd (U4 lf) cl yh (cd [0,1,0,0,0,0] Nh)) n ⟨gp [(0,.yd),(1,.ptr 1 0 0)] 49,[.box [pS s0],.box [pS s1],.box [pI n2]],s⟩ k =
 AE yh lf n s0 s1 n2 s (λs0 s1 n2 s=>k (.exit 0) ⟨gp [] 52,[.box [pS s0],.box [pS s1],.box [pI n2]],s⟩):=by
 induction n generalizing s0 s1 n2 s with
 | zero=>rfl
 | succ n ih=>rw [AE];kernel_rfl
noncomputable def O4 {σ R:Type} (yh:Yh σ) (lf n:Nat) (s0 s1:By) (n2:Int) (s:σ) (k0:By->By->Int->σ->Option R) (k1:By->By->Int->σ->Option R):Option R:=match n with
 | 0=>none
 | n+1=>
  cond (A1 s1.length)
   (cond (ltI (Lib.index s1 s0) (0:Int))
   (k0 s0 s1 n2 s)
   (vl (A2 ((Lib.index s1 s0)+n2)) λn'5=>
    cond (P2 0 n'5 s1.length)
    (ydK (yh [pS (cut s1 0 n'5)] s) λby'6 s'y6=>
     (cond (not by'6)
     (k1 s0 s1 n2 s'y6)
     (vl (A2 ((Lib.index s1 s0)+(s0.length:Int))) λn'7=>
      cond (P2 n'7 (s1.length:Int) s1.length)
      (vl (cut s1 n'7 (s1.length:Int)) λs'8=>
       O4 yh lf n s0 s'8 n2 s'y6 k0 k1)
      none)))
    none))
   none
theorem PN (n:Nat) (s0 s1:By) (n2:Int) (s:σ):E6 3 ((U4 lf).keep 5) (bd (U4 lf) cl yh (cd [1,0,0,0] Nh)) n ⟨gp [(0,.yd),(0,.ptr 0 0 0),(0,.ptr 1 0 0),(0,.ptr 2 0 0)] 48,[.box [pS s0],.box [pS s1],.box [pI n2]],s⟩ k =
 O4 yh lf n s0 s1 n2 s (λs0 s1 n2 s=>k (.exit 2) ⟨gp [(0,.yd),(1,.ptr 1 0 0)] 49,[.box [pS s0],.box [pS s1],.box [pI n2]],s⟩) (λs0 s1 n2 s=>k .ret ⟨gp [] 52,[.box [pS s0],.box [pS s1],.box [pI n2]],s⟩):=by
 induction n generalizing s0 s1 n2 s with
 | zero=>rfl
 | succ n ih=>rw [O4];simp only [<-ih];kernel_rfl
noncomputable def PL {σ R:Type} (yh:Yh σ) (lf:Nat) (p t:By) (n:Int) (s:σ) (k0:By->By->Int->σ->Option R):Option R:=
 cond ((p.length:Int)==0)
 (AE yh lf lf p t n s (λs'0 s'1 n'2 s'3=>k0 s'0 s'1 n'2 s'3))
 (O4 yh lf lf p t n s (λs'9 s'10 n'11 s'12=>ydK (yh [pS s'10] s'12) λby'17 s'y17=>
  (k0 s'9 s'10 n'11 s'y17)) (λs'13 s'14 n'15 s'16=>k0 s'13 s'14 n'15 s'16))
theorem A69 (d:Nat) (p t n s):evC (U4 lf) (d+1) σ yh 106 [.yd,.ptr 0 0 0,.ptr 1 0 0,.ptr 2 0 0] [.box [pS p],.box [pS t],.box [pI n]] s=PL yh lf p t n s (λs0 s1 n2 s=>some (.tup [],[.box [pS s0],.box [pS s1],.box [pI n2]],s)):=by
 refine (evE (fn:=Tryz.f106) (by kernel_rfl)).trans ?_
 generalize evC (U4 lf) d=cl
 unfold PL;exact (Eq.trans (by kernel_rfl) (A0 ((PM lf cl yh (G8 0 (I4 (U4 lf) cl yh (cd [0,1,0,1] Nh) (I4 (U4 lf) cl yh (cd [1] Nh) (H4 (U4 lf) Tryz.f106)))) lf p t n s).trans (by kernel_rfl)) ((PN lf cl yh (G8 2 (I4 (U4 lf) cl yh (cd [1,1] Nh) (H4 (U4 lf) Tryz.f106))) lf p t n s).trans (by kernel_rfl))))
noncomputable abbrev Bc1:Code:=D3 Tryz.f76
noncomputable def Kd (lf:Nat):Cfg:=B8 lf [76] (A4 [(1,[0,0])]) [(59,BH),(50,RE)] (A4 [(3,[0,0]),(2,[0,0,2,17]),(1,[0,0,2,0]),(0,[0,0,6])]) [59,50] (A4 [(0,[]),(1,[0,0])]) (some []) [] [] []
noncomputable def X5 {σ R:Type} (yh:Yh σ) (lf n:Nat) (s0:By) (s:σ) (k0:By->σ->Option R):Option R:=match n with
 | 0=>none
 | n+1=>
  cond (A1 s0.length)
   (vl ((Lib.cut s0 ([46]:List UInt8))).1 λs'2=>
   vl (((Lib.cut s0 ([46]:List UInt8))).2).1 λs'3=>
    cond (not (((Lib.cut s0 ([46]:List UInt8))).2).2)
    (k0 s0 s)
    (ydK (yh [pS s'3] s) λby'4 s'y4=>
     (cond (not by'4)
     (k0 s0 s'y4)
     (X5 yh lf n s'3 s'y4 k0))))
   none
theorem NK (n:Nat) (s0:By) (s:σ):E6 1 ((Kd lf).keep 1) (bd (Kd lf) cl yh (cd [1,0,0] Bc1)) n ⟨gp [(0,.yd),(0,.ptr 0 0 0)] 22,[.box [pS s0]],s⟩ k =
 X5 yh lf n s0 s (λs0 s=>k .ret ⟨gp [] 24,[.box [pS s0]],s⟩):=by
 induction n generalizing s0 s with
 | zero=>rfl
 | succ n ih=>rw [X5];simp only [<-ih];kernel_rfl
noncomputable def NJ {σ R:Type} (yh:Yh σ) (lf:Nat) (t:By) (s:σ) (k0:By->σ->Option R):Option R:=cond (A1 t.length) (cond (not (C5 t)) (k0 t s) (X5 yh lf lf t s (λs'5 s'6=>k0 s'5 s'6))) none
theorem A04 (d:Nat) (t s):evC (Kd lf) (d+1) σ yh 76 [.yd,.ptr 0 0 0] [.box [pS t]] s=NJ yh lf t s (λs0 s=>some (.tup [],[.box [pS s0]],s)):=by
 refine (evE (fn:=Tryz.f76) (by kernel_rfl)).trans ?_
 generalize evC (Kd lf) d=cl
 unfold NJ;exact (Eq.trans (by kernel_rfl) (A0 (A0 rfl ((NK lf cl yh (G8 0 (H4 (Kd lf) Tryz.f76)) lf t s).trans (by kernel_rfl))) rfl))
end
end
end Go.Proofs.YtelhbgonncceeaaGreatDoor.E
namespace Go.Proofs
open Go.Shelf
def Tryz.lays143_ren:Go.Shelf.Ren:=⟨fun | 143=>108 | 219=>109 | 217=>150 | 225=>151 | 224=>152 | 267=>153 | 266=>177 | 314=>178 | n=>n,fun | 9=>9 | 3=>3 | 4=>4 | 5=>5 | 46=>139 | 146=>192 | 51=>24 | n=>n,fun | 1=>0 | n=>n⟩
theorem Tryz.lays143:Go.Proofs.Lays.n143 Tryz.prog Tryz.lays143_ren:={
 mixed:=by kernel_rfl
 f143:=Tryz.func108.trans (congrArg some (by kernel_rfl))
 f217:=Tryz.func150.trans (congrArg some (by kernel_rfl))
 f219:=Tryz.func109.trans (congrArg some (by kernel_rfl))
 f224:=Tryz.func152.trans (congrArg some (by kernel_rfl))
 f225:=Tryz.func151.trans (congrArg some (by kernel_rfl))
 f266:=Tryz.func177.trans (congrArg some (by kernel_rfl))
 f267:=Tryz.func153.trans (congrArg some (by kernel_rfl))
 f314:=Tryz.func178.trans (congrArg some (by kernel_rfl))
 t3:=Tryz.underlying3
 a3:=Tryz.isAgg3
 z3:=Tryz.sizeOf3
 v3:=Tryz.zeroValue3
 t4:=Tryz.underlying4
 a4:=Tryz.isAgg4
 z4:=Tryz.sizeOf4
 v4:=Tryz.zeroValue4
 t5:=Tryz.underlying5
 a5:=Tryz.isAgg5
 z5:=Tryz.sizeOf5
 v5:=Tryz.zeroValue5
 t9:=Tryz.underlying9
 a9:=Tryz.isAgg9
 z9:=Tryz.sizeOf9
 v9:=Tryz.zeroValue9
 t46:=Tryz.underlying139
 a46:=Tryz.isAgg139
 z46:=Tryz.sizeOf139
 v46:=Tryz.zeroValue139
 t51:=Tryz.underlying24
 a51:=Tryz.isAgg24
 z51:=Tryz.sizeOf24
 v51:=Tryz.zeroValue24
 t146:=Tryz.underlying192
 a146:=Tryz.isAgg192
 z146:=Tryz.sizeOf192
 v146:=Tryz.zeroValue192
 g1:=by kernel_rfl }
def Tryz.lays145_ren:Go.Shelf.Ren:=⟨fun | 145=>50 | 220=>82 | 219=>109 | 217=>150 | 225=>151 | 224=>152 | 267=>153 | 266=>177 | 314=>178 | n=>n,fun | 9=>9 | 4=>4 | 59=>91 | 3=>3 | 5=>5 | 46=>139 | 146=>192 | 51=>24 | n=>n,fun | 1=>0 | n=>n⟩
theorem Tryz.lays145:Go.Proofs.Lays.n145 Tryz.prog Tryz.lays145_ren:={
 mixed:=by kernel_rfl
 f145:=Tryz.func50.trans (congrArg some (by kernel_rfl))
 f217:=Tryz.func150.trans (congrArg some (by kernel_rfl))
 f219:=Tryz.func109.trans (congrArg some (by kernel_rfl))
 f220:=Tryz.func82.trans (congrArg some (by kernel_rfl))
 f224:=Tryz.func152.trans (congrArg some (by kernel_rfl))
 f225:=Tryz.func151.trans (congrArg some (by kernel_rfl))
 f266:=Tryz.func177.trans (congrArg some (by kernel_rfl))
 f267:=Tryz.func153.trans (congrArg some (by kernel_rfl))
 f314:=Tryz.func178.trans (congrArg some (by kernel_rfl))
 t3:=Tryz.underlying3
 a3:=Tryz.isAgg3
 z3:=Tryz.sizeOf3
 v3:=Tryz.zeroValue3
 t4:=Tryz.underlying4
 a4:=Tryz.isAgg4
 z4:=Tryz.sizeOf4
 v4:=Tryz.zeroValue4
 t5:=Tryz.underlying5
 a5:=Tryz.isAgg5
 z5:=Tryz.sizeOf5
 v5:=Tryz.zeroValue5
 t9:=Tryz.underlying9
 a9:=Tryz.isAgg9
 z9:=Tryz.sizeOf9
 v9:=Tryz.zeroValue9
 t46:=Tryz.underlying139
 a46:=Tryz.isAgg139
 z46:=Tryz.sizeOf139
 v46:=Tryz.zeroValue139
 t51:=Tryz.underlying24
 a51:=Tryz.isAgg24
 z51:=Tryz.sizeOf24
 v51:=Tryz.zeroValue24
 t59:=Tryz.underlying91
 a59:=Tryz.isAgg91
 z59:=Tryz.sizeOf91
 v59:=Tryz.zeroValue91
 t146:=Tryz.underlying192
 a146:=Tryz.isAgg192
 z146:=Tryz.sizeOf192
 v146:=Tryz.zeroValue192
 g1:=by kernel_rfl }
def Tryz.lays138_ren:Go.Shelf.Ren:=⟨fun | 138=>182 | 195=>160 | 218=>193 | 143=>108 | 219=>109 | 217=>150 | 225=>151 | 224=>152 | 267=>153 | 266=>177 | 314=>178 | n=>n,fun | 9=>9 | 3=>3 | 4=>4 | 5=>5 | 0=>0 | 46=>139 | 146=>192 | 51=>24 | n=>n,fun | 1=>0 | n=>n⟩
theorem Tryz.lays138:Go.Proofs.Lays.n138 Tryz.prog Tryz.lays138_ren:={
 mixed:=by kernel_rfl
 f138:=Tryz.func182.trans (congrArg some (by kernel_rfl))
 f143:=Tryz.func108.trans (congrArg some (by kernel_rfl))
 f195:=Tryz.func160.trans (congrArg some (by kernel_rfl))
 f217:=Tryz.func150.trans (congrArg some (by kernel_rfl))
 f218:=Tryz.func193.trans (congrArg some (by kernel_rfl))
 f219:=Tryz.func109.trans (congrArg some (by kernel_rfl))
 f224:=Tryz.func152.trans (congrArg some (by kernel_rfl))
 f225:=Tryz.func151.trans (congrArg some (by kernel_rfl))
 f266:=Tryz.func177.trans (congrArg some (by kernel_rfl))
 f267:=Tryz.func153.trans (congrArg some (by kernel_rfl))
 f314:=Tryz.func178.trans (congrArg some (by kernel_rfl))
 t0:=Tryz.underlying0
 a0:=Tryz.isAgg0
 z0:=Tryz.sizeOf0
 v0:=Tryz.zeroValue0
 t3:=Tryz.underlying3
 a3:=Tryz.isAgg3
 z3:=Tryz.sizeOf3
 v3:=Tryz.zeroValue3
 t4:=Tryz.underlying4
 a4:=Tryz.isAgg4
 z4:=Tryz.sizeOf4
 v4:=Tryz.zeroValue4
 t5:=Tryz.underlying5
 a5:=Tryz.isAgg5
 z5:=Tryz.sizeOf5
 v5:=Tryz.zeroValue5
 t9:=Tryz.underlying9
 a9:=Tryz.isAgg9
 z9:=Tryz.sizeOf9
 v9:=Tryz.zeroValue9
 t46:=Tryz.underlying139
 a46:=Tryz.isAgg139
 z46:=Tryz.sizeOf139
 v46:=Tryz.zeroValue139
 t51:=Tryz.underlying24
 a51:=Tryz.isAgg24
 z51:=Tryz.sizeOf24
 v51:=Tryz.zeroValue24
 t146:=Tryz.underlying192
 a146:=Tryz.isAgg192
 z146:=Tryz.sizeOf192
 v146:=Tryz.zeroValue192
 g1:=by kernel_rfl }
def Tryz.lays2_21_ren:Go.Shelf.Ren:=⟨fun | 21=>199 | 27=>203 | 28=>204 | 35=>206 | 39=>208 | n=>n,fun | 22=>153 | 3=>3 | 4=>4 | 0=>0 | n=>n,fun | n=>n⟩
theorem Tryz.lays2_21:Go.Proofs.Lays2.n21 Tryz.prog Tryz.lays2_21_ren:={
 mixed:=by kernel_rfl
 f21:=Tryz.func199.trans (congrArg some (by kernel_rfl))
 f27:=Tryz.func203.trans (congrArg some (by kernel_rfl))
 f28:=Tryz.func204.trans (congrArg some (by kernel_rfl))
 f35:=Tryz.func206.trans (congrArg some (by kernel_rfl))
 f39:=Tryz.func208.trans (congrArg some (by kernel_rfl))
 t0:=Tryz.underlying0
 a0:=Tryz.isAgg0
 z0:=Tryz.sizeOf0
 v0:=Tryz.zeroValue0
 t3:=Tryz.underlying3
 a3:=Tryz.isAgg3
 z3:=Tryz.sizeOf3
 v3:=Tryz.zeroValue3
 t4:=Tryz.underlying4
 a4:=Tryz.isAgg4
 z4:=Tryz.sizeOf4
 v4:=Tryz.zeroValue4
 t22:=Tryz.underlying153
 a22:=Tryz.isAgg153
 z22:=Tryz.sizeOf153
 v22:=Tryz.zeroValue153
 i3:=by kernel_rfl }
def Tryz.lays149_ren:Go.Shelf.Ren:=⟨fun | 149=>97 | 222=>142 | n=>n,fun | 9=>9 | 5=>5 | 3=>3 | 4=>4 | n=>n,fun | n=>n⟩
theorem Tryz.lays149:Go.Proofs.Lays.n149 Tryz.prog Tryz.lays149_ren:={
 mixed:=by kernel_rfl
 f149:=Tryz.func97.trans (congrArg some (by kernel_rfl))
 f222:=Tryz.func142.trans (congrArg some (by kernel_rfl))
 t3:=Tryz.underlying3
 a3:=Tryz.isAgg3
 z3:=Tryz.sizeOf3
 v3:=Tryz.zeroValue3
 t4:=Tryz.underlying4
 a4:=Tryz.isAgg4
 z4:=Tryz.sizeOf4
 v4:=Tryz.zeroValue4
 t5:=Tryz.underlying5
 a5:=Tryz.isAgg5
 z5:=Tryz.sizeOf5
 v5:=Tryz.zeroValue5
 t9:=Tryz.underlying9
 a9:=Tryz.isAgg9
 z9:=Tryz.sizeOf9
 v9:=Tryz.zeroValue9 }
end Go.Proofs
namespace Go.Proofs.YtelhbgonncceeaaGreatDoor.E
set_option linter.all false
section
open Go Go.Proofs Go.Sort
set_option maxRecDepth 100000
theorem A02 {C:Cfg} {St:Nat->Prop} {w:World} (hG:GOK C St w) (hc:C.G=GX):∃ m,w.cell? ⟨0,0,none⟩=some (.int .i64 m):=(hG.2 _ (by rw [hc];rfl)).2
theorem Ba6:B1 Tryz.prog GX 108 HJ:=by
 refine B1.fix (pf:=HM) _ (Dv (fn:=Tryz.f108) (by kernel_rfl) (by kernel_rfl) (by kernel_rfl) ?_)
 intro args ret Hc h
 unfold HM at h
 split at h
 ·rename_i s p
  obtain ⟨h0,h⟩:=B4 h
  obtain ⟨rfl,rfl⟩:=H5 h
  refine ⟨rfl,rfl,λC hP hCG Γ w Vs hG hlt hc=>?_⟩
  obtain ⟨U,V,rfl,hu,hv⟩:=hc.arr2
  obtain ⟨s',rfl,rfl⟩:=hu.inv_str
  obtain ⟨p',rfl,rfl⟩:=hv.inv_str
  obtain ⟨m,hm⟩:=A02 hG hCG
  have hs:=O0 h0
  refine (Any.strings_Index Tryz.lays143 s' p' m w (by simp at hs;omega) hm).mono ?_
  rintro e w' ⟨rfl,rfl⟩
  exact ⟨_,rfl,RowKit.Below.refl _ _,VP.mk_int _ _⟩
 ·cases h
theorem B29:B1 Tryz.prog GX 50 RE:=by
 refine B1.fix (pf:=HD) _ (Dv (fn:=Tryz.f50) (by kernel_rfl) (by kernel_rfl) (by kernel_rfl) ?_)
 intro args ret Hc h
 unfold HD at h
 split at h
 ·rename_i s p
  obtain ⟨h0,h⟩:=B4 h
  obtain ⟨rfl,rfl⟩:=H5 h
  refine ⟨rfl,rfl,λC hP hCG Γ w Vs hG hlt hc=>?_⟩
  obtain ⟨U,V,rfl,hu,hv⟩:=hc.arr2
  obtain ⟨s',rfl,rfl⟩:=hu.inv_str
  obtain ⟨p',rfl,rfl⟩:=hv.inv_str
  obtain ⟨m,hm⟩:=A02 hG hCG
  have hs:=O0 h0
  refine (Any.strings_Cut Tryz.lays145 s' p' m w (by simp at hs;omega) hm).mono ?_
  rintro e w' ⟨rfl,n,rfl⟩
  exact ⟨_,rfl,MC _ _,VP.mk_tup3 (VP.mk_str _) (VP.mk_str _) (VP.mk_bool _)⟩
 ·cases h
theorem B28:B1 Tryz.prog GX 182 At4:=by
 refine B1.fix (pf:=HB) _ (Dv (fn:=Tryz.f182) (by kernel_rfl) (by kernel_rfl) (by kernel_rfl) ?_)
 intro args ret Hc h
 unfold HB at h
 split at h
 ·rename_i s p
  obtain ⟨h0,h⟩:=B4 h
  obtain ⟨rfl,rfl⟩:=H5 h
  refine ⟨rfl,rfl,λC hP hCG Γ w Vs hG hlt hc=>?_⟩
  obtain ⟨U,V,rfl,hu,hv⟩:=hc.arr2
  obtain ⟨s',rfl,rfl⟩:=hu.inv_str
  obtain ⟨p',rfl,hp⟩:=hv.inv_str
  obtain ⟨c,rfl⟩:∃ c,p=[c]:=by
   match p,h0 with
   | [c],_=>exact ⟨c,rfl⟩
  have hp':p'=⟨#[c]⟩:=by
   cases p' with
   | mk d=>congr 1;exact Array.toList_inj.1 hp
  subst hp'
  refine (Any.strings_Count_one Tryz.lays138 s' c w).mono ?_
  rintro e w' ⟨rfl,rfl⟩
  exact ⟨_,rfl,RowKit.Below.refl _ _,VP.mk_int _ _⟩
 ·cases h
end
section
open Go Go.Proofs
set_option maxRecDepth 100000
section
variable {σ R : Type} (lf : Nat) (cl : D7) (yh : Yh σ) (s : σ) (k : Out -> St σ -> Option R)
noncomputable def Ai1 {R:Type} (lf n:Nat) (l_m0:Nat) (n1 n2:Int) (l3:LL) (k0:Int->LL->Option R) (k1:Nat->LL->Option R):Option R:=match n with | 0=>none | n+1=>cond (ltI n2 n1) (cond (inR n2 l_m0) (cond (okE Dy l3 (0+(Int.toNat n2)) 0) (vl (gX l3 (0+(Int.toNat n2)) 0) λs'33=>cond (A1 s'33.length) (vl (↑((Bu3 s'33)).2:Int) λn'35=>cond (n'35 != 0) (k0 n'35 l3) (cond (inR n2 l_m0) (cond (decide ((0+(Int.toNat n2))<l3.length)) (vl (List.set l3 (0+(Int.toNat n2)) (F3 (List.getD l3 (0+(Int.toNat n2)) []) 0 [(SV.str ((Bu3 s'33)).1)])) λl'36=>Ai1 lf n l_m0 n1 (A2 (n2+1)) l'36 k0 k1) none) none)) none) none) none) (k1 l_m0 l3)
noncomputable abbrev Aa5:Code:=D3 Tryz.f131
noncomputable def Gu (lf:Nat):Cfg:=B8 lf [131] (A4 [(6,[0,1,0,1,10,0,0])]) [(170,As5),(161,As6)] (A4 [(13,[2]),(12,[0,3,0,2]),(11,[0,2,1,10,0,0]),(10,[0,2,1,10,0,0]),(9,[2]),(8,[0,2,1,1,8,0,0,8]),(7,[0,2,1,1,8,0,0]),(6,[0,2,1,10,0,0,0]),(5,[0,2,1,10,0,0]),(4,[0,2,1]),(3,[2]),(2,[0,2,11]),(1,[0,2,0]),(0,[0])]) [161] (A4 [(0,[0,2,1]),(1,[0,2,1,10,0,0])]) (some [2]) [] [] []
noncomputable def R4 {R:Type} (lf n:Nat) (s0:By) (points_z1:Bool) (points2:LL) (basic3:Bool) (n4 n5:Int) (k0:Unit->Option R) (k1:By->Bool->LL->Bool->Option R):Option R:=match n with | 0=>none | n+1=>cond (ltI n5 n4) (cond (inR n5 points2.length) (cond (okE Gk points2 (Int.toNat n5) 0) (vl (gE points2 (Int.toNat n5) 0) λn'1=>cond (not (ltI n'1 65)) (cond (not (ltI 90 n'1)) (k0 ()) (cond basic3 (R4 lf n s0 points_z1 points2 (ltI n'1 128) n4 (A2 (n5+1)) k0 k1) (R4 lf n s0 points_z1 points2 false n4 (A2 (n5+1)) k0 k1))) (cond basic3 (R4 lf n s0 points_z1 points2 (ltI n'1 128) n4 (A2 (n5+1)) k0 k1) (R4 lf n s0 points_z1 points2 false n4 (A2 (n5+1)) k0 k1))) none) none) (k1 s0 points_z1 points2 basic3)
theorem NX (n s0 points_z1 points2 basic3 n4 n5):E6 0 ((Gu lf).keep 6) (bd (Gu lf) cl yh (cd [1,1,1,1,0,1,0,0] Aa5)) n ⟨gp [(0,pS s0),(2,.s (.sl points_z1 points_z1 1 points2)),(1,pB basic3),(10,.s (.sl points_z1 points_z1 1 points2)),(0,pI n4),(0,pI n5)] 31,[],s⟩ k =
 R4 lf n s0 points_z1 points2 basic3 n4 n5 (λ_=>k .ret ⟨gp [(2,pB false)] 47,[],s⟩) (λs0 points_z1 points2 basic3=>k (.exit 0) ⟨gp [(0,pS s0),(2,.s (.sl points_z1 points_z1 1 points2)),(1,pB basic3)] 44,[],s⟩):=by
 induction n generalizing s0 points_z1 points2 basic3 n4 n5 with
 | zero=>rfl
 | succ n ih=>rw [R4];simp only [<-ih];kernel_rfl
noncomputable def Ac9 {R:Type} (lf:Nat) (s0:By) (k0:Bool->Option R):Option R:=cond (A1 s0.length) (cond ((↑((J8 s0)).2:Int) != 0) (k0 false) (R4 lf lf s0 (List.isEmpty ((J8 s0)).1) (Ss ((J8 s0)).1) true (↑(List.length (Ss ((J8 s0)).1)):Int) 0 (λ_=>k0 false) (λs'2 points_z'3 points'4 basic'5=>cond (List.all points'4 Ok) (vl ((Y9 (List.map elI points'4))).1 λs'8=>vl (↑((Y9 (List.map elI points'4))).2:Int) λn'9=>cond (not basic'5) (cond (n'9==0) (k0 (s'8==s'2)) (k0 false)) (k0 false)) none))) none
theorem A19 (d:Nat) (s0):evC (Gu lf) (d+1) σ yh 131 [pS s0] [] s=Ac9 lf s0 (λr0=>some (pB r0,[],s)):=by
 refine (evE (fn:=Tryz.f131) (by kernel_rfl)).trans ?_
 generalize evC (Gu lf) d=cl
 unfold Ac9;exact (Eq.trans (by kernel_rfl) (A0 (A0 rfl ((NX lf cl yh s (G8 0 (I4 (Gu lf) cl yh (cd [1,1,1,1,1] Aa5) (H4 (Gu lf) Tryz.f131))) lf s0 (List.isEmpty ((J8 s0)).1) (Ss ((J8 s0)).1) true (↑(List.length (Ss ((J8 s0)).1)):Int) 0).trans (by kernel_rfl))) rfl))
noncomputable abbrev Av0:Code:=D3 Tryz.f94
noncomputable def Me (lf:Nat):Cfg:=B8 lf [94] (A4 [(4,[0,1,26,0])]) [(130,Ar9),(131,ZR)] (A4 [(11,[2]),(10,[5,0]),(9,[0,28,0]),(8,[2]),(7,[0,28,0,28]),(6,[0,3,24,0]),(5,[0,2,25,0]),(4,[0,28,0,0]),(3,[0,28,0]),(2,[2]),(1,[0,26]),(0,[0])]) [130,131] (A4 [(0,[0]),(1,[0,28,0])]) (some [2]) [] [] []
noncomputable def N3 {R:Type} (lf n:Nat) (s0:By) (n1 n2:Int) (k0:Unit->Option R) (k1:By->Option R):Option R:=match n with | 0=>none | n+1=>cond (ltI n2 n1) (cond (inR n2 s0.length) (cond (not (ltI (bAt s0 n2) (97:Int))) (cond (not (not (ltI 122 (bAt s0 n2)))) (cond (not (ltI (bAt s0 n2) (48:Int))) (cond (not (not (ltI 57 (bAt s0 n2)))) (cond ((bAt s0 n2) != 45) (cond ((bAt s0 n2) != 95) (k0 ()) (N3 lf n s0 n1 (A2 (n2+1)) k0 k1)) (N3 lf n s0 n1 (A2 (n2+1)) k0 k1)) (N3 lf n s0 n1 (A2 (n2+1)) k0 k1)) (cond ((bAt s0 n2) != 45) (cond ((bAt s0 n2) != 95) (k0 ()) (N3 lf n s0 n1 (A2 (n2+1)) k0 k1)) (N3 lf n s0 n1 (A2 (n2+1)) k0 k1))) (N3 lf n s0 n1 (A2 (n2+1)) k0 k1)) (cond (not (ltI (bAt s0 n2) (48:Int))) (cond (not (not (ltI 57 (bAt s0 n2)))) (cond ((bAt s0 n2) != 45) (cond ((bAt s0 n2) != 95) (k0 ()) (N3 lf n s0 n1 (A2 (n2+1)) k0 k1)) (N3 lf n s0 n1 (A2 (n2+1)) k0 k1)) (N3 lf n s0 n1 (A2 (n2+1)) k0 k1)) (cond ((bAt s0 n2) != 45) (cond ((bAt s0 n2) != 95) (k0 ()) (N3 lf n s0 n1 (A2 (n2+1)) k0 k1)) (N3 lf n s0 n1 (A2 (n2+1)) k0 k1)))) none) (k1 s0)
theorem VO (n s0 n1 n2):E6 0 ((Me lf).keep 4) (bd (Me lf) cl yh (cd [1,1,0,1,0,0] Av0)) n ⟨gp [(0,pS s0),(28,pI n1),(0,pI n2)] 41,[],s⟩ k =
 N3 lf n s0 n1 n2 (λ_=>k .ret ⟨gp [(2,pB false)] 69,[],s⟩) (λs0=>k (.exit 0) ⟨gp [(0,pS s0)] 71,[],s⟩):=by
 induction n generalizing s0 n1 n2 with
 | zero=>rfl
 | succ n ih=>rw [N3];simp only [<-ih];kernel_rfl
noncomputable def Bj3 {R:Type} (lf:Nat) (s0:By) (k0:Bool->Option R):Option R:=cond (ltI (s0.length:Int) (1:Int)) (k0 false) (cond (ltI 63 (s0.length:Int)) (k0 false) (cond (inR 0 s0.length) (cond ((bAt s0 (0:Int))==45) (k0 false) (vl (A2 ((s0.length:Int)-1)) λn'1=>cond (inR n'1 s0.length) (cond ((bAt s0 n'1)==45) (k0 false) (N3 lf lf s0 (s0.length:Int) 0 (λ_=>k0 false) (λs'2=>cond (A1 s'2.length) (vl (Ye s'2 ([120,110,45,45]:List UInt8)) λs'3=>cond (not (List.isPrefixOf ([120,110,45,45]:List UInt8) s'2)) (k0 true) (cond (A1 s'3.length) (k0 (Al s'3)) none)) none))) none)) none))
theorem Bj4 (d:Nat) (s0):evC (Me lf) (d+1) σ yh 94 [pS s0] [] s=Bj3 lf s0 (λr0=>some (pB r0,[],s)):=by
 refine (evE (fn:=Tryz.f94) (by kernel_rfl)).trans ?_
 generalize evC (Me lf) d=cl
 unfold Bj3;exact (Eq.trans (by kernel_rfl) (A0 rfl (A0 rfl (A0 (A0 rfl (A8 λn'1=>(A0 (A0 rfl ((VO lf cl yh s (G8 0 (I4 (Me lf) cl yh (cd [1,1,1] Av0) (H4 (Me lf) Tryz.f94))) lf s0 (s0.length:Int) 0).trans (by kernel_rfl))) rfl))) rfl))))
noncomputable def SC (lf:Nat):Cfg:=B8 lf [39] (A4 []) [(59,BH)] (A4 [(9,[2]),(4,[2]),(6,[2]),(8,[2]),(7,[1,31]),(5,[1,1,1,16]),(3,[1,1,1,0]),(2,[1,1,1]),(1,[1,1]),(0,[1])]) [59] (A4 [(0,[])]) (some [2]) [] [] []
noncomputable def Ih {R:Type} (lf:Nat) (h0:Int) (h1:By) (h2 h3 h4 h5 h6 h7 h8 h9 h10:Int) (k0:Bool->Int->By->Int->Int->Int->Int->Int->Int->Int->Int->Int->LL->Option R):Option R:=cond (h0==1) (cond (A1 h1.length) (cond (C5 h1) (cond (h2==0) (k0 ((h3==0)&&((h4==0)&&((h5==0)&&((h6==0)&&((h7==0)&&((h8==0)&&((h9==0)&&((h10==0)&&true)))))))) h0 h1 h2 h3 h4 h5 h6 h7 h8 h9 h10 (List.replicate 8 [(SV.int .u16 (0:Int))])) (k0 false h0 h1 h2 h3 h4 h5 h6 h7 h8 h9 h10 (List.replicate 8 [(SV.int .u16 (0:Int))]))) (k0 false h0 h1 h2 h3 h4 h5 h6 h7 h8 h9 h10 (List.replicate 8 [(SV.int .u16 (0:Int))]))) none) (cond (h0==2) (cond (h1==[]) (k0 ((h3==0)&&((h4==0)&&((h5==0)&&((h6==0)&&((h7==0)&&((h8==0)&&((h9==0)&&((h10==0)&&true)))))))) h0 h1 h2 h3 h4 h5 h6 h7 h8 h9 h10 (List.replicate 8 [(SV.int .u16 (0:Int))])) (k0 false h0 h1 h2 h3 h4 h5 h6 h7 h8 h9 h10 (List.replicate 8 [(SV.int .u16 (0:Int))]))) (cond (h0==3) (cond (h1==[]) (k0 (h2==0) h0 h1 h2 h3 h4 h5 h6 h7 h8 h9 h10 (List.replicate 8 [(SV.int .u16 (0:Int))])) (k0 false h0 h1 h2 h3 h4 h5 h6 h7 h8 h9 h10 (List.replicate 8 [(SV.int .u16 (0:Int))]))) (k0 false h0 h1 h2 h3 h4 h5 h6 h7 h8 h9 h10 (List.replicate 8 [(SV.int .u16 (0:Int))]))))
theorem Bg9 (d:Nat) (h0 h1 h2 h3 h4 h5 h6 h7 h8 h9 h10):evC (SC lf) (d+1) σ yh 39 [.agg [pI h0,pS h1,p32 h2,p16 h3,p16 h4,p16 h5,p16 h6,p16 h7,p16 h8,p16 h9,p16 h10]] [] s=Ih lf h0 h1 h2 h3 h4 h5 h6 h7 h8 h9 h10 (λr0 n1 s2 n3 n4 n5 n6 n7 n8v n9 n10 n11 l12=>some (pB r0,[.box [pI n1,pS s2,p32 n3,p16 n4,p16 n5,p16 n6,p16 n7,p16 n8v,p16 n9,p16 n10,p16 n11],.arr false 26 1 l12],s)):=by
 refine (evE (fn:=Tryz.f39) (by kernel_rfl)).trans ?_
 generalize evC (SC lf) d=cl
 unfold Ih;kernel_rfl
end
theorem Yd {n m:Nat} (hnm:n<=m):∀ l:List Nat,(∀ p∈l,n<=p->m<=p)->l.countP (λp=>decide (p<m+1))=l.countP (λp=>decide (p<n))+l.countP (· == m)
 | [],_=>rfl
 | p::l,h=>by
  have ih:=Yd hnm l (λq hq=>h q (List.mem_cons_of_mem _ hq))
  have hp:=h p List.mem_cons_self
  grind
theorem Ay3 {n:Nat} {l:List Nat} (h:l.countP (λp=>decide (p<n))<l.length):∃ p∈l,n<=p:=by
 apply Classical.byContradiction
 intro hc
 have:l.countP (λp=>decide (p<n))=l.length:=by simp_all
 omega
theorem A34 (z t:Bool) (pts:List Nat) (basic:Nat) (hl:pts.length<=256) (hb:basic<=256) (hall:∀ p∈pts,p<=1114111):∀ (f n n':Nat) (s:LH),s.done=pts.countP (λp=>decide (p<n))->pts.length<=s.done+f->f<n'->s.delta<=300->s.bias<=500->s.out.length+20*(pts.length-s.done)<=80000->n<=1114112->
  ∀ (R:Type) (k0:LL->Option R),Bm LF n' z t (B3 pts) (basic:Int) (n:Int) (s.delta:Int) (s.bias:Int) (s.done:Int) (s.out.map F7) k0=k0 ((T6 pts basic f n s).out.map F7):=by
 intro f
 have hLF:=E5
 induction f with
 | zero=>
  intro n n' s hd hf hn h1 h2 h3 h4 R k0
  obtain ⟨n',rfl⟩:∃ m,n'=m+1:=⟨n'-1,by omega⟩
  rw [Bm]
  rw [B9,A7]
  rfl
 | succ f ih=>
  intro n n' s hd hf hn h1 h2 h3 h4 R k0
  obtain ⟨n',rfl⟩:∃ m,n'=m+1:=⟨n'-1,by omega⟩
  rw [Bm]
  rw [B9]
  have hcl:pts.countP (λp=>decide (p<n))<=pts.length:=List.countP_le_length
  by_cases hlt:s.done<pts.length
  ·obtain ⟨p0,hp0,hp1⟩:=Ay3 (n:=n) (l:=pts) (by omega)
   obtain ⟨g1,g2,g3⟩:=Ei n pts 1114112
   have g4:=g3 p0 hp0 hp1
   have g5:=hall p0 hp0
   have hmem:G9 n pts 1114112∈pts/\n<=G9 n pts 1114112:=by grind
   have he:T6 pts basic (f+1) n s=T6 pts basic f (G9 n pts 1114112+1) { F8 (G9 n pts 1114112) basic pts { s with delta:=s.delta+(G9 n pts 1114112-n)*(s.done+1) } with delta:=(F8 (G9 n pts 1114112) basic pts { s with delta:=s.delta+(G9 n pts 1114112-n)*(s.done+1) }).delta+1 }:=by
    rw [T6,if_pos hlt]
   rw [he,A9,cond_true]
   have hleast:=λ(K:Bool->Bool->LL->Int->Int->Int->Int->Int->Int->LL->Option R)=>WN (k0:=K) z t pts hl n (basic:Int) (s.delta:Int) (s.bias:Int) (s.done:Int) (s.out.map F7) pts.length 0 LF 1114112 (by omega) (by omega)
   rw [List.drop_zero] at hleast
   refine Eq.trans (hleast _) ?_
   generalize G9 n pts 1114112=m at *
   have hmul:(m-n)*(s.done+1)<=1114112*256:=Nat.mul_le_mul (by omega) (by omega)
   have e1:A2 ((s.done:Int)+1)=((s.done+1:Nat):Int):=by rw [A5];rfl
   have e2:A2 ((m:Int)-(n:Int))=((m-n:Nat):Int):=by rw [A5];omega
   have e3:A2 (((m-n:Nat):Int)*((s.done+1:Nat):Int))=(((m-n)*(s.done+1):Nat):Int):=by
    rw [<-Int.natCast_mul]
    exact A5
   have e4:A2 ((s.delta:Int)+(((m-n)*(s.done+1):Nat):Int))=((s.delta+(m-n)*(s.done+1):Nat):Int):=by
    rw [A5];rfl
   simp only [vl,e1,e2,e3,e4]
   have hin:=Bl3 z t pts basic m (by omega) hl pts.length 0 LF { s with delta:=s.delta+(m-n)*(s.done+1) } (by omega) (by omega) (by simp only;omega) h2 (by simp only;omega) (by simp only;omega) hb
   rw [List.drop_zero] at hin
   obtain ⟨q1,q2,q3,q4,q5⟩:=hin
   rw [B9]
   refine Eq.trans (q1 R _) ?_
   have hcnt:0<pts.countP (· == m):=List.countP_pos_iff.2 ⟨m,hmem.1,by simp⟩
   rw [if_pos hcnt] at q5
   have hstep:=Yd hmem.2 pts g3
   generalize F8 m basic pts { s with delta:=s.delta+(m-n)*(s.done+1) } = s' at *
   simp only at q3 q4
   have e5:A2 ((s'.delta:Int)+1)=((s'.delta+1:Nat):Int):=by rw [A5];rfl
   have e6:A2 ((m:Int)+1)=((m+1:Nat):Int):=by rw [A5];rfl
   have hcl2:pts.countP (λp=>decide (p<m+1))<=pts.length:=List.countP_le_length
   simp only [e5,e6]
   exact ih (m+1) n' { s' with delta:=s'.delta+1 } (by simp only;omega) (by simp only;omega) (by omega) (by simp only;omega) q2 (by simp only;omega) (by omega) R k0
  ·rw [A7]
   rw [T6,if_neg hlt]
   rfl
def Q2 (l:List Int):By:=(l.filter λx=>decide (x<128)).map λx=>UInt8.ofNat x.toNat
theorem A86 (x:Int) (h0:0<=x) (h:x<128):[SV.int .u8 (wu8 x)]=F7 (UInt8.ofNat x.toNat):=by
 unfold F7
 have e:wu8 x=x:=by unfold wu8;exact Int.emod_eq_of_lt h0 (show x<256 by omega)
 rw [e]
 have:((UInt8.ofNat x.toNat).toNat:Int)=x:=by simp;omega
 rw [this]
theorem Mu {x:Int} (h:ptI x=true):0<=x/\x<=1114111:=by
 cases x with
 | negSucc m=>cases h
 | ofNat m=>
  have:R0 m=true:=h
  unfold R0 at this
  simp only [Bool.and_eq_true,Nat.ble_eq] at this
  grind
theorem WI (z t:Bool) (P:List Int) (hl:P.length<=256):∀ (r i n:Nat) (out:By),i+r=P.length->r<n->out.length+r<=1000->
  ((P.drop i).all ptI=true->∀ (R:Type) (k0:LL->Option R) (k1:Bool->Bool->LL->LL->Option R),O8 LF n z t (U8 P) (P.length:Int) (i:Int) (out.map F7) k0 k1=k1 z t (U8 P) ((out++Q2 (P.drop i)).map F7))/\
  ((P.drop i).all ptI=false->∃ l,∀ (R:Type) (k0:LL->Option R) (k1:Bool->Bool->LL->LL->Option R),O8 LF n z t (U8 P) (P.length:Int) (i:Int) (out.map F7) k0 k1=k0 l):=by
 intro r
 induction r with
 | zero=>
  intro i n out hi hn ho
  obtain ⟨n,rfl⟩:∃ m,n=m+1:=⟨n-1,by omega⟩
  rw [List.drop_of_length_le (by omega)]
  refine ⟨λ_ R k0 k1=>?_,λh=>(by cases h)⟩
  rw [O8]
  rw [A7]
  simp [Q2]
 | succ r ih=>
  intro i n out hi hn ho
  obtain ⟨n,rfl⟩:∃ m,n=m+1:=⟨n-1,by omega⟩
  have hg:=UK P i (by omega)
  have ok:=JV (l:=P) (i:=i) (by omega)
  rw [MQ P i (by omega)]
  generalize P.getD i 0=x at *
  have e1:A2 ((i:Int)+1)=((i+1:Nat):Int):=by rw [A5];rfl
  cases hx:ptI x with
  | false=>
   refine ⟨λh=>?_,λ_=>⟨out.map F7,λR k0 k1=>?_⟩⟩
   ·rw [List.all_cons,hx] at h;cases h
   ·rw [O8]
    rw [A9,P5,L5,Int.toNat_natCast,ok]
    simp only [cond_true,vl,hg,hx,Bool.not_false]
  | true=>
   obtain ⟨p0,p1⟩:=Mu hx
   rw [List.all_cons,hx,Bool.true_and]
   by_cases h128:x<128
   ·have hbs:Q2 (x::P.drop (i+1))=UInt8.ofNat x.toNat::Q2 (P.drop (i+1)):=by
     unfold Q2;rw [List.filter_cons_of_pos (by simpa using h128)];rfl
    have hrow:out.map F7++[[SV.int .u8 (wu8 x)]]=(out++[UInt8.ofNat x.toNat]).map F7:=by rw [A86 x p0 h128];simp
    obtain ⟨q1,q2⟩:=ih (i+1) n (out++[UInt8.ofNat x.toNat]) (by omega) (by omega) (by simp;omega)
    have step:∀ (R:Type) (k0:LL->Option R) (k1:Bool->Bool->LL->LL->Option R),O8 LF (n+1) z t (U8 P) (P.length:Int) (i:Int) (out.map F7) k0 k1=O8 LF n z t (U8 P) (P.length:Int) ((i+1:Nat):Int) ((out++[UInt8.ofNat x.toNat]).map F7) k0 k1:=by
     intro R k0 k1
     rw [O8]
     rw [A9,P5,L5,Int.toNat_natCast,ok]
     simp only [cond_true,vl,hg,hx,Bool.not_true,cond_false,e1]
     rw [C6 h128,List.length_map,G2 (by omega),hrow]
     rfl
    refine ⟨λh R k0 k1=>?_,λh=>?_⟩
    ·rw [step,q1 h,hbs];simp
    ·obtain ⟨l,e⟩:=q2 h
     exact ⟨l,λR k0 k1=>by rw [step];exact e R k0 k1⟩
   ·have hbs:Q2 (x::P.drop (i+1))=Q2 (P.drop (i+1)):=by
     unfold Q2;rw [List.filter_cons_of_neg (by simpa using h128)]
    obtain ⟨q1,q2⟩:=ih (i+1) n out (by omega) (by omega) (by omega)
    have step:∀ (R:Type) (k0:LL->Option R) (k1:Bool->Bool->LL->LL->Option R),O8 LF (n+1) z t (U8 P) (P.length:Int) (i:Int) (out.map F7) k0 k1=O8 LF n z t (U8 P) (P.length:Int) ((i+1:Nat):Int) (out.map F7) k0 k1:=by
     intro R k0 k1
     rw [O8]
     rw [A9,P5,L5,Int.toNat_natCast,ok]
     simp only [cond_true,vl,hg,hx,Bool.not_true,cond_false,e1]
     rw [A7]
     rfl
    refine ⟨λh R k0 k1=>?_,λh=>?_⟩
    ·rw [step,q1 h,hbs]
    ·obtain ⟨l,e⟩:=q2 h
     exact ⟨l,λR k0 k1=>by rw [step];exact e R k0 k1⟩
theorem Ae0 {P:List Int} (h:P.all ptI=true):∃ pts:List Nat,P=pts.map (λn:Nat=>(n:Int))/\pts.all R0=true/\∀ p∈pts,p<=1114111:=by
 induction P with
 | nil=>exact ⟨[],rfl,rfl,by simp⟩
 | cons x P ih=>
  rw [List.all_cons,Bool.and_eq_true] at h
  obtain ⟨pts,rfl,h1,h2⟩:=ih h.2
  obtain ⟨p0,p1⟩:=Mu h.1
  obtain ⟨m,rfl⟩:=Int.eq_ofNat_of_zero_le p0
  refine ⟨m::pts,rfl,?_,?_⟩
  ·rw [List.all_cons,h1,Bool.and_true];exact h.1
  grind
theorem Xq (pts:List Nat):Q2 (pts.map λn:Nat=>(n:Int))=F6 pts:=by
 unfold Q2 F6
 induction pts with
 | nil=>rfl
 | cons p r ih=>
  grind
theorem Xp (pts:List Nat):(F6 pts).length=pts.countP (λp=>decide (p<128)):=by
 unfold F6
 grind
theorem WJ (z t:Bool) (P:List Int):(Y9 P=([],3)/\∀ (R:Type) (k0:Unit->Option R) (k1:By->Int->LL->Option R),OG LF z t (U8 P) k0 k1=k0 ())\/
  (∃ l,∀ (R:Type) (k0:Unit->Option R) (k1:By->Int->LL->Option R),OG LF z t (U8 P) k0 k1=k1 (Y9 P).1 ((Y9 P).2:Nat) l):=by
 have hLF:=E5
 by_cases hl:256<P.length
 ·refine .inl ⟨by unfold Y9;rw [if_pos hl],λR k0 k1=>?_⟩
  unfold OG
  rw [P5,A9]
  rfl
 ·right
  obtain ⟨q1,q2⟩:=WI z t P (by omega) P.length 0 LF [] (by omega) (by omega) (by simp;omega)
  rw [List.drop_zero] at q1 q2
  cases ha:P.all ptI with
  | false=>
   obtain ⟨l,e⟩:=q2 ha
   refine ⟨l,λR k0 k1=>?_⟩
   unfold OG
   rw [P5,A7,cond_false]
   refine Eq.trans (e R _ _) ?_
   unfold Y9
   rw [if_neg hl,ha]
   rfl
  | true=>
   obtain ⟨pts,rfl,hp1,hp2⟩:=Ae0 ha
   rw [List.length_map] at hl
   have hen:Y9 (pts.map λn:Nat=>(n:Int))=Gx pts:=by
    unfold Y9
    rw [List.length_map,if_neg hl,ha]
    simp [Function.comp_def]
   have hbl:=Xp pts
   have hbc:pts.countP (λp=>decide (p<128))<=pts.length:=List.countP_le_length
   have main:∀ (o:By),o.length<=300->∀ (R:Type) (k0:LL->Option R),Bm LF LF z t (B3 pts) ((F6 pts).length:Int) 128 0 72 ((F6 pts).length:Int) (o.map F7) k0=k0 ((T6 pts (F6 pts).length 256 128 { delta:=0,bias:=72,done:=(F6 pts).length,out:=o }).out.map F7):=by
    intro o ho R k0
    exact A34 z t pts (F6 pts).length (by omega) (by omega) hp2 256 128 LF { delta:=0,bias:=72,done:=(F6 pts).length,out:=o } hbl (by simp only;omega) (by omega) (by simp) (by simp) (by simp only;omega) (by omega) R k0
   have he2:Gx pts=((T6 pts (F6 pts).length 256 128 { delta:=0,bias:=72,done:=(F6 pts).length,out:=if (F6 pts).isEmpty then [] else F6 pts++[45] }).out,0):=by
    unfold Gx
    grind
   refine ⟨(Gx pts).1.map F7,λR k0 k1=>?_⟩
   unfold OG
   rw [P5,List.length_map,A7,cond_false,hen]
   have q1':=q1 ha R
   rw [List.length_map] at q1'
   refine Eq.trans (q1' _ _) ?_
   rw [List.nil_append,Xq,Kn]
   simp only [vl,List.length_map]
   by_cases hbe:F6 pts=[]
   ·rw [hbe,List.length_nil,A7,cond_false]
    have mm:=main [] (by simp) R
    rw [hbe,List.length_nil] at mm
    rw [List.map_nil] at mm
    refine Eq.trans (mm _) ?_
    rw [hbe] at he2
    rw [he2]
    simp only [List.isEmpty_nil,if_true,List.length_nil]
    rw [Nf,Ot]
    rfl
   ·have hpos:0<(F6 pts).length:=List.length_pos_iff.2 hbe
    rw [A9,cond_true,G2 (by omega),cond_true]
    have hrow:(F6 pts).map F7++[[SV.int .u8 (45:Int)]]=(F6 pts++[45]).map F7:=by rw [List.map_append];rfl
    rw [hrow]
    refine Eq.trans (main (F6 pts++[45]) (by simp;omega) R _) ?_
    rw [he2,if_neg (by simpa using hbe)]
    rw [Nf,Ot]
    rfl
theorem Bl4 (z t:Bool) (p:LL) (h0:p.all Ok=true):∃ r H,OG LF z t p (λ_=>rv (.tup [.s (.str []),.s (.int .i64 3)]) []) (λr0 r1 l=>rv (.tup [.s (.str r0),.s (.int .i64 r1)]) [.arr true 5 1 l])=rv r H/\
  r.stab [0,0] H = .tup [.s (.str (Y9 (p.map elI)).1),.s (.int .i64 ((Y9 (p.map elI)).2:Nat))]:=by
 obtain ⟨P,rfl⟩:=Ab8 h0
 rw [MR]
 rcases WJ z t P with ⟨h1,h2⟩ | ⟨l,h2⟩
 ·exact ⟨_,_,h2 _ _ _,by rw [h1];rfl⟩
 ·exact ⟨_,_,h2 _ _ _,rfl⟩
theorem A06 (l:List Nat) (i n:Nat):Hb (B3 l) i (n:Int)=B3 (P6 l i n):=by
 unfold Hb P6 B3
 simp_all
theorem JT (b:Nat) (s:By) (i:Nat):Zd (b:Int) s (i:Int)=((C2 b s i 1 0).2.2:Int)/\((C2 b s i 1 0).2.2=0->Ze (b:Int) s (i:Int)=(C2 b s i 1 0).2.1/\Ms (b:Int) s (i:Int)=((C2 b s i 1 0).1:Int)):=by
 obtain ⟨h1,h2⟩:=Oc b s i 1 0
 have e:O5 (b:Int) s (i:Int) 1 0=O5 (b:Int) s (i:Int) ((1:Nat):Int) ((36*0:Nat):Int):=rfl
 unfold Zd Ze Ms
 rw [e]
 refine ⟨by rw [h1],λh=>?_⟩
 have:=h2 h
 rw [this]
 exact ⟨rfl,rfl⟩
theorem B45 (s:By) (pts:List Nat) (n i b:Nat) (st:Bool) (h:(C2 b s i 1 0).2.2=0) (hi:i<=(C2 b s i 1 0).1) (hp:R0 (n+(C2 b s i 1 0).1 / (pts.length+1))=true) (hc:¬ 256<pts.length+1) :
  D0 ⟨s,(n:Int),(i:Int),(b:Int),st,B3 pts⟩=(0,⟨(C2 b s i 1 0).2.1,((n+(C2 b s i 1 0).1 / (pts.length+1):Nat):Int),(((C2 b s i 1 0).1 % (pts.length+1)+1:Nat):Int),((M0 ((C2 b s i 1 0).1-i) (pts.length+1) (!st):Nat):Int),true,B3 (P6 pts ((C2 b s i 1 0).1 % (pts.length+1)) (n+(C2 b s i 1 0).1 / (pts.length+1)))⟩):=by
 obtain ⟨h1,h2⟩:=JT b s i
 obtain ⟨h3,h4⟩:=h2 h
 unfold D0
 simp only
 rw [h1,h,if_pos (show ((0:Nat):Int)=0 from rfl),h3,h4,B9]
 generalize (C2 b s i 1 0).1=X at *
 have ec:((pts.length:Int)+1)=((pts.length+1:Nat):Int):=rfl
 have ed:Int.tdiv (X:Int) ((pts.length+1:Nat):Int)=((X / (pts.length+1):Nat):Int):=K3 _ _
 have em:Int.tmod (X:Int) ((pts.length+1:Nat):Int)=((X % (pts.length+1):Nat):Int):=Gm _ _
 have en:(n:Int)+((X / (pts.length+1):Nat):Int)=((n+X / (pts.length+1):Nat):Int):=rfl
 rw [ec,ed,em,en,Hm,hp,if_pos rfl,G7,Int.toNat_natCast,A06,Int.toNat_natCast,show ((X:Int)-(i:Int)).toNat=X-i by omega]
 rfl
theorem Bw2 (s:By) (pts:List Nat) (n i b:Nat) (st:Bool):((C2 b s i 1 0).2.2≠0->(D0 ⟨s,(n:Int),(i:Int),(b:Int),st,B3 pts⟩).1=((C2 b s i 1 0).2.2:Int))/\
  ((C2 b s i 1 0).2.2=0->R0 (n+(C2 b s i 1 0).1 / (pts.length+1))=false->(D0 ⟨s,(n:Int),(i:Int),(b:Int),st,B3 pts⟩).1=2)/\
  ((C2 b s i 1 0).2.2=0->R0 (n+(C2 b s i 1 0).1 / (pts.length+1))=true->256<pts.length+1->(D0 ⟨s,(n:Int),(i:Int),(b:Int),st,B3 pts⟩).1=3):=by
 obtain ⟨h1,h2⟩:=JT b s i
 have ec:(((B3 pts).length:Int)+1)=((pts.length+1:Nat):Int):=by rw [B9];rfl
 have ed:∀ X:Nat,Int.tdiv (X:Int) ((pts.length+1:Nat):Int)=((X / (pts.length+1):Nat):Int):=λX=>K3 _ _
 have en:∀ A:Nat,(n:Int)+(A:Int)=((n+A:Nat):Int):=λA=>rfl
 refine ⟨λh=>?_,λh hp=>?_,λh hp hc=>?_⟩
 ·unfold D0
  simp only
  rw [h1,G7]
 ·obtain ⟨h3,h4⟩:=h2 h
  unfold D0
  simp only
  rw [h1,h,if_pos (show ((0:Nat):Int)=0 from rfl),h4,ec,ed,en,Hm,hp,if_neg (by simp)]
 ·obtain ⟨h3,h4⟩:=h2 h
  unfold D0
  simp only
  rw [h1,h,if_pos (show ((0:Nat):Int)=0 from rfl),h4,ec,ed,en,Hm,hp,if_pos rfl,Ge]
theorem Z7 (pts:List Nat) (n i b:Nat) (f:Bool):F0 [] pts n i b f=(pts,0):=by rw [F0];rfl
theorem Cw {s:By} (hs:s≠[]) (pts:List Nat) (n i b:Nat) (f:Bool) (h:(C2 b s i 1 0).2.2≠0):F0 s pts n i b f=([],(C2 b s i 1 0).2.2):=by
 rw [F0,dif_neg hs]
 grind
theorem Ar {s:By} (hs:s≠[]) (pts:List Nat) (n i b:Nat) (f:Bool) (h:(C2 b s i 1 0).2.2=0):F0 s pts n i b f =
  if R0 (n+(C2 b s i 1 0).1 / (pts.length+1)) then (if 256<pts.length+1 then ([],3) else F0 (C2 b s i 1 0).2.1 (P6 pts ((C2 b s i 1 0).1 % (pts.length+1)) (n+(C2 b s i 1 0).1 / (pts.length+1))) (n+(C2 b s i 1 0).1 / (pts.length+1)) ((C2 b s i 1 0).1 % (pts.length+1)+1) (M0 ((C2 b s i 1 0).1-i) (pts.length+1) f) false) else ([],2):=by
 rw [F0,dif_neg hs]
 simp only
 rw [dif_pos h]
theorem V9 (l:List Nat) (i n:Nat):(P6 l i n).length=l.length+1:=by
 unfold P6
 grind
theorem Al8:∀ (r:Nat) (s:By) (pts:List Nat) (n i b f:Nat) (st:Bool),s.length<=r->r<f->s.length<=1000000->pts.length<=256->n<=1114111->i<=1000->b<=500->
  ((F0 s pts n i b (!st)).2=0->∃ s' n' i' b' st',∀ (R:Type) (k0:Int->LL->By->Int->Int->Int->Bool->Option R) (k1:LL->By->Int->Int->Int->Bool->Option R),N8 LF f (B3 pts) s (n:Int) (i:Int) (b:Int) st k0 k1=k1 (B3 (F0 s pts n i b (!st)).1) s' n' i' b' st')/\
  ((F0 s pts n i b (!st)).2≠0->(F0 s pts n i b (!st)).1=[]/\∃ l s' n' i' b' st',∀ (R:Type) (k0:Int->LL->By->Int->Int->Int->Bool->Option R) (k1:LL->By->Int->Int->Int->Bool->Option R),N8 LF f (B3 pts) s (n:Int) (i:Int) (b:Int) st k0 k1=k0 ((F0 s pts n i b (!st)).2:Nat) l s' n' i' b' st'):=by
 intro r
 induction r with
 | zero=>
  intro s pts n i b f st h hf _ _ _ _ _
  obtain ⟨f,rfl⟩:∃ m,f=m+1:=⟨f-1,by omega⟩
  have hs:s=[]:=List.length_eq_zero_iff.1 (by omega)
  subst hs
  rw [Z7]
  refine ⟨λ_=>⟨[],n,i,b,st,λR k0 k1=>?_⟩,λh=>absurd rfl h⟩
  rw [N8]
  rfl
 | succ r ih=>
  intro s pts n i b f st h hf h1 h2 h3 h4 h5
  obtain ⟨f,rfl⟩:∃ m,f=m+1:=⟨f-1,by omega⟩
  by_cases hs:s=[]
  ·subst hs
   rw [Z7]
   refine ⟨λ_=>⟨[],n,i,b,st,λR k0 k1=>?_⟩,λh=>absurd rfl h⟩
   rw [N8]
   rfl
  ·have start:∀ (R:Type) (k0:Int->LL->By->Int->Int->Int->Bool->Option R) (k1:LL->By->Int->Int->Int->Bool->Option R),N8 LF (f+1) (B3 pts) s (n:Int) (i:Int) (b:Int) st k0 k1 =
     cond ((D0 ⟨s,n,i,b,st,B3 pts⟩).1 != 0) (k0 (D0 ⟨s,n,i,b,st,B3 pts⟩).1 (D0 ⟨s,n,i,b,st,B3 pts⟩).2.l (D0 ⟨s,n,i,b,st,B3 pts⟩).2.rest (D0 ⟨s,n,i,b,st,B3 pts⟩).2.n (D0 ⟨s,n,i,b,st,B3 pts⟩).2.i (D0 ⟨s,n,i,b,st,B3 pts⟩).2.b (D0 ⟨s,n,i,b,st,B3 pts⟩).2.st)
      (N8 LF f (D0 ⟨s,n,i,b,st,B3 pts⟩).2.l (D0 ⟨s,n,i,b,st,B3 pts⟩).2.rest (D0 ⟨s,n,i,b,st,B3 pts⟩).2.n (D0 ⟨s,n,i,b,st,B3 pts⟩).2.i (D0 ⟨s,n,i,b,st,B3 pts⟩).2.b (D0 ⟨s,n,i,b,st,B3 pts⟩).2.st k0 k1):=by
    intro R k0 k1
    rw [N8]
    rw [show (s==([]:By))=false from beq_eq_false_iff_ne.2 hs,Ae9,L6,L6,L6,B9,Nat.ble_eq_true_of_le (show pts.length<=100000 by omega)]
    rfl
   obtain ⟨d1,d2,d3⟩:=Bw2 s pts n i b st
   have hok:=B45 s pts n i b st
   generalize D0 ⟨s,n,i,b,st,B3 pts⟩=D at *
   by_cases he:(C2 b s i 1 0).2.2=0
   ·rw [Ar hs pts n i b (!st) he]
    obtain ⟨m1,m2⟩:=JT b s i
    obtain ⟨m3,m4⟩:=m2 he
    have hE:Zd (b:Int) s (i:Int)=0:=by rw [m1,he];rfl
    obtain ⟨q1,q2,q3⟩:=Ob b s i 1 0 (by omega) (by omega) (by omega) hE
    have q1':(i:Int)<=Ms (b:Int) s (i:Int):=q1
    have q2':Ms (b:Int) s (i:Int)<=1099511627776:=q2
    have q3':(Ze (b:Int) s (i:Int)).length<s.length:=q3
    rw [m4] at q1' q2'
    rw [m3] at q3'
    cases hp:R0 (n+(C2 b s i 1 0).1 / (pts.length+1)) with
    | false=>
     rw [if_neg (by simp)]
     refine ⟨λh=>by simp at h,λ_=>⟨rfl,D.2.l,D.2.rest,D.2.n,D.2.i,D.2.b,D.2.st,λR k0 k1=>?_⟩⟩
     ·rw [start,d2 he hp]
      rfl
    | true=>
     rw [if_pos rfl]
     by_cases hc:256<pts.length+1
     ·rw [if_pos hc]
      refine ⟨λh=>by simp at h,λ_=>⟨rfl,D.2.l,D.2.rest,D.2.n,D.2.i,D.2.b,D.2.st,λR k0 k1=>?_⟩⟩
      rw [start,d3 he hp hc]
      rfl
     ·rw [if_neg hc]
      have hok:=hok he (by omega) hp hc
      have hn':n+(C2 b s i 1 0).1 / (pts.length+1)<=1114111:=by
       unfold R0 at hp
       simp_all
      have hmod:=Nat.mod_lt (C2 b s i 1 0).1 (show 0<pts.length+1 by omega)
      have had:=Im ((C2 b s i 1 0).1-i) (pts.length+1) (!st) (by omega)
      have:=ih (C2 b s i 1 0).2.1 (P6 pts ((C2 b s i 1 0).1 % (pts.length+1)) (n+(C2 b s i 1 0).1 / (pts.length+1))) (n+(C2 b s i 1 0).1 / (pts.length+1)) ((C2 b s i 1 0).1 % (pts.length+1)+1) (M0 ((C2 b s i 1 0).1-i) (pts.length+1) (!st)) f true (by omega) (by omega) (by omega) (by rw [V9];omega) hn' (by omega) had
      obtain ⟨p1,p2⟩:=this
      refine ⟨λh=>?_,λh=>?_⟩
      ·obtain ⟨s',n',i',b',st',e⟩:=p1 h
       refine ⟨s',n',i',b',st',λR k0 k1=>?_⟩
       rw [start,hok]
       exact e R k0 k1
      ·obtain ⟨pe,l,s',n',i',b',st',e⟩:=p2 h
       refine ⟨pe,l,s',n',i',b',st',λR k0 k1=>?_⟩
       rw [start,hok]
       exact e R k0 k1
   ·rw [Cw hs pts n i b (!st) he]
    refine ⟨λh=>absurd h he,λ_=>⟨rfl,D.2.l,D.2.rest,D.2.n,D.2.i,D.2.b,D.2.st,λR k0 k1=>?_⟩⟩
    rw [start,d1 he,show (((C2 b s i 1 0).2.2:Int) != 0)=true by rw [bne_iff_ne];omega]
    rfl
end
end Go.Proofs.YtelhbgonncceeaaGreatDoor.E
