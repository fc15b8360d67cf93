/-
  Parts of the proof, merged by a program of the prover's own; no condition.
-/
import Derived.Test.YtelhbgonncceeaaGreatDoorKCB3
import Derived.Lib.TrimUEq
import Derived.Lib.ValidLaws
import Derived.Shelf.LaysM
import Derived.Shelf.Small.Strs
import Derived.Shelf.Spec.SlicesInsert
import Derived.Shelf.Spec.SlicesInsertGrow
import Derived.Shelf.Spec.TrailingZeros
import Derived.Shelf.Strconv.Itoa3
import Derived.Shelf.Strings.Count
import Derived.Shelf.Strings.Cut
import Derived.Shelf.Strings.IndexAnyAll
import Derived.Shelf.Strings.LastIndex
import Derived.Shelf.Strings.OnBuilder
import Derived.Shelf.Strings.Search3
import Derived.Shelf.Unicode.ValidAny
import Derived.Shelf.Utf8.RuneCount
import Derived.Test.YtelhbgonncceeaaGreatDoorProg
namespace Go.Proofs.YtelhbgonncceeaaGreatDoor.E
set_option linter.all false
section
open Go Go.Proofs
theorem Pm (k b:Nat):H9 ((36*k:Nat):Int) (b:Int)=(thr k b:Int):=by
 unfold H9 thr
 omega
theorem Ai1 {R:Type} {k0:Int->Option R} (b:Int):Bs6 LF b k0=k0 b:=rfl
theorem VB {R:Type} {k0:Int->Int->Int->Option R} (k b:Int) (h0:ltN k 1000000000000=true) (h1:ltN b 1000000=true):ZX LF k b k0=k0 (H9 k b) (Int.add k 36) b:=by
 obtain ⟨a0,a1⟩:=I3.1 h0
 obtain ⟨b0,b1⟩:=I3.1 h1
 unfold ZX
 have e1:A1 (k+36)=k+36:=A5
 have e2:A1 (k+36-b)=k+36-b:=A5
 simp only [vl,e1,e2]
 have:(if (26:Int)<(if (1:Int) > k+36-b then (1:Int) else k+36-b) then (26:Int) else (if (1:Int) > k+36-b then (1:Int) else k+36-b))=H9 k b:=by
  unfold H9
  omega
 grind
theorem Jt {q k b:Nat} (h:q<thr k b):L0 q k b=[T6 q]:=by rw [L0,dif_pos h]
theorem Ri {q k b:Nat} (h:¬ q<thr k b):L0 q k b=T6 (thr k b+(q-thr k b) % (36-thr k b))::L0 ((q-thr k b) / (36-thr k b)) (k+1) b:=by rw [L0,dif_neg h]
theorem HZ {x y m:Nat} (hy:10<=y) (h:x<10*m):x / y<m:=by
 have h1:x / y<=x / 10:=Nat.div_le_div_left hy (by omega)
 omega
theorem SX (b:Nat):∀ (r q k:Nat),q<10 ^ r->(L0 q k b).length<=r+1:=by
 intro r
 induction r with
 | zero=>
  intro q k h
  have ht:=P6 k b
  rw [Jt (by simp at h;omega)]
  simp
 | succ r ih=>
  intro q k h
  have ht:=P6 k b
  by_cases hq:q<thr k b
  ·rw [Jt hq];simp
  ·rw [Ri hq,List.length_cons]
   have:=ih ((q-thr k b) / (36-thr k b)) (k+1) (HZ (by omega) (by rw [Nat.pow_succ] at h;omega))
   omega
theorem Ah1 (z:Bool) (b:Nat) (hb:b<1000000):∀ (r q k n:Nat) (l:LL),q<10 ^ r->q<1152921504606846976->k+r<=1000->r<n->l.length+r<=200000->
  ∃ (n2 n3:Int),∀ (R:Type) (k0:Bool->LL->Int->Int->Option R),Dz LF n (q:Int) z l (b:Int) ((36*k:Nat):Int) k0=k0 z (l++(L0 q k b).map F5) n2 n3:=by
 have fin:∀ (q k n:Nat) (l:LL),q<thr k b->k<=1000->l.length<=200000->∃ (n2 n3:Int),∀ (R:Type) (k0:Bool->LL->Int->Int->Option R),Dz LF (n+1) (q:Int) z l (b:Int) ((36*k:Nat):Int) k0=k0 z (l++(L0 q k b).map F5) n2 n3:=by
  intro q k n l hq hk hl
  have ht:=P6 k b
  refine ⟨(b:Int),Int.add ((36*k:Nat):Int) 36,λR k0=>?_⟩
  rw [Dz]
  rw [L2,L2,Pm,A9,L2,Jt hq]
  simp only [vl,cond_true,Int.toNat_natCast]
  rw [G1 (by omega)]
  rfl
 intro r
 induction r with
 | zero=>
  intro q k n l h _ hk hn hl
  have ht:=P6 k b
  obtain ⟨n,rfl⟩:∃ m,n=m+1:=⟨n-1,by omega⟩
  exact fin q k n l (by simp at h;omega) (by omega) (by omega)
 | succ r ih=>
  intro q k n l h hq60 hk hn hl
  have ht:=P6 k b
  obtain ⟨n,rfl⟩:∃ m,n=m+1:=⟨n-1,by omega⟩
  by_cases hq:q<thr k b
  ·exact fin q k n l hq (by omega) (by omega)
  ·have hd:(q-thr k b) / (36-thr k b)<10 ^ r:=HZ (by omega) (by rw [Nat.pow_succ] at h;omega)
   have hd2:(q-thr k b) / (36-thr k b)<=q:=Nat.le_trans (Nat.div_le_self _ _) (by omega)
   have hm2:(q-thr k b) % (36-thr k b)<36-thr k b:=Nat.mod_lt _ (by omega)
   obtain ⟨n2,n3,e⟩:=ih ((q-thr k b) / (36-thr k b)) (k+1) n (l++[F5 (T6 (thr k b+(q-thr k b) % (36-thr k b)))]) hd (by omega) (by omega) (by omega) (by rw [List.length_append,List.length_singleton];omega)
   refine ⟨n2,n3,λR k0=>?_⟩
   rw [Dz]
   have c1:A1 ((q:Int)-(thr k b:Int))=((q-thr k b:Nat):Int):=by rw [A5];omega
   have c2:A1 ((36:Int)-(thr k b:Int))=((36-thr k b:Nat):Int):=by rw [A5];omega
   have c3:Int.tmod ((q-thr k b:Nat):Int) ((36-thr k b:Nat):Int)=(((q-thr k b) % (36-thr k b):Nat):Int):=Fy _ _
   have c4:Int.tdiv ((q-thr k b:Nat):Int) ((36-thr k b:Nat):Int)=(((q-thr k b) / (36-thr k b):Nat):Int):=K2 _ _
   have c7:((((36-thr k b:Nat):Int)) != 0)=true:=by rw [bne_iff_ne];omega
   rw [L2,L2,Pm,A7]
   simp only [vl,c1,c2,c3,c4,c7,cond_true,cond_false]
   rw [Ri hq]
   generalize hA:(q-thr k b) / (36-thr k b)=A at *
   generalize hB:(q-thr k b) % (36-thr k b)=B at *
   have c5:A1 ((thr k b:Int)+(B:Int))=((thr k b+B:Nat):Int):=by rw [A5];rfl
   have c6:A1 (A:Int)=(A:Int):=A5
   rw [c5,c6,L2,G1 (by omega),Int.toNat_natCast,show Int.add ((36*k:Nat):Int) 36=((36*(k+1):Nat):Int) from (by show ((36*k:Nat):Int)+36=_;omega)]
   refine Eq.trans (e R k0) ?_
   simp [List.append_assoc]
theorem Ah2 (q b:Int) (z:Bool) (l:LL) (h0:ltN q 1152921504606846976=true) (h1:ltN b 1000000=true) (h2:Nat.ble l.length 100000=true) :
  ∃ (n2 n3:Int),∀ (R:Type) (k0:Bool->LL->Int->Int->Option R),Bs3 LF q b z l k0=k0 z (List.append l ((L0 q.toNat 0 b.toNat).map F5)) n2 n3:=by
 obtain ⟨a0,a1⟩:=I3.1 h0
 obtain ⟨b0,b1⟩:=I3.1 h1
 obtain ⟨q,rfl⟩:=Int.eq_ofNat_of_zero_le a0
 obtain ⟨b,rfl⟩:=Int.eq_ofNat_of_zero_le b0
 have hl:=Nat.le_of_ble_eq_true h2
 have hLF:=E8
 obtain ⟨n2,n3,e⟩:=Ah1 z b (by omega) 19 q 0 LF l (by omega) (by omega) (by omega) (by omega) (by omega)
 exact ⟨n2,n3,λR k0=>e R _⟩
def U1 (l:List Int):LL:=l.map λx=>[SV.int .i64 x]
def B3 (l:List Nat):LL:=l.map λx:Nat=>[SV.int .i64 (x:Int)]
theorem Jw (l:List Nat):U1 (l.map λn:Nat=>(n:Int))=B3 l:=by simp [U1,B3,Function.comp_def]
theorem O9 (l:List Int):(U1 l).length=l.length:=by simp [U1]
theorem B9 (l:List Nat):(B3 l).length=l.length:=by simp [B3]
theorem Iw (a b:List Nat):B3 (a++b)=B3 a++B3 b:=by simp [B3]
theorem IR {l:List Int} {i:Nat} (h:i<l.length):okE Fw (U1 l) i 0=true:=by
 unfold okE U1 Fw
 simp [List.getD_eq_getElem?_getD,h,okS,SV.has]
theorem TA (l:List Int) (i:Nat) (h:i<l.length):gE (U1 l) i 0=l.getD i 0:=by
 unfold gE gC U1
 simp [List.getD_eq_getElem?_getD,List.getElem?_eq_getElem h,SV.gI]
theorem Jx {l:List Nat} {i:Nat} (h:i<l.length):okE Fw (B3 l) i 0=true:=by
 rw [<-Jw];exact IR (by simpa using h)
theorem Rn (l:List Nat) (i:Nat) (h:i<l.length):gE (B3 l) i 0=(l.getD i 0:Int):=by
 rw [<-Jw,TA _ _ (by simpa using h)]
 grind
theorem ZE {l:LL} (h:l.all Ns=true):∃ P:List Int,l=U1 P:=by
 induction l with
 | nil=>exact ⟨[],rfl⟩
 | cons x r ih=>
  simp only [List.all_cons,Bool.and_eq_true] at h
  obtain ⟨P,rfl⟩:=ih h.2
  have hx:=h.1
  unfold Ns at hx
  split at hx
  ·rename_i n
   exact ⟨n::P,rfl⟩
  ·cases hx
theorem LI (P:List Int):(U1 P).map elI=P:=by
 unfold U1
 rw [List.map_map]
 conv=>rhs;rw [<-List.map_id P]
 apply List.map_congr_left
 intro x _
 simp [elI,SV.gI]
theorem LH (l:List Int) (i:Nat) (h:i<l.length):l.drop i=l.getD i 0::l.drop (i+1):=by simp_all
theorem Nj (l:List Nat) (i:Nat) (h:i<l.length):l.drop i=l.getD i 0::l.drop (i+1):=by simp_all
theorem A66:∀ (r d k:Nat),d<456*35 ^ r->Ql d k<=k+36*r+36:=by
 intro r
 induction r with
 | zero=>
  intro d k h
  rw [Lc (by simp at h;omega)]
  have:36*d / (d+38)<=36:=by
   apply Nat.div_le_of_le_mul
   omega
  omega
 | succ r ih=>
  intro d k h
  by_cases hd:455<d
  ·rw [Wt hd]
   grind
  grind
theorem Hy (d c:Nat) (f:Bool) (h:d<1152921504606846976):L7 d c f<=500:=by
 unfold L7
 have hx:∀ x:Nat,x<=d->Ql (x+x / c) 0<=500:=by
  intro x hx
  have:=Nat.div_le_self x c
  have:=A66 11 (x+x / c) 0 (by omega)
  omega
 grind
theorem CE {q k b:Nat} (h:q<1152921504606846976):(L0 q k b).length<=20:=SX b 19 q k (by omega)
theorem Bg6 (z t:Bool) (pts:List Nat) (basic m:Nat) (hm:m<=1114112) (hl:pts.length<=256):∀ (r i n:Nat) (s:KA),i+r=pts.length->r<n->s.delta+r<=1000000000000->s.bias<=500->s.out.length+20*r<=90000->s.done+r<=1000->basic<=256->
  (∀ (R:Type) (k0:Bool->Bool->LL->Int->Int->Int->Int->Int->LL->Option R),W9 LF n z t (B3 pts) (basic:Int) (m:Int) (s.delta:Int) (s.bias:Int) (s.done:Int) (pts.length:Int) (i:Int) (s.out.map F5) k0 =
   k0 z t (B3 pts) (basic:Int) (m:Int) ((F6 m basic (pts.drop i) s).delta:Int) ((F6 m basic (pts.drop i) s).bias:Int) ((F6 m basic (pts.drop i) s).done:Int) ((F6 m basic (pts.drop i) s).out.map F5))/\
  (F6 m basic (pts.drop i) s).bias<=500/\(F6 m basic (pts.drop i) s).out.length<=s.out.length+20*(pts.drop i).countP (· == m)/\(F6 m basic (pts.drop i) s).done=s.done+(pts.drop i).countP (· == m)/\
  (F6 m basic (pts.drop i) s).delta<=(if 0<(pts.drop i).countP (· == m) then r else s.delta+r):=by
 intro r
 induction r with
 | zero=>
  intro i n s hi hn h1 h2 h3 h4 hb
  obtain ⟨n,rfl⟩:∃ m,n=m+1:=⟨n-1,by omega⟩
  rw [List.drop_of_length_le (by omega)]
  refine ⟨λR k0=>?_,h2,by simp [F6],by simp [F6],by simp [F6]⟩
  rw [W9]
  rw [A7]
  rfl
 | succ r ih=>
  intro i n s hi hn h1 h2 h3 h4 hb
  obtain ⟨n,rfl⟩:∃ m,n=m+1:=⟨n-1,by omega⟩
  rw [Nj pts i (by omega)]
  have hg:=Rn pts i (by omega)
  have ok:=Jx (l:=pts) (i:=i) (by omega)
  generalize pts.getD i 0=p at *
  have e1:A1 ((i:Int)+1)=((i+1:Nat):Int):=by rw [A5];rfl
  have e2:A1 ((s.delta:Int)+1)=((s.delta+1:Nat):Int):=by rw [A5];rfl
  have e3:A1 ((s.done:Int)+1)=((s.done+1:Nat):Int):=by rw [A5];rfl
  by_cases hp:p<m
  ·have hne:(p==m)=false:=by rw [beq_eq_false_iff_ne];omega
   have hs:F6 m basic (p::pts.drop (i+1)) s=F6 m basic (pts.drop (i+1)) { s with delta:=s.delta+1 }:=by rw [F6,if_pos hp]
   obtain ⟨q1,q2,q3,q4,q5⟩:=ih (i+1) n { s with delta:=s.delta+1 } (by omega) (by omega) (by simp only;omega) h2 (by simp only;omega) (by simp only;omega) hb
   rw [hs,List.countP_cons_of_neg (by rw [hne];simp)]
   refine ⟨λR k0=>?_,q2,q3,q4,?_⟩
   ·rw [W9]
    rw [A9,B9,L1,Int.toNat_natCast,ok]
    simp only [cond_true,vl,hg,e1,e2]
    rw [A9,cond_true]
    exact q1 R k0
   ·simp only at q5
    split at q5<;>split<;>omega
  ·by_cases hq:p=m
   ·subst hq
    have hn20:=CE (q:=s.delta) (k:=0) (b:=s.bias) (by omega)
    have had:=Hy s.delta (s.done+1) (s.done==basic) (by omega)
    have hs:F6 p basic (p::pts.drop (i+1)) s=F6 p basic (pts.drop (i+1)) { delta:=0,bias:=L7 s.delta (s.done+1) (s.done==basic),done:=s.done+1,out:=s.out++L0 s.delta 0 s.bias }:=by rw [F6,if_neg hp,if_pos rfl]
    obtain ⟨q1,q2,q3,q4,q5⟩:=ih (i+1) n { delta:=0,bias:=L7 s.delta (s.done+1) (s.done==basic),done:=s.done+1,out:=s.out++L0 s.delta 0 s.bias } (by omega) (by omega) (by simp only;omega) had (by simp only [List.length_append];omega) (by simp only;omega) hb
    rw [hs,List.countP_cons_of_pos (by simp)]
    refine ⟨λR k0=>?_,q2,?_,?_,?_⟩
    ·rw [W9]
     have hbeq:((s.done:Int)==(basic:Int))=(s.done==basic):=by grind
     rw [A9,B9,L1,Int.toNat_natCast,ok]
     simp only [cond_true,vl,hg,e1,e3]
     rw [A7,cond_false,beq_self_eq_true,cond_true,L2,L2,List.length_map,Nat.ble_eq_true_of_le (show s.out.length<=100000 by omega),L2,A9,hbeq]
     simp only [cond_true,Int.toNat_natCast]
     have hrow:List.append (s.out.map F5) ((L0 s.delta 0 s.bias).map F5)=(s.out++L0 s.delta 0 s.bias).map F5:=by rw [List.map_append];rfl
     rw [hrow]
     exact q1 R k0
    ·simp only [List.length_append] at q3;omega
    ·simp only at q4;omega
    ·simp only at q5
     rw [Fq]
     split at q5<;>omega
   ·have hne:(p==m)=false:=by rw [beq_eq_false_iff_ne];omega
    have hs:F6 m basic (p::pts.drop (i+1)) s=F6 m basic (pts.drop (i+1)) s:=by rw [F6,if_neg hp,if_neg hq]
    obtain ⟨q1,q2,q3,q4,q5⟩:=ih (i+1) n s (by omega) (by omega) (by omega) h2 (by omega) (by omega) hb
    rw [hs,List.countP_cons_of_neg (by rw [hne];simp)]
    refine ⟨λR k0=>?_,q2,q3,q4,?_⟩
    ·rw [W9]
     rw [A9,B9,L1,Int.toNat_natCast,ok]
     simp only [cond_true,vl,hg,e1]
     rw [A7,cond_false,show ((p:Int)==(m:Int))=false by rw [beq_eq_false_iff_ne];omega,cond_false]
     exact q1 R k0
    ·split at q5<;>split<;>omega
theorem VA {R:Type} {k0:Bool->Bool->LL->Int->Int->Int->Int->Int->Int->LL->Option R} (z t:Bool) (pts:List Nat) (hl:pts.length<=256) (n0:Nat) (basic delta bias done:Int) (l:LL):∀ (r i n m:Nat),i+r=pts.length->r<n->
  Eb LF n z t (B3 pts) basic (n0:Int) delta bias done (m:Int) (pts.length:Int) (i:Int) l k0=k0 z t (B3 pts) basic (n0:Int) delta bias done ((G8 n0 (pts.drop i) m:Nat):Int) l:=by
 intro r
 induction r with
 | zero=>
  intro i n m hi hn
  obtain ⟨n,rfl⟩:∃ m,n=m+1:=⟨n-1,by omega⟩
  rw [Eb]
  rw [A7,List.drop_of_length_le (by omega)]
  rfl
 | succ r ih=>
  intro i n m hi hn
  obtain ⟨n,rfl⟩:∃ m,n=m+1:=⟨n-1,by omega⟩
  have hg:=Rn pts i (by omega)
  have ok:=Jx (l:=pts) (i:=i) (by omega)
  rw [Eb,Nj pts i (by omega)]
  generalize pts.getD i 0=p at *
  have e1:A1 ((i:Int)+1)=((i+1:Nat):Int):=by rw [A5];rfl
  rw [A9,B9,L1,Int.toNat_natCast,ok]
  simp only [cond_true,vl,hg,e1,G8]
  by_cases h:n0<=p
  ·rw [if_pos h,A7,Bool.not_false,cond_true]
   have:(if (p:Int)<(m:Int) then (p:Int) else (m:Int))=((min m p:Nat):Int):=by split<;>omega
   rw [this]
   exact ih (i+1) n (min m p) (by omega) (by omega)
  ·rw [if_neg h,A9,Bool.not_true,cond_false]
   exact ih (i+1) n m (by omega) (by omega)
theorem Dx (n:Nat):∀ (l:List Nat) (m:Nat),(G8 n l m=m\/(G8 n l m∈l/\n<=G8 n l m))/\G8 n l m<=m/\∀ p∈l,n<=p->G8 n l m<=p
 | [],m=>⟨.inl rfl,Nat.le_refl _,λp h=>by cases h⟩
 | q::r,m=>by
  obtain ⟨h1,h2,h3⟩:=Dx n r (if n<=q then min m q else m)
  simp only [G8]
  grind
set_option maxRecDepth 100000
section
variable {σ R : Type} (lf : Nat) (cl : D4) (yh : Yh σ) (s : σ) (k : Out -> St σ -> Option R)
noncomputable abbrev Bp4:Code:=D2 Tryz.f198
noncomputable def Rb (lf:Nat):Cfg:=B8 lf [198] (A4 [(3,[0,1,0,0])]) [(194,Wb),(202,PS)] (A4 [(17,[2]),(16,[0,2,0,53]),(15,[0,2,0]),(14,[2]),(13,[0,2,0,1,45]),(12,[0,2,0,0,0]),(11,[2]),(10,[0,2,0,0,41]),(9,[0,2,0,0]),(8,[0,2,0,0]),(7,[2]),(6,[0,2,0,0,18]),(5,[0,2,0,0]),(4,[2]),(3,[0,2,0,11]),(2,[0,2,0]),(1,[0,2]),(0,[0])]) [202] (A4 [(0,[2]),(1,[0,2,0])]) (some [2]) [(201,Jm)] [] [201]
noncomputable def Bd {R:Type} (lf n:Nat) (w0:Int) (s1:By) (n2 n3 n4:Int) (b5 z6:Bool) (l7:LL) (n8v:Int) (k0:Int->By->Int->Int->Int->Bool->Bool->LL->Int->Option R):Option R:=match n with | 0=>none | n+1=>cond (s1==[]) (k0 4 s1 n2 n3 n4 b5 z6 l7 n8v) (cond (inR 0 s1.length) (cond (inR (bAt s1 (0:Int)) 256) (vl (C3 (u8n (bAt s1 (0:Int)))) λn'1=>cond (ltI n'1 0) (k0 4 s1 n2 n3 n4 b5 z6 l7 n8v) (cond (O6 1 (s1.length:Int) s1.length) (vl (cut s1 1 (s1.length:Int)) λs'3=>vl (A1 (n3+(A1 (n'1*w0)))) λn'5=>cond (ltI 1099511627776 n'5) (k0 19 s'3 n2 n'5 n4 b5 z6 l7 n8v) (cond (ltN n8v 1000000000000) (cond (ltN n4 1000000) (cond (ltI n'1 (H9 n8v n4)) (k0 0 s'3 n2 n'5 n4 b5 z6 l7 (Int.add n8v (36:Int))) (vl (A1 ((36:Int)-(H9 n8v n4))) λn'6=>cond (ltI 1099511627776 (A1 (w0*n'6))) (k0 19 s'3 n2 n'5 n4 b5 z6 l7 (Int.add n8v (36:Int))) (Bd lf n (A1 (w0*n'6)) s'3 n2 n'5 n4 b5 z6 l7 (Int.add n8v (36:Int)) k0))) none) none)) none)) none) none)
theorem SU (n w0 s1 n2 n3 n4 b5 z6 l7 n8v):E4 4 ((Rb lf).keep 3) (bd (Rb lf) cl yh (cd [1,1,1,0,0] Bp4)) n ⟨gp [(0,.ptr 0 0 0),(2,.fnr (Fn.func 201) [] [.ptr 3 0 0,.ptr 2 0 0]),(0,pI w0)] 54,[.box [pS s1,.fl 1,pI n2,pI n3,pI n4,pB b5],.arr z6 3 1 l7,.box [pI n4],.box [pI n8v]],s⟩ k =
 Bd lf n w0 s1 n2 n3 n4 b5 z6 l7 n8v (λn0 s1 n2 n3 n4 b5 z6 l7 n8v=>k .ret ⟨gp [(2,pI n0)] 56,[.box [pS s1,.fl 1,pI n2,pI n3,pI n4,pB b5],.arr z6 3 1 l7,.box [pI n4],.box [pI n8v]],s⟩):=by
 induction n generalizing w0 s1 n2 n3 n4 b5 z6 l7 n8v with
 | zero=>rfl
 | succ n ih=>rw [Bd];simp only [<-ih];kernel_rfl
noncomputable def Bq4 {R:Type} (lf:Nat) (rest:By) (n i b:Int) (st z:Bool) (l:LL) (k0:Int->By->Int->Int->Int->Bool->Bool->LL->Int->Option R):Option R:=Bd lf lf 1 rest n i b st z l 0 (λn'7 s'8 n'9 n'10 n'11 b'12 z'13 l'14 n'15=>k0 n'7 s'8 n'9 n'10 n'11 b'12 z'13 l'14 n'15)
theorem Ba8 (d:Nat) (rest n i b st z l):evC (Rb lf) (d+1) σ yh 198 [.ptr 0 0 0] [.box [pS rest,.fl 1,pI n,pI i,pI b,pB st],.arr z 3 1 l] s=Bq4 lf rest n i b st z l (λr0 s1 n2 n3 n4 b5 z6 l7 n8v=>some (pI r0,[.box [pS s1,.fl 1,pI n2,pI n3,pI n4,pB b5],.arr z6 3 1 l7,.box [pI n4],.box [pI n8v]],s)):=by
 refine (evE (fn:=Tryz.f198) (by kernel_rfl)).trans ?_
 generalize evC (Rb lf) d=cl
 unfold Bq4;exact (Eq.trans (by kernel_rfl) ((SU lf cl yh s (H4 0 (G9 (Rb lf) Tryz.f198)) lf 1 rest n i b st z l 0).trans (by kernel_rfl)))
noncomputable def GZ (lf:Nat):Cfg:=B8 lf [189] (A4 []) [(186,Hv),(184,Hw)] (A4 [(16,[2]),(15,[]),(14,[0]),(13,[2]),(12,[0,67]),(11,[2]),(10,[0,4,60]),(9,[0,4]),(8,[0,4]),(7,[0,4]),(6,[0,4]),(5,[0,2,1]),(4,[2]),(3,[0,2,0,8]),(2,[0,2,0]),(1,[0,2]),(0,[0])]) [186,184] (A4 []) (some [2]) [(198,EN),(199,GI)] [] [198,199]
noncomputable def YX {R:Type} (lf:Nat) (rest:By) (n i b:Int) (st z:Bool) (l:LL) (k0:Int->By->Int->Int->Int->Bool->Bool->LL->Option R):Option R:=cond (A2 rest.length) (cond (ltN b 1000000) (cond (ltN i 1099511627777) (cond ((Ym b rest i) != 0) (k0 (Ym b rest i) (Yn b rest i) n (Lx b rest i) b st z l) (vl (A1 ((l.length:Int)+1)) λn'1=>vl (A1 ((Lx b rest i)-i)) λn'4=>cond (ltN n'4 1152921504606846976) (cond (ltN n'1 1000000) (cond (ltI 0 n'1) (vl (↑(L7 (Int.toNat n'4) (Int.toNat n'1) (not st)):Int) λn'5=>cond (n'1 != 0) (vl (A1 (Int.tdiv (Lx b rest i) n'1)) λn'7=>cond (n'1 != 0) (vl (Int.tmod (Lx b rest i) n'1) λn'9=>cond (not (ptI (A1 (n+n'7)))) (k0 2 (Yn b rest i) (A1 (n+n'7)) n'9 n'5 true z l) (cond (ltI 256 n'1) (k0 3 (Yn b rest i) (A1 (n+n'7)) n'9 n'5 true z l) (cond (ltN n'9 (Nat.add l.length 1)) (cond (Nat.ble l.length 100000) (vl (Gr l (Int.toNat n'9) (A1 (n+n'7))) λl'11=>k0 0 (Yn b rest i) (A1 (n+n'7)) (A1 (n'9+1)) n'5 true z l'11) none) none))) none) none) none) none) none)) none) none) none
theorem Av1 (d:Nat) (rest n i b st z l):evC (GZ lf) (d+1) σ yh 189 [.ptr 0 0 0] [.box [pS rest,.fl 1,pI n,pI i,pI b,pB st],.arr z 3 1 l] s=YX lf rest n i b st z l (λr0 s1 n2 n3 n4 b5 z6 l7=>some (pI r0,[.box [pS s1,.fl 1,pI n2,pI n3,pI n4,pB b5],.arr z6 3 1 l7],s)):=by
 refine (evE (fn:=Tryz.f189) (by kernel_rfl)).trans ?_
 generalize evC (GZ lf) d=cl
 unfold YX;kernel_rfl
noncomputable abbrev Le:Code:=D2 Tryz.f170
noncomputable def T1 (lf:Nat):Cfg:=B8 lf [170] (A4 [(20,[2,0,1]),(13,[0,1,0,1,0,22,0]),(4,[0,1,0,9,0])]) [(97,Uj)] (A4 [(24,[2,0]),(23,[2,0]),(22,[5,2,59]),(21,[5,2]),(20,[5,58]),(19,[2,0]),(18,[5,53]),(17,[5]),(16,[0,4,0,22,0]),(15,[0,4,0,22,0]),(14,[0,4,0,0,21,0]),(13,[0,4,0,22,0,0]),(12,[0,4,0,22,0]),(11,[0,4,0,21]),(10,[0,4,0]),(9,[0,4]),(8,[0,12,0]),(7,[2,0]),(6,[0,12,0,5]),(5,[0,3,8,0]),(4,[0,12,0,0]),(3,[0,12,0]),(2,[2,0]),(1,[0,10]),(0,[0])]) [97] (A4 [(4,[5]),(5,[5]),(2,[0,4,0]),(3,[0,4,0,22,0]),(0,[0]),(1,[0,12,0])]) (some [2,0]) [(189,Ui)] [] [189] (nt:=[(199,1,3,1)])
noncomputable def Gz {R:Type} (lf n:Nat) (s0:By) (n1 n2:Int) (k0:Unit->Option R) (k1:By->Option R):Option R:=match n with | 0=>none | n+1=>cond (ltI n2 n1) (cond (inR n2 s0.length) (cond (not (ltI (bAt s0 n2) (128:Int))) (k0 ()) (Gz lf n s0 n1 (A1 (n2+1)) k0 k1)) none) (k1 s0)
theorem UT (n s0 n1 n2):E4 0 ((T1 lf).keep 4) (bd (T1 lf) cl yh (cd [1,1,0,1,0,0] Le)) n ⟨gp [(0,pS s0),(12,pI n1),(0,pI n2)] 59,[],s⟩ k =
 Gz lf n s0 n1 n2 (λ_=>k .ret ⟨gp [(2,.fl 0),(0,pI (4:Int))] 70,[.arr true 3 1 []],s⟩) (λs0=>k (.exit 0) ⟨gp [(0,pS s0)] 73,[],s⟩):=by
 induction n generalizing s0 n1 n2 with
 | zero=>rfl
 | succ n ih=>rw [Gz];simp only [<-ih];kernel_rfl
noncomputable def Ea {R:Type} (lf n:Nat) (s0:By) (kk1 n2:Int) (l3:LL) (k0:By->Int->LL->Option R):Option R:=match n with | 0=>none | n+1=>cond (ltI n2 kk1) (cond (inR n2 s0.length) (cond (G0 (l3.length+1)) (Ea lf n s0 kk1 (A1 (n2+1)) (l3++[[(SV.int .i64 (A1 (bAt s0 n2)))]]) k0) none) none) (k0 s0 kk1 l3)
theorem UU (n s0 kk1 n2 l3):E4 2 ((T1 lf).keep 13) (bd (T1 lf) cl yh (cd [1,1,1,1,0,1,1,0,0,1,0,0] Le)) n ⟨gp [(0,pS s0),(4,.ptr 1 0 0),(0,pI kk1),(22,pI kk1),(0,pI n2)] 43,[.arr true 3 1 l3,.box [pS s0,.fl 0,pI (128:Int),pI (0:Int),pI (72:Int),pB false]],s⟩ k =
 Ea lf n s0 kk1 n2 l3 (λs0 kk1 l2=>k (.exit 2) ⟨gp [(0,pS s0),(4,.ptr 1 0 0),(0,pI kk1)] 67,[.arr true 3 1 l2,.box [pS s0,.fl 0,pI (128:Int),pI (0:Int),pI (72:Int),pB false]],s⟩):=by
 induction n generalizing s0 kk1 n2 l3 with
 | zero=>rfl
 | succ n ih=>rw [Ea];simp only [<-ih];kernel_rfl
noncomputable def N3 {R:Type} (lf n:Nat) (l0:LL) (s1:By) (n2 n3 n4:Int) (b5:Bool) (k0:Int->LL->By->Int->Int->Int->Bool->Option R) (k1:LL->By->Int->Int->Int->Bool->Option R):Option R:=match n with | 0=>none | n+1=>cond (not (s1==[])) (cond (A2 s1.length) (cond (ltN n4 1000000) (cond (ltN n3 1099511627777) (cond (ltN n2 1152921504606846976) (cond (Nat.ble l0.length 100000) (vl ((D0 (DS.mk s1 n2 n3 n4 b5 l0))).1 λn'10=>vl (DS.l ((D0 (DS.mk s1 n2 n3 n4 b5 l0))).2) λl'11=>cond (n'10 != 0) (k0 n'10 l'11 (DS.rest ((D0 (DS.mk s1 n2 n3 n4 b5 l0))).2) (DS.n ((D0 (DS.mk s1 n2 n3 n4 b5 l0))).2) (DS.i ((D0 (DS.mk s1 n2 n3 n4 b5 l0))).2) (DS.b ((D0 (DS.mk s1 n2 n3 n4 b5 l0))).2) (DS.st ((D0 (DS.mk s1 n2 n3 n4 b5 l0))).2)) (N3 lf n l'11 (DS.rest ((D0 (DS.mk s1 n2 n3 n4 b5 l0))).2) (DS.n ((D0 (DS.mk s1 n2 n3 n4 b5 l0))).2) (DS.i ((D0 (DS.mk s1 n2 n3 n4 b5 l0))).2) (DS.b ((D0 (DS.mk s1 n2 n3 n4 b5 l0))).2) (DS.st ((D0 (DS.mk s1 n2 n3 n4 b5 l0))).2) k0 k1)) none) none) none) none) none) (k1 l0 s1 n2 n3 n4 b5)
theorem Yu (n l0 s1 n2 n3 n4 b5):E4 2 ((T1 lf).keep 20) (bd (T1 lf) cl yh (cd [1,1,1,1,1,1,0,0,0] Le)) n ⟨gp [(5,.ptr 1 0 0)] 68,[.arr true 3 1 l0,.box [pS s1,.fl 0,pI n2,pI n3,pI n4,pB b5]],s⟩ k =
 N3 lf n l0 s1 n2 n3 n4 b5 (λn0 l1 s2 n3 n4 n5 b6=>k .ret ⟨gp [(2,.fl 2),(0,pI n0)] 70,[.arr true 3 1 l1,.box [pS s2,.fl 0,pI n3,pI n4,pI n5,pB b6],.arr true 3 1 []],s⟩) (λl0 s1 n2 n3 n4 b5=>k (.exit 4) ⟨gp [(5,.ptr 1 0 0)] 68,[.arr true 3 1 l0,.box [pS s1,.fl 0,pI n2,pI n3,pI n4,pB b5]],s⟩):=by
 induction n generalizing l0 s1 n2 n3 n4 b5 with
 | zero=>rfl
 | succ n ih=>rw [N3];simp only [<-ih];kernel_rfl
noncomputable def Ol {R:Type} (lf:Nat) (s0:By) (k0:Int->Option R) (k1:Int->LL->By->Int->Int->Int->Bool->Option R) (k2:LL->By->Int->Int->Int->Bool->Option R):Option R:=cond (ltI 1024 (s0.length:Int)) (k0 3) (Gz lf lf s0 (s0.length:Int) 0 (λ_=>k0 4) (λs'0=>cond (A2 s'0.length) (vl (G3 (u8n (45:Int)) s'0) λn'4=>cond (ltI 0 n'4) (Ea lf lf s'0 n'4 0 [] (λs'5 kk'6 l'7=>vl (A1 (kk'6+1)) λn'8=>cond (O6 n'8 (s'5.length:Int) s'5.length) (vl (cut s'5 n'8 (s'5.length:Int)) λs'9=>cond (ltI 256 (l'7.length:Int)) (k1 3 l'7 s'9 128 0 72 false) (N3 lf lf l'7 s'9 128 0 72 false (λn'12 l'13 s'14 n'15 n'16 n'17 b'18=>k1 n'12 l'13 s'14 n'15 n'16 n'17 b'18) (λl'19 s'20 n'21 n'22 n'23 b'24=>k2 l'19 s'20 n'21 n'22 n'23 b'24))) none)) (N3 lf lf [] s'0 128 0 72 false (λn'25 l'26 s'27 n'28 n'29 n'30 b'31=>k1 n'25 l'26 s'27 n'28 n'29 n'30 b'31) (λl'32 s'33 n'34 n'35 n'36 b'37=>k2 l'32 s'33 n'34 n'35 n'36 b'37))) none))
theorem Bg1 (d:Nat) (s0):evC (T1 lf) (d+1) σ yh 170 [pS s0] [] s=Ol lf s0 (λr0=>some (.tup [.fl 0,pI r0],[.arr true 3 1 []],s)) (λr0 l1 s2 n3 n4 n5 b6=>some (.tup [.fl 2,pI r0],[.arr true 3 1 l1,.box [pS s2,.fl 0,pI n3,pI n4,pI n5,pB b6],.arr true 3 1 []],s)) (λl0 s1 n2 n3 n4 b5=>some (.tup [.fl 0,pI (0:Int)],[.arr true 3 1 l0,.box [pS s1,.fl 0,pI n2,pI n3,pI n4,pB b5]],s)):=by
 refine (evE (fn:=Tryz.f170) (by kernel_rfl)).trans ?_
 generalize evC (T1 lf) d=cl
 unfold Ol;exact let K0:=(H4 4 (I5 (T1 lf) cl yh (cd [1,1,1,1,1,1,1] Le) (G9 (T1 lf) Tryz.f170)));(Eq.trans (by kernel_rfl) (A0 rfl ((UT lf cl yh s (H4 0 (I5 (T1 lf) cl yh (cd [1,1,1] Le) (G9 (T1 lf) Tryz.f170))) lf s0 (s0.length:Int) 0).trans (congr (congr rfl (by kernel_rfl)) (fx1 λs'0=>(Eq.trans (by kernel_rfl) (A0 (A8 λn'4=>(A0 ((UU lf cl yh s (H4 2 (I5 (T1 lf) cl yh (cd [1,1,1,1,0,1,1,0,1] Le) (I5 (T1 lf) cl yh (cd [1,1,1,1,1] Le) (G9 (T1 lf) Tryz.f170)))) lf s'0 n'4 0 []).trans (congr rfl (fx3 λs'5 kk'6 l'7=>(Eq.trans (by kernel_rfl) (A8 λn'8=>(A0 (A8 λs'9=>(A0 rfl ((Yu lf cl yh s K0 lf l'7 s'9 128 0 72 false).trans (by kernel_rfl)))) rfl)))))) ((Yu lf cl yh s K0 lf [] s'0 128 0 72 false).trans (by kernel_rfl)))) rfl)))))))
noncomputable abbrev KN:Code:=D2 Tryz.f142
noncomputable def Ch (lf:Nat):Cfg:=B8 lf [142] (A4 [(2,[0,0,2,0])]) [] (A4 [(6,[4]),(3,[0,0,3]),(5,[4]),(4,[0,0,3,11]),(2,[0,0,3,4]),(1,[0,0,3]),(0,[0,0])]) [] (A4 [(0,[]),(1,[0,0,3])]) (some [4]) [] [] []
noncomputable def Y9 {R:Type} (lf n:Nat) (s0:By) (c1 i2:Int) (k0:Int->Option R) (k1:Unit->Option R):Option R:=match n with | 0=>none | n+1=>cond (not (ltI i2 0)) (cond (inR i2 s0.length) (cond ((bAt s0 i2)==c1) (k0 i2) (Y9 lf n s0 c1 (A1 (i2-1)) k0 k1)) none) (k1 ())
theorem IF (n s0 c1 i2):E4 0 ((Ch lf).keep 2) (bd (Ch lf) cl yh (cd [1,0,1,0,0] KN)) n ⟨gp [(0,pS s0),(0,p8 c1),(3,pI i2)] 13,[],s⟩ k =
 Y9 lf n s0 c1 i2 (λn0=>k .ret ⟨gp [(4,pI n0)] 14,[],s⟩) (λ_=>k (.exit 0) ⟨gp [] 19,[],s⟩):=by
 induction n generalizing s0 c1 i2 with
 | zero=>rfl
 | succ n ih=>rw [Y9];simp only [<-ih];kernel_rfl
noncomputable def IE {R:Type} (lf:Nat) (s0:By) (c1:Int) (k0:Int->Option R):Option R:=vl (A1 ((s0.length:Int)-1)) λn'1=>Y9 lf lf s0 c1 n'1 (λn'2=>k0 n'2) (λ_=>k0 (-1))
theorem Ae5 (d:Nat) (s0 c1):evC (Ch lf) (d+1) σ yh 142 [pS s0,p8 c1] [] s=IE lf s0 c1 (λr0=>some (pI r0,[],s)):=by
 refine (evE (fn:=Tryz.f142) (by kernel_rfl)).trans ?_
 generalize evC (Ch lf) d=cl
 unfold IE;exact (Eq.trans (by kernel_rfl) (A8 λn'1=>((IF lf cl yh s (H4 0 (I5 (Ch lf) cl yh (cd [1,1] KN) (G9 (Ch lf) Tryz.f142))) lf s0 c1 n'1).trans (by kernel_rfl))))
noncomputable def HA (lf:Nat):Cfg:=B8 lf [97] (A4 []) [(142,KG)] (A4 [(1,[4]),(0,[0,0])]) [142] (A4 []) (some [4]) [] [] []
noncomputable def ZF {R:Type} (lf:Nat) (s0:By) (c1:Int) (k0:Int->Option R):Option R:=cond (A2 s0.length) (cond (inR c1 256) (k0 (G3 (u8n c1) s0)) none) none
theorem Aw8 (d:Nat) (s0 c1):evC (HA lf) (d+1) σ yh 97 [pS s0,p8 c1] [] s=ZF lf s0 c1 (λr0=>some (pI r0,[],s)):=by
 refine (evE (fn:=Tryz.f97) (by kernel_rfl)).trans ?_
 generalize evC (HA lf) d=cl
 unfold ZF;kernel_rfl
end
theorem Bo (c:UInt8):-1<=C3 c/\C3 c<=35:=by
 unfold C3 Hs
 grind
theorem Hh (k b:Int):1<=H9 k b/\H9 k b<=26:=by unfold H9;omega
theorem Z6 {x w:Int} (h0:0<=x) (h1:x<=35) (w0:0<=w) (w1:w<=1099511627776):0<=x*w/\x*w<=38482906972160:=by
 refine ⟨Int.mul_nonneg h0 w0,?_⟩
 have:=Int.mul_le_mul h1 w1 w0 (show (0:Int)<=35 by omega)
 omega
theorem Nh (b:Int):∀ (s:By) (i w k:Int),0<=i->0<=w->w<=1099511627776->(N7 b s i w k).1=0->i<=(N7 b s i w k).2.2/\(N7 b s i w k).2.2<=1099511627776/\(N7 b s i w k).2.1.length<s.length
 | [],i,w,k,_,_,_,h=>by simp [N7] at h
 | c::r,i,w,k,hi,hw,hw1,h=>by
  have hv:=Bo c
  have ht:=Hh k b
  unfold N7 at h ⊢
  split at h
  ·simp at h
  ·rename_i h1
   rw [if_neg h1]
   have hm:=Z6 (by omega) hv.2 hw hw1
   split at h
   ·simp at h
   ·rename_i h2
    rw [if_neg h2]
    split at h
    ·grind
    ·rename_i h3
     rw [if_neg h3]
     split at h
     ·omega
     ·rename_i h4
      rw [if_neg h4]
      obtain ⟨q1,q2,q3⟩:=Nh b r (i+C3 c*w) (w*(36-H9 k b)) (k+36) (by omega) (Int.mul_nonneg hw (by omega)) (by omega) h
      grind
theorem Ad0 (n2:Int) (b:Int) (st z:Bool) (l:LL) (hb0:0<=b) (hb1:b<1000000):∀ (s:By) (n:Nat) (i w k:Int),s.length<n->s.length<=1000000000->0<=i->i<=1099511627776->0<=w->w<=1099511627776->0<=k->k+36*s.length<=100000000000->
  ∃ k',∀ (R:Type) (k0:Int->By->Int->Int->Int->Bool->Bool->LL->Int->Option R),Bd LF n w s n2 i b st z l k k0=k0 (N7 b s i w k).1 (N7 b s i w k).2.1 n2 (N7 b s i w k).2.2 b st z l k':=by
 intro s
 induction s with
 | nil=>
  intro n i w k hn hs hi hi1 hw hw1 hk hk1
  obtain ⟨n,rfl⟩:∃ m,n=m+1:=⟨n-1,by omega⟩
  refine ⟨k,λR k0=>?_⟩
  rw [Bd]
  rfl
 | cons c r ih=>
  intro n i w k hn hs hi hi1 hw hw1 hk hk1
  obtain ⟨n,rfl⟩:∃ m,n=m+1:=⟨n-1,by omega⟩
  rw [List.length_cons] at hn hs hk1
  have hv:=Bo c
  have ht:=Hh k b
  have hu:u8n (bAt (c::r) 0)=c:=by unfold u8n bAt;simp
  have hin:inR (bAt (c::r) 0) 256=true:=by rw [Ia];have:=c.toNat_lt;exact J6 (by omega) (by simp;omega)
  have hcut:cut (c::r) 1 ((c::r).length:Int)=r:=by
   have:=Nc (c::r) 1 (c::r).length
   grind
  have hne:((c::r)==([]:By))=false:=rfl
  have start:∀ (R:Type) (k0:Int->By->Int->Int->Int->Bool->Bool->LL->Int->Option R),Bd LF (n+1) w (c::r) n2 i b st z l k k0 =
    cond (ltI (C3 c) 0) (k0 4 (c::r) n2 i b st z l k)
     (vl (A1 (i+(A1 (C3 c*w)))) λn'5=>cond (ltI 1099511627776 n'5) (k0 19 r n2 n'5 b st z l k)
      (cond (ltI (C3 c) (H9 k b)) (k0 0 r n2 n'5 b st z l (Int.add k 36))
       (vl (A1 (36-(H9 k b))) λn'6=>cond (ltI 1099511627776 (A1 (w*n'6))) (k0 19 r n2 n'5 b st z l (Int.add k 36)) (Bd LF n (A1 (w*n'6)) r n2 n'5 b st z l (Int.add k 36) k0)))):=by
   intro R k0
   rw [Bd]
   rw [hne,hin,J6 (by omega) (by rw [List.length_cons];omega),U4 (by omega) (by rw [List.length_cons];omega) (by omega),hcut,hu,L2,L2]
   rfl
  unfold N7
  by_cases h1:C3 c<0
  ·rw [if_pos h1]
   refine ⟨k,λR k0=>?_⟩
   rw [start,C6 h1]
   rfl
  ·rw [if_neg h1]
   have hm:=Z6 (by omega) hv.2 hw hw1
   have e1:A1 (C3 c*w)=C3 c*w:=A5
   have e2:A1 (i+C3 c*w)=i+C3 c*w:=A5
   by_cases h2:1099511627776<i+C3 c*w
   ·rw [if_pos h2]
    refine ⟨k,λR k0=>?_⟩
    rw [start,A7,e1,e2]
    simp only [vl,cond_false]
    rw [C6 h2]
    rfl
   ·rw [if_neg h2]
    by_cases h3:C3 c<H9 k b
    ·rw [if_pos h3]
     refine ⟨Int.add k 36,λR k0=>?_⟩
     rw [start,A7,e1,e2]
     simp only [vl,cond_false]
     rw [A7,C6 h3]
     rfl
    ·rw [if_neg h3]
     have e3:A1 (36-H9 k b)=36-H9 k b:=A5
     have hm2:=Z6 (x:=36-H9 k b) (by omega) (by omega) hw hw1
     rw [Int.mul_comm] at hm2
     have e4:A1 (w*(36-H9 k b))=w*(36-H9 k b):=A5
     by_cases h4:1099511627776<w*(36-H9 k b)
     ·rw [if_pos h4]
      refine ⟨Int.add k 36,λR k0=>?_⟩
      rw [start,A7,e1,e2]
      simp only [vl,cond_false]
      rw [A7,A7,e3,e4,C6 h4]
      rfl
     ·rw [if_neg h4]
      obtain ⟨k',e⟩:=ih n (i+C3 c*w) (w*(36-H9 k b)) (k+36) (by omega) (by omega) (by omega) (by omega) (by omega) (by omega) (by omega) (by omega)
      refine ⟨k',λR k0=>?_⟩
      rw [start,A7,e1,e2]
      simp only [vl,cond_false]
      rw [A7,A7,e3,e4,A7]
      exact e R k0
theorem Ad1 (rest:By) (n i b:Int) (st z:Bool) (l:LL) (h0:A2 rest.length=true) (h1:ltN b 1000000=true) (h2:ltN i 1099511627777=true) :
  ∃ k',∀ (R:Type) (k0:Int->By->Int->Int->Int->Bool->Bool->LL->Int->Option R),Bq4 LF rest n i b st z l k0=k0 (Ym b rest i) (Yn b rest i) n (Lx b rest i) b st z l k':=by
 have hs:=N8 h0
 obtain ⟨b0,b1⟩:=I3.1 h1
 obtain ⟨i0,i1⟩:=I3.1 h2
 have hLF:=E8
 obtain ⟨k',e⟩:=Ad0 n b st z l b0 (by omega) rest LF i 1 0 (by omega) (by omega) i0 (by omega) (by omega) (by omega) (by omega) (by omega)
 exact ⟨k',λR k0=>e R _⟩
theorem SW {R:Type} {k0:Int->By->Int->Int->Int->Bool->Bool->LL->Option R} (rest:By) (n i b:Int) (st z:Bool) (l:LL) (h0:A2 rest.length=true) (h1:ltN b 1000000=true) (h2:ltN i 1099511627777=true) (h3:ltN n 1152921504606846976=true) (h4:Nat.ble l.length 100000=true) :
  YX LF rest n i b st z l k0=k0 (D0 ⟨rest,n,i,b,st,l⟩).1 (D0 ⟨rest,n,i,b,st,l⟩).2.rest (D0 ⟨rest,n,i,b,st,l⟩).2.n (D0 ⟨rest,n,i,b,st,l⟩).2.i (D0 ⟨rest,n,i,b,st,l⟩).2.b (D0 ⟨rest,n,i,b,st,l⟩).2.st z (D0 ⟨rest,n,i,b,st,l⟩).2.l:=by
 obtain ⟨i0,i1⟩:=I3.1 h2
 obtain ⟨n0,n1⟩:=I3.1 h3
 have hl:=Nat.le_of_ble_eq_true h4
 unfold YX D0
 rw [h0,h1,h2]
 simp only [cond_true]
 by_cases he:Ym b rest i=0
 ·rw [if_pos he,he]
  obtain ⟨q1,q2,q3⟩:=Nh b rest i 1 0 i0 (by omega) (by omega) he
  have q1':i<=Lx b rest i:=q1
  have q2':Lx b rest i<=1099511627776:=q2
  have e1:A1 ((l.length:Int)+1)=(l.length:Int)+1:=A5
  simp only [vl]
  rw [e1]
  generalize Lx b rest i=x at *
  have hx0:0<=x:=by omega
  obtain ⟨X,rfl⟩:=Int.eq_ofNat_of_zero_le hx0
  have e2:A1 ((X:Int)-i)=(X:Int)-i:=A5
  have ec:((l.length:Int)+1)=((l.length+1:Nat):Int):=rfl
  have ed:Int.tdiv (X:Int) ((l.length+1:Nat):Int)=((X / (l.length+1):Nat):Int):=K2 _ _
  have em:Int.tmod (X:Int) ((l.length+1:Nat):Int)=((X % (l.length+1):Nat):Int):=Fy _ _
  have hd:=Nat.div_le_self X (l.length+1)
  have hm:=Nat.mod_lt X (show 0<l.length+1 by omega)
  rw [e2,ec,ed,em]
  generalize hA:X / (l.length+1)=A at *
  generalize hB:X % (l.length+1)=B at *
  have e3:A1 (A:Int)=(A:Int):=A5
  have e4:A1 (n+(A:Int))=n+(A:Int):=A5
  have e5:A1 ((B:Int)+1)=(B:Int)+1:=A5
  have c0:((0:Int) != 0)=false:=rfl
  have c1:((((l.length+1:Nat):Int)) != 0)=true:=by rw [bne_iff_ne];omega
  rw [e3,e4,e5,c0,L2,L2,A9,c1]
  simp only [cond_true,cond_false]
  cases hp:ptI (n+(A:Int)) with
  | false=>simp
  | true=>
   simp only [Bool.not_true,cond_false,if_true]
   by_cases h256:(256:Int)<((l.length+1:Nat):Int)
   ·rw [if_pos h256,C6 h256]
    rfl
   ·rw [if_neg h256,A7,cond_false,ZQ (by omega) (by show (B:Int)<((l.length+1:Nat):Int);omega),h4]
    rfl
 ·rw [if_neg he,show (Ym b rest i != 0)=true from bne_iff_ne.2 he]
  rfl
theorem MO (c:UInt8):∀ l:By,-1<=G3 c l
 | []=>by simp [G3]
 | b::r=>by
  have:=MO c r
  unfold G3
  omega
theorem Yc (c b:UInt8):∀ l:By,G3 c (l++[b])=if b=c then (l.length:Int) else G3 c l
 | []=>by
  by_cases h:b=c<;>simp [G3,h]
 | a::l=>by
  have ih:=Yc c b l
  rw [List.cons_append,G3,ih]
  by_cases h:b=c
  ·grind
  ·rw [if_neg h,if_neg h]
   rfl
theorem MH {R:Type} {k0:Int->Option R} {k1:Unit->Option R} (s:By) (c:UInt8) (hs:s.length<=1000000000):∀ (m n:Nat),m<=s.length->m<n->
  Y9 LF n s (c.toNat:Int) ((m:Int)-1) k0 k1=if G3 c (s.take m)<0 then k1 () else k0 (G3 c (s.take m)):=by
 intro m
 induction m with
 | zero=>
  intro n hm hn
  obtain ⟨n,rfl⟩:∃ m,n=m+1:=⟨n-1,by omega⟩
  rw [Y9]
  rw [A9]
  rfl
 | succ m ih=>
  intro n hm hn
  obtain ⟨n,rfl⟩:∃ m,n=m+1:=⟨n-1,by omega⟩
  rw [Y9]
  have e0:(((m+1:Nat):Int)-1)=(m:Int):=by omega
  have e1:A1 ((m:Int)-1)=(m:Int)-1:=A5
  have ht:s.take (m+1)=s.take m++[s.getD m 0]:=by
   rw [List.take_add_one,List.getD_eq_getElem?_getD,List.getElem?_eq_getElem (by omega)]
   rfl
  rw [e0,e1,A7,L1,L9,ht,Yc]
  simp only [Bool.not_false,cond_true]
  by_cases h:s.getD m 0=c
  ·rw [if_pos h,h,beq_self_eq_true,cond_true,List.length_take,Nat.min_eq_left (by omega),G7]
  ·have hne:(((s.getD m 0).toNat:Int)==(c.toNat:Int))=false:=by
    rw [beq_eq_false_iff_ne]
    intro he
    exact h (UInt8.toNat.inj (Int.ofNat.inj he))
   rw [if_neg h,hne,cond_false]
   exact ih n (by omega) (by omega)
theorem A35 {c:Int} (h:inR c 256=true):c=((u8n c).toNat:Int):=by
 simp only [inR,Bool.and_eq_true,decide_eq_true_eq] at h
 unfold u8n
 simp
 omega
theorem MI {R:Type} {k0:Int->Option R} (s:By) (c:Int) (h0:A2 s.length=true) (h1:inR c 256=true):IE LF s c k0=k0 (G3 (u8n c) s):=by
 have hs:=N8 h0
 have hLF:=E8
 have hc:=A35 h1
 generalize u8n c=d at *
 subst hc
 unfold IE
 have e1:A1 ((s.length:Int)-1)=(s.length:Int)-1:=A5
 simp only [vl]
 rw [e1]
 refine Eq.trans (MH s d (by omega) s.length LF (by omega) (by omega)) ?_
 rw [List.take_length]
 have:=MO d s
 by_cases h:G3 d s<0
 ·rw [if_pos h,show G3 d s = -1 by omega]
 ·rw [if_neg h]
theorem TM {R:Type} {k0:Int->Option R} (s:By) (c:Int) (h0:A2 s.length=true) (h1:inR c 256=true):ZF LF s c k0=k0 (G3 (u8n c) s):=by
 unfold ZF
 grind
theorem It:∀ s:By,(45∈s->G3 45 s=(E1 s:Int))/\(45∉s->G3 45 s = -1/\E1 s=0)
 | []=>⟨λh=>(by cases h),λ_=>⟨rfl,rfl⟩⟩
 | b::r=>by
  obtain ⟨h1,h2⟩:=It r
  unfold G3 E1
  grind
theorem OP {c:UInt8} (h:Hs c=none):C3 c = -1:=by unfold C3;rw [h]
theorem OQ {c:UInt8} {x:Nat} (h:Hs c=some x):C3 c=x:=by unfold C3;rw [h]
theorem Ni (b:Nat):∀ (s:By) (i w k:Nat),N7 (b:Int) s (i:Int) (w:Int) ((36*k:Nat):Int)=((((C2 b s i w k).2.2:Nat):Int),(N7 (b:Int) s (i:Int) (w:Int) ((36*k:Nat):Int)).2)/\
  ((C2 b s i w k).2.2=0->(N7 (b:Int) s (i:Int) (w:Int) ((36*k:Nat):Int)).2=((C2 b s i w k).2.1,((C2 b s i w k).1:Int)))
 | [],i,w,k=>⟨rfl,λh=>by simp [C2] at h⟩
 | c::r,i,w,k=>by
  unfold N7 C2
  cases hv:Hs c with
  | none=>
   rw [OP hv,Fq]
   grind
  | some x=>
   rw [OQ hv,G7,Pm]
   have e1:(i:Int)+(x:Int)*(w:Int)=((i+x*w:Nat):Int):=by push_cast;rfl
   have ht:=P6 k b
   have e2:(w:Int)*(36-(thr k b:Int))=((w*(36-thr k b):Nat):Int):=by grind
   have e3:((36*k:Nat):Int)+36=((36*(k+1):Nat):Int):=by omega
   have hsat:Ez=1099511627776:=by decide
   rw [e1,e2,e3,hsat]
   simp only
   generalize i+x*w=I
   generalize w*(36-thr k b)=W
   by_cases h2:1099511627776<I
   ·grind
   ·rw [G7,if_neg h2]
    by_cases h3:x<thr k b
    ·grind
    ·rw [G7,if_neg h3]
     by_cases h4:1099511627776<W
     ·grind
     ·rw [G7,if_neg h4]
      exact Ni b r I W (k+1)
end
section
open Go Go.Op
set_option maxRecDepth 100000
theorem Ag7 {R:Type} {k0:Bool->Option R} (s:By):Bf1 LF s k0=k0 false:=by unfold Bf1;simp
theorem Ag6 {R:Type} {k0:Bool->Option R} (n:Int):Be9 LF n k0=k0 false:=by unfold Be9;simp
theorem At2 {R:Type} {k0:Int->Option R} (a b:By):ccs LF a b k0=k0 (T5 a b):=by
 unfold ccs T5
 cases h:bytesLess a b with
 | true=>rfl
 | false=>
  have e:(not (false || a==b))=bytesLess b a:=by
   rw [R7] at h ⊢
   have h:=of_decide_eq_false h
   by_cases hab:a=b
   ·subst hab;simp
   ·have:b<a:=by
     apply Decidable.byContradiction
     intro g
     exact hab (List.le_antisymm (List.not_lt.1 g) (List.not_lt.1 h))
    simp [hab,this]
  rw [e]
  cases bytesLess b a<;>rfl
theorem At1 {R:Type} {k0:Int->Option R} (a b:Int):cci LF a b k0=k0 (HX a b):=by
 unfold cci HX
 cases ltI a b<;>cases ltI b a<;>rfl
theorem Z3:∀ s:By,((46:UInt8)∉s/\G3 46 s = -1)\/∃ p q,s=p++46::q/\(46:UInt8)∉q/\G3 46 s=(p.length:Int)
 | []=>.inl ⟨by simp,rfl⟩
 | b::r=>by
  rcases Z3 r with ⟨h1,h2⟩ | ⟨p,q,h1,h2,h3⟩
  ·by_cases hb:b=46
   ·exact .inr ⟨[],r,by rw [hb];rfl,h1,by unfold G3;rw [h2,if_pos (by decide),if_pos hb];rfl⟩
   ·exact .inl ⟨by simp [h1];exact λe=>hb e.symm,by unfold G3;rw [h2,if_pos (by decide),if_neg hb]⟩
  ·refine .inr ⟨b::p,q,by rw [h1];rfl,h2,?_⟩
   unfold G3
   rw [h3,G7]
   simp
theorem Zc {s:By} (h:(46:UInt8)∉s):rl s=[s]:=by
 unfold rl pcs
 rw [Bm 46 s [] h]
 rfl
theorem Zd (p:By) {q:By} (h:(46:UInt8)∉q):rl (p++46::q)=q::rl p:=by
 unfold rl pcs
 rw [Bl,Bm 46 q [] h,List.reverse_append]
 rfl
theorem Aa2 (s:By):rl s≠[]:=by
 unfold rl
 simpa using Ja 46 s
theorem U9 {a b:By} (h:T5 a b=0):a=b:=by
 unfold T5 at h
 cases h1:bytesLess a b with
 | true=>rw [h1] at h;cases h
 | false=>
  cases h2:bytesLess b a with
  | true=>rw [h1,h2] at h;cases h
  | false=>
   rw [R7] at h1 h2
   exact List.le_antisymm (List.not_lt.1 (of_decide_eq_false h2)) (List.not_lt.1 (of_decide_eq_false h1))
theorem BA (a:By):bytesLess a a=false:=by rw [R7];simp
def Rf (x y:List By):Int:=cond (Yj x y) (-1) (cond (Yj y x) 1 0)
theorem M6 {a b:By} {x y:List By} (h:T5 a b≠0):Rf (a::x) (b::y)=T5 a b:=by
 have hne:a≠b:=λe=>h (by rw [e];unfold T5;rw [BA];rfl)
 have e1:(a==b)=false:=by simpa using hne
 have e2:(b==a)=false:=by simpa using Ne.symm hne
 unfold Rf T5
 simp only [Yj,e1,e2,Bool.false_and,Bool.or_false]
theorem M5 {a:By} {x y:List By}:Rf (a::x) (a::y)=Rf x y:=by
 unfold Rf
 simp only [Yj,BA,beq_self_eq_true,Bool.true_and,Bool.false_or]
theorem DB {R:Type} {k0:Int->Option R}:∀ (n:Nat) (a b:By),a.length<=1000000000->b.length<=1000000000->a.length<n->
  Ka LF n a b k0 (λi k=>k0 (HX (if ((0:Int)<i) then (0:Int) else i) (if ((0:Int)<k) then (0:Int) else k)))=k0 (M3 a b)
 | 0,a,b,_,_,h=>by omega
 | n+1,a,b,ha,hb,h=>by
  have e46:u8n (46:Int)=46:=rfl
  have hcmp:∀ x y:By,M3 x y=Rf (rl x) (rl y):=λx y=>rfl
  rw [Ka]
  simp only [vl,e46]
  rw [I9 ha,I9 hb,cond_true,cond_true,hcmp]
  rcases Z3 a with ⟨a1,a2⟩ | ⟨p,q,rfl,a1,a2⟩<;>rcases Z3 b with ⟨b1,b2⟩ | ⟨p',q',rfl,b1,b2⟩<;>rw [a2,b2]
  ·have e1:cut a (A1 (-1+1)) (a.length:Int)=a:=by rw [A5,M7];rfl
   have e2:cut b (A1 (-1+1)) (b.length:Int)=b:=by rw [A5,M7];rfl
   rw [e1,e2,Q1 (by rw [A5];omega) (by rw [A5];omega),Q1 (by rw [A5];omega) (by rw [A5];omega),cond_true,cond_true,Zc a1,Zc b1]
   by_cases hc:T5 a b=0
   ·rw [show (T5 a b != 0)=false by rw [hc];rfl,cond_false,A9,cond_true,U9 hc,M5];rfl
   ·rw [show (T5 a b != 0)=true by simpa using hc,cond_true,M6 hc]
  ·have e1:cut a (A1 (-1+1)) (a.length:Int)=a:=by rw [A5,M7];rfl
   have e2:cut (p'++46::q') (A1 ((p'.length:Int)+1)) ((p'++46::q').length:Int)=q':=by
    simp only [List.length_append,List.length_cons] at hb
    rw [A5,M7,show (((p'.length:Int)+1).toNat)=p'.length+1 by omega]
    simp
   have hl:(p'++46::q').length=p'.length+(q'.length+1):=by simp
   rw [e1,e2,Q1 (by rw [A5];omega) (by rw [A5];omega),Q1 (by rw [A5];omega) (by rw [A5];omega),cond_true,cond_true,Zc a1,Zd p' b1]
   by_cases hc:T5 a q'=0
   ·rw [show (T5 a q' != 0)=false by rw [hc];rfl,cond_false,A9,cond_true,U9 hc,M5,G7]
    have e3:(if (0:Int)<(p'.length:Int) then (0:Int) else (p'.length:Int))=0:=by split<;>omega
    rw [e3]
    have:Rf [] (rl p') = -1:=by
     unfold Rf
     cases hr:rl p' with
     | nil=>exact absurd hr (Aa2 p')
     | cons x r=>rfl
    rw [this];rfl
   ·rw [show (T5 a q' != 0)=true by simpa using hc,cond_true,M6 hc]
  ·have e1:cut (p++46::q) (A1 ((p.length:Int)+1)) ((p++46::q).length:Int)=q:=by
    simp only [List.length_append,List.length_cons] at ha
    rw [A5,M7,show (((p.length:Int)+1).toNat)=p.length+1 by omega]
    simp
   have e2:cut b (A1 (-1+1)) (b.length:Int)=b:=by rw [A5,M7];rfl
   have hl:(p++46::q).length=p.length+(q.length+1):=by simp
   rw [e1,e2,Q1 (by rw [A5];omega) (by rw [A5];omega),Q1 (by rw [A5];omega) (by rw [A5];omega),cond_true,cond_true,Zc b1,Zd p a1]
   by_cases hc:T5 q b=0
   ·rw [show (T5 q b != 0)=false by rw [hc];rfl,cond_false,A7,cond_false,A9,cond_true,U9 hc,M5]
    have e3:(if (0:Int)<(p.length:Int) then (0:Int) else (p.length:Int))=0:=by split<;>omega
    rw [e3,G7]
    have:Rf (rl p) []=1:=by
     unfold Rf
     cases hr:rl p with
     | nil=>exact absurd hr (Aa2 p)
     | cons x r=>rfl
    rw [this];rfl
   ·rw [show (T5 q b != 0)=true by simpa using hc,cond_true,M6 hc]
  ·have e1:cut (p++46::q) (A1 ((p.length:Int)+1)) ((p++46::q).length:Int)=q:=by
    simp only [List.length_append,List.length_cons] at ha
    rw [A5,M7,show (((p.length:Int)+1).toNat)=p.length+1 by omega]
    simp
   have e2:cut (p'++46::q') (A1 ((p'.length:Int)+1)) ((p'++46::q').length:Int)=q':=by
    simp only [List.length_append,List.length_cons] at hb
    rw [A5,M7,show (((p'.length:Int)+1).toNat)=p'.length+1 by omega]
    simp
   have hl:(p++46::q).length=p.length+(q.length+1):=by simp
   have hl':(p'++46::q').length=p'.length+(q'.length+1):=by simp
   rw [e1,e2,Q1 (by rw [A5];omega) (by rw [A5];omega),Q1 (by rw [A5];omega) (by rw [A5];omega),cond_true,cond_true,Zd p a1,Zd p' b1]
   by_cases hc:T5 q q'=0
   ·rw [show (T5 q q' != 0)=false by rw [hc];rfl,cond_false,A7,cond_false,A7,cond_false,Q1,cond_true,Q1,cond_true,U9 hc,M5,Ai,Ai,Int.toNat_natCast,Int.toNat_natCast,List.take_left,List.take_left,DB n p p' (by omega) (by omega) (by omega)]
    rfl
   ·rw [show (T5 q q' != 0)=true by simpa using hc,cond_true,M6 hc]
theorem Ah4 {R:Type} {k0:Int->Option R} (a b:By) (h0:A2 a.length=true) (h1:A2 b.length=true):Bf9 LF a b k0=k0 (M3 a b):=by
 have hLF:=E8
 have ha:=N8 h0
 unfold Bf9
 exact DB LF a b ha (N8 h1) (by omega)
theorem Bh1 (h:By) (b:Bool) (e:Int) (h0:A2 h.length=true):∃ r H,Bg9 LF h b e (λr0 s1 b2 n3=>rv (.s (.bool r0)) [.box [.s (.str s1),.s (.bool b2),.s (.int .i64 n3)]])=rv r H/\r.stab [] H = .s (.bool (Ah9 h e)):=by
 unfold Bg9 Ah9
 rw [h0]
 cases D3 h with
 | false=>exact ⟨_,_,rfl,rfl⟩
 | true=>cases ltI e 0<;>exact ⟨_,_,rfl,rfl⟩
theorem Ak6 {R:Type} {k0:Bool->Option R} (n m:Int):Bs9 LF n m k0=k0 (not (ltI m n)):=rfl
theorem Be2 (h:By) (b:Bool) (h0:A2 h.length=true):∃ r H,Be0 LF h b (λr0 s1 b2=>rv (.s (.bool r0)) [.box [.s (.str s1),.s (.bool b2)]])=rv r H/\r.stab [] H = .s (.bool (not (D3 h))):=by
 unfold Be0
 rw [h0]
 exact ⟨_,_,rfl,rfl⟩
theorem Bs0 (h:By) (b:Bool) (s:By) (h0:A2 h.length=true) (h1:A2 s.length=true):∃ r H,lgf LF h b s (λr0 s1 b2=>rv (.s (.int .i64 r0)) [.box [.s (.str s1),.s (.bool b2)]])=rv r H/\r.stab [] H = .s (.int .i64 (M3 h s)):=by
 unfold lgf
 rw [h0,h1]
 exact ⟨_,_,rfl,rfl⟩
theorem Bt4 (h:By) (b:Bool) (e:Int) (s:By) (h0:A2 h.length=true) (h1:A2 s.length=true):∃ r H,tff LF h b e s (λr0 s1 b2 n3=>rv (.s (.int .i64 r0)) [.box [.s (.str s1),.s (.bool b2),.s (.int .i64 n3)]])=rv r H/\r.stab [] H = .s (.int .i64 (M3 h s)):=by
 unfold tff
 rw [h0,h1]
 exact ⟨_,_,rfl,rfl⟩
theorem Af7 {R:Type} (z t:Bool) (l:List Ent) (hs:(D1 l).all smE=true) (k0:Int->Option R) (k1:Unit->Option R) (hl:l.length<=1000000000):∀ (r i m:Nat),i+r=l.length->r<m->
  Gv LF m z t (D1 l) (l.length:Int) (i:Int) k0 k1=match (l.drop i).findIdx? (λe=>!D3 e.1) with | some j=>k0 ((i+j:Nat):Int) | none=>k1 ():=by
 intro r
 induction r with
 | zero=>
  intro i m hi hm
  obtain ⟨m,rfl⟩:∃ q,m=q+1:=⟨m-1,by omega⟩
  rw [Gv,A7,List.drop_of_length_le (by omega)]
  rfl
 | succ r ih=>
  intro i m hi hm
  obtain ⟨m,rfl⟩:∃ q,m=q+1:=⟨m-1,by omega⟩
  have e1:A1 ((i:Int)+1)=((i+1:Nat):Int):=by rw [A5];rfl
  have hd:l.drop i=l.getD i noE::l.drop (i+1):=by
   rw [List.getD_eq_getElem?_getD,List.getElem?_eq_getElem (by omega),Option.getD_some,List.getElem_cons_drop]
  rw [Gv,A9,J6 (by omega) (by rw [D7];omega),Int.toNat_natCast,Of (by omega),Ip (by omega),Vl hs (by omega),e1,hd,List.findIdx?_cons]
  simp only [cond_true]
  cases D3 (l.getD i noE).1 with
  | false=>simp
  | true=>
   rw [Bool.not_true,cond_false,ih (i+1) m (by omega) (by omega)]
   cases (l.drop (i+1)).findIdx? (λe=>!D3 e.1) with
   | none=>rfl
   | some j=>simp [Nat.add_assoc,Nat.add_comm 1 j]
theorem Af8 {R:Type} {k0:Int->Option R} (z t:Bool) (l:LL) (h0:l.all D5=true) (h1:l.all smE=true) (h2:A2 l.length=true):Bd8 LF z t l k0=k0 (ixE (l.map A6)):=by
 have hLF:=E8
 have hl:=N8 h2
 rw [Gk h0] at h1 hl ⊢
 generalize l.map A6=q at h1 hl ⊢
 rw [D7] at hl
 unfold Bd8 ixE
 rw [D7,Nl]
 refine (Af7 z t q h1 _ _ hl q.length 0 LF (by omega) (by omega)).trans ?_
 rw [List.drop_zero]
 cases q.findIdx? (λe=>!D3 e.1) with
 | none=>rfl
 | some j=>
  show k0 ((0+j:Nat):Int)=k0 (j:Int)
  rw [Nat.zero_add]
theorem Br6 (l:List Ent):(!ltI (ixE l) 0)=QD l:=by
 unfold ixE QD
 cases h:l.findIdx? (λe=>!D3 e.1) with
 | none=>
  rw [List.findIdx?_eq_none_iff] at h
  show (!ltI (-1) 0)=_
  rw [A9]
  exact (List.any_eq_false.2 λx hx=>by rw [h x hx];simp).symm
 | some j=>
  show (!ltI (j:Int) 0)=_
  rw [A7]
  exact (List.any_eq_true.2 (by
   obtain ⟨hj,hp,_⟩:=List.findIdx?_eq_some_iff_getElem.1 h
   exact ⟨_,List.getElem_mem hj,hp⟩)).symm
theorem Af2 {R:Type} {k0:Bool->Option R} (z t:Bool) (l:LL) (h0:l.all D5=true) (h1:l.all smE=true) (h2:A2 l.length=true):Bd4 LF z t l k0=k0 (QD (l.map A6)):=by
 unfold Bd4
 rw [h0,h1,h2,<-Br6]
 rfl
theorem IO {z:Bool} {l:LL} (h:N2 z l=true) (hz:z=true):l=[]:=by
 subst hz
 simpa [N2] using h
theorem Af1 {R:Type} {k0:Bool->LL->Option R} (z t:Bool) (l:LL) (h0:A2 l.length=true) (h1:N2 z l=true):Bd2 LF z t l k0=k0 z l:=by
 unfold Bd2
 cases z with
 | true=>rw [IO h1 rfl];rfl
 | false=>
  have:=N8 h0
  rw [G1 (by omega)]
  rfl
theorem Al9 {R:Type} {k0:Bool->LL->Option R} (z t:Bool) (l:LL) (h0:A2 l.length=true) (h1:N2 z l=true):Bk3 LF z t l k0=k0 z l:=by
 unfold Bk3
 cases z with
 | true=>rw [IO h1 rfl];rfl
 | false=>
  have:=N8 h0
  rw [G1 (by omega)]
  rfl
theorem By6 {a b:Nat} (h:a+b<=4000000000):A1 (Ak8 .u64 (Am4 (A1 ((a:Int)+(b:Int)))) 1)=(((a+b) / 2:Nat):Int):=by
 have e1:A1 ((a:Int)+(b:Int))=((a+b:Nat):Int):=by rw [A5];omega
 have e2:Am4 ((a+b:Nat):Int)=((a+b:Nat):Int):=Ab3 (by omega) (by omega)
 have e3:Ak8 .u64 ((a+b:Nat):Int) 1=(((a+b) / 2:Nat):Int):=Bj5 .u64 (a+b) 1 (by decide)
 rw [e1,e2,e3,A5]
theorem CT {R:Type} (z t:Bool) (l:List Ent) (s:By) (hs:(D1 l).all smE=true) (h1:A2 s.length=true) (n:Int) (k0:Bool->Bool->LL->By->Int->Int->Option R) (hl:l.length<=1000000000):∀ (r i j m:Nat),j-i<=r->i<=j->j<=l.length->r<m->
  Dw LF m z t (D1 l) s n (i:Int) (j:Int) k0=k0 z t (D1 l) s n ((Kl (λi=>M3 ((l.map Prod.fst).getD i []) s) (r+1) i j:Nat):Int):=by
 intro r
 induction r with
 | zero=>
  intro i j m hr hi hj hm
  obtain ⟨m,rfl⟩:∃ q,m=q+1:=⟨m-1,by omega⟩
  rw [Dw,A7]
  unfold Kl
  rw [G7]
  rfl
 | succ r ih=>
  intro i j m hr hi hj hm
  obtain ⟨m,rfl⟩:∃ q,m=q+1:=⟨m-1,by omega⟩
  rw [Dw]
  by_cases hij:i<j
  ·have hh:(i+j) / 2<l.length:=by omega
   rw [A9,Kl,if_pos hij]
   simp only [vl,cond_true]
   rw [By6 (by omega),J6 (by omega) (by rw [D7];omega),Int.toNat_natCast,Of hh,Ip hh,Vl hs hh,h1,Uy Prod.fst (d:=noE) hh]
   simp only [cond_true]
   have e1:A1 ((((i+j) / 2:Nat):Int)+1)=(((i+j) / 2+1:Nat):Int):=by rw [A5];rfl
   by_cases hc:M3 (l.getD ((i+j) / 2) noE).1 s<0
   ·rw [C6 hc,cond_true,if_pos hc,e1,ih _ _ m (by omega) (by omega) hj (by omega)]
   ·rw [E5 (by omega),cond_false,if_neg hc,ih _ _ m (by omega) (by omega) (by omega) (by omega)]
  ·rw [A7,Kl,if_neg hij]
   rfl
theorem Af0 {R:Type} {k0:Int->Bool->Option R} (z t:Bool) (l:LL) (s:By) (h0:l.all D5=true) (h1:l.all smE=true) (h2:A2 l.length=true) (h3:A2 s.length=true) :
  Bd0 LF z t l s k0=k0 (bsI ((l.map A6).map Prod.fst) s:Int) (bsB ((l.map A6).map Prod.fst) s):=by
 have hLF:=E8
 have hl:=N8 h2
 rw [Gk h0] at h1 hl ⊢
 generalize l.map A6=q at h1 hl ⊢
 rw [D7] at hl
 unfold Bd0
 rw [D7,Nl]
 have hlo:=CT (R:=R) z t q s h1 h3 (q.length:Int)
 refine (CT z t q s h1 h3 _ _ hl q.length 0 q.length LF (by omega) (by omega) (by omega) (by omega)).trans ?_
 have hle:=(Ul (λi=>M3 ((q.map Prod.fst).getD i []) s) (q.length+1) 0 q.length (by omega)).2
 have e:bsI (q.map Prod.fst) s=Kl (λi=>M3 ((q.map Prod.fst).getD i []) s) (q.length+1) 0 q.length:=by unfold bsI;rw [List.length_map]
 rw [<-e] at hle ⊢
 unfold bsB
 generalize bsI (q.map Prod.fst) s=i at hle ⊢
 rw [List.length_map]
 by_cases hi:i<q.length
 ·simp only [vl]
  rw [A9,J6 (by omega) (by rw [D7];omega),Int.toNat_natCast,Of hi,Ip hi,Vl h1 hi,h3,show Nat.blt i q.length=true from Mn.2 hi,Uy Prod.fst (d:=noE) hi,BY]
  rfl
 ·rw [A7,show Nat.blt i q.length=false by cases hb:Nat.blt i q.length with | false=>rfl | true=>exact absurd (Mn.1 hb) hi]
  rfl
theorem Al7 {R:Type} (z t:Bool) (l:List Q7) (s:By) (hs:(Z9 l).all smE=true) (h1:A2 s.length=true) (n:Int) (k0:Bool->Bool->LL->By->Int->Int->Option R) (hl:l.length<=1000000000):∀ (r i j m:Nat),j-i<=r->i<=j->j<=l.length->r<m->
  Ei LF m z t (Z9 l) s n (i:Int) (j:Int) k0=k0 z t (Z9 l) s n ((Kl (λi=>M3 ((l.map Prod.fst).getD i []) s) (r+1) i j:Nat):Int):=by
 intro r
 induction r with
 | zero=>
  intro i j m hr hi hj hm
  obtain ⟨m,rfl⟩:∃ q,m=q+1:=⟨m-1,by omega⟩
  rw [Ei,A7]
  unfold Kl
  rw [G7]
  rfl
 | succ r ih=>
  intro i j m hr hi hj hm
  obtain ⟨m,rfl⟩:∃ q,m=q+1:=⟨m-1,by omega⟩
  rw [Ei]
  by_cases hij:i<j
  ·have hh:(i+j) / 2<l.length:=by omega
   rw [A9,Kl,if_pos hij]
   simp only [vl,cond_true]
   rw [By6 (by omega),J6 (by omega) (by rw [J8];omega),Int.toNat_natCast,Oh hh,Iq hh,Pf hs hh,h1,Uy Prod.fst (d:=noP) hh]
   simp only [cond_true]
   have e1:A1 ((((i+j) / 2:Nat):Int)+1)=(((i+j) / 2+1:Nat):Int):=by rw [A5];rfl
   by_cases hc:M3 (l.getD ((i+j) / 2) noP).1 s<0
   ·rw [C6 hc,cond_true,if_pos hc,e1,ih _ _ m (by omega) (by omega) hj (by omega)]
   ·rw [E5 (by omega),cond_false,if_neg hc,ih _ _ m (by omega) (by omega) (by omega) (by omega)]
  ·rw [A7,Kl,if_neg hij]
   rfl
theorem Al8 {R:Type} {k0:Int->Bool->Option R} (z t:Bool) (l:LL) (s:By) (h0:l.all F7=true) (h1:l.all smE=true) (h2:A2 l.length=true) (h3:A2 s.length=true) :
  Bk1 LF z t l s k0=k0 (bsI ((l.map B0).map Prod.fst) s:Int) (bsB ((l.map B0).map Prod.fst) s):=by
 have hLF:=E8
 have hl:=N8 h2
 rw [Vf h0] at h1 hl ⊢
 generalize l.map B0=q at h1 hl ⊢
 rw [J8] at hl
 unfold Bk1
 rw [J8,Bg8]
 refine (Al7 z t q s h1 h3 _ _ hl q.length 0 q.length LF (by omega) (by omega) (by omega) (by omega)).trans ?_
 have hle:=(Ul (λi=>M3 ((q.map Prod.fst).getD i []) s) (q.length+1) 0 q.length (by omega)).2
 have e:bsI (q.map Prod.fst) s=Kl (λi=>M3 ((q.map Prod.fst).getD i []) s) (q.length+1) 0 q.length:=by unfold bsI;rw [List.length_map]
 rw [<-e] at hle ⊢
 unfold bsB
 generalize bsI (q.map Prod.fst) s=i at hle ⊢
 rw [List.length_map]
 by_cases hi:i<q.length
 ·simp only [vl]
  rw [A9,J6 (by omega) (by rw [J8];omega),Int.toNat_natCast,Oh hi,Iq hi,Pf h1 hi,h3,show Nat.blt i q.length=true from Mn.2 hi,Uy Prod.fst (d:=noP) hi,BY]
  rfl
 ·rw [A7,show Nat.blt i q.length=false by cases hb:Nat.blt i q.length with | false=>rfl | true=>exact absurd (Mn.1 hb) hi]
  rfl
theorem A16 {l:List Ent} (h:(D1 l).all smE=true):∀ e∈l,e.1.length<=1000000000:=λe he=>by
 have:=List.all_eq_true.1 h (Ue e) (List.mem_map.2 ⟨e,he,rfl⟩)
 exact N8 this
end
section
open Go Go.Proofs
set_option maxRecDepth 100000
section
variable {σ R : Type} (lf : Nat) (cl : D4) (yh : Yh σ) (s : σ) (k : Out -> St σ -> Option R)
noncomputable abbrev Ar0:Code:=D2 Tryz.f26
noncomputable def Lm (lf:Nat):Cfg:=B8 lf [26] (A4 [(8,[2,0,0,0])]) [(57,EX),(60,EV)] (A4 [(12,[2,0]),(9,[4,0]),(11,[2,0]),(10,[4,0,26]),(8,[4,0,12]),(7,[4,0]),(6,[4]),(5,[4]),(4,[2,0]),(3,[0,9]),(2,[2,0]),(1,[0,7]),(0,[0])]) [57] (A4 [(0,[4]),(1,[4,0])]) (some [2,0]) [] [] [] (nt:=[(105,0,63,2)]) (Z:=[(61,Py)])
noncomputable def Ab {R:Type} (lf n:Nat) (i0:Int) (z1:Bool) (l2:LL) (k0:(List Blk)->Option R) (k1:Bool->LL->Option R):Option R:=match n with | 0=>none | n+1=>cond (ltI i0 (l2.length:Int)) (cond (inR i0 l2.length) (cond (okE Dh l2 (Int.toNat i0) 0) (cond (inR (A1 (i0-1)) l2.length) (cond (okE Dh l2 (Int.toNat (A1 (i0-1))) 0) (vl (gX l2 (Int.toNat (A1 (i0-1))) 0) λs'0=>cond ((gX l2 (Int.toNat i0) 0)==s'0) (k0 [(Blk.arr z1 63 2 l2)]) (Ab lf n (A1 (i0+1)) z1 l2 k0 k1)) none) none) none) none) (k1 z1 l2)
theorem TX (n i0 z1 l2):E4 1 ((Lm lf).keep 8) (bd (Lm lf) cl yh (cd [1,1,1,1,1,0,1,0,0] Ar0)) n ⟨gp [(4,.fl 0),(0,pI i0)] 30,[.arr z1 63 2 l2],s⟩ k =
 Ab lf n i0 z1 l2 (λH0=>k .ret ⟨gp [(2,.s (.nilp)),(0,pI (17:Int))] 32,H0,s⟩) (λz0 l1=>k (.exit 0) ⟨gp [(4,.fl 0)] 31,[.arr z0 63 2 l1],s⟩):=by
 induction n generalizing i0 z1 l2 with
 | zero=>rfl
 | succ n ih=>rw [Ab];simp only [<-ih];kernel_rfl
noncomputable def Af9 {R:Type} (lf:Nat) (l_z0 l_t1:Bool) (l2:LL) (k0:Int->(List Blk)->Option R) (k1:Bool->LL->(List Blk)->Option R):Option R:=cond (ltI 1000 (l2.length:Int)) (k0 3 []) (cond (List.all l2 D5) (cond (List.all l2 smE) (cond (A2 l2.length) (cond (QD (List.map A6 l2)) (k0 14 []) (cond (A2 l2.length) (cond (N2 l_z0 l2) (cond ((List.all l2 D5)&&((List.all l2 smE)&&(A2 l2.length))) (Ab lf lf 1 l_z0 (D1 (R4 (List.map A6 l2))) (λH'1=>k0 17 H'1) (λz'2 l'3=>k1 z'2 l'3 [])) none) none) none)) none) none) none)
theorem ZL (d:Nat) (l_z0 l_t1 l2):evC (Lm lf) (d+1) σ yh 26 [.s (.sl l_z0 l_t1 2 l2)] [] s=Af9 lf l_z0 l_t1 l2 (λr0 H1=>some (.tup [.s (.nilp),pI r0],H1,s)) (λz0 l1 H2=>some (.tup [.ptr 1 0 0,pI (0:Int)],(.arr z0 63 2 l1::.box [.fl 0]::H2),s)):=by
 refine (evE (fn:=Tryz.f26) (by kernel_rfl)).trans ?_
 generalize evC (Lm lf) d=cl
 unfold Af9;exact (Eq.trans (by kernel_rfl) (A0 rfl (A0 (A0 (A0 (A0 rfl (A0 (A0 (A0 ((TX lf cl yh s (H4 0 (I5 (Lm lf) cl yh (cd [1,1,1,1,1,1] Ar0) (G9 (Lm lf) Tryz.f26))) lf 1 l_z0 (D1 (R4 (List.map A6 l2)))).trans (by kernel_rfl)) rfl) rfl) rfl)) rfl) rfl) rfl)))
noncomputable abbrev Ax6 (l_z0 l_t1:Bool) (l2:LL):Option (PV × List Blk × Unit):=Af9 LF l_z0 l_t1 l2 (λr0 H1=>some (.tup [.s (.nilp),pI r0],H1,())) (λz0 l1 H2=>some (.tup [.ptr 1 0 0,pI (0:Int)],(.arr z0 63 2 l1::.box [.fl 0]::H2),()))
noncomputable def HM (lf:Nat):Cfg:=B8 lf [73] (A4 []) [] (A4 [(3,[2,0]),(2,[2,0]),(1,[0,8]),(0,[0])]) [] (A4 []) (some [2,0]) [] [] [] (nt:=[(87,0,48,3)])
noncomputable def ZY {R:Type} (lf:Nat) (n:Int) (k0:Unit->Option R) (k1:Int->Option R):Option R:=cond (ltI n 1) (k0 ()) (cond (ltI 1000 n) (k0 ()) (k1 n))
theorem Az6 (d:Nat) (n):evC (HM lf) (d+1) σ yh 73 [pI n] [] s=ZY lf n (λ_=>some (.tup [.s (.nilp),pI (2:Int)],[],s)) (λn0=>some (.tup [.ptr 1 0 0,pI (0:Int)],[.arr true 48 3 [],.box [.fl 0,pI n0]],s)):=by
 refine (evE (fn:=Tryz.f73) (by kernel_rfl)).trans ?_
 generalize evC (HM lf) d=cl
 unfold ZY;kernel_rfl
noncomputable abbrev KP:Code:=D2 Tryz.f38
noncomputable def Cj (lf:Nat):Cfg:=B8 lf [38] (A4 [(7,[0,3,0,0,17,0,0])]) [(73,FS),(45,FP),(63,Qb),(74,GL)] (A4 [(15,[4,0]),(14,[6]),(13,[0,5,17,0,0]),(10,[4,0]),(12,[4,0]),(11,[0,5,17,0,0,8]),(9,[0,5,1,0,14,0,0,4]),(8,[0,5,1,0,14,0,0]),(7,[0,5,17,0,0,0]),(6,[0,5,17,0,0]),(3,[4,0]),(5,[4,0]),(4,[0,5,12]),(2,[0,0,4,0,7]),(1,[0,0,4,0]),(0,[0,0])]) [45,63] (A4 [(1,[0,5]),(2,[0,5,17,0,0]),(3,[0,5,17,0,0]),(0,[0,5])]) (some [4,0]) [] [] []
noncomputable def S6 {R:Type} (lf n:Nat) (pins_z0 pins_t1:Bool) (pins2:LL) (n3 n4:Int) (l5:LL) (n6:Int) (k0:Int->LL->Int->By->Bool->Int->Option R) (k1:Bool->Bool->LL->LL->Int->Option R):Option R:=match n with | 0=>none | n+1=>cond (ltI n4 n3) (cond (inR n4 pins2.length) (cond (okE ⟨true,true,[.str,.bool,.int .i64]⟩ pins2 (Int.toNat n4) 0) (vl (gX pins2 (Int.toNat n4) 0) λs'2=>vl (gE pins2 (Int.toNat n4) 2) λn'3=>cond (A2 s'2.length) (cond (not (Ah9 s'2 n'3)) (k0 1 l5 n6 s'2 (gY pins2 (Int.toNat n4) 1) n'3) (cond (ltI 0 n4) (cond (inR (A1 (n4-1)) pins2.length) (cond (okE Dh pins2 (Int.toNat (A1 (n4-1))) 0) (vl (gX pins2 (Int.toNat (A1 (n4-1))) 0) λs'4=>cond (A2 s'4.length) (cond (A2 s'2.length) (cond (not (ltI (M3 s'4 s'2) (0:Int))) (k0 8 l5 n6 s'2 (gY pins2 (Int.toNat n4) 1) n'3) (S6 lf n pins_z0 pins_t1 pins2 n3 (A1 (n4+1)) l5 n6 k0 k1)) none) none) none) none) (S6 lf n pins_z0 pins_t1 pins2 n3 (A1 (n4+1)) l5 n6 k0 k1))) none) none) none) (k1 pins_z0 pins_t1 pins2 l5 n6)
theorem IY (n pins_z0 pins_t1 pins2 n3 n4 l5 n6):E4 2 ((Cj lf).keep 7) (bd (Cj lf) cl yh (cd [1,1,1,0,1,0,0] KP)) n ⟨gp [(0,.s (.sl pins_z0 pins_t1 3 pins2)),(5,.ptr 1 0 0),(17,.s (.sl pins_z0 pins_t1 3 pins2)),(0,pI n3),(0,pI n4)] 30,[.arr true 48 3 l5,.box [.fl 0,pI n6]],s⟩ k =
 S6 lf n pins_z0 pins_t1 pins2 n3 n4 l5 n6 (λn0 l1 n2 s3 b4 n5=>k .ret ⟨gp [(4,.s (.nilp)),(0,pI n0)] 51,[.arr true 48 3 l1,.box [.fl 0,pI n2],.box [pS s3,pB b4,pI n5]],s⟩) (λpins_z0 pins_t1 pins2 l3 n4=>k (.exit 1) ⟨gp [(0,.s (.sl pins_z0 pins_t1 3 pins2)),(5,.ptr 1 0 0)] 50,[.arr true 48 3 l3,.box [.fl 0,pI n4]],s⟩):=by
 induction n generalizing pins_z0 pins_t1 pins2 n3 n4 l5 n6 with
 | zero=>rfl
 | succ n ih=>rw [S6];simp only [<-ih];kernel_rfl
noncomputable def Ma {R:Type} (lf:Nat) (t_z t_t:Bool) (t:LL) (cp:Int) (k0:LL->Int->Option R) (k1:Int->LL->Int->By->Bool->Int->Option R) (k2:LL->Int->Bool->LL->Option R):Option R:=cond ((ltI 0 cp)&&(ltI cp 1001)) (cond (ltI cp (t.length:Int)) (k0 List.nil cp) (S6 lf lf t_z t_t t (t.length:Int) 0 List.nil cp (λn'5 l'6 n'7 s'8 b'9 n'10=>k1 n'5 l'6 n'7 s'8 b'9 n'10) (λpins_z'11 pins_t'12 pins'13 l'14 n'15=>cond (A2 pins'13.length) (cond (N2 pins_z'11 pins'13) (k2 l'14 n'15 pins_z'11 pins'13) none) none))) none
theorem DD (d:Nat) (t_z t_t t cp):evC (Cj lf) (d+1) σ yh 38 [.s (.sl t_z t_t 3 t),pI cp] [] s=Ma lf t_z t_t t cp (λl0 n1=>some (.tup [.s (.nilp),pI (11:Int)],[.arr true 48 3 l0,.box [.fl 0,pI n1]],s)) (λr0 l1 n2 s3 b4 n5=>some (.tup [.s (.nilp),pI r0],[.arr true 48 3 l1,.box [.fl 0,pI n2],.box [pS s3,pB b4,pI n5]],s)) (λl0 n1 z2 l3=>some (.tup [.ptr 1 0 0,pI (0:Int)],[.arr true 48 3 l0,.box [.fl 2,pI n1],.arr z2 48 3 l3],s)):=by
 refine (evE (fn:=Tryz.f38) (by kernel_rfl)).trans ?_
 generalize evC (Cj lf) d=cl
 unfold Ma;exact (Eq.trans (by kernel_rfl) (A0 (A0 rfl ((IY lf cl yh s (H4 1 (I5 (Cj lf) cl yh (cd [1,1,1,1] KP) (G9 (Cj lf) Tryz.f38))) lf t_z t_t t (t.length:Int) 0 List.nil cp).trans (by kernel_rfl))) rfl))
noncomputable abbrev NF (t_z t_t:Bool) (t:LL) (cp:Int):Option (PV × List Blk × Unit):=Ma LF t_z t_t t cp (λl0 n1=>some (.tup [.s (.nilp),pI (11:Int)],[.arr true 48 3 l0,.box [.fl 0,pI n1]],())) (λr0 l1 n2 s3 b4 n5=>some (.tup [.s (.nilp),pI r0],[.arr true 48 3 l1,.box [.fl 0,pI n2],.box [pS s3,pB b4,pI n5]],())) (λl0 n1 z2 l3=>some (.tup [.ptr 1 0 0,pI (0:Int)],[.arr true 48 3 l0,.box [.fl 2,pI n1],.arr z2 48 3 l3],()))
noncomputable def HD (lf:Nat):Cfg:=B8 lf [28] (A4 []) [(65,PJ)] (A4 [(6,[4,0]),(5,[4,0]),(4,[0,3,1,14]),(3,[0,3,1,0]),(2,[4,0]),(1,[0,0,2,4]),(0,[0,0,2])]) [65] (A4 []) (some [4,0]) [] [] []
noncomputable def ZJ {R:Type} (lf:Nat) (lz lt:Bool) (l:LL) (q:By) (k0:By->Bool->Bool->By->Bool->Option R):Option R:=cond (List.all l D5) (cond (List.all l smE) (cond (A2 l.length) (cond (A2 q.length) (vl (↑(bsI (List.map Prod.fst (List.map A6 l)) q):Int) λn'1=>cond (not (bsB (List.map Prod.fst (List.map A6 l)) q)) (k0 ([]:List UInt8) false false ([]:List UInt8) false) (cond (inR n'1 l.length) (cond (okE ⟨true,true,[.str,.bool]⟩ l (Int.toNat n'1) 0) (k0 (gX l (Int.toNat n'1) 0) (gY l (Int.toNat n'1) 1) true (gX l (Int.toNat n'1) 0) (gY l (Int.toNat n'1) 1)) none) none)) none) none) none) none
theorem Ax1 (d:Nat) (lz lt l q):evC (HD lf) (d+1) σ yh 28 [.s (.sp [[.sl lz lt 2 l]] 0 0),pS q] [] s=ZJ lf lz lt l q (λr0 r1 r2 s3 b4=>some (.tup [.agg [pS r0,pB r1],pB r2],[.box [pS s3,pB b4]],s)):=by
 refine (evE (fn:=Tryz.f28) (by kernel_rfl)).trans ?_
 generalize evC (HD lf) d=cl
 unfold ZJ;kernel_rfl
noncomputable abbrev ZK (lz lt:Bool) (l:LL) (q:By):Option (PV × List Blk × Unit):=ZJ LF lz lt l q (λr0 r1 r2 s3 b4=>some (.tup [.agg [pS r0,pB r1],pB r2],[.box [pS s3,pB b4]],()))
noncomputable def HG (lf:Nat):Cfg:=B8 lf [28] (A4 []) [] (A4 [(6,[4,0]),(5,[4,0]),(4,[0,3,1,14]),(3,[0,3,1,0]),(2,[4,0]),(1,[0,0,2,4]),(0,[0,0,2])]) [] (A4 []) (some [4,0]) [] [] []
noncomputable def Ax3 {R:Type} (lf:Nat) (q:By) (k0:Unit->Option R):Option R:=k0 ()
theorem Ax4 (d:Nat) (q):evC (HG lf) (d+1) σ yh 28 [.s (.nilp),pS q] [] s=Ax3 lf q (λ_=>some (.tup [.agg [pS ([]:List UInt8),pB false],pB false],[.box [pS ([]:List UInt8),pB false]],s)):=by
 refine (evE (fn:=Tryz.f28) (by kernel_rfl)).trans ?_
 generalize evC (HG lf) d=cl
 unfold Ax3;kernel_rfl
noncomputable abbrev Bd7 (q:By):Option (PV × List Blk × Unit):=Ax3 LF q (λ_=>some (.tup [.agg [pS ([]:List UInt8),pB false],pB false],[.box [pS ([]:List UInt8),pB false]],()))
noncomputable def Rw {R:Type} (lf:Nat) (x'2:By) (xs:List By) (self:Bool->Bool->LL->By->Bool->Option R) (z0 t1:Bool) (l2:LL) (s3:By) (b4:Bool) (k0:Bool->Bool->LL->By->Bool->Option R) (k1:Bool->Bool->LL->By->Bool->By->Bool->Option R):Option R:=cond (List.all l2 D5) (cond (List.all l2 smE) (cond (A2 l2.length) (cond (A2 x'2.length) (vl (((J2 (List.map A6 l2) x'2)).1).1 λs'3=>cond ((J2 (List.map A6 l2) x'2)).2 (cond (((J2 (List.map A6 l2) x'2)).1).2 (k1 z0 t1 l2 s'3 (((J2 (List.map A6 l2) x'2)).1).2 s3 b4) (self z0 t1 l2 s3 b4)) (self z0 t1 l2 s3 b4)) none) none) none) none
noncomputable def Ye {R:Type} (lf:Nat) (L:List By) (z0 t1:Bool) (l2:LL) (s3:By) (b4:Bool) (k0:Bool->Bool->LL->By->Bool->Option R) (k1:Bool->Bool->LL->By->Bool->By->Bool->Option R):Option R:=VO (α:=Bool->Bool->LL->By->Bool->Option R) (λz0 t1 l2 s3 b4=>k0 z0 t1 l2 s3 b4) (λx'2 xs self z0 t1 l2 s3 b4=>Rw lf x'2 xs self z0 t1 l2 s3 b4 k0 k1) L z0 t1 l2 s3 b4
theorem TU {R:Type} (lf:Nat) (x'2:By) (xs:List By) (z0 t1:Bool) (l2:LL) (s3:By) (b4:Bool) (k0:Bool->Bool->LL->By->Bool->Option R) (k1:Bool->Bool->LL->By->Bool->By->Bool->Option R):Ye lf (x'2::xs) z0 t1 l2 s3 b4 k0 k1=Rw lf x'2 xs (λz0 t1 l2 s3 b4=>Ye lf xs z0 t1 l2 s3 b4 k0 k1) z0 t1 l2 s3 b4 k0 k1:=rfl
noncomputable def HP (lf:Nat):Cfg:=B8 lf [44] (A4 []) [(77,PX)] (A4 [(3,[4,0]),(2,[4,0]),(1,[0,0,5]),(0,[0,0])]) [77] (A4 []) (some [4,0]) [] [] []
noncomputable def Aa9 {R:Type} (lf:Nat) (tz tt:Bool) (t:LL) (cp:Int) (q:By) (k0:Int->Bool->Option R):Option R:=cond (List.all t F7) (cond (List.all t smE) (cond (A2 t.length) (cond (A2 q.length) (vl (↑(bsI (List.map Prod.fst (List.map B0 t)) q):Int) λn'0=>k0 n'0 (bsB (List.map Prod.fst (List.map B0 t)) q)) none) none) none) none
theorem A22 (d:Nat) (tz tt t cp q):evC (HP lf) (d+1) σ yh 44 [.s (.sp [[.sl tz tt 3 t,.int .i64 cp]] 0 0),pS q] [] s=Aa9 lf tz tt t cp q (λr0 r1=>some (.tup [pI r0,pB r1],[],s)):=by
 refine (evE (fn:=Tryz.f44) (by kernel_rfl)).trans ?_
 generalize evC (HP lf) d=cl
 unfold Aa9;kernel_rfl
noncomputable def HQ (lf:Nat):Cfg:=B8 lf [44] (A4 []) [] (A4 [(3,[4,0]),(2,[4,0]),(1,[0,0,5]),(0,[0,0])]) [] (A4 []) (some [4,0]) [] [] []
noncomputable def A23 {R:Type} (lf:Nat) (q:By) (k0:Unit->Option R):Option R:=k0 ()
theorem A24 (d:Nat) (q):evC (HQ lf) (d+1) σ yh 44 [.s (.nilp),pS q] [] s=A23 lf q (λ_=>some (.tup [pI (0:Int),pB false],[],s)):=by
 refine (evE (fn:=Tryz.f44) (by kernel_rfl)).trans ?_
 generalize evC (HQ lf) d=cl
 unfold A23;kernel_rfl
noncomputable def HS (lf:Nat):Cfg:=B8 lf [20] (A4 []) [(44,PZ)] (A4 [(4,[4,0]),(3,[4,0]),(2,[0,3,1,8]),(1,[0,3,1,0]),(0,[0,0,2])]) [44] (A4 []) (some [4,0]) [] [] []
noncomputable def Ab0 {R:Type} (lf:Nat) (tz tt:Bool) (t:LL) (cp:Int) (q:By) (k0:By->Bool->Int->Bool->By->Bool->Int->Option R):Option R:=cond (List.all t F7) (cond (List.all t smE) (cond (A2 t.length) (cond (A2 q.length) (vl (↑(bsI (List.map Prod.fst (List.map B0 t)) q):Int) λn'1=>cond (not (bsB (List.map Prod.fst (List.map B0 t)) q)) (k0 ([]:List UInt8) false 0 false ([]:List UInt8) false 0) (cond (inR n'1 t.length) (cond (okE ⟨true,true,[.str,.bool,.int .i64]⟩ t (Int.toNat n'1) 0) (k0 (gX t (Int.toNat n'1) 0) (gY t (Int.toNat n'1) 1) (gE t (Int.toNat n'1) 2) true (gX t (Int.toNat n'1) 0) (gY t (Int.toNat n'1) 1) (gE t (Int.toNat n'1) 2)) none) none)) none) none) none) none
theorem A25 (d:Nat) (tz tt t cp q):evC (HS lf) (d+1) σ yh 20 [.s (.sp [[.sl tz tt 3 t,.int .i64 cp]] 0 0),pS q] [] s=Ab0 lf tz tt t cp q (λr0 r1 r2 r3 s4 b5 n6=>some (.tup [.agg [pS r0,pB r1,pI r2],pB r3],[.box [pS s4,pB b5,pI n6]],s)):=by
 refine (evE (fn:=Tryz.f20) (by kernel_rfl)).trans ?_
 generalize evC (HS lf) d=cl
 unfold Ab0;kernel_rfl
noncomputable abbrev Ab1 (tz tt:Bool) (t:LL) (cp:Int) (q:By):Option (PV × List Blk × Unit):=Ab0 LF tz tt t cp q (λr0 r1 r2 r3 s4 b5 n6=>some (.tup [.agg [pS r0,pB r1,pI r2],pB r3],[.box [pS s4,pB b5,pI n6]],()))
noncomputable def HT (lf:Nat):Cfg:=B8 lf [20] (A4 []) [(44,PZ)] (A4 [(4,[4,0]),(3,[4,0]),(2,[0,3,1,8]),(1,[0,3,1,0]),(0,[0,0,2])]) [44] (A4 []) (some [4,0]) [] [] []
noncomputable def A27 {R:Type} (lf:Nat) (q:By) (k0:Unit->Option R):Option R:=k0 ()
theorem A28 (d:Nat) (q):evC (HT lf) (d+1) σ yh 20 [.s (.nilp),pS q] [] s=A27 lf q (λ_=>some (.tup [.agg [pS ([]:List UInt8),pB false,pI (0:Int)],pB false],[.box [pS ([]:List UInt8),pB false,pI (0:Int)]],s)):=by
 refine (evE (fn:=Tryz.f20) (by kernel_rfl)).trans ?_
 generalize evC (HT lf) d=cl
 unfold A27;kernel_rfl
noncomputable abbrev Bk5 (q:By):Option (PV × List Blk × Unit):=A27 LF q (λ_=>some (.tup [.agg [pS ([]:List UInt8),pB false,pI (0:Int)],pB false],[.box [pS ([]:List UInt8),pB false,pI (0:Int)]],()))
noncomputable abbrev GU:Code:=D2 Tryz.f40
noncomputable def En (lf:Nat):Cfg:=B8 lf [40] (A4 []) [(20,Wp),(75,GE),(28,Vv)] (A4 [(7,[10,0]),(6,[10,0]),(5,[3,0,5,42]),(4,[3,0,5,3,0]),(3,[10,0]),(2,[2,0,0,5,25]),(1,[0,1,0,0,5,1,0]),(0,[0,0,0,0,0,5])]) [75] (A4 []) (some [10,0]) [] [] []
noncomputable def Um {R:Type} (l2:LL) (name3:By) (exact4 b5:Bool) (s6:By) (n7:Int) (k0:Bool->Int->By->Bool->By->Bool->Int->By->Bool->Option R):Option R:=cond (List.all l2 D5) (cond (List.all l2 smE) (cond (A2 l2.length) (cond (A2 name3.length) (vl (((J2 (List.map A6 l2) name3)).1).1 λs'9=>cond ((J2 (List.map A6 l2) name3)).2 (cond exact4 (k0 true 2 name3 exact4 s6 b5 n7 s'9 (((J2 (List.map A6 l2) name3)).1).2) (cond (((J2 (List.map A6 l2) name3)).1).2 (k0 true 2 name3 exact4 s6 b5 n7 s'9 (((J2 (List.map A6 l2) name3)).1).2) (k0 false 0 ([]:List UInt8) false s6 b5 n7 s'9 (((J2 (List.map A6 l2) name3)).1).2))) (k0 false 0 ([]:List UInt8) false s6 b5 n7 s'9 (((J2 (List.map A6 l2) name3)).1).2)) none) none) none) none
abbrev BB (b:Code):Prop:=∀ (k:Out->St σ->Option R) l_z0 l_t1 l2 name3 exact4 b5 s6 n7,B2 (En lf) cl yh b ⟨gp [(2,.s (.sp [[.sl l_z0 l_t1 2 l2]] 0 0)),(0,pS name3),(0,pB exact4),(5,.ptr 0 0 0),(25,pB b5)] 21,[.box [pI (0:Int),pS ([]:List UInt8),pB false],.box [pS s6,pB b5,pI n7]],s⟩ k=Um l2 name3 exact4 b5 s6 n7 (λb0 n1 s2 b3 s4 b5 n6 s7 b8=>k .ret ⟨gp [(10,.ptr 0 0 0),(0,pB b0)] 46,[.box [pI n1,pS s2,pB b3],.box [pS s4,pB b5,pI n6],.box [pS s7,pB b8]],s⟩)
theorem RH:BB (R:=R) lf cl yh s (cd [1,1] GU):=by
 intro k l_z0 l_t1 l2 name3 exact4 b5 s6 n7;unfold Um;kernel_rfl
noncomputable def Mr {R:Type} (l2:LL) (name3:By) (exact4:Bool) (s5:By) (b6:Bool) (n7:Int) (k0:Bool->Int->By->Bool->By->Bool->Int->By->Bool->Option R):Option R:=cond (List.all l2 D5) (cond (List.all l2 smE) (cond (A2 l2.length) (cond (A2 name3.length) (vl (((J2 (List.map A6 l2) name3)).1).1 λs'20=>cond ((J2 (List.map A6 l2) name3)).2 (cond exact4 (k0 true 2 name3 exact4 s5 b6 n7 s'20 (((J2 (List.map A6 l2) name3)).1).2) (cond (((J2 (List.map A6 l2) name3)).1).2 (k0 true 2 name3 exact4 s5 b6 n7 s'20 (((J2 (List.map A6 l2) name3)).1).2) (k0 false 0 ([]:List UInt8) false s5 b6 n7 s'20 (((J2 (List.map A6 l2) name3)).1).2))) (k0 false 0 ([]:List UInt8) false s5 b6 n7 s'20 (((J2 (List.map A6 l2) name3)).1).2)) none) none) none) none
abbrev BC (b:Code):Prop:=∀ (k:Out->St σ->Option R) l_z0 l_t1 l2 name3 exact4 s5 b6 n7,B2 (En lf) cl yh b ⟨gp [(2,.s (.sp [[.sl l_z0 l_t1 2 l2]] 0 0)),(0,pS name3),(0,pB exact4),(5,.ptr 0 0 0),(25,pB false)] 21,[.box [pI (0:Int),pS ([]:List UInt8),pB false],.box [pS s5,pB b6,pI n7]],s⟩ k=Mr l2 name3 exact4 s5 b6 n7 (λb0 n1 s2 b3 s4 b5 n6 s7 b8=>k .ret ⟨gp [(10,.ptr 0 0 0),(0,pB b0)] 46,[.box [pI n1,pS s2,pB b3],.box [pS s4,pB b5,pI n6],.box [pS s7,pB b8]],s⟩)
theorem RJ:BC (R:=R) lf cl yh s (cd [1,1] GU):=by
 intro k l_z0 l_t1 l2 name3 exact4 s5 b6 n7;unfold Mr;kernel_rfl
noncomputable def As4 {R:Type} (lf:Nat) (now:Int) (tz tt:Bool) (t:LL) (cp:Int) (lz lt:Bool) (l:LL) (u:By) (ex:Bool) (k0:By->Bool->By->Bool->Int->Option R) (k1:Int->By->Bool->Bool->By->Bool->Int->By->Bool->Option R):Option R:=cond (List.all t F7) (cond (List.all t smE) (cond (A2 t.length) (cond (A2 u.length) (vl (((L6 (List.map B0 t) u)).1).1 λs'6=>vl ((((L6 (List.map B0 t) u)).1).2).2 λn'7=>cond ((L6 (List.map B0 t) u)).2 (cond (not (not (ltI now n'7))) (cond ex (k0 u ex s'6 ((((L6 (List.map B0 t) u)).1).2).1 n'7) (cond ((((L6 (List.map B0 t) u)).1).2).1 (k0 u ex s'6 ((((L6 (List.map B0 t) u)).1).2).1 n'7) (Um l u ex ((((L6 (List.map B0 t) u)).1).2).1 s'6 n'7 (λb'10 n'11 s'12 b'13 s'14 b'15 n'16 s'17 b'18=>k1 n'11 s'12 b'13 b'10 s'14 b'15 n'16 s'17 b'18)))) (Mr l u ex s'6 ((((L6 (List.map B0 t) u)).1).2).1 n'7 (λb'21 n'22 s'23 b'24 s'25 b'26 n'27 s'28 b'29=>k1 n'22 s'23 b'24 b'21 s'25 b'26 n'27 s'28 b'29))) (Mr l u ex s'6 ((((L6 (List.map B0 t) u)).1).2).1 n'7 (λb'30 n'31 s'32 b'33 s'34 b'35 n'36 s'37 b'38=>k1 n'31 s'32 b'33 b'30 s'34 b'35 n'36 s'37 b'38))) none) none) none) none
theorem A72 (b_11:Code) (h_catA_j0:BB (R:=PV × List Blk × σ) lf cl yh s b_11) (h_catA_j1:BC (R:=PV × List Blk × σ) lf cl yh s b_11) (now:Int) (tz tt:Bool) (t:LL) (cp:Int) (lz lt:Bool) (l:LL) (u:By) (ex:Bool):B2 (En lf) cl yh (cd [] (S7 [1,1] b_11 GU)) ⟨[pI now,.s (.sp [[.sl tz tt 3 t,.int .i64 cp]] 0 0),.s (.sp [[.sl lz lt 2 l]] 0 0),pS u,pB ex]++tps 53,[],s⟩ (G9 (En lf) Tryz.f40)=As4 lf now tz tt t cp lz lt l u ex (λr0 r1 s2 b3 n4=>some (.tup [.agg [pI (1:Int),pS r0,pB r1],pB true],[.box [pI (1:Int),pS r0,pB r1],.box [pS s2,pB b3,pI n4]],s)) (λr0 r1 r2 r3 s4 b5 n6 s7 b8=>some (.tup [.agg [pI r0,pS r1,pB r2],pB r3],[.box [pI r0,pS r1,pB r2],.box [pS s4,pB b5,pI n6],.box [pS s7,pB b8]],s)):=by
 unfold As4;exact let K0:=(G9 (En lf) Tryz.f40);(Eq.trans (by kernel_rfl) (A0 (A0 (A0 (A0 (A8 λs'6=>(A8 λn'7=>(A0 (A0 (A0 rfl (A0 rfl ((h_catA_j0 K0 lz lt l u ex ((((L6 (List.map B0 t) u)).1).2).1 s'6 n'7).trans (by kernel_rfl)))) ((h_catA_j1 K0 lz lt l u ex s'6 ((((L6 (List.map B0 t) u)).1).2).1 n'7).trans (by kernel_rfl))) ((h_catA_j1 K0 lz lt l u ex s'6 ((((L6 (List.map B0 t) u)).1).2).1 n'7).trans (by kernel_rfl))))) rfl) rfl) rfl) rfl))
theorem A73 (d:Nat) (now tz tt t cp lz lt l u ex):evC (En lf) (d+1) σ yh 40 [pI now,.s (.sp [[.sl tz tt 3 t,.int .i64 cp]] 0 0),.s (.sp [[.sl lz lt 2 l]] 0 0),pS u,pB ex] [] s=As4 lf now tz tt t cp lz lt l u ex (λr0 r1 s2 b3 n4=>some (.tup [.agg [pI (1:Int),pS r0,pB r1],pB true],[.box [pI (1:Int),pS r0,pB r1],.box [pS s2,pB b3,pI n4]],s)) (λr0 r1 r2 r3 s4 b5 n6 s7 b8=>some (.tup [.agg [pI r0,pS r1,pB r2],pB r3],[.box [pI r0,pS r1,pB r2],.box [pS s4,pB b5,pI n6],.box [pS s7,pB b8]],s)):=
 (evE (fn:=Tryz.f40) (by kernel_rfl)).trans (Eq.trans (by kernel_rfl) (A72 lf (evC (En lf) d) yh s (cd [1,1] GU) (RH lf (evC (En lf) d) yh s) (RJ lf (evC (En lf) d) yh s) now tz tt t cp lz lt l u ex))
noncomputable abbrev As5 (now:Int) (tz tt:Bool) (t:LL) (cp:Int) (lz lt:Bool) (l:LL) (u:By) (ex:Bool):Option (PV × List Blk × Unit):=As4 LF now tz tt t cp lz lt l u ex (λr0 r1 s2 b3 n4=>some (.tup [.agg [pI (1:Int),pS r0,pB r1],pB true],[.box [pI (1:Int),pS r0,pB r1],.box [pS s2,pB b3,pI n4]],())) (λr0 r1 r2 r3 s4 b5 n6 s7 b8=>some (.tup [.agg [pI r0,pS r1,pB r2],pB r3],[.box [pI r0,pS r1,pB r2],.box [pS s4,pB b5,pI n6],.box [pS s7,pB b8]],()))
noncomputable def QJ (lf:Nat):Cfg:=B8 lf [40] (A4 []) [(20,Wp),(28,Vv)] (A4 [(7,[10,0]),(6,[10,0]),(5,[3,0,5,42]),(4,[3,0,5,3,0]),(3,[10,0]),(2,[2,0,0,5,25]),(1,[0,1,0,0,5,1,0]),(0,[0,0,0,0,0,5])]) [] (A4 []) (some [10,0]) [] [] []
noncomputable def A75 {R:Type} (lf:Nat) (now:Int) (lz lt:Bool) (l:LL) (u:By) (ex:Bool) (k0:Int->By->Bool->Bool->Int->By->Bool->Option R):Option R:=cond (List.all l D5) (cond (List.all l smE) (cond (A2 l.length) (cond (A2 u.length) (vl (((J2 (List.map A6 l) u)).1).1 λs'1=>cond ((J2 (List.map A6 l) u)).2 (cond ex (k0 2 u ex true 2 s'1 (((J2 (List.map A6 l) u)).1).2) (cond (((J2 (List.map A6 l) u)).1).2 (k0 2 u ex true 2 s'1 (((J2 (List.map A6 l) u)).1).2) (k0 0 ([]:List UInt8) false false 0 s'1 (((J2 (List.map A6 l) u)).1).2))) (k0 0 ([]:List UInt8) false false 0 s'1 (((J2 (List.map A6 l) u)).1).2)) none) none) none) none
theorem A76 (d:Nat) (now lz lt l u ex):evC (QJ lf) (d+1) σ yh 40 [pI now,.s (.nilp),.s (.sp [[.sl lz lt 2 l]] 0 0),pS u,pB ex] [] s=A75 lf now lz lt l u ex (λr0 r1 r2 r3 n4 s5 b6=>some (.tup [.agg [pI r0,pS r1,pB r2],pB r3],[.box [pI n4,pS r1,pB r2],.box [pS ([]:List UInt8),pB false,pI (0:Int)],.box [pS s5,pB b6]],s)):=by
 refine (evE (fn:=Tryz.f40) (by kernel_rfl)).trans ?_
 generalize evC (QJ lf) d=cl
 unfold A75;kernel_rfl
noncomputable abbrev As6 (now:Int) (lz lt:Bool) (l:LL) (u:By) (ex:Bool):Option (PV × List Blk × Unit):=A75 LF now lz lt l u ex (λr0 r1 r2 r3 n4 s5 b6=>some (.tup [.agg [pI r0,pS r1,pB r2],pB r3],[.box [pI n4,pS r1,pB r2],.box [pS ([]:List UInt8),pB false,pI (0:Int)],.box [pS s5,pB b6]],()))
noncomputable abbrev GV:Code:=D2 Tryz.f40
noncomputable def Eo (lf:Nat):Cfg:=B8 lf [40] (A4 []) [(20,Wp),(75,GE),(28,Vv)] (A4 [(7,[10,0]),(6,[10,0]),(5,[3,0,5,42]),(4,[3,0,5,3,0]),(3,[10,0]),(2,[2,0,0,5,25]),(1,[0,1,0,0,5,1,0]),(0,[0,0,0,0,0,5])]) [75] (A4 []) (some [10,0]) [] [] []
noncomputable def Un {R:Type} (b2:Bool) (s3:By) (n4:Int) (k0:By->Bool->Int->Option R):Option R:=k0 s3 b2 n4
abbrev BD (b:Code):Prop:=∀ (k:Out->St σ->Option R) name0 exact1 b2 s3 n4,B2 (Eo lf) cl yh b ⟨gp [(2,.s (.nilp)),(0,pS name0),(0,pB exact1),(5,.ptr 0 0 0),(25,pB b2)] 21,[.box [pI (0:Int),pS ([]:List UInt8),pB false],.box [pS s3,pB b2,pI n4]],s⟩ k=Un b2 s3 n4 (λs0 b1 n2=>k .ret ⟨gp [(10,.ptr 0 0 0),(0,pB false)] 46,[.box [pI (0:Int),pS ([]:List UInt8),pB false],.box [pS s0,pB b1,pI n2],.box [pS ([]:List UInt8),pB false]],s⟩)
theorem RK:BD (R:=R) lf cl yh s (cd [1,1] GV):=by
 intro k name0 exact1 b2 s3 n4;unfold Un;kernel_rfl
noncomputable def Ms {R:Type} (s2:By) (b3:Bool) (n4:Int) (k0:By->Bool->Int->Option R):Option R:=k0 s2 b3 n4
abbrev BE (b:Code):Prop:=∀ (k:Out->St σ->Option R) name0 exact1 s2 b3 n4,B2 (Eo lf) cl yh b ⟨gp [(2,.s (.nilp)),(0,pS name0),(0,pB exact1),(5,.ptr 0 0 0),(25,pB false)] 21,[.box [pI (0:Int),pS ([]:List UInt8),pB false],.box [pS s2,pB b3,pI n4]],s⟩ k=Ms s2 b3 n4 (λs0 b1 n2=>k .ret ⟨gp [(10,.ptr 0 0 0),(0,pB false)] 46,[.box [pI (0:Int),pS ([]:List UInt8),pB false],.box [pS s0,pB b1,pI n2],.box [pS ([]:List UInt8),pB false]],s⟩)
theorem RL:BE (R:=R) lf cl yh s (cd [1,1] GV):=by
 intro k name0 exact1 s2 b3 n4;unfold Ms;kernel_rfl
noncomputable def As7 {R:Type} (lf:Nat) (now:Int) (tz tt:Bool) (t:LL) (cp:Int) (u:By) (ex:Bool) (k0:By->Bool->By->Bool->Int->Option R) (k1:By->Bool->Int->Option R):Option R:=cond (List.all t F7) (cond (List.all t smE) (cond (A2 t.length) (cond (A2 u.length) (vl (((L6 (List.map B0 t) u)).1).1 λs'6=>vl ((((L6 (List.map B0 t) u)).1).2).2 λn'7=>cond ((L6 (List.map B0 t) u)).2 (cond (not (not (ltI now n'7))) (cond ex (k0 u ex s'6 ((((L6 (List.map B0 t) u)).1).2).1 n'7) (cond ((((L6 (List.map B0 t) u)).1).2).1 (k0 u ex s'6 ((((L6 (List.map B0 t) u)).1).2).1 n'7) (Un ((((L6 (List.map B0 t) u)).1).2).1 s'6 n'7 (λs'8 b'9 n'10=>k1 s'8 b'9 n'10)))) (Ms s'6 ((((L6 (List.map B0 t) u)).1).2).1 n'7 (λs'11 b'12 n'13=>k1 s'11 b'12 n'13))) (Ms s'6 ((((L6 (List.map B0 t) u)).1).2).1 n'7 (λs'14 b'15 n'16=>k1 s'14 b'15 n'16))) none) none) none) none
theorem A78 (b_11:Code) (h_catC_j0:BD (R:=PV × List Blk × σ) lf cl yh s b_11) (h_catC_j1:BE (R:=PV × List Blk × σ) lf cl yh s b_11) (now:Int) (tz tt:Bool) (t:LL) (cp:Int) (u:By) (ex:Bool):B2 (Eo lf) cl yh (cd [] (S7 [1,1] b_11 GV)) ⟨[pI now,.s (.sp [[.sl tz tt 3 t,.int .i64 cp]] 0 0),.s (.nilp),pS u,pB ex]++tps 53,[],s⟩ (G9 (Eo lf) Tryz.f40)=As7 lf now tz tt t cp u ex (λr0 r1 s2 b3 n4=>some (.tup [.agg [pI (1:Int),pS r0,pB r1],pB true],[.box [pI (1:Int),pS r0,pB r1],.box [pS s2,pB b3,pI n4]],s)) (λs0 b1 n2=>some (.tup [.agg [pI (0:Int),pS ([]:List UInt8),pB false],pB false],[.box [pI (0:Int),pS ([]:List UInt8),pB false],.box [pS s0,pB b1,pI n2],.box [pS ([]:List UInt8),pB false]],s)):=by
 unfold As7;exact let K0:=(G9 (Eo lf) Tryz.f40);(Eq.trans (by kernel_rfl) (A0 (A0 (A0 (A0 (A8 λs'6=>(A8 λn'7=>(A0 (A0 (A0 rfl (A0 rfl ((h_catC_j0 K0 u ex ((((L6 (List.map B0 t) u)).1).2).1 s'6 n'7).trans (by kernel_rfl)))) ((h_catC_j1 K0 u ex s'6 ((((L6 (List.map B0 t) u)).1).2).1 n'7).trans (by kernel_rfl))) ((h_catC_j1 K0 u ex s'6 ((((L6 (List.map B0 t) u)).1).2).1 n'7).trans (by kernel_rfl))))) rfl) rfl) rfl) rfl))
theorem A79 (d:Nat) (now tz tt t cp u ex):evC (Eo lf) (d+1) σ yh 40 [pI now,.s (.sp [[.sl tz tt 3 t,.int .i64 cp]] 0 0),.s (.nilp),pS u,pB ex] [] s=As7 lf now tz tt t cp u ex (λr0 r1 s2 b3 n4=>some (.tup [.agg [pI (1:Int),pS r0,pB r1],pB true],[.box [pI (1:Int),pS r0,pB r1],.box [pS s2,pB b3,pI n4]],s)) (λs0 b1 n2=>some (.tup [.agg [pI (0:Int),pS ([]:List UInt8),pB false],pB false],[.box [pI (0:Int),pS ([]:List UInt8),pB false],.box [pS s0,pB b1,pI n2],.box [pS ([]:List UInt8),pB false]],s)):=
 (evE (fn:=Tryz.f40) (by kernel_rfl)).trans (Eq.trans (by kernel_rfl) (A78 lf (evC (Eo lf) d) yh s (cd [1,1] GV) (RK lf (evC (Eo lf) d) yh s) (RL lf (evC (Eo lf) d) yh s) now tz tt t cp u ex))
noncomputable abbrev As8 (now:Int) (tz tt:Bool) (t:LL) (cp:Int) (u:By) (ex:Bool):Option (PV × List Blk × Unit):=As7 LF now tz tt t cp u ex (λr0 r1 s2 b3 n4=>some (.tup [.agg [pI (1:Int),pS r0,pB r1],pB true],[.box [pI (1:Int),pS r0,pB r1],.box [pS s2,pB b3,pI n4]],())) (λs0 b1 n2=>some (.tup [.agg [pI (0:Int),pS ([]:List UInt8),pB false],pB false],[.box [pI (0:Int),pS ([]:List UInt8),pB false],.box [pS s0,pB b1,pI n2],.box [pS ([]:List UInt8),pB false]],()))
noncomputable def QK (lf:Nat):Cfg:=B8 lf [40] (A4 []) [(20,Wp),(28,Vv)] (A4 [(7,[10,0]),(6,[10,0]),(5,[3,0,5,42]),(4,[3,0,5,3,0]),(3,[10,0]),(2,[2,0,0,5,25]),(1,[0,1,0,0,5,1,0]),(0,[0,0,0,0,0,5])]) [] (A4 []) (some [10,0]) [] [] []
noncomputable def A81 {R:Type} (lf:Nat) (now:Int) (u:By) (ex:Bool) (k0:Unit->Option R):Option R:=k0 ()
theorem A82 (d:Nat) (now u ex):evC (QK lf) (d+1) σ yh 40 [pI now,.s (.nilp),.s (.nilp),pS u,pB ex] [] s=A81 lf now u ex (λ_=>some (.tup [.agg [pI (0:Int),pS ([]:List UInt8),pB false],pB false],[.box [pI (0:Int),pS ([]:List UInt8),pB false],.box [pS ([]:List UInt8),pB false,pI (0:Int)],.box [pS ([]:List UInt8),pB false]],s)):=by
 refine (evE (fn:=Tryz.f40) (by kernel_rfl)).trans ?_
 generalize evC (QK lf) d=cl
 unfold A81;kernel_rfl
noncomputable abbrev As9 (now:Int) (u:By) (ex:Bool):Option (PV × List Blk × Unit):=A81 LF now u ex (λ_=>some (.tup [.agg [pI (0:Int),pS ([]:List UInt8),pB false],pB false],[.box [pI (0:Int),pS ([]:List UInt8),pB false],.box [pS ([]:List UInt8),pB false,pI (0:Int)],.box [pS ([]:List UInt8),pB false]],()))
noncomputable abbrev Qo:Code:=D2 Tryz.f15
noncomputable def Cc (lf:Nat):Cfg:=B8 lf [15] (A4 []) [(39,El),(40,Mi),(41,Ek)] (A4 [(12,[8]),(11,[8,0]),(10,[4,0,0,1,0,3,33]),(9,[4,0,0,1,0,3,0]),(8,[4,0,0,1,0,2]),(7,[4,0,0,1,0,27]),(6,[8]),(5,[4,0,0,0,0,0,0,22]),(4,[4,0,0,0,0,0,0,0]),(3,[8]),(2,[4,0,0,0,0,0,12]),(1,[4,0,0,0,0,0]),(0,[4,0,0,0,0])]) [39] (A4 [(0,[8,0]),(1,[4,0,0,1,0])]) (some [8]) [] [(76,V9)] []
noncomputable def Mu {R:Type} (lf:Nat) (x'4:By) (xs:List By) (self:Int->Bool->Bool->LL->Int->Bool->Bool->LL->Int->By->Int->Int->Int->Int->Int->Int->Int->Int->Int->Int->By->Bool->Option R) (n0:Int) (z1 t2:Bool) (l3:LL) (n4:Int) (z5 t6:Bool) (l7:LL) (n8v:Int) (s9:By) (n10 n11 n12 n13 n14 n15 n16 n17 n18 n19:Int) (s20:By) (b21:Bool) (k0:Int->Bool->Bool->LL->Int->Bool->Bool->LL->Int->By->Int->Int->Int->Int->Int->Int->Int->Int->Int->Int->By->Bool->Option R) (k1:Int->Bool->Bool->LL->Int->Bool->Bool->LL->Int->By->Int->Int->Int->Int->Int->Int->Int->Int->Int->Int->By->Bool->Int->By->Bool->Option R):Option R:=cond (List.all l3 F7) (cond (List.all l3 smE) (cond (A2 l3.length) (cond (List.all l7 D5) (cond (List.all l7 smE) (cond (A2 l7.length) (cond (A2 x'4.length) (vl (((atV n0 (List.map B0 l3) (List.map A6 l7) x'4 false)).1).1 λn'5=>vl ((((atV n0 (List.map B0 l3) (List.map A6 l7) x'4 false)).1).2).1 λs'6=>cond ((atV n0 (List.map B0 l3) (List.map A6 l7) x'4 false)).2 (k1 n0 z1 t2 l3 n4 z5 t6 l7 n8v s9 n10 n11 n12 n13 n14 n15 n16 n17 n18 n'5 s'6 ((((atV n0 (List.map B0 l3) (List.map A6 l7) x'4 false)).1).2).2 n19 s20 b21) (self n0 z1 t2 l3 n4 z5 t6 l7 n8v s9 n10 n11 n12 n13 n14 n15 n16 n17 n18 n19 s20 b21)) none) none) none) none) none) none) none
noncomputable def Mt {R:Type} (lf:Nat) (L:List By) (n0:Int) (z1 t2:Bool) (l3:LL) (n4:Int) (z5 t6:Bool) (l7:LL) (n8v:Int) (s9:By) (n10 n11 n12 n13 n14 n15 n16 n17 n18 n19:Int) (s20:By) (b21:Bool) (k0:Int->Bool->Bool->LL->Int->Bool->Bool->LL->Int->By->Int->Int->Int->Int->Int->Int->Int->Int->Int->Int->By->Bool->Option R) (k1:Int->Bool->Bool->LL->Int->Bool->Bool->LL->Int->By->Int->Int->Int->Int->Int->Int->Int->Int->Int->Int->By->Bool->Int->By->Bool->Option R):Option R:=VO (α:=Int->Bool->Bool->LL->Int->Bool->Bool->LL->Int->By->Int->Int->Int->Int->Int->Int->Int->Int->Int->Int->By->Bool->Option R) (λn0 z1 t2 l3 n4 z5 t6 l7 n8v s9 n10 n11 n12 n13 n14 n15 n16 n17 n18 n19 s20 b21=>k0 n0 z1 t2 l3 n4 z5 t6 l7 n8v s9 n10 n11 n12 n13 n14 n15 n16 n17 n18 n19 s20 b21) (λx'4 xs self n0 z1 t2 l3 n4 z5 t6 l7 n8v s9 n10 n11 n12 n13 n14 n15 n16 n17 n18 n19 s20 b21=>Mu lf x'4 xs self n0 z1 t2 l3 n4 z5 t6 l7 n8v s9 n10 n11 n12 n13 n14 n15 n16 n17 n18 n19 s20 b21 k0 k1) L n0 z1 t2 l3 n4 z5 t6 l7 n8v s9 n10 n11 n12 n13 n14 n15 n16 n17 n18 n19 s20 b21
theorem BG {R:Type} (lf:Nat) (x'4:By) (xs:List By) (n0:Int) (z1 t2:Bool) (l3:LL) (n4:Int) (z5 t6:Bool) (l7:LL) (n8v:Int) (s9:By) (n10 n11 n12 n13 n14 n15 n16 n17 n18 n19:Int) (s20:By) (b21:Bool) (k0:Int->Bool->Bool->LL->Int->Bool->Bool->LL->Int->By->Int->Int->Int->Int->Int->Int->Int->Int->Int->Int->By->Bool->Option R) (k1:Int->Bool->Bool->LL->Int->Bool->Bool->LL->Int->By->Int->Int->Int->Int->Int->Int->Int->Int->Int->Int->By->Bool->Int->By->Bool->Option R):Mt lf (x'4::xs) n0 z1 t2 l3 n4 z5 t6 l7 n8v s9 n10 n11 n12 n13 n14 n15 n16 n17 n18 n19 s20 b21 k0 k1=Mu lf x'4 xs (λn0 z1 t2 l3 n4 z5 t6 l7 n8v s9 n10 n11 n12 n13 n14 n15 n16 n17 n18 n19 s20 b21=>Mt lf xs n0 z1 t2 l3 n4 z5 t6 l7 n8v s9 n10 n11 n12 n13 n14 n15 n16 n17 n18 n19 s20 b21 k0 k1) n0 z1 t2 l3 n4 z5 t6 l7 n8v s9 n10 n11 n12 n13 n14 n15 n16 n17 n18 n19 s20 b21 k0 k1:=rfl
theorem RN (L:List By) (n0:Int) (z1 t2:Bool) (l3:LL) (n4:Int) (z5 t6:Bool) (l7:LL) (n8v:Int) (s9:By) (n10 n11 n12 n13 n14 n15 n16 n17 n18 n19:Int) (s20:By) (b21:Bool):N4 #[38] (gp [(4,.ptr 0 0 0),(0,.ptr 1 0 0),(0,.ptr 2 0 0),(1,.ptr 4 0 0),(0,.ptr 5 0 0),(27,.fnr (Fn.func 76) [] [.bad])] 12) (bd (Cc lf) cl yh (cd [1,0,1,1,1,1,0,1,0,0] Qo)) (bd (Cc lf) cl yh (cd [1,0,1,1,1,1,0,1,0,1] Qo)) (L.map (λ(x'4:By)=>([pS x'4]:List PV))) [.box [pI n0],.box [.s (.sp [[.sl z1 t2 3 l3,.int .i64 n4]] 0 0)],.box [.s (.sp [[.sl z5 t6 2 l7]] 0 0)],.box [pI n8v,pS s9,p32 n10,p16 n11,p16 n12,p16 n13,p16 n14,p16 n15,p16 n16,p16 n17,p16 n18],.box [pI (0:Int),pS ([]:List UInt8),pB false],.box [pI (0:Int),pS ([]:List UInt8),pB false],.box [pI n19,pS s20,pB b21],.dead] s (rgK (gp [(4,.ptr 0 0 0),(0,.ptr 1 0 0),(0,.ptr 2 0 0),(1,.ptr 4 0 0),(0,.ptr 5 0 0),(27,.fnr (Fn.func 76) [] [.bad])] 12) (λH=>O5 H [7] [.box [.bad]]) k) =
 Mt lf L n0 z1 t2 l3 n4 z5 t6 l7 n8v s9 n10 n11 n12 n13 n14 n15 n16 n17 n18 n19 s20 b21 (λn0 z1 t2 l3 n4 z5 t6 l7 n8v s9 n10 n11 n12 n13 n14 n15 n16 n17 n18 n19 s20 b21=>k .normal ⟨gp [(4,.ptr 0 0 0),(0,.ptr 1 0 0),(0,.ptr 2 0 0),(1,.ptr 4 0 0),(0,.ptr 5 0 0),(27,.fnr (Fn.func 76) [] [.bad])] 12,[.box [pI n0],.box [.s (.sp [[.sl z1 t2 3 l3,.int .i64 n4]] 0 0)],.box [.s (.sp [[.sl z5 t6 2 l7]] 0 0)],.box [pI n8v,pS s9,p32 n10,p16 n11,p16 n12,p16 n13,p16 n14,p16 n15,p16 n16,p16 n17,p16 n18],.box [pI (0:Int),pS ([]:List UInt8),pB false],.box [pI (0:Int),pS ([]:List UInt8),pB false],.box [pI n19,pS s20,pB b21],.box [.bad]],s⟩) (λn0 z1 t2 l3 n4 z5 t6 l7 n8v s9 n10 n11 n12 n13 n14 n15 n16 n17 n18 n19 s20 b21 n22 s23 b24=>k (.exit 0) ⟨gp [(4,.ptr 0 0 0),(0,.ptr 1 0 0),(0,.ptr 2 0 0),(1,.ptr 4 0 0),(0,.ptr 5 0 0),(27,.fnr (Fn.func 76) [] [.bad])] 12,[.box [pI n0],.box [.s (.sp [[.sl z1 t2 3 l3,.int .i64 n4]] 0 0)],.box [.s (.sp [[.sl z5 t6 2 l7]] 0 0)],.box [pI n8v,pS s9,p32 n10,p16 n11,p16 n12,p16 n13,p16 n14,p16 n15,p16 n16,p16 n17,p16 n18],.box [pI (0:Int),pS ([]:List UInt8),pB false],.box [pI n19,pS s20,pB b21],.box [pI n22,pS s23,pB b24],.box [.bad]],s⟩):=by
 induction L generalizing n0 z1 t2 l3 n4 z5 t6 l7 n8v s9 n10 n11 n12 n13 n14 n15 n16 n17 n18 n19 s20 b21 with
 | nil=>rfl
 | cons x'4 xs ih=>rw [BG];unfold Mu;exact (Eq.trans (by kernel_rfl) (A0 (A0 (A0 (A0 (A0 (A0 (A0 (A8 λn'5=>(A8 λs'6=>(A0 rfl (ih n0 z1 t2 l3 n4 z5 t6 l7 n8v s9 n10 n11 n12 n13 n14 n15 n16 n17 n18 n19 s20 b21)))) rfl) rfl) rfl) rfl) rfl) rfl) rfl))
noncomputable def Uo {R:Type} (lf:Nat) (n0:Int) (z1 t2:Bool) (l3:LL) (n4:Int) (z5 t6:Bool) (l7:LL) (n8v:Int) (s9:By) (n10 n11 n12 n13 n14 n15 n16 n17 n18 n19:Int) (s20:By) (b21:Bool) (k0:Int->Bool->Bool->LL->Int->Bool->Bool->LL->Int->By->Int->Int->Int->Int->Int->Int->Int->Int->Int->Int->By->Bool->Option R) (k1:Int->Bool->Bool->LL->Int->Bool->Bool->LL->Int->By->Int->Int->Int->Int->Int->Int->Int->Int->Int->Int->By->Bool->Int->By->Bool->Option R):Option R:=cond (A2 s9.length) (Mt lf (F9 s9) n0 z1 t2 l3 n4 z5 t6 l7 n8v s9 n10 n11 n12 n13 n14 n15 n16 n17 n18 n19 s20 b21 k0 k1) none
abbrev BF (b:Code):Prop:=∀ (k:Out->St σ->Option R) n0 z1 t2 l3 n4 z5 t6 l7 n8v s9 n10 n11 n12 n13 n14 n15 n16 n17 n18 n19 s20 b21,B2 (Cc lf) cl yh b ⟨gp [(4,.ptr 0 0 0),(0,.ptr 1 0 0),(0,.ptr 2 0 0),(1,.ptr 4 0 0),(0,.ptr 5 0 0),(27,.fnr (Fn.func 76) [] [.ptr 7 0 0])] 12,[.box [pI n0],.box [.s (.sp [[.sl z1 t2 3 l3,.int .i64 n4]] 0 0)],.box [.s (.sp [[.sl z5 t6 2 l7]] 0 0)],.box [pI n8v,pS s9,p32 n10,p16 n11,p16 n12,p16 n13,p16 n14,p16 n15,p16 n16,p16 n17,p16 n18],.box [pI (0:Int),pS ([]:List UInt8),pB false],.box [pI (0:Int),pS ([]:List UInt8),pB false],.box [pI n19,pS s20,pB b21],.box [pS s9]],s⟩ k=Uo lf n0 z1 t2 l3 n4 z5 t6 l7 n8v s9 n10 n11 n12 n13 n14 n15 n16 n17 n18 n19 s20 b21 (λn0 z1 t2 l3 n4 z5 t6 l7 n8v s9 n10 n11 n12 n13 n14 n15 n16 n17 n18 n19 s20 b21=>k .normal ⟨gp [(4,.ptr 0 0 0),(0,.ptr 1 0 0),(0,.ptr 2 0 0),(1,.ptr 4 0 0),(0,.ptr 5 0 0),(27,.fnr (Fn.func 76) [] [.bad])] 12,[.box [pI n0],.box [.s (.sp [[.sl z1 t2 3 l3,.int .i64 n4]] 0 0)],.box [.s (.sp [[.sl z5 t6 2 l7]] 0 0)],.box [pI n8v,pS s9,p32 n10,p16 n11,p16 n12,p16 n13,p16 n14,p16 n15,p16 n16,p16 n17,p16 n18],.box [pI (0:Int),pS ([]:List UInt8),pB false],.box [pI (0:Int),pS ([]:List UInt8),pB false],.box [pI n19,pS s20,pB b21],.box [.bad]],s⟩) (λn0 z1 t2 l3 n4 z5 t6 l7 n8v s9 n10 n11 n12 n13 n14 n15 n16 n17 n18 n19 s20 b21 n22 s23 b24=>k (.exit 0) ⟨gp [(4,.ptr 0 0 0),(0,.ptr 1 0 0),(0,.ptr 2 0 0),(1,.ptr 4 0 0),(0,.ptr 5 0 0),(27,.fnr (Fn.func 76) [] [.bad])] 12,[.box [pI n0],.box [.s (.sp [[.sl z1 t2 3 l3,.int .i64 n4]] 0 0)],.box [.s (.sp [[.sl z5 t6 2 l7]] 0 0)],.box [pI n8v,pS s9,p32 n10,p16 n11,p16 n12,p16 n13,p16 n14,p16 n15,p16 n16,p16 n17,p16 n18],.box [pI (0:Int),pS ([]:List UInt8),pB false],.box [pI n19,pS s20,pB b21],.box [pI n22,pS s23,pB b24],.box [.bad]],s⟩)
theorem RM:BF (R:=R) lf cl yh s (cd [1,0,1,1,1,1,0,1,0] Qo):=by
 intro k n0 z1 t2 l3 n4 z5 t6 l7 n8v s9 n10 n11 n12 n13 n14 n15 n16 n17 n18 n19 s20 b21;unfold Uo;exact ((LN [1,0,1,1,1,1,0,1,0] (by kernel_rfl)).trans (by kernel_rfl)).trans (Cw (RN lf cl yh s k (F9 s9) n0 z1 t2 l3 n4 z5 t6 l7 n8v s9 n10 n11 n12 n13 n14 n15 n16 n17 n18 n19 s20 b21))
noncomputable def At3 {R:Type} (lf:Nat) (now:Int) (tz tt:Bool) (t:LL) (cp:Int) (lz lt:Bool) (l:LL) (kd:Int) (nm:By) (v4 a0 a1 a2 a3 a4 a5 a6 a7:Int) (k0:Int->Bool->Bool->LL->Int->Bool->Bool->LL->Int->By->Int->Int->Int->Int->Int->Int->Int->Int->Int->Option R) (k1:Int->By->Bool->Int->Bool->Bool->LL->Int->Bool->Bool->LL->Int->By->Int->Int->Int->Int->Int->Int->Int->Int->Int->Option R) (k2:Int->By->Bool->Int->Bool->Bool->LL->Int->Bool->Bool->LL->Int->By->Int->Int->Int->Int->Int->Int->Int->Int->Int->Int->By->Bool->Int->By->Bool->Int->By->Bool->Option R):Option R:=cond (kd != 1) (k0 now tz tt t cp lz lt l kd nm v4 a0 a1 a2 a3 a4 a5 a6 a7) (cond (A2 nm.length) (cond (ltN v4 4294967296) (cond (ok8 a0 a1 a2 a3 a4 a5 a6 a7) (cond (not (X7 (mkH kd nm v4 (n8 a0 a1 a2 a3 a4 a5 a6 a7)))) (k0 now tz tt t cp lz lt l kd nm v4 a0 a1 a2 a3 a4 a5 a6 a7) (cond (List.all t F7) (cond (List.all t smE) (cond (A2 t.length) (cond (List.all l D5) (cond (List.all l smE) (cond (A2 l.length) (cond (A2 nm.length) (vl (((atV now (List.map B0 t) (List.map A6 l) nm true)).1).1 λn'2=>vl ((((atV now (List.map B0 t) (List.map A6 l) nm true)).1).2).1 λs'3=>cond ((atV now (List.map B0 t) (List.map A6 l) nm true)).2 (k1 n'2 s'3 ((((atV now (List.map B0 t) (List.map A6 l) nm true)).1).2).2 now tz tt t cp lz lt l kd nm v4 a0 a1 a2 a3 a4 a5 a6 a7) (Uo lf now tz tt t cp lz lt l kd nm v4 a0 a1 a2 a3 a4 a5 a6 a7 n'2 s'3 ((((atV now (List.map B0 t) (List.map A6 l) nm true)).1).2).2 (λn'7 z'8 t'9 l'10 n'11 z'12 t'13 l'14 n'15 s'16 n'17 n'18 n'19 n'20 n'21 n'22 n'23 n'24 n'25 n'26 s'27 b'28=>k2 0 ([]:List UInt8) false n'7 z'8 t'9 l'10 n'11 z'12 t'13 l'14 n'15 s'16 n'17 n'18 n'19 n'20 n'21 n'22 n'23 n'24 n'25 0 ([]:List UInt8) false 0 ([]:List UInt8) false n'26 s'27 b'28) (λn'29 z'30 t'31 l'32 n'33 z'34 t'35 l'36 n'37 s'38 n'39 n'40 n'41 n'42 n'43 n'44 n'45 n'46 n'47 n'48 s'49 b'50 n'51 s'52 b'53=>k2 n'48 s'49 b'50 n'29 z'30 t'31 l'32 n'33 z'34 t'35 l'36 n'37 s'38 n'39 n'40 n'41 n'42 n'43 n'44 n'45 n'46 n'47 n'48 s'49 b'50 n'48 s'49 b'50 n'51 s'52 b'53))) none) none) none) none) none) none) none)) none) none) none)
theorem A85 (b_101111010:Code) (h_cfdA_e1:BF (R:=PV × List Blk × σ) lf cl yh s b_101111010) (now:Int) (tz tt:Bool) (t:LL) (cp:Int) (lz lt:Bool) (l:LL) (kd:Int) (nm:By) (v4 a0 a1 a2 a3 a4 a5 a6 a7:Int):B2 (Cc lf) cl yh (cd [] (S7 [1,0,1,1,1,1,0,1,0] b_101111010 Qo)) ⟨[pI now,.s (.sp [[.sl tz tt 3 t,.int .i64 cp]] 0 0),.s (.sp [[.sl lz lt 2 l]] 0 0),.agg [pI kd,pS nm,p32 v4,p16 a0,p16 a1,p16 a2,p16 a3,p16 a4,p16 a5,p16 a6,p16 a7]]++tps 46,[],s⟩ (G9 (Cc lf) Tryz.f15)=At3 lf now tz tt t cp lz lt l kd nm v4 a0 a1 a2 a3 a4 a5 a6 a7 (λn0 z1 t2 l3 n4 z5 t6 l7 n8v s9 n10 n11 n12 n13 n14 n15 n16 n17 n18=>some (.agg [pI (0:Int),pS ([]:List UInt8),pB false],[.box [pI n0],.box [.s (.sp [[.sl z1 t2 3 l3,.int .i64 n4]] 0 0)],.box [.s (.sp [[.sl z5 t6 2 l7]] 0 0)],.box [pI n8v,pS s9,p32 n10,p16 n11,p16 n12,p16 n13,p16 n14,p16 n15,p16 n16,p16 n17,p16 n18],.box [pI (0:Int),pS ([]:List UInt8),pB false],.box [pI (0:Int),pS ([]:List UInt8),pB false]],s)) (λr0 r1 r2 n3 z4 t5 l6 n7 z8 t9 l10 n11 s12 n13 n14 n15 n16 n17 n18 n19 n20 n21=>some (.agg [pI r0,pS r1,pB r2],[.box [pI n3],.box [.s (.sp [[.sl z4 t5 3 l6,.int .i64 n7]] 0 0)],.box [.s (.sp [[.sl z8 t9 2 l10]] 0 0)],.box [pI n11,pS s12,p32 n13,p16 n14,p16 n15,p16 n16,p16 n17,p16 n18,p16 n19,p16 n20,p16 n21],.box [pI r0,pS r1,pB r2],.box [pI (0:Int),pS ([]:List UInt8),pB false],.box [pI r0,pS r1,pB r2]],s)) (λr0 r1 r2 n3 z4 t5 l6 n7 z8 t9 l10 n11 s12 n13 n14 n15 n16 n17 n18 n19 n20 n21 n22 s23 b24 n25 s26 b27 n28 s29 b30=>some (.agg [pI r0,pS r1,pB r2],[.box [pI n3],.box [.s (.sp [[.sl z4 t5 3 l6,.int .i64 n7]] 0 0)],.box [.s (.sp [[.sl z8 t9 2 l10]] 0 0)],.box [pI n11,pS s12,p32 n13,p16 n14,p16 n15,p16 n16,p16 n17,p16 n18,p16 n19,p16 n20,p16 n21],.box [pI n22,pS s23,pB b24],.box [pI n25,pS s26,pB b27],.box [pI n28,pS s29,pB b30],.box [.bad]],s)):=by
 unfold At3;exact (Eq.trans (by kernel_rfl) (A0 rfl (A0 (A0 (A0 (A0 rfl (A0 (A0 (A0 (A0 (A0 (A0 (A0 (A8 λn'2=>(A8 λs'3=>(A0 rfl ((h_cfdA_e1 (H4 0 (I5 (Cc lf) cl yh (cd [1,0,1,1,1,1,1] Qo) (G9 (Cc lf) Tryz.f15))) now tz tt t cp lz lt l kd nm v4 a0 a1 a2 a3 a4 a5 a6 a7 n'2 s'3 ((((atV now (List.map B0 t) (List.map A6 l) nm true)).1).2).2).trans (by kernel_rfl))))) rfl) rfl) rfl) rfl) rfl) rfl) rfl)) rfl) rfl) rfl)))
theorem A86 (d:Nat) (now tz tt t cp lz lt l kd nm v4 a0 a1 a2 a3 a4 a5 a6 a7):evC (Cc lf) (d+1) σ yh 15 [pI now,.s (.sp [[.sl tz tt 3 t,.int .i64 cp]] 0 0),.s (.sp [[.sl lz lt 2 l]] 0 0),.agg [pI kd,pS nm,p32 v4,p16 a0,p16 a1,p16 a2,p16 a3,p16 a4,p16 a5,p16 a6,p16 a7]] [] s=At3 lf now tz tt t cp lz lt l kd nm v4 a0 a1 a2 a3 a4 a5 a6 a7 (λn0 z1 t2 l3 n4 z5 t6 l7 n8v s9 n10 n11 n12 n13 n14 n15 n16 n17 n18=>some (.agg [pI (0:Int),pS ([]:List UInt8),pB false],[.box [pI n0],.box [.s (.sp [[.sl z1 t2 3 l3,.int .i64 n4]] 0 0)],.box [.s (.sp [[.sl z5 t6 2 l7]] 0 0)],.box [pI n8v,pS s9,p32 n10,p16 n11,p16 n12,p16 n13,p16 n14,p16 n15,p16 n16,p16 n17,p16 n18],.box [pI (0:Int),pS ([]:List UInt8),pB false],.box [pI (0:Int),pS ([]:List UInt8),pB false]],s)) (λr0 r1 r2 n3 z4 t5 l6 n7 z8 t9 l10 n11 s12 n13 n14 n15 n16 n17 n18 n19 n20 n21=>some (.agg [pI r0,pS r1,pB r2],[.box [pI n3],.box [.s (.sp [[.sl z4 t5 3 l6,.int .i64 n7]] 0 0)],.box [.s (.sp [[.sl z8 t9 2 l10]] 0 0)],.box [pI n11,pS s12,p32 n13,p16 n14,p16 n15,p16 n16,p16 n17,p16 n18,p16 n19,p16 n20,p16 n21],.box [pI r0,pS r1,pB r2],.box [pI (0:Int),pS ([]:List UInt8),pB false],.box [pI r0,pS r1,pB r2]],s)) (λr0 r1 r2 n3 z4 t5 l6 n7 z8 t9 l10 n11 s12 n13 n14 n15 n16 n17 n18 n19 n20 n21 n22 s23 b24 n25 s26 b27 n28 s29 b30=>some (.agg [pI r0,pS r1,pB r2],[.box [pI n3],.box [.s (.sp [[.sl z4 t5 3 l6,.int .i64 n7]] 0 0)],.box [.s (.sp [[.sl z8 t9 2 l10]] 0 0)],.box [pI n11,pS s12,p32 n13,p16 n14,p16 n15,p16 n16,p16 n17,p16 n18,p16 n19,p16 n20,p16 n21],.box [pI n22,pS s23,pB b24],.box [pI n25,pS s26,pB b27],.box [pI n28,pS s29,pB b30],.box [.bad]],s)):=
 (evE (fn:=Tryz.f15) (by kernel_rfl)).trans (Eq.trans (by kernel_rfl) (A85 lf (evC (Cc lf) d) yh s (cd [1,0,1,1,1,1,0,1,0] Qo) (RM lf (evC (Cc lf) d) yh s) now tz tt t cp lz lt l kd nm v4 a0 a1 a2 a3 a4 a5 a6 a7))
noncomputable abbrev At4 (now:Int) (tz tt:Bool) (t:LL) (cp:Int) (lz lt:Bool) (l:LL) (kd:Int) (nm:By) (v4 a0 a1 a2 a3 a4 a5 a6 a7:Int):Option (PV × List Blk × Unit):=At3 LF now tz tt t cp lz lt l kd nm v4 a0 a1 a2 a3 a4 a5 a6 a7 (λn0 z1 t2 l3 n4 z5 t6 l7 n8v s9 n10 n11 n12 n13 n14 n15 n16 n17 n18=>some (.agg [pI (0:Int),pS ([]:List UInt8),pB false],[.box [pI n0],.box [.s (.sp [[.sl z1 t2 3 l3,.int .i64 n4]] 0 0)],.box [.s (.sp [[.sl z5 t6 2 l7]] 0 0)],.box [pI n8v,pS s9,p32 n10,p16 n11,p16 n12,p16 n13,p16 n14,p16 n15,p16 n16,p16 n17,p16 n18],.box [pI (0:Int),pS ([]:List UInt8),pB false],.box [pI (0:Int),pS ([]:List UInt8),pB false]],())) (λr0 r1 r2 n3 z4 t5 l6 n7 z8 t9 l10 n11 s12 n13 n14 n15 n16 n17 n18 n19 n20 n21=>some (.agg [pI r0,pS r1,pB r2],[.box [pI n3],.box [.s (.sp [[.sl z4 t5 3 l6,.int .i64 n7]] 0 0)],.box [.s (.sp [[.sl z8 t9 2 l10]] 0 0)],.box [pI n11,pS s12,p32 n13,p16 n14,p16 n15,p16 n16,p16 n17,p16 n18,p16 n19,p16 n20,p16 n21],.box [pI r0,pS r1,pB r2],.box [pI (0:Int),pS ([]:List UInt8),pB false],.box [pI r0,pS r1,pB r2]],())) (λr0 r1 r2 n3 z4 t5 l6 n7 z8 t9 l10 n11 s12 n13 n14 n15 n16 n17 n18 n19 n20 n21 n22 s23 b24 n25 s26 b27 n28 s29 b30=>some (.agg [pI r0,pS r1,pB r2],[.box [pI n3],.box [.s (.sp [[.sl z4 t5 3 l6,.int .i64 n7]] 0 0)],.box [.s (.sp [[.sl z8 t9 2 l10]] 0 0)],.box [pI n11,pS s12,p32 n13,p16 n14,p16 n15,p16 n16,p16 n17,p16 n18,p16 n19,p16 n20,p16 n21],.box [pI n22,pS s23,pB b24],.box [pI n25,pS s26,pB b27],.box [pI n28,pS s29,pB b30],.box [.bad]],()))
noncomputable abbrev Qp:Code:=D2 Tryz.f15
noncomputable def Cd (lf:Nat):Cfg:=B8 lf [15] (A4 []) [(39,El),(40,Mi),(41,Ek)] (A4 [(12,[8]),(11,[8,0]),(10,[4,0,0,1,0,3,33]),(9,[4,0,0,1,0,3,0]),(8,[4,0,0,1,0,2]),(7,[4,0,0,1,0,27]),(6,[8]),(5,[4,0,0,0,0,0,0,22]),(4,[4,0,0,0,0,0,0,0]),(3,[8]),(2,[4,0,0,0,0,0,12]),(1,[4,0,0,0,0,0]),(0,[4,0,0,0,0])]) [39] (A4 [(0,[8,0]),(1,[4,0,0,1,0])]) (some [8]) [] [(76,V9)] []
noncomputable def Mw {R:Type} (lf:Nat) (x'4:By) (xs:List By) (self:Int->Bool->Bool->LL->Int->By->Int->Int->Int->Int->Int->Int->Int->Int->Int->Int->By->Bool->Option R) (n0:Int) (z1 t2:Bool) (l3:LL) (n4:Int) (s5:By) (n6 n7 n8v n9 n10 n11 n12 n13 n14 n15:Int) (s16:By) (b17:Bool) (k0:Int->Bool->Bool->LL->Int->By->Int->Int->Int->Int->Int->Int->Int->Int->Int->Int->By->Bool->Option R) (k1:Int->Bool->Bool->LL->Int->By->Int->Int->Int->Int->Int->Int->Int->Int->Int->Int->By->Bool->Int->By->Bool->Option R):Option R:=cond (List.all l3 D5) (cond (List.all l3 smE) (cond (A2 l3.length) (cond (A2 x'4.length) (vl (((atV n0 List.nil (List.map A6 l3) x'4 false)).1).1 λn'5=>vl ((((atV n0 List.nil (List.map A6 l3) x'4 false)).1).2).1 λs'6=>cond ((atV n0 List.nil (List.map A6 l3) x'4 false)).2 (k1 n0 z1 t2 l3 n4 s5 n6 n7 n8v n9 n10 n11 n12 n13 n14 n'5 s'6 ((((atV n0 List.nil (List.map A6 l3) x'4 false)).1).2).2 n15 s16 b17) (self n0 z1 t2 l3 n4 s5 n6 n7 n8v n9 n10 n11 n12 n13 n14 n15 s16 b17)) none) none) none) none
noncomputable def Mv {R:Type} (lf:Nat) (L:List By) (n0:Int) (z1 t2:Bool) (l3:LL) (n4:Int) (s5:By) (n6 n7 n8v n9 n10 n11 n12 n13 n14 n15:Int) (s16:By) (b17:Bool) (k0:Int->Bool->Bool->LL->Int->By->Int->Int->Int->Int->Int->Int->Int->Int->Int->Int->By->Bool->Option R) (k1:Int->Bool->Bool->LL->Int->By->Int->Int->Int->Int->Int->Int->Int->Int->Int->Int->By->Bool->Int->By->Bool->Option R):Option R:=VO (α:=Int->Bool->Bool->LL->Int->By->Int->Int->Int->Int->Int->Int->Int->Int->Int->Int->By->Bool->Option R) (λn0 z1 t2 l3 n4 s5 n6 n7 n8v n9 n10 n11 n12 n13 n14 n15 s16 b17=>k0 n0 z1 t2 l3 n4 s5 n6 n7 n8v n9 n10 n11 n12 n13 n14 n15 s16 b17) (λx'4 xs self n0 z1 t2 l3 n4 s5 n6 n7 n8v n9 n10 n11 n12 n13 n14 n15 s16 b17=>Mw lf x'4 xs self n0 z1 t2 l3 n4 s5 n6 n7 n8v n9 n10 n11 n12 n13 n14 n15 s16 b17 k0 k1) L n0 z1 t2 l3 n4 s5 n6 n7 n8v n9 n10 n11 n12 n13 n14 n15 s16 b17
theorem BJ {R:Type} (lf:Nat) (x'4:By) (xs:List By) (n0:Int) (z1 t2:Bool) (l3:LL) (n4:Int) (s5:By) (n6 n7 n8v n9 n10 n11 n12 n13 n14 n15:Int) (s16:By) (b17:Bool) (k0:Int->Bool->Bool->LL->Int->By->Int->Int->Int->Int->Int->Int->Int->Int->Int->Int->By->Bool->Option R) (k1:Int->Bool->Bool->LL->Int->By->Int->Int->Int->Int->Int->Int->Int->Int->Int->Int->By->Bool->Int->By->Bool->Option R):Mv lf (x'4::xs) n0 z1 t2 l3 n4 s5 n6 n7 n8v n9 n10 n11 n12 n13 n14 n15 s16 b17 k0 k1=Mw lf x'4 xs (λn0 z1 t2 l3 n4 s5 n6 n7 n8v n9 n10 n11 n12 n13 n14 n15 s16 b17=>Mv lf xs n0 z1 t2 l3 n4 s5 n6 n7 n8v n9 n10 n11 n12 n13 n14 n15 s16 b17 k0 k1) n0 z1 t2 l3 n4 s5 n6 n7 n8v n9 n10 n11 n12 n13 n14 n15 s16 b17 k0 k1:=rfl
theorem RP (L:List By) (n0:Int) (z1 t2:Bool) (l3:LL) (n4:Int) (s5:By) (n6 n7 n8v n9 n10 n11 n12 n13 n14 n15:Int) (s16:By) (b17:Bool):N4 #[38] (gp [(4,.ptr 0 0 0),(0,.ptr 1 0 0),(0,.ptr 2 0 0),(1,.ptr 4 0 0),(0,.ptr 5 0 0),(27,.fnr (Fn.func 76) [] [.bad])] 12) (bd (Cd lf) cl yh (cd [1,0,1,1,1,1,0,1,0,0] Qp)) (bd (Cd lf) cl yh (cd [1,0,1,1,1,1,0,1,0,1] Qp)) (L.map (λ(x'4:By)=>([pS x'4]:List PV))) [.box [pI n0],.box [.s (.nilp)],.box [.s (.sp [[.sl z1 t2 2 l3]] 0 0)],.box [pI n4,pS s5,p32 n6,p16 n7,p16 n8v,p16 n9,p16 n10,p16 n11,p16 n12,p16 n13,p16 n14],.box [pI (0:Int),pS ([]:List UInt8),pB false],.box [pI (0:Int),pS ([]:List UInt8),pB false],.box [pI n15,pS s16,pB b17],.dead] s (rgK (gp [(4,.ptr 0 0 0),(0,.ptr 1 0 0),(0,.ptr 2 0 0),(1,.ptr 4 0 0),(0,.ptr 5 0 0),(27,.fnr (Fn.func 76) [] [.bad])] 12) (λH=>O5 H [7] [.box [.bad]]) k) =
 Mv lf L n0 z1 t2 l3 n4 s5 n6 n7 n8v n9 n10 n11 n12 n13 n14 n15 s16 b17 (λn0 z1 t2 l3 n4 s5 n6 n7 n8v n9 n10 n11 n12 n13 n14 n15 s16 b17=>k .normal ⟨gp [(4,.ptr 0 0 0),(0,.ptr 1 0 0),(0,.ptr 2 0 0),(1,.ptr 4 0 0),(0,.ptr 5 0 0),(27,.fnr (Fn.func 76) [] [.bad])] 12,[.box [pI n0],.box [.s (.nilp)],.box [.s (.sp [[.sl z1 t2 2 l3]] 0 0)],.box [pI n4,pS s5,p32 n6,p16 n7,p16 n8v,p16 n9,p16 n10,p16 n11,p16 n12,p16 n13,p16 n14],.box [pI (0:Int),pS ([]:List UInt8),pB false],.box [pI (0:Int),pS ([]:List UInt8),pB false],.box [pI n15,pS s16,pB b17],.box [.bad]],s⟩) (λn0 z1 t2 l3 n4 s5 n6 n7 n8v n9 n10 n11 n12 n13 n14 n15 s16 b17 n18 s19 b20=>k (.exit 0) ⟨gp [(4,.ptr 0 0 0),(0,.ptr 1 0 0),(0,.ptr 2 0 0),(1,.ptr 4 0 0),(0,.ptr 5 0 0),(27,.fnr (Fn.func 76) [] [.bad])] 12,[.box [pI n0],.box [.s (.nilp)],.box [.s (.sp [[.sl z1 t2 2 l3]] 0 0)],.box [pI n4,pS s5,p32 n6,p16 n7,p16 n8v,p16 n9,p16 n10,p16 n11,p16 n12,p16 n13,p16 n14],.box [pI (0:Int),pS ([]:List UInt8),pB false],.box [pI n15,pS s16,pB b17],.box [pI n18,pS s19,pB b20],.box [.bad]],s⟩):=by
 induction L generalizing n0 z1 t2 l3 n4 s5 n6 n7 n8v n9 n10 n11 n12 n13 n14 n15 s16 b17 with
 | nil=>rfl
 | cons x'4 xs ih=>rw [BJ];unfold Mw;exact (Eq.trans (by kernel_rfl) (A0 (A0 (A0 (A0 (A8 λn'5=>(A8 λs'6=>(A0 rfl (ih n0 z1 t2 l3 n4 s5 n6 n7 n8v n9 n10 n11 n12 n13 n14 n15 s16 b17)))) rfl) rfl) rfl) rfl))
noncomputable def Up {R:Type} (lf:Nat) (n0:Int) (z1 t2:Bool) (l3:LL) (n4:Int) (s5:By) (n6 n7 n8v n9 n10 n11 n12 n13 n14 n15:Int) (s16:By) (b17:Bool) (k0:Int->Bool->Bool->LL->Int->By->Int->Int->Int->Int->Int->Int->Int->Int->Int->Int->By->Bool->Option R) (k1:Int->Bool->Bool->LL->Int->By->Int->Int->Int->Int->Int->Int->Int->Int->Int->Int->By->Bool->Int->By->Bool->Option R):Option R:=cond (A2 s5.length) (Mv lf (F9 s5) n0 z1 t2 l3 n4 s5 n6 n7 n8v n9 n10 n11 n12 n13 n14 n15 s16 b17 k0 k1) none
abbrev BI (b:Code):Prop:=∀ (k:Out->St σ->Option R) n0 z1 t2 l3 n4 s5 n6 n7 n8v n9 n10 n11 n12 n13 n14 n15 s16 b17,B2 (Cd lf) cl yh b ⟨gp [(4,.ptr 0 0 0),(0,.ptr 1 0 0),(0,.ptr 2 0 0),(1,.ptr 4 0 0),(0,.ptr 5 0 0),(27,.fnr (Fn.func 76) [] [.ptr 7 0 0])] 12,[.box [pI n0],.box [.s (.nilp)],.box [.s (.sp [[.sl z1 t2 2 l3]] 0 0)],.box [pI n4,pS s5,p32 n6,p16 n7,p16 n8v,p16 n9,p16 n10,p16 n11,p16 n12,p16 n13,p16 n14],.box [pI (0:Int),pS ([]:List UInt8),pB false],.box [pI (0:Int),pS ([]:List UInt8),pB false],.box [pI n15,pS s16,pB b17],.box [pS s5]],s⟩ k=Up lf n0 z1 t2 l3 n4 s5 n6 n7 n8v n9 n10 n11 n12 n13 n14 n15 s16 b17 (λn0 z1 t2 l3 n4 s5 n6 n7 n8v n9 n10 n11 n12 n13 n14 n15 s16 b17=>k .normal ⟨gp [(4,.ptr 0 0 0),(0,.ptr 1 0 0),(0,.ptr 2 0 0),(1,.ptr 4 0 0),(0,.ptr 5 0 0),(27,.fnr (Fn.func 76) [] [.bad])] 12,[.box [pI n0],.box [.s (.nilp)],.box [.s (.sp [[.sl z1 t2 2 l3]] 0 0)],.box [pI n4,pS s5,p32 n6,p16 n7,p16 n8v,p16 n9,p16 n10,p16 n11,p16 n12,p16 n13,p16 n14],.box [pI (0:Int),pS ([]:List UInt8),pB false],.box [pI (0:Int),pS ([]:List UInt8),pB false],.box [pI n15,pS s16,pB b17],.box [.bad]],s⟩) (λn0 z1 t2 l3 n4 s5 n6 n7 n8v n9 n10 n11 n12 n13 n14 n15 s16 b17 n18 s19 b20=>k (.exit 0) ⟨gp [(4,.ptr 0 0 0),(0,.ptr 1 0 0),(0,.ptr 2 0 0),(1,.ptr 4 0 0),(0,.ptr 5 0 0),(27,.fnr (Fn.func 76) [] [.bad])] 12,[.box [pI n0],.box [.s (.nilp)],.box [.s (.sp [[.sl z1 t2 2 l3]] 0 0)],.box [pI n4,pS s5,p32 n6,p16 n7,p16 n8v,p16 n9,p16 n10,p16 n11,p16 n12,p16 n13,p16 n14],.box [pI (0:Int),pS ([]:List UInt8),pB false],.box [pI n15,pS s16,pB b17],.box [pI n18,pS s19,pB b20],.box [.bad]],s⟩)
theorem RO:BI (R:=R) lf cl yh s (cd [1,0,1,1,1,1,0,1,0] Qp):=by
 intro k n0 z1 t2 l3 n4 s5 n6 n7 n8v n9 n10 n11 n12 n13 n14 n15 s16 b17;unfold Up;exact ((LN [1,0,1,1,1,1,0,1,0] (by kernel_rfl)).trans (by kernel_rfl)).trans (Cw (RP lf cl yh s k (F9 s5) n0 z1 t2 l3 n4 s5 n6 n7 n8v n9 n10 n11 n12 n13 n14 n15 s16 b17))
noncomputable def At5 {R:Type} (lf:Nat) (now:Int) (lz lt:Bool) (l:LL) (kd:Int) (nm:By) (v4 a0 a1 a2 a3 a4 a5 a6 a7:Int) (k0:Int->Bool->Bool->LL->Int->By->Int->Int->Int->Int->Int->Int->Int->Int->Int->Option R) (k1:Int->By->Bool->Int->Bool->Bool->LL->Int->By->Int->Int->Int->Int->Int->Int->Int->Int->Int->Option R) (k2:Int->By->Bool->Int->Bool->Bool->LL->Int->By->Int->Int->Int->Int->Int->Int->Int->Int->Int->Int->By->Bool->Int->By->Bool->Int->By->Bool->Option R):Option R:=cond (kd != 1) (k0 now lz lt l kd nm v4 a0 a1 a2 a3 a4 a5 a6 a7) (cond (A2 nm.length) (cond (ltN v4 4294967296) (cond (ok8 a0 a1 a2 a3 a4 a5 a6 a7) (cond (not (X7 (mkH kd nm v4 (n8 a0 a1 a2 a3 a4 a5 a6 a7)))) (k0 now lz lt l kd nm v4 a0 a1 a2 a3 a4 a5 a6 a7) (cond (List.all l D5) (cond (List.all l smE) (cond (A2 l.length) (cond (A2 nm.length) (vl (((atV now List.nil (List.map A6 l) nm true)).1).1 λn'2=>vl ((((atV now List.nil (List.map A6 l) nm true)).1).2).1 λs'3=>cond ((atV now List.nil (List.map A6 l) nm true)).2 (k1 n'2 s'3 ((((atV now List.nil (List.map A6 l) nm true)).1).2).2 now lz lt l kd nm v4 a0 a1 a2 a3 a4 a5 a6 a7) (Up lf now lz lt l kd nm v4 a0 a1 a2 a3 a4 a5 a6 a7 n'2 s'3 ((((atV now List.nil (List.map A6 l) nm true)).1).2).2 (λn'7 z'8 t'9 l'10 n'11 s'12 n'13 n'14 n'15 n'16 n'17 n'18 n'19 n'20 n'21 n'22 s'23 b'24=>k2 0 ([]:List UInt8) false n'7 z'8 t'9 l'10 n'11 s'12 n'13 n'14 n'15 n'16 n'17 n'18 n'19 n'20 n'21 0 ([]:List UInt8) false 0 ([]:List UInt8) false n'22 s'23 b'24) (λn'25 z'26 t'27 l'28 n'29 s'30 n'31 n'32 n'33 n'34 n'35 n'36 n'37 n'38 n'39 n'40 s'41 b'42 n'43 s'44 b'45=>k2 n'40 s'41 b'42 n'25 z'26 t'27 l'28 n'29 s'30 n'31 n'32 n'33 n'34 n'35 n'36 n'37 n'38 n'39 n'40 s'41 b'42 n'40 s'41 b'42 n'43 s'44 b'45))) none) none) none) none)) none) none) none)
theorem A88 (b_101111010:Code) (h_cfdB_e1:BI (R:=PV × List Blk × σ) lf cl yh s b_101111010) (now:Int) (lz lt:Bool) (l:LL) (kd:Int) (nm:By) (v4 a0 a1 a2 a3 a4 a5 a6 a7:Int):B2 (Cd lf) cl yh (cd [] (S7 [1,0,1,1,1,1,0,1,0] b_101111010 Qp)) ⟨[pI now,.s (.nilp),.s (.sp [[.sl lz lt 2 l]] 0 0),.agg [pI kd,pS nm,p32 v4,p16 a0,p16 a1,p16 a2,p16 a3,p16 a4,p16 a5,p16 a6,p16 a7]]++tps 46,[],s⟩ (G9 (Cd lf) Tryz.f15)=At5 lf now lz lt l kd nm v4 a0 a1 a2 a3 a4 a5 a6 a7 (λn0 z1 t2 l3 n4 s5 n6 n7 n8v n9 n10 n11 n12 n13 n14=>some (.agg [pI (0:Int),pS ([]:List UInt8),pB false],[.box [pI n0],.box [.s (.nilp)],.box [.s (.sp [[.sl z1 t2 2 l3]] 0 0)],.box [pI n4,pS s5,p32 n6,p16 n7,p16 n8v,p16 n9,p16 n10,p16 n11,p16 n12,p16 n13,p16 n14],.box [pI (0:Int),pS ([]:List UInt8),pB false],.box [pI (0:Int),pS ([]:List UInt8),pB false]],s)) (λr0 r1 r2 n3 z4 t5 l6 n7 s8 n9 n10 n11 n12 n13 n14 n15 n16 n17=>some (.agg [pI r0,pS r1,pB r2],[.box [pI n3],.box [.s (.nilp)],.box [.s (.sp [[.sl z4 t5 2 l6]] 0 0)],.box [pI n7,pS s8,p32 n9,p16 n10,p16 n11,p16 n12,p16 n13,p16 n14,p16 n15,p16 n16,p16 n17],.box [pI r0,pS r1,pB r2],.box [pI (0:Int),pS ([]:List UInt8),pB false],.box [pI r0,pS r1,pB r2]],s)) (λr0 r1 r2 n3 z4 t5 l6 n7 s8 n9 n10 n11 n12 n13 n14 n15 n16 n17 n18 s19 b20 n21 s22 b23 n24 s25 b26=>some (.agg [pI r0,pS r1,pB r2],[.box [pI n3],.box [.s (.nilp)],.box [.s (.sp [[.sl z4 t5 2 l6]] 0 0)],.box [pI n7,pS s8,p32 n9,p16 n10,p16 n11,p16 n12,p16 n13,p16 n14,p16 n15,p16 n16,p16 n17],.box [pI n18,pS s19,pB b20],.box [pI n21,pS s22,pB b23],.box [pI n24,pS s25,pB b26],.box [.bad]],s)):=by
 unfold At5;exact (Eq.trans (by kernel_rfl) (A0 rfl (A0 (A0 (A0 (A0 rfl (A0 (A0 (A0 (A0 (A8 λn'2=>(A8 λs'3=>(A0 rfl ((h_cfdB_e1 (H4 0 (I5 (Cd lf) cl yh (cd [1,0,1,1,1,1,1] Qp) (G9 (Cd lf) Tryz.f15))) now lz lt l kd nm v4 a0 a1 a2 a3 a4 a5 a6 a7 n'2 s'3 ((((atV now List.nil (List.map A6 l) nm true)).1).2).2).trans (by kernel_rfl))))) rfl) rfl) rfl) rfl)) rfl) rfl) rfl)))
theorem A89 (d:Nat) (now lz lt l kd nm v4 a0 a1 a2 a3 a4 a5 a6 a7):evC (Cd lf) (d+1) σ yh 15 [pI now,.s (.nilp),.s (.sp [[.sl lz lt 2 l]] 0 0),.agg [pI kd,pS nm,p32 v4,p16 a0,p16 a1,p16 a2,p16 a3,p16 a4,p16 a5,p16 a6,p16 a7]] [] s=At5 lf now lz lt l kd nm v4 a0 a1 a2 a3 a4 a5 a6 a7 (λn0 z1 t2 l3 n4 s5 n6 n7 n8v n9 n10 n11 n12 n13 n14=>some (.agg [pI (0:Int),pS ([]:List UInt8),pB false],[.box [pI n0],.box [.s (.nilp)],.box [.s (.sp [[.sl z1 t2 2 l3]] 0 0)],.box [pI n4,pS s5,p32 n6,p16 n7,p16 n8v,p16 n9,p16 n10,p16 n11,p16 n12,p16 n13,p16 n14],.box [pI (0:Int),pS ([]:List UInt8),pB false],.box [pI (0:Int),pS ([]:List UInt8),pB false]],s)) (λr0 r1 r2 n3 z4 t5 l6 n7 s8 n9 n10 n11 n12 n13 n14 n15 n16 n17=>some (.agg [pI r0,pS r1,pB r2],[.box [pI n3],.box [.s (.nilp)],.box [.s (.sp [[.sl z4 t5 2 l6]] 0 0)],.box [pI n7,pS s8,p32 n9,p16 n10,p16 n11,p16 n12,p16 n13,p16 n14,p16 n15,p16 n16,p16 n17],.box [pI r0,pS r1,pB r2],.box [pI (0:Int),pS ([]:List UInt8),pB false],.box [pI r0,pS r1,pB r2]],s)) (λr0 r1 r2 n3 z4 t5 l6 n7 s8 n9 n10 n11 n12 n13 n14 n15 n16 n17 n18 s19 b20 n21 s22 b23 n24 s25 b26=>some (.agg [pI r0,pS r1,pB r2],[.box [pI n3],.box [.s (.nilp)],.box [.s (.sp [[.sl z4 t5 2 l6]] 0 0)],.box [pI n7,pS s8,p32 n9,p16 n10,p16 n11,p16 n12,p16 n13,p16 n14,p16 n15,p16 n16,p16 n17],.box [pI n18,pS s19,pB b20],.box [pI n21,pS s22,pB b23],.box [pI n24,pS s25,pB b26],.box [.bad]],s)):=
 (evE (fn:=Tryz.f15) (by kernel_rfl)).trans (Eq.trans (by kernel_rfl) (A88 lf (evC (Cd lf) d) yh s (cd [1,0,1,1,1,1,0,1,0] Qp) (RO lf (evC (Cd lf) d) yh s) now lz lt l kd nm v4 a0 a1 a2 a3 a4 a5 a6 a7))
noncomputable abbrev At6 (now:Int) (lz lt:Bool) (l:LL) (kd:Int) (nm:By) (v4 a0 a1 a2 a3 a4 a5 a6 a7:Int):Option (PV × List Blk × Unit):=At5 LF now lz lt l kd nm v4 a0 a1 a2 a3 a4 a5 a6 a7 (λn0 z1 t2 l3 n4 s5 n6 n7 n8v n9 n10 n11 n12 n13 n14=>some (.agg [pI (0:Int),pS ([]:List UInt8),pB false],[.box [pI n0],.box [.s (.nilp)],.box [.s (.sp [[.sl z1 t2 2 l3]] 0 0)],.box [pI n4,pS s5,p32 n6,p16 n7,p16 n8v,p16 n9,p16 n10,p16 n11,p16 n12,p16 n13,p16 n14],.box [pI (0:Int),pS ([]:List UInt8),pB false],.box [pI (0:Int),pS ([]:List UInt8),pB false]],())) (λr0 r1 r2 n3 z4 t5 l6 n7 s8 n9 n10 n11 n12 n13 n14 n15 n16 n17=>some (.agg [pI r0,pS r1,pB r2],[.box [pI n3],.box [.s (.nilp)],.box [.s (.sp [[.sl z4 t5 2 l6]] 0 0)],.box [pI n7,pS s8,p32 n9,p16 n10,p16 n11,p16 n12,p16 n13,p16 n14,p16 n15,p16 n16,p16 n17],.box [pI r0,pS r1,pB r2],.box [pI (0:Int),pS ([]:List UInt8),pB false],.box [pI r0,pS r1,pB r2]],())) (λr0 r1 r2 n3 z4 t5 l6 n7 s8 n9 n10 n11 n12 n13 n14 n15 n16 n17 n18 s19 b20 n21 s22 b23 n24 s25 b26=>some (.agg [pI r0,pS r1,pB r2],[.box [pI n3],.box [.s (.nilp)],.box [.s (.sp [[.sl z4 t5 2 l6]] 0 0)],.box [pI n7,pS s8,p32 n9,p16 n10,p16 n11,p16 n12,p16 n13,p16 n14,p16 n15,p16 n16,p16 n17],.box [pI n18,pS s19,pB b20],.box [pI n21,pS s22,pB b23],.box [pI n24,pS s25,pB b26],.box [.bad]],()))
noncomputable abbrev Qq:Code:=D2 Tryz.f15
noncomputable def Ce (lf:Nat):Cfg:=B8 lf [15] (A4 []) [(39,El),(40,Mi),(41,Ek)] (A4 [(12,[8]),(11,[8,0]),(10,[4,0,0,1,0,3,33]),(9,[4,0,0,1,0,3,0]),(8,[4,0,0,1,0,2]),(7,[4,0,0,1,0,27]),(6,[8]),(5,[4,0,0,0,0,0,0,22]),(4,[4,0,0,0,0,0,0,0]),(3,[8]),(2,[4,0,0,0,0,0,12]),(1,[4,0,0,0,0,0]),(0,[4,0,0,0,0])]) [39] (A4 [(0,[8,0]),(1,[4,0,0,1,0])]) (some [8]) [] [(76,V9)] []
noncomputable def My {R:Type} (lf:Nat) (x'4:By) (xs:List By) (self:Int->Bool->Bool->LL->Int->Int->By->Int->Int->Int->Int->Int->Int->Int->Int->Int->Int->By->Bool->Option R) (n0:Int) (z1 t2:Bool) (l3:LL) (n4 n5:Int) (s6:By) (n7 n8v n9 n10 n11 n12 n13 n14 n15 n16:Int) (s17:By) (b18:Bool) (k0:Int->Bool->Bool->LL->Int->Int->By->Int->Int->Int->Int->Int->Int->Int->Int->Int->Int->By->Bool->Option R) (k1:Int->Bool->Bool->LL->Int->Int->By->Int->Int->Int->Int->Int->Int->Int->Int->Int->Int->By->Bool->Int->By->Bool->Option R):Option R:=cond (List.all l3 F7) (cond (List.all l3 smE) (cond (A2 l3.length) (cond (A2 x'4.length) (vl (((atV n0 (List.map B0 l3) List.nil x'4 false)).1).1 λn'5=>vl ((((atV n0 (List.map B0 l3) List.nil x'4 false)).1).2).1 λs'6=>cond ((atV n0 (List.map B0 l3) List.nil x'4 false)).2 (k1 n0 z1 t2 l3 n4 n5 s6 n7 n8v n9 n10 n11 n12 n13 n14 n15 n'5 s'6 ((((atV n0 (List.map B0 l3) List.nil x'4 false)).1).2).2 n16 s17 b18) (self n0 z1 t2 l3 n4 n5 s6 n7 n8v n9 n10 n11 n12 n13 n14 n15 n16 s17 b18)) none) none) none) none
noncomputable def Mx {R:Type} (lf:Nat) (L:List By) (n0:Int) (z1 t2:Bool) (l3:LL) (n4 n5:Int) (s6:By) (n7 n8v n9 n10 n11 n12 n13 n14 n15 n16:Int) (s17:By) (b18:Bool) (k0:Int->Bool->Bool->LL->Int->Int->By->Int->Int->Int->Int->Int->Int->Int->Int->Int->Int->By->Bool->Option R) (k1:Int->Bool->Bool->LL->Int->Int->By->Int->Int->Int->Int->Int->Int->Int->Int->Int->Int->By->Bool->Int->By->Bool->Option R):Option R:=VO (α:=Int->Bool->Bool->LL->Int->Int->By->Int->Int->Int->Int->Int->Int->Int->Int->Int->Int->By->Bool->Option R) (λn0 z1 t2 l3 n4 n5 s6 n7 n8v n9 n10 n11 n12 n13 n14 n15 n16 s17 b18=>k0 n0 z1 t2 l3 n4 n5 s6 n7 n8v n9 n10 n11 n12 n13 n14 n15 n16 s17 b18) (λx'4 xs self n0 z1 t2 l3 n4 n5 s6 n7 n8v n9 n10 n11 n12 n13 n14 n15 n16 s17 b18=>My lf x'4 xs self n0 z1 t2 l3 n4 n5 s6 n7 n8v n9 n10 n11 n12 n13 n14 n15 n16 s17 b18 k0 k1) L n0 z1 t2 l3 n4 n5 s6 n7 n8v n9 n10 n11 n12 n13 n14 n15 n16 s17 b18
theorem BM {R:Type} (lf:Nat) (x'4:By) (xs:List By) (n0:Int) (z1 t2:Bool) (l3:LL) (n4 n5:Int) (s6:By) (n7 n8v n9 n10 n11 n12 n13 n14 n15 n16:Int) (s17:By) (b18:Bool) (k0:Int->Bool->Bool->LL->Int->Int->By->Int->Int->Int->Int->Int->Int->Int->Int->Int->Int->By->Bool->Option R) (k1:Int->Bool->Bool->LL->Int->Int->By->Int->Int->Int->Int->Int->Int->Int->Int->Int->Int->By->Bool->Int->By->Bool->Option R):Mx lf (x'4::xs) n0 z1 t2 l3 n4 n5 s6 n7 n8v n9 n10 n11 n12 n13 n14 n15 n16 s17 b18 k0 k1=My lf x'4 xs (λn0 z1 t2 l3 n4 n5 s6 n7 n8v n9 n10 n11 n12 n13 n14 n15 n16 s17 b18=>Mx lf xs n0 z1 t2 l3 n4 n5 s6 n7 n8v n9 n10 n11 n12 n13 n14 n15 n16 s17 b18 k0 k1) n0 z1 t2 l3 n4 n5 s6 n7 n8v n9 n10 n11 n12 n13 n14 n15 n16 s17 b18 k0 k1:=rfl
theorem RS (L:List By) (n0:Int) (z1 t2:Bool) (l3:LL) (n4 n5:Int) (s6:By) (n7 n8v n9 n10 n11 n12 n13 n14 n15 n16:Int) (s17:By) (b18:Bool):N4 #[38] (gp [(4,.ptr 0 0 0),(0,.ptr 1 0 0),(0,.ptr 2 0 0),(1,.ptr 4 0 0),(0,.ptr 5 0 0),(27,.fnr (Fn.func 76) [] [.bad])] 12) (bd (Ce lf) cl yh (cd [1,0,1,1,1,1,0,1,0,0] Qq)) (bd (Ce lf) cl yh (cd [1,0,1,1,1,1,0,1,0,1] Qq)) (L.map (λ(x'4:By)=>([pS x'4]:List PV))) [.box [pI n0],.box [.s (.sp [[.sl z1 t2 3 l3,.int .i64 n4]] 0 0)],.box [.s (.nilp)],.box [pI n5,pS s6,p32 n7,p16 n8v,p16 n9,p16 n10,p16 n11,p16 n12,p16 n13,p16 n14,p16 n15],.box [pI (0:Int),pS ([]:List UInt8),pB false],.box [pI (0:Int),pS ([]:List UInt8),pB false],.box [pI n16,pS s17,pB b18],.dead] s (rgK (gp [(4,.ptr 0 0 0),(0,.ptr 1 0 0),(0,.ptr 2 0 0),(1,.ptr 4 0 0),(0,.ptr 5 0 0),(27,.fnr (Fn.func 76) [] [.bad])] 12) (λH=>O5 H [7] [.box [.bad]]) k) =
 Mx lf L n0 z1 t2 l3 n4 n5 s6 n7 n8v n9 n10 n11 n12 n13 n14 n15 n16 s17 b18 (λn0 z1 t2 l3 n4 n5 s6 n7 n8v n9 n10 n11 n12 n13 n14 n15 n16 s17 b18=>k .normal ⟨gp [(4,.ptr 0 0 0),(0,.ptr 1 0 0),(0,.ptr 2 0 0),(1,.ptr 4 0 0),(0,.ptr 5 0 0),(27,.fnr (Fn.func 76) [] [.bad])] 12,[.box [pI n0],.box [.s (.sp [[.sl z1 t2 3 l3,.int .i64 n4]] 0 0)],.box [.s (.nilp)],.box [pI n5,pS s6,p32 n7,p16 n8v,p16 n9,p16 n10,p16 n11,p16 n12,p16 n13,p16 n14,p16 n15],.box [pI (0:Int),pS ([]:List UInt8),pB false],.box [pI (0:Int),pS ([]:List UInt8),pB false],.box [pI n16,pS s17,pB b18],.box [.bad]],s⟩) (λn0 z1 t2 l3 n4 n5 s6 n7 n8v n9 n10 n11 n12 n13 n14 n15 n16 s17 b18 n19 s20 b21=>k (.exit 0) ⟨gp [(4,.ptr 0 0 0),(0,.ptr 1 0 0),(0,.ptr 2 0 0),(1,.ptr 4 0 0),(0,.ptr 5 0 0),(27,.fnr (Fn.func 76) [] [.bad])] 12,[.box [pI n0],.box [.s (.sp [[.sl z1 t2 3 l3,.int .i64 n4]] 0 0)],.box [.s (.nilp)],.box [pI n5,pS s6,p32 n7,p16 n8v,p16 n9,p16 n10,p16 n11,p16 n12,p16 n13,p16 n14,p16 n15],.box [pI (0:Int),pS ([]:List UInt8),pB false],.box [pI n16,pS s17,pB b18],.box [pI n19,pS s20,pB b21],.box [.bad]],s⟩):=by
 induction L generalizing n0 z1 t2 l3 n4 n5 s6 n7 n8v n9 n10 n11 n12 n13 n14 n15 n16 s17 b18 with
 | nil=>rfl
 | cons x'4 xs ih=>rw [BM];unfold My;exact (Eq.trans (by kernel_rfl) (A0 (A0 (A0 (A0 (A8 λn'5=>(A8 λs'6=>(A0 rfl (ih n0 z1 t2 l3 n4 n5 s6 n7 n8v n9 n10 n11 n12 n13 n14 n15 n16 s17 b18)))) rfl) rfl) rfl) rfl))
noncomputable def Uq {R:Type} (lf:Nat) (n0:Int) (z1 t2:Bool) (l3:LL) (n4 n5:Int) (s6:By) (n7 n8v n9 n10 n11 n12 n13 n14 n15 n16:Int) (s17:By) (b18:Bool) (k0:Int->Bool->Bool->LL->Int->Int->By->Int->Int->Int->Int->Int->Int->Int->Int->Int->Int->By->Bool->Option R) (k1:Int->Bool->Bool->LL->Int->Int->By->Int->Int->Int->Int->Int->Int->Int->Int->Int->Int->By->Bool->Int->By->Bool->Option R):Option R:=cond (A2 s6.length) (Mx lf (F9 s6) n0 z1 t2 l3 n4 n5 s6 n7 n8v n9 n10 n11 n12 n13 n14 n15 n16 s17 b18 k0 k1) none
abbrev BL (b:Code):Prop:=∀ (k:Out->St σ->Option R) n0 z1 t2 l3 n4 n5 s6 n7 n8v n9 n10 n11 n12 n13 n14 n15 n16 s17 b18,B2 (Ce lf) cl yh b ⟨gp [(4,.ptr 0 0 0),(0,.ptr 1 0 0),(0,.ptr 2 0 0),(1,.ptr 4 0 0),(0,.ptr 5 0 0),(27,.fnr (Fn.func 76) [] [.ptr 7 0 0])] 12,[.box [pI n0],.box [.s (.sp [[.sl z1 t2 3 l3,.int .i64 n4]] 0 0)],.box [.s (.nilp)],.box [pI n5,pS s6,p32 n7,p16 n8v,p16 n9,p16 n10,p16 n11,p16 n12,p16 n13,p16 n14,p16 n15],.box [pI (0:Int),pS ([]:List UInt8),pB false],.box [pI (0:Int),pS ([]:List UInt8),pB false],.box [pI n16,pS s17,pB b18],.box [pS s6]],s⟩ k=Uq lf n0 z1 t2 l3 n4 n5 s6 n7 n8v n9 n10 n11 n12 n13 n14 n15 n16 s17 b18 (λn0 z1 t2 l3 n4 n5 s6 n7 n8v n9 n10 n11 n12 n13 n14 n15 n16 s17 b18=>k .normal ⟨gp [(4,.ptr 0 0 0),(0,.ptr 1 0 0),(0,.ptr 2 0 0),(1,.ptr 4 0 0),(0,.ptr 5 0 0),(27,.fnr (Fn.func 76) [] [.bad])] 12,[.box [pI n0],.box [.s (.sp [[.sl z1 t2 3 l3,.int .i64 n4]] 0 0)],.box [.s (.nilp)],.box [pI n5,pS s6,p32 n7,p16 n8v,p16 n9,p16 n10,p16 n11,p16 n12,p16 n13,p16 n14,p16 n15],.box [pI (0:Int),pS ([]:List UInt8),pB false],.box [pI (0:Int),pS ([]:List UInt8),pB false],.box [pI n16,pS s17,pB b18],.box [.bad]],s⟩) (λn0 z1 t2 l3 n4 n5 s6 n7 n8v n9 n10 n11 n12 n13 n14 n15 n16 s17 b18 n19 s20 b21=>k (.exit 0) ⟨gp [(4,.ptr 0 0 0),(0,.ptr 1 0 0),(0,.ptr 2 0 0),(1,.ptr 4 0 0),(0,.ptr 5 0 0),(27,.fnr (Fn.func 76) [] [.bad])] 12,[.box [pI n0],.box [.s (.sp [[.sl z1 t2 3 l3,.int .i64 n4]] 0 0)],.box [.s (.nilp)],.box [pI n5,pS s6,p32 n7,p16 n8v,p16 n9,p16 n10,p16 n11,p16 n12,p16 n13,p16 n14,p16 n15],.box [pI (0:Int),pS ([]:List UInt8),pB false],.box [pI n16,pS s17,pB b18],.box [pI n19,pS s20,pB b21],.box [.bad]],s⟩)
theorem RR:BL (R:=R) lf cl yh s (cd [1,0,1,1,1,1,0,1,0] Qq):=by
 intro k n0 z1 t2 l3 n4 n5 s6 n7 n8v n9 n10 n11 n12 n13 n14 n15 n16 s17 b18;unfold Uq;exact ((LN [1,0,1,1,1,1,0,1,0] (by kernel_rfl)).trans (by kernel_rfl)).trans (Cw (RS lf cl yh s k (F9 s6) n0 z1 t2 l3 n4 n5 s6 n7 n8v n9 n10 n11 n12 n13 n14 n15 n16 s17 b18))
noncomputable def At7 {R:Type} (lf:Nat) (now:Int) (tz tt:Bool) (t:LL) (cp kd:Int) (nm:By) (v4 a0 a1 a2 a3 a4 a5 a6 a7:Int) (k0:Int->Bool->Bool->LL->Int->Int->By->Int->Int->Int->Int->Int->Int->Int->Int->Int->Option R) (k1:Int->By->Bool->Int->Bool->Bool->LL->Int->Int->By->Int->Int->Int->Int->Int->Int->Int->Int->Int->Option R) (k2:Int->By->Bool->Int->Bool->Bool->LL->Int->Int->By->Int->Int->Int->Int->Int->Int->Int->Int->Int->Int->By->Bool->Int->By->Bool->Int->By->Bool->Option R):Option R:=cond (kd != 1) (k0 now tz tt t cp kd nm v4 a0 a1 a2 a3 a4 a5 a6 a7) (cond (A2 nm.length) (cond (ltN v4 4294967296) (cond (ok8 a0 a1 a2 a3 a4 a5 a6 a7) (cond (not (X7 (mkH kd nm v4 (n8 a0 a1 a2 a3 a4 a5 a6 a7)))) (k0 now tz tt t cp kd nm v4 a0 a1 a2 a3 a4 a5 a6 a7) (cond (List.all t F7) (cond (List.all t smE) (cond (A2 t.length) (cond (A2 nm.length) (vl (((atV now (List.map B0 t) List.nil nm true)).1).1 λn'2=>vl ((((atV now (List.map B0 t) List.nil nm true)).1).2).1 λs'3=>cond ((atV now (List.map B0 t) List.nil nm true)).2 (k1 n'2 s'3 ((((atV now (List.map B0 t) List.nil nm true)).1).2).2 now tz tt t cp kd nm v4 a0 a1 a2 a3 a4 a5 a6 a7) (Uq lf now tz tt t cp kd nm v4 a0 a1 a2 a3 a4 a5 a6 a7 n'2 s'3 ((((atV now (List.map B0 t) List.nil nm true)).1).2).2 (λn'7 z'8 t'9 l'10 n'11 n'12 s'13 n'14 n'15 n'16 n'17 n'18 n'19 n'20 n'21 n'22 n'23 s'24 b'25=>k2 0 ([]:List UInt8) false n'7 z'8 t'9 l'10 n'11 n'12 s'13 n'14 n'15 n'16 n'17 n'18 n'19 n'20 n'21 n'22 0 ([]:List UInt8) false 0 ([]:List UInt8) false n'23 s'24 b'25) (λn'26 z'27 t'28 l'29 n'30 n'31 s'32 n'33 n'34 n'35 n'36 n'37 n'38 n'39 n'40 n'41 n'42 s'43 b'44 n'45 s'46 b'47=>k2 n'42 s'43 b'44 n'26 z'27 t'28 l'29 n'30 n'31 s'32 n'33 n'34 n'35 n'36 n'37 n'38 n'39 n'40 n'41 n'42 s'43 b'44 n'42 s'43 b'44 n'45 s'46 b'47))) none) none) none) none)) none) none) none)
theorem A91 (b_101111010:Code) (h_cfdC_e1:BL (R:=PV × List Blk × σ) lf cl yh s b_101111010) (now:Int) (tz tt:Bool) (t:LL) (cp kd:Int) (nm:By) (v4 a0 a1 a2 a3 a4 a5 a6 a7:Int):B2 (Ce lf) cl yh (cd [] (S7 [1,0,1,1,1,1,0,1,0] b_101111010 Qq)) ⟨[pI now,.s (.sp [[.sl tz tt 3 t,.int .i64 cp]] 0 0),.s (.nilp),.agg [pI kd,pS nm,p32 v4,p16 a0,p16 a1,p16 a2,p16 a3,p16 a4,p16 a5,p16 a6,p16 a7]]++tps 46,[],s⟩ (G9 (Ce lf) Tryz.f15)=At7 lf now tz tt t cp kd nm v4 a0 a1 a2 a3 a4 a5 a6 a7 (λn0 z1 t2 l3 n4 n5 s6 n7 n8v n9 n10 n11 n12 n13 n14 n15=>some (.agg [pI (0:Int),pS ([]:List UInt8),pB false],[.box [pI n0],.box [.s (.sp [[.sl z1 t2 3 l3,.int .i64 n4]] 0 0)],.box [.s (.nilp)],.box [pI n5,pS s6,p32 n7,p16 n8v,p16 n9,p16 n10,p16 n11,p16 n12,p16 n13,p16 n14,p16 n15],.box [pI (0:Int),pS ([]:List UInt8),pB false],.box [pI (0:Int),pS ([]:List UInt8),pB false]],s)) (λr0 r1 r2 n3 z4 t5 l6 n7 n8v s9 n10 n11 n12 n13 n14 n15 n16 n17 n18=>some (.agg [pI r0,pS r1,pB r2],[.box [pI n3],.box [.s (.sp [[.sl z4 t5 3 l6,.int .i64 n7]] 0 0)],.box [.s (.nilp)],.box [pI n8v,pS s9,p32 n10,p16 n11,p16 n12,p16 n13,p16 n14,p16 n15,p16 n16,p16 n17,p16 n18],.box [pI r0,pS r1,pB r2],.box [pI (0:Int),pS ([]:List UInt8),pB false],.box [pI r0,pS r1,pB r2]],s)) (λr0 r1 r2 n3 z4 t5 l6 n7 n8v s9 n10 n11 n12 n13 n14 n15 n16 n17 n18 n19 s20 b21 n22 s23 b24 n25 s26 b27=>some (.agg [pI r0,pS r1,pB r2],[.box [pI n3],.box [.s (.sp [[.sl z4 t5 3 l6,.int .i64 n7]] 0 0)],.box [.s (.nilp)],.box [pI n8v,pS s9,p32 n10,p16 n11,p16 n12,p16 n13,p16 n14,p16 n15,p16 n16,p16 n17,p16 n18],.box [pI n19,pS s20,pB b21],.box [pI n22,pS s23,pB b24],.box [pI n25,pS s26,pB b27],.box [.bad]],s)):=by
 unfold At7;exact (Eq.trans (by kernel_rfl) (A0 rfl (A0 (A0 (A0 (A0 rfl (A0 (A0 (A0 (A0 (A8 λn'2=>(A8 λs'3=>(A0 rfl ((h_cfdC_e1 (H4 0 (I5 (Ce lf) cl yh (cd [1,0,1,1,1,1,1] Qq) (G9 (Ce lf) Tryz.f15))) now tz tt t cp kd nm v4 a0 a1 a2 a3 a4 a5 a6 a7 n'2 s'3 ((((atV now (List.map B0 t) List.nil nm true)).1).2).2).trans (by kernel_rfl))))) rfl) rfl) rfl) rfl)) rfl) rfl) rfl)))
theorem A92 (d:Nat) (now tz tt t cp kd nm v4 a0 a1 a2 a3 a4 a5 a6 a7):evC (Ce lf) (d+1) σ yh 15 [pI now,.s (.sp [[.sl tz tt 3 t,.int .i64 cp]] 0 0),.s (.nilp),.agg [pI kd,pS nm,p32 v4,p16 a0,p16 a1,p16 a2,p16 a3,p16 a4,p16 a5,p16 a6,p16 a7]] [] s=At7 lf now tz tt t cp kd nm v4 a0 a1 a2 a3 a4 a5 a6 a7 (λn0 z1 t2 l3 n4 n5 s6 n7 n8v n9 n10 n11 n12 n13 n14 n15=>some (.agg [pI (0:Int),pS ([]:List UInt8),pB false],[.box [pI n0],.box [.s (.sp [[.sl z1 t2 3 l3,.int .i64 n4]] 0 0)],.box [.s (.nilp)],.box [pI n5,pS s6,p32 n7,p16 n8v,p16 n9,p16 n10,p16 n11,p16 n12,p16 n13,p16 n14,p16 n15],.box [pI (0:Int),pS ([]:List UInt8),pB false],.box [pI (0:Int),pS ([]:List UInt8),pB false]],s)) (λr0 r1 r2 n3 z4 t5 l6 n7 n8v s9 n10 n11 n12 n13 n14 n15 n16 n17 n18=>some (.agg [pI r0,pS r1,pB r2],[.box [pI n3],.box [.s (.sp [[.sl z4 t5 3 l6,.int .i64 n7]] 0 0)],.box [.s (.nilp)],.box [pI n8v,pS s9,p32 n10,p16 n11,p16 n12,p16 n13,p16 n14,p16 n15,p16 n16,p16 n17,p16 n18],.box [pI r0,pS r1,pB r2],.box [pI (0:Int),pS ([]:List UInt8),pB false],.box [pI r0,pS r1,pB r2]],s)) (λr0 r1 r2 n3 z4 t5 l6 n7 n8v s9 n10 n11 n12 n13 n14 n15 n16 n17 n18 n19 s20 b21 n22 s23 b24 n25 s26 b27=>some (.agg [pI r0,pS r1,pB r2],[.box [pI n3],.box [.s (.sp [[.sl z4 t5 3 l6,.int .i64 n7]] 0 0)],.box [.s (.nilp)],.box [pI n8v,pS s9,p32 n10,p16 n11,p16 n12,p16 n13,p16 n14,p16 n15,p16 n16,p16 n17,p16 n18],.box [pI n19,pS s20,pB b21],.box [pI n22,pS s23,pB b24],.box [pI n25,pS s26,pB b27],.box [.bad]],s)):=
 (evE (fn:=Tryz.f15) (by kernel_rfl)).trans (Eq.trans (by kernel_rfl) (A91 lf (evC (Ce lf) d) yh s (cd [1,0,1,1,1,1,0,1,0] Qq) (RR lf (evC (Ce lf) d) yh s) now tz tt t cp kd nm v4 a0 a1 a2 a3 a4 a5 a6 a7))
noncomputable abbrev At8 (now:Int) (tz tt:Bool) (t:LL) (cp kd:Int) (nm:By) (v4 a0 a1 a2 a3 a4 a5 a6 a7:Int):Option (PV × List Blk × Unit):=At7 LF now tz tt t cp kd nm v4 a0 a1 a2 a3 a4 a5 a6 a7 (λn0 z1 t2 l3 n4 n5 s6 n7 n8v n9 n10 n11 n12 n13 n14 n15=>some (.agg [pI (0:Int),pS ([]:List UInt8),pB false],[.box [pI n0],.box [.s (.sp [[.sl z1 t2 3 l3,.int .i64 n4]] 0 0)],.box [.s (.nilp)],.box [pI n5,pS s6,p32 n7,p16 n8v,p16 n9,p16 n10,p16 n11,p16 n12,p16 n13,p16 n14,p16 n15],.box [pI (0:Int),pS ([]:List UInt8),pB false],.box [pI (0:Int),pS ([]:List UInt8),pB false]],())) (λr0 r1 r2 n3 z4 t5 l6 n7 n8v s9 n10 n11 n12 n13 n14 n15 n16 n17 n18=>some (.agg [pI r0,pS r1,pB r2],[.box [pI n3],.box [.s (.sp [[.sl z4 t5 3 l6,.int .i64 n7]] 0 0)],.box [.s (.nilp)],.box [pI n8v,pS s9,p32 n10,p16 n11,p16 n12,p16 n13,p16 n14,p16 n15,p16 n16,p16 n17,p16 n18],.box [pI r0,pS r1,pB r2],.box [pI (0:Int),pS ([]:List UInt8),pB false],.box [pI r0,pS r1,pB r2]],())) (λr0 r1 r2 n3 z4 t5 l6 n7 n8v s9 n10 n11 n12 n13 n14 n15 n16 n17 n18 n19 s20 b21 n22 s23 b24 n25 s26 b27=>some (.agg [pI r0,pS r1,pB r2],[.box [pI n3],.box [.s (.sp [[.sl z4 t5 3 l6,.int .i64 n7]] 0 0)],.box [.s (.nilp)],.box [pI n8v,pS s9,p32 n10,p16 n11,p16 n12,p16 n13,p16 n14,p16 n15,p16 n16,p16 n17,p16 n18],.box [pI n19,pS s20,pB b21],.box [pI n22,pS s23,pB b24],.box [pI n25,pS s26,pB b27],.box [.bad]],()))
noncomputable abbrev Qr:Code:=D2 Tryz.f15
noncomputable def Cf (lf:Nat):Cfg:=B8 lf [15] (A4 []) [(39,El),(40,Mi),(41,Ek)] (A4 [(12,[8]),(11,[8,0]),(10,[4,0,0,1,0,3,33]),(9,[4,0,0,1,0,3,0]),(8,[4,0,0,1,0,2]),(7,[4,0,0,1,0,27]),(6,[8]),(5,[4,0,0,0,0,0,0,22]),(4,[4,0,0,0,0,0,0,0]),(3,[8]),(2,[4,0,0,0,0,0,12]),(1,[4,0,0,0,0,0]),(0,[4,0,0,0,0])]) [39] (A4 [(0,[8,0]),(1,[4,0,0,1,0])]) (some [8]) [] [(76,V9)] []
noncomputable def Na {R:Type} (lf:Nat) (x'4:By) (xs:List By) (self:Int->Int->By->Int->Int->Int->Int->Int->Int->Int->Int->Int->Int->By->Bool->Option R) (n0 n1:Int) (s2:By) (n3 n4 n5 n6 n7 n8v n9 n10 n11 n12:Int) (s13:By) (b14:Bool) (k0:Int->Int->By->Int->Int->Int->Int->Int->Int->Int->Int->Int->Int->By->Bool->Option R) (k1:Int->Int->By->Int->Int->Int->Int->Int->Int->Int->Int->Int->Int->By->Bool->Int->By->Bool->Option R):Option R:=cond (A2 x'4.length) (vl (((atV n0 List.nil List.nil x'4 false)).1).1 λn'5=>vl ((((atV n0 List.nil List.nil x'4 false)).1).2).1 λs'6=>cond ((atV n0 List.nil List.nil x'4 false)).2 (k1 n0 n1 s2 n3 n4 n5 n6 n7 n8v n9 n10 n11 n'5 s'6 ((((atV n0 List.nil List.nil x'4 false)).1).2).2 n12 s13 b14) (self n0 n1 s2 n3 n4 n5 n6 n7 n8v n9 n10 n11 n12 s13 b14)) none
noncomputable def Mz {R:Type} (lf:Nat) (L:List By) (n0 n1:Int) (s2:By) (n3 n4 n5 n6 n7 n8v n9 n10 n11 n12:Int) (s13:By) (b14:Bool) (k0:Int->Int->By->Int->Int->Int->Int->Int->Int->Int->Int->Int->Int->By->Bool->Option R) (k1:Int->Int->By->Int->Int->Int->Int->Int->Int->Int->Int->Int->Int->By->Bool->Int->By->Bool->Option R):Option R:=VO (α:=Int->Int->By->Int->Int->Int->Int->Int->Int->Int->Int->Int->Int->By->Bool->Option R) (λn0 n1 s2 n3 n4 n5 n6 n7 n8v n9 n10 n11 n12 s13 b14=>k0 n0 n1 s2 n3 n4 n5 n6 n7 n8v n9 n10 n11 n12 s13 b14) (λx'4 xs self n0 n1 s2 n3 n4 n5 n6 n7 n8v n9 n10 n11 n12 s13 b14=>Na lf x'4 xs self n0 n1 s2 n3 n4 n5 n6 n7 n8v n9 n10 n11 n12 s13 b14 k0 k1) L n0 n1 s2 n3 n4 n5 n6 n7 n8v n9 n10 n11 n12 s13 b14
theorem BP {R:Type} (lf:Nat) (x'4:By) (xs:List By) (n0 n1:Int) (s2:By) (n3 n4 n5 n6 n7 n8v n9 n10 n11 n12:Int) (s13:By) (b14:Bool) (k0:Int->Int->By->Int->Int->Int->Int->Int->Int->Int->Int->Int->Int->By->Bool->Option R) (k1:Int->Int->By->Int->Int->Int->Int->Int->Int->Int->Int->Int->Int->By->Bool->Int->By->Bool->Option R):Mz lf (x'4::xs) n0 n1 s2 n3 n4 n5 n6 n7 n8v n9 n10 n11 n12 s13 b14 k0 k1=Na lf x'4 xs (λn0 n1 s2 n3 n4 n5 n6 n7 n8v n9 n10 n11 n12 s13 b14=>Mz lf xs n0 n1 s2 n3 n4 n5 n6 n7 n8v n9 n10 n11 n12 s13 b14 k0 k1) n0 n1 s2 n3 n4 n5 n6 n7 n8v n9 n10 n11 n12 s13 b14 k0 k1:=rfl
theorem RU (L:List By) (n0 n1:Int) (s2:By) (n3 n4 n5 n6 n7 n8v n9 n10 n11 n12:Int) (s13:By) (b14:Bool):N4 #[38] (gp [(4,.ptr 0 0 0),(0,.ptr 1 0 0),(0,.ptr 2 0 0),(1,.ptr 4 0 0),(0,.ptr 5 0 0),(27,.fnr (Fn.func 76) [] [.bad])] 12) (bd (Cf lf) cl yh (cd [1,0,1,1,1,1,0,1,0,0] Qr)) (bd (Cf lf) cl yh (cd [1,0,1,1,1,1,0,1,0,1] Qr)) (L.map (λ(x'4:By)=>([pS x'4]:List PV))) [.box [pI n0],.box [.s (.nilp)],.box [.s (.nilp)],.box [pI n1,pS s2,p32 n3,p16 n4,p16 n5,p16 n6,p16 n7,p16 n8v,p16 n9,p16 n10,p16 n11],.box [pI (0:Int),pS ([]:List UInt8),pB false],.box [pI (0:Int),pS ([]:List UInt8),pB false],.box [pI n12,pS s13,pB b14],.dead] s (rgK (gp [(4,.ptr 0 0 0),(0,.ptr 1 0 0),(0,.ptr 2 0 0),(1,.ptr 4 0 0),(0,.ptr 5 0 0),(27,.fnr (Fn.func 76) [] [.bad])] 12) (λH=>O5 H [7] [.box [.bad]]) k) =
 Mz lf L n0 n1 s2 n3 n4 n5 n6 n7 n8v n9 n10 n11 n12 s13 b14 (λn0 n1 s2 n3 n4 n5 n6 n7 n8v n9 n10 n11 n12 s13 b14=>k .normal ⟨gp [(4,.ptr 0 0 0),(0,.ptr 1 0 0),(0,.ptr 2 0 0),(1,.ptr 4 0 0),(0,.ptr 5 0 0),(27,.fnr (Fn.func 76) [] [.bad])] 12,[.box [pI n0],.box [.s (.nilp)],.box [.s (.nilp)],.box [pI n1,pS s2,p32 n3,p16 n4,p16 n5,p16 n6,p16 n7,p16 n8v,p16 n9,p16 n10,p16 n11],.box [pI (0:Int),pS ([]:List UInt8),pB false],.box [pI (0:Int),pS ([]:List UInt8),pB false],.box [pI n12,pS s13,pB b14],.box [.bad]],s⟩) (λn0 n1 s2 n3 n4 n5 n6 n7 n8v n9 n10 n11 n12 s13 b14 n15 s16 b17=>k (.exit 0) ⟨gp [(4,.ptr 0 0 0),(0,.ptr 1 0 0),(0,.ptr 2 0 0),(1,.ptr 4 0 0),(0,.ptr 5 0 0),(27,.fnr (Fn.func 76) [] [.bad])] 12,[.box [pI n0],.box [.s (.nilp)],.box [.s (.nilp)],.box [pI n1,pS s2,p32 n3,p16 n4,p16 n5,p16 n6,p16 n7,p16 n8v,p16 n9,p16 n10,p16 n11],.box [pI (0:Int),pS ([]:List UInt8),pB false],.box [pI n12,pS s13,pB b14],.box [pI n15,pS s16,pB b17],.box [.bad]],s⟩):=by
 induction L generalizing n0 n1 s2 n3 n4 n5 n6 n7 n8v n9 n10 n11 n12 s13 b14 with
 | nil=>rfl
 | cons x'4 xs ih=>rw [BP];unfold Na;exact (Eq.trans (by kernel_rfl) (A0 (A8 λn'5=>(A8 λs'6=>(A0 rfl (ih n0 n1 s2 n3 n4 n5 n6 n7 n8v n9 n10 n11 n12 s13 b14)))) rfl))
noncomputable def Ur {R:Type} (lf:Nat) (n0 n1:Int) (s2:By) (n3 n4 n5 n6 n7 n8v n9 n10 n11 n12:Int) (s13:By) (b14:Bool) (k0:Int->Int->By->Int->Int->Int->Int->Int->Int->Int->Int->Int->Int->By->Bool->Option R) (k1:Int->Int->By->Int->Int->Int->Int->Int->Int->Int->Int->Int->Int->By->Bool->Int->By->Bool->Option R):Option R:=cond (A2 s2.length) (Mz lf (F9 s2) n0 n1 s2 n3 n4 n5 n6 n7 n8v n9 n10 n11 n12 s13 b14 k0 k1) none
abbrev BO (b:Code):Prop:=∀ (k:Out->St σ->Option R) n0 n1 s2 n3 n4 n5 n6 n7 n8v n9 n10 n11 n12 s13 b14,B2 (Cf lf) cl yh b ⟨gp [(4,.ptr 0 0 0),(0,.ptr 1 0 0),(0,.ptr 2 0 0),(1,.ptr 4 0 0),(0,.ptr 5 0 0),(27,.fnr (Fn.func 76) [] [.ptr 7 0 0])] 12,[.box [pI n0],.box [.s (.nilp)],.box [.s (.nilp)],.box [pI n1,pS s2,p32 n3,p16 n4,p16 n5,p16 n6,p16 n7,p16 n8v,p16 n9,p16 n10,p16 n11],.box [pI (0:Int),pS ([]:List UInt8),pB false],.box [pI (0:Int),pS ([]:List UInt8),pB false],.box [pI n12,pS s13,pB b14],.box [pS s2]],s⟩ k=Ur lf n0 n1 s2 n3 n4 n5 n6 n7 n8v n9 n10 n11 n12 s13 b14 (λn0 n1 s2 n3 n4 n5 n6 n7 n8v n9 n10 n11 n12 s13 b14=>k .normal ⟨gp [(4,.ptr 0 0 0),(0,.ptr 1 0 0),(0,.ptr 2 0 0),(1,.ptr 4 0 0),(0,.ptr 5 0 0),(27,.fnr (Fn.func 76) [] [.bad])] 12,[.box [pI n0],.box [.s (.nilp)],.box [.s (.nilp)],.box [pI n1,pS s2,p32 n3,p16 n4,p16 n5,p16 n6,p16 n7,p16 n8v,p16 n9,p16 n10,p16 n11],.box [pI (0:Int),pS ([]:List UInt8),pB false],.box [pI (0:Int),pS ([]:List UInt8),pB false],.box [pI n12,pS s13,pB b14],.box [.bad]],s⟩) (λn0 n1 s2 n3 n4 n5 n6 n7 n8v n9 n10 n11 n12 s13 b14 n15 s16 b17=>k (.exit 0) ⟨gp [(4,.ptr 0 0 0),(0,.ptr 1 0 0),(0,.ptr 2 0 0),(1,.ptr 4 0 0),(0,.ptr 5 0 0),(27,.fnr (Fn.func 76) [] [.bad])] 12,[.box [pI n0],.box [.s (.nilp)],.box [.s (.nilp)],.box [pI n1,pS s2,p32 n3,p16 n4,p16 n5,p16 n6,p16 n7,p16 n8v,p16 n9,p16 n10,p16 n11],.box [pI (0:Int),pS ([]:List UInt8),pB false],.box [pI n12,pS s13,pB b14],.box [pI n15,pS s16,pB b17],.box [.bad]],s⟩)
theorem RT:BO (R:=R) lf cl yh s (cd [1,0,1,1,1,1,0,1,0] Qr):=by
 intro k n0 n1 s2 n3 n4 n5 n6 n7 n8v n9 n10 n11 n12 s13 b14;unfold Ur;exact ((LN [1,0,1,1,1,1,0,1,0] (by kernel_rfl)).trans (by kernel_rfl)).trans (Cw (RU lf cl yh s k (F9 s2) n0 n1 s2 n3 n4 n5 n6 n7 n8v n9 n10 n11 n12 s13 b14))
noncomputable def At9 {R:Type} (lf:Nat) (now kd:Int) (nm:By) (v4 a0 a1 a2 a3 a4 a5 a6 a7:Int) (k0:Int->Int->By->Int->Int->Int->Int->Int->Int->Int->Int->Int->Option R) (k1:Int->By->Bool->Int->Int->By->Int->Int->Int->Int->Int->Int->Int->Int->Int->Option R) (k2:Int->By->Bool->Int->Int->By->Int->Int->Int->Int->Int->Int->Int->Int->Int->Int->By->Bool->Int->By->Bool->Int->By->Bool->Option R):Option R:=cond (kd != 1) (k0 now kd nm v4 a0 a1 a2 a3 a4 a5 a6 a7) (cond (A2 nm.length) (cond (ltN v4 4294967296) (cond (ok8 a0 a1 a2 a3 a4 a5 a6 a7) (cond (not (X7 (mkH kd nm v4 (n8 a0 a1 a2 a3 a4 a5 a6 a7)))) (k0 now kd nm v4 a0 a1 a2 a3 a4 a5 a6 a7) (cond (A2 nm.length) (vl (((atV now List.nil List.nil nm true)).1).1 λn'2=>vl ((((atV now List.nil List.nil nm true)).1).2).1 λs'3=>cond ((atV now List.nil List.nil nm true)).2 (k1 n'2 s'3 ((((atV now List.nil List.nil nm true)).1).2).2 now kd nm v4 a0 a1 a2 a3 a4 a5 a6 a7) (Ur lf now kd nm v4 a0 a1 a2 a3 a4 a5 a6 a7 n'2 s'3 ((((atV now List.nil List.nil nm true)).1).2).2 (λn'7 n'8 s'9 n'10 n'11 n'12 n'13 n'14 n'15 n'16 n'17 n'18 n'19 s'20 b'21=>k2 0 ([]:List UInt8) false n'7 n'8 s'9 n'10 n'11 n'12 n'13 n'14 n'15 n'16 n'17 n'18 0 ([]:List UInt8) false 0 ([]:List UInt8) false n'19 s'20 b'21) (λn'22 n'23 s'24 n'25 n'26 n'27 n'28 n'29 n'30 n'31 n'32 n'33 n'34 s'35 b'36 n'37 s'38 b'39=>k2 n'34 s'35 b'36 n'22 n'23 s'24 n'25 n'26 n'27 n'28 n'29 n'30 n'31 n'32 n'33 n'34 s'35 b'36 n'34 s'35 b'36 n'37 s'38 b'39))) none)) none) none) none)
theorem A94 (b_101111010:Code) (h_cfdD_e1:BO (R:=PV × List Blk × σ) lf cl yh s b_101111010) (now kd:Int) (nm:By) (v4 a0 a1 a2 a3 a4 a5 a6 a7:Int):B2 (Cf lf) cl yh (cd [] (S7 [1,0,1,1,1,1,0,1,0] b_101111010 Qr)) ⟨[pI now,.s (.nilp),.s (.nilp),.agg [pI kd,pS nm,p32 v4,p16 a0,p16 a1,p16 a2,p16 a3,p16 a4,p16 a5,p16 a6,p16 a7]]++tps 46,[],s⟩ (G9 (Cf lf) Tryz.f15)=At9 lf now kd nm v4 a0 a1 a2 a3 a4 a5 a6 a7 (λn0 n1 s2 n3 n4 n5 n6 n7 n8v n9 n10 n11=>some (.agg [pI (0:Int),pS ([]:List UInt8),pB false],[.box [pI n0],.box [.s (.nilp)],.box [.s (.nilp)],.box [pI n1,pS s2,p32 n3,p16 n4,p16 n5,p16 n6,p16 n7,p16 n8v,p16 n9,p16 n10,p16 n11],.box [pI (0:Int),pS ([]:List UInt8),pB false],.box [pI (0:Int),pS ([]:List UInt8),pB false]],s)) (λr0 r1 r2 n3 n4 s5 n6 n7 n8v n9 n10 n11 n12 n13 n14=>some (.agg [pI r0,pS r1,pB r2],[.box [pI n3],.box [.s (.nilp)],.box [.s (.nilp)],.box [pI n4,pS s5,p32 n6,p16 n7,p16 n8v,p16 n9,p16 n10,p16 n11,p16 n12,p16 n13,p16 n14],.box [pI r0,pS r1,pB r2],.box [pI (0:Int),pS ([]:List UInt8),pB false],.box [pI r0,pS r1,pB r2]],s)) (λr0 r1 r2 n3 n4 s5 n6 n7 n8v n9 n10 n11 n12 n13 n14 n15 s16 b17 n18 s19 b20 n21 s22 b23=>some (.agg [pI r0,pS r1,pB r2],[.box [pI n3],.box [.s (.nilp)],.box [.s (.nilp)],.box [pI n4,pS s5,p32 n6,p16 n7,p16 n8v,p16 n9,p16 n10,p16 n11,p16 n12,p16 n13,p16 n14],.box [pI n15,pS s16,pB b17],.box [pI n18,pS s19,pB b20],.box [pI n21,pS s22,pB b23],.box [.bad]],s)):=by
 unfold At9;exact (Eq.trans (by kernel_rfl) (A0 rfl (A0 (A0 (A0 (A0 rfl (A0 (A8 λn'2=>(A8 λs'3=>(A0 rfl ((h_cfdD_e1 (H4 0 (I5 (Cf lf) cl yh (cd [1,0,1,1,1,1,1] Qr) (G9 (Cf lf) Tryz.f15))) now kd nm v4 a0 a1 a2 a3 a4 a5 a6 a7 n'2 s'3 ((((atV now List.nil List.nil nm true)).1).2).2).trans (by kernel_rfl))))) rfl)) rfl) rfl) rfl)))
theorem A95 (d:Nat) (now kd nm v4 a0 a1 a2 a3 a4 a5 a6 a7):evC (Cf lf) (d+1) σ yh 15 [pI now,.s (.nilp),.s (.nilp),.agg [pI kd,pS nm,p32 v4,p16 a0,p16 a1,p16 a2,p16 a3,p16 a4,p16 a5,p16 a6,p16 a7]] [] s=At9 lf now kd nm v4 a0 a1 a2 a3 a4 a5 a6 a7 (λn0 n1 s2 n3 n4 n5 n6 n7 n8v n9 n10 n11=>some (.agg [pI (0:Int),pS ([]:List UInt8),pB false],[.box [pI n0],.box [.s (.nilp)],.box [.s (.nilp)],.box [pI n1,pS s2,p32 n3,p16 n4,p16 n5,p16 n6,p16 n7,p16 n8v,p16 n9,p16 n10,p16 n11],.box [pI (0:Int),pS ([]:List UInt8),pB false],.box [pI (0:Int),pS ([]:List UInt8),pB false]],s)) (λr0 r1 r2 n3 n4 s5 n6 n7 n8v n9 n10 n11 n12 n13 n14=>some (.agg [pI r0,pS r1,pB r2],[.box [pI n3],.box [.s (.nilp)],.box [.s (.nilp)],.box [pI n4,pS s5,p32 n6,p16 n7,p16 n8v,p16 n9,p16 n10,p16 n11,p16 n12,p16 n13,p16 n14],.box [pI r0,pS r1,pB r2],.box [pI (0:Int),pS ([]:List UInt8),pB false],.box [pI r0,pS r1,pB r2]],s)) (λr0 r1 r2 n3 n4 s5 n6 n7 n8v n9 n10 n11 n12 n13 n14 n15 s16 b17 n18 s19 b20 n21 s22 b23=>some (.agg [pI r0,pS r1,pB r2],[.box [pI n3],.box [.s (.nilp)],.box [.s (.nilp)],.box [pI n4,pS s5,p32 n6,p16 n7,p16 n8v,p16 n9,p16 n10,p16 n11,p16 n12,p16 n13,p16 n14],.box [pI n15,pS s16,pB b17],.box [pI n18,pS s19,pB b20],.box [pI n21,pS s22,pB b23],.box [.bad]],s)):=
 (evE (fn:=Tryz.f15) (by kernel_rfl)).trans (Eq.trans (by kernel_rfl) (A94 lf (evC (Cf lf) d) yh s (cd [1,0,1,1,1,1,0,1,0] Qr) (RT lf (evC (Cf lf) d) yh s) now kd nm v4 a0 a1 a2 a3 a4 a5 a6 a7))
noncomputable abbrev Au0 (now kd:Int) (nm:By) (v4 a0 a1 a2 a3 a4 a5 a6 a7:Int):Option (PV × List Blk × Unit):=At9 LF now kd nm v4 a0 a1 a2 a3 a4 a5 a6 a7 (λn0 n1 s2 n3 n4 n5 n6 n7 n8v n9 n10 n11=>some (.agg [pI (0:Int),pS ([]:List UInt8),pB false],[.box [pI n0],.box [.s (.nilp)],.box [.s (.nilp)],.box [pI n1,pS s2,p32 n3,p16 n4,p16 n5,p16 n6,p16 n7,p16 n8v,p16 n9,p16 n10,p16 n11],.box [pI (0:Int),pS ([]:List UInt8),pB false],.box [pI (0:Int),pS ([]:List UInt8),pB false]],())) (λr0 r1 r2 n3 n4 s5 n6 n7 n8v n9 n10 n11 n12 n13 n14=>some (.agg [pI r0,pS r1,pB r2],[.box [pI n3],.box [.s (.nilp)],.box [.s (.nilp)],.box [pI n4,pS s5,p32 n6,p16 n7,p16 n8v,p16 n9,p16 n10,p16 n11,p16 n12,p16 n13,p16 n14],.box [pI r0,pS r1,pB r2],.box [pI (0:Int),pS ([]:List UInt8),pB false],.box [pI r0,pS r1,pB r2]],())) (λr0 r1 r2 n3 n4 s5 n6 n7 n8v n9 n10 n11 n12 n13 n14 n15 s16 b17 n18 s19 b20 n21 s22 b23=>some (.agg [pI r0,pS r1,pB r2],[.box [pI n3],.box [.s (.nilp)],.box [.s (.nilp)],.box [pI n4,pS s5,p32 n6,p16 n7,p16 n8v,p16 n9,p16 n10,p16 n11,p16 n12,p16 n13,p16 n14],.box [pI n15,pS s16,pB b17],.box [pI n18,pS s19,pB b20],.box [pI n21,pS s22,pB b23],.box [.bad]],()))
noncomputable def Qx (lf:Nat):Cfg:=B8 lf [17] (A4 []) [(15,Vo)] (A4 [(1,[8]),(0,[0,0,0,4])]) [] (A4 []) (some [8]) [] [] []
noncomputable def Ut {R:Type} (lf:Nat) (now:Int) (tz tt:Bool) (t:LL) (cp:Int) (lz lt:Bool) (l:LL) (kd:Int) (nm:By) (v4 a0 a1 a2 a3 a4 a5 a6 a7:Int) (k0:Bool->Int->By->Int->Int->Int->Int->Int->Int->Int->Int->Int->Option R):Option R:=cond (List.all t F7) (cond (List.all t smE) (cond (A2 t.length) (cond (List.all l D5) (cond (List.all l smE) (cond (A2 l.length) (cond (A2 nm.length) (cond (ltN v4 4294967296) (cond (ok8 a0 a1 a2 a3 a4 a5 a6 a7) (vl ((C5 now (List.map B0 t) (List.map A6 l) kd (mkH kd nm v4 (n8 a0 a1 a2 a3 a4 a5 a6 a7)))).1 λn'0=>vl (((C5 now (List.map B0 t) (List.map A6 l) kd (mkH kd nm v4 (n8 a0 a1 a2 a3 a4 a5 a6 a7)))).2).1 λs'1=>k0 (n'0 != 0) kd nm v4 a0 a1 a2 a3 a4 a5 a6 a7) none) none) none) none) none) none) none) none) none
theorem RV (d:Nat) (now tz tt t cp lz lt l kd nm v4 a0 a1 a2 a3 a4 a5 a6 a7):evC (Qx lf) (d+1) σ yh 17 [pI now,.s (.sp [[.sl tz tt 3 t,.int .i64 cp]] 0 0),.s (.sp [[.sl lz lt 2 l]] 0 0),.agg [pI kd,pS nm,p32 v4,p16 a0,p16 a1,p16 a2,p16 a3,p16 a4,p16 a5,p16 a6,p16 a7]] [] s=Ut lf now tz tt t cp lz lt l kd nm v4 a0 a1 a2 a3 a4 a5 a6 a7 (λr0 n1 s2 n3 n4 n5 n6 n7 n8v n9 n10 n11=>some (pB r0,[.box [pI n1,pS s2,p32 n3,p16 n4,p16 n5,p16 n6,p16 n7,p16 n8v,p16 n9,p16 n10,p16 n11]],s)):=by
 refine (evE (fn:=Tryz.f17) (by kernel_rfl)).trans ?_
 generalize evC (Qx lf) d=cl
 unfold Ut;kernel_rfl
noncomputable abbrev BT (now:Int) (tz tt:Bool) (t:LL) (cp:Int) (lz lt:Bool) (l:LL) (kd:Int) (nm:By) (v4 a0 a1 a2 a3 a4 a5 a6 a7:Int):Option (PV × List Blk × Unit):=Ut LF now tz tt t cp lz lt l kd nm v4 a0 a1 a2 a3 a4 a5 a6 a7 (λr0 n1 s2 n3 n4 n5 n6 n7 n8v n9 n10 n11=>some (pB r0,[.box [pI n1,pS s2,p32 n3,p16 n4,p16 n5,p16 n6,p16 n7,p16 n8v,p16 n9,p16 n10,p16 n11]],()))
noncomputable def Qy (lf:Nat):Cfg:=B8 lf [17] (A4 []) [(15,Vo)] (A4 [(1,[8]),(0,[0,0,0,4])]) [] (A4 []) (some [8]) [] [] []
noncomputable def Uu {R:Type} (lf:Nat) (now:Int) (lz lt:Bool) (l:LL) (kd:Int) (nm:By) (v4 a0 a1 a2 a3 a4 a5 a6 a7:Int) (k0:Bool->Int->By->Int->Int->Int->Int->Int->Int->Int->Int->Int->Option R):Option R:=cond (List.all l D5) (cond (List.all l smE) (cond (A2 l.length) (cond (A2 nm.length) (cond (ltN v4 4294967296) (cond (ok8 a0 a1 a2 a3 a4 a5 a6 a7) (vl ((C5 now List.nil (List.map A6 l) kd (mkH kd nm v4 (n8 a0 a1 a2 a3 a4 a5 a6 a7)))).1 λn'0=>vl (((C5 now List.nil (List.map A6 l) kd (mkH kd nm v4 (n8 a0 a1 a2 a3 a4 a5 a6 a7)))).2).1 λs'1=>k0 (n'0 != 0) kd nm v4 a0 a1 a2 a3 a4 a5 a6 a7) none) none) none) none) none) none
theorem RX (d:Nat) (now lz lt l kd nm v4 a0 a1 a2 a3 a4 a5 a6 a7):evC (Qy lf) (d+1) σ yh 17 [pI now,.s (.nilp),.s (.sp [[.sl lz lt 2 l]] 0 0),.agg [pI kd,pS nm,p32 v4,p16 a0,p16 a1,p16 a2,p16 a3,p16 a4,p16 a5,p16 a6,p16 a7]] [] s=Uu lf now lz lt l kd nm v4 a0 a1 a2 a3 a4 a5 a6 a7 (λr0 n1 s2 n3 n4 n5 n6 n7 n8v n9 n10 n11=>some (pB r0,[.box [pI n1,pS s2,p32 n3,p16 n4,p16 n5,p16 n6,p16 n7,p16 n8v,p16 n9,p16 n10,p16 n11]],s)):=by
 refine (evE (fn:=Tryz.f17) (by kernel_rfl)).trans ?_
 generalize evC (Qy lf) d=cl
 unfold Uu;kernel_rfl
noncomputable abbrev BU (now:Int) (lz lt:Bool) (l:LL) (kd:Int) (nm:By) (v4 a0 a1 a2 a3 a4 a5 a6 a7:Int):Option (PV × List Blk × Unit):=Uu LF now lz lt l kd nm v4 a0 a1 a2 a3 a4 a5 a6 a7 (λr0 n1 s2 n3 n4 n5 n6 n7 n8v n9 n10 n11=>some (pB r0,[.box [pI n1,pS s2,p32 n3,p16 n4,p16 n5,p16 n6,p16 n7,p16 n8v,p16 n9,p16 n10,p16 n11]],()))
noncomputable def Qz (lf:Nat):Cfg:=B8 lf [17] (A4 []) [(15,Vo)] (A4 [(1,[8]),(0,[0,0,0,4])]) [] (A4 []) (some [8]) [] [] []
noncomputable def Uv {R:Type} (lf:Nat) (now:Int) (tz tt:Bool) (t:LL) (cp kd:Int) (nm:By) (v4 a0 a1 a2 a3 a4 a5 a6 a7:Int) (k0:Bool->Int->By->Int->Int->Int->Int->Int->Int->Int->Int->Int->Option R):Option R:=cond (List.all t F7) (cond (List.all t smE) (cond (A2 t.length) (cond (A2 nm.length) (cond (ltN v4 4294967296) (cond (ok8 a0 a1 a2 a3 a4 a5 a6 a7) (vl ((C5 now (List.map B0 t) List.nil kd (mkH kd nm v4 (n8 a0 a1 a2 a3 a4 a5 a6 a7)))).1 λn'0=>vl (((C5 now (List.map B0 t) List.nil kd (mkH kd nm v4 (n8 a0 a1 a2 a3 a4 a5 a6 a7)))).2).1 λs'1=>k0 (n'0 != 0) kd nm v4 a0 a1 a2 a3 a4 a5 a6 a7) none) none) none) none) none) none
theorem RZ (d:Nat) (now tz tt t cp kd nm v4 a0 a1 a2 a3 a4 a5 a6 a7):evC (Qz lf) (d+1) σ yh 17 [pI now,.s (.sp [[.sl tz tt 3 t,.int .i64 cp]] 0 0),.s (.nilp),.agg [pI kd,pS nm,p32 v4,p16 a0,p16 a1,p16 a2,p16 a3,p16 a4,p16 a5,p16 a6,p16 a7]] [] s=Uv lf now tz tt t cp kd nm v4 a0 a1 a2 a3 a4 a5 a6 a7 (λr0 n1 s2 n3 n4 n5 n6 n7 n8v n9 n10 n11=>some (pB r0,[.box [pI n1,pS s2,p32 n3,p16 n4,p16 n5,p16 n6,p16 n7,p16 n8v,p16 n9,p16 n10,p16 n11]],s)):=by
 refine (evE (fn:=Tryz.f17) (by kernel_rfl)).trans ?_
 generalize evC (Qz lf) d=cl
 unfold Uv;kernel_rfl
noncomputable abbrev BW (now:Int) (tz tt:Bool) (t:LL) (cp kd:Int) (nm:By) (v4 a0 a1 a2 a3 a4 a5 a6 a7:Int):Option (PV × List Blk × Unit):=Uv LF now tz tt t cp kd nm v4 a0 a1 a2 a3 a4 a5 a6 a7 (λr0 n1 s2 n3 n4 n5 n6 n7 n8v n9 n10 n11=>some (pB r0,[.box [pI n1,pS s2,p32 n3,p16 n4,p16 n5,p16 n6,p16 n7,p16 n8v,p16 n9,p16 n10,p16 n11]],()))
noncomputable def Ra (lf:Nat):Cfg:=B8 lf [17] (A4 []) [(15,Vo)] (A4 [(1,[8]),(0,[0,0,0,4])]) [] (A4 []) (some [8]) [] [] []
noncomputable def Uw {R:Type} (lf:Nat) (now kd:Int) (nm:By) (v4 a0 a1 a2 a3 a4 a5 a6 a7:Int) (k0:Bool->Int->By->Int->Int->Int->Int->Int->Int->Int->Int->Int->Option R):Option R:=cond (A2 nm.length) (cond (ltN v4 4294967296) (cond (ok8 a0 a1 a2 a3 a4 a5 a6 a7) (vl ((C5 now List.nil List.nil kd (mkH kd nm v4 (n8 a0 a1 a2 a3 a4 a5 a6 a7)))).1 λn'0=>vl (((C5 now List.nil List.nil kd (mkH kd nm v4 (n8 a0 a1 a2 a3 a4 a5 a6 a7)))).2).1 λs'1=>k0 (n'0 != 0) kd nm v4 a0 a1 a2 a3 a4 a5 a6 a7) none) none) none
theorem SD (d:Nat) (now kd nm v4 a0 a1 a2 a3 a4 a5 a6 a7):evC (Ra lf) (d+1) σ yh 17 [pI now,.s (.nilp),.s (.nilp),.agg [pI kd,pS nm,p32 v4,p16 a0,p16 a1,p16 a2,p16 a3,p16 a4,p16 a5,p16 a6,p16 a7]] [] s=Uw lf now kd nm v4 a0 a1 a2 a3 a4 a5 a6 a7 (λr0 n1 s2 n3 n4 n5 n6 n7 n8v n9 n10 n11=>some (pB r0,[.box [pI n1,pS s2,p32 n3,p16 n4,p16 n5,p16 n6,p16 n7,p16 n8v,p16 n9,p16 n10,p16 n11]],s)):=by
 refine (evE (fn:=Tryz.f17) (by kernel_rfl)).trans ?_
 generalize evC (Ra lf) d=cl
 unfold Uw;kernel_rfl
noncomputable abbrev BX (now kd:Int) (nm:By) (v4 a0 a1 a2 a3 a4 a5 a6 a7:Int):Option (PV × List Blk × Unit):=Uw LF now kd nm v4 a0 a1 a2 a3 a4 a5 a6 a7 (λr0 n1 s2 n3 n4 n5 n6 n7 n8v n9 n10 n11=>some (pB r0,[.box [pI n1,pS s2,p32 n3,p16 n4,p16 n5,p16 n6,p16 n7,p16 n8v,p16 n9,p16 n10,p16 n11]],()))
end
end
section
open Go Go.Op
set_option maxRecDepth 100000
theorem Og {l:List Ent} {i:Nat} (h:i<l.length):okE Dh (D1 l) i 0=true:=by unfold okE;rw [Ik h];simp [h,okS,Ue,SV.has,Dh]
theorem Oi {l:List Q7} {i:Nat} (h:i<l.length):okE Dh (Z9 l) i 0=true:=by unfold okE;rw [Fu h];simp [h,okS,Az1,SV.has,Dh]
theorem W3 {α:Type} (d:α) {l:List α} {i:Nat} (h:i<l.length):l.drop i=l.getD i d::l.drop (i+1):=by
 rw [List.getD_eq_getElem?_getD,List.getElem?_eq_getElem h,Option.getD_some,List.getElem_cons_drop]
theorem CV {R:Type} (z:Bool) (S:List Ent) (k0:List Blk->Option R) (k1:Bool->LL->Option R) (hl:S.length<=1000000000):∀ (r j m:Nat),j+1+r=S.length->r<m->
  Ab LF m ((j+1:Nat):Int) z (D1 S) k0 k1=if GQ (S.drop j) then k0 [.arr z 63 2 (D1 S)] else k1 z (D1 S)
 | 0,j,m,hj,hm=>by
  obtain ⟨m,rfl⟩:∃ q,m=q+1:=⟨m-1,by omega⟩
  rw [Ab,E5 (by rw [D7];omega),W3 noE (by omega),List.drop_of_length_le (i:=j+1) (by omega)]
  rfl
 | r+1,j,m,hj,hm=>by
  obtain ⟨m,rfl⟩:∃ q,m=q+1:=⟨m-1,by omega⟩
  have e1:A1 (((j+1:Nat):Int)-1)=(j:Int):=by rw [A5];omega
  have e2:A1 (((j+1:Nat):Int)+1)=((j+1+1:Nat):Int):=by rw [A5];rfl
  rw [Ab,C6 (by rw [D7];omega),J6 (by omega) (by rw [D7];omega),Int.toNat_natCast,Og (by omega),e1,J6 (by omega) (by rw [D7];omega),Int.toNat_natCast,Og (by omega),Ip (by omega),Ip (by omega),e2]
  simp only [cond_true,vl]
  rw [W3 noE (by omega:j<S.length),W3 noE (by omega:j+1<S.length)]
  unfold GQ
  cases hq:((S.getD (j+1) noE).1==(S.getD j noE).1) with
  | true=>rfl
  | false=>
   rw [cond_false,CV z S k0 k1 hl r (j+1) m (by omega) (by omega),W3 noE (by omega:j+1<S.length),Bool.false_or]
theorem CW {R:Type} {k0:Int->List Blk->Option R} {k1:Bool->LL->List Blk->Option R} (z t:Bool) (l:LL) (h0:l.all D5=true) (h1:l.all smE=true) (h2:A2 l.length=true) (hz:N2 z l=true) :
  (Ew (l.map A6)=0->Af9 LF z t l k0 k1=k1 z (D1 (isE (l.map A6))) [])/\(Ew (l.map A6)≠0->∃ H,Af9 LF z t l k0 k1=k0 (Ew (l.map A6):Nat) H):=by
 have hLF:=E8
 have hl:=N8 h2
 have hr:=Gk h0
 generalize hE:l.map A6=E at hr
 subst hr
 rw [D7] at hl
 have hs:=A16 h1
 have hp:=(Dg hs).length_eq
 unfold Af9 Ew
 rw [Nl] at hE ⊢
 by_cases c1:1000<E.length
 ·rw [C6 (by rw [D7];omega),if_pos c1]
  exact ⟨λh=>(by cases h),λ_=>⟨_,rfl⟩⟩
 ·rw [E5 (by rw [D7];omega),if_neg c1,cond_false,h0,h1,h2]
  simp only [cond_true,Bool.and_self]
  cases c2:QD E with
  | true=>exact ⟨λh=>(by cases h),λ_=>⟨_,rfl⟩⟩
  | false=>
   rw [hz]
   simp only [cond_true,cond_false,Bool.false_eq_true,if_false]
   have key:Ab LF LF 1 z (D1 (R4 E)) (λH=>k0 17 H) (λz l=>k1 z l [])=if Ud (E.map Prod.fst) then k0 17 [.arr z 63 2 (D1 (R4 E))] else k1 z (D1 (R4 E)) []:=by
    rw [<-Ap8 hs]
    by_cases c0:E.length=0
    ·have e0:R4 E=[]:=List.eq_nil_of_length_eq_zero (by omega)
     rw [e0]
     obtain ⟨m,hm⟩:∃ q,LF=q+1:=⟨LF-1,by omega⟩
     have:∀ m,m=LF->Ab LF m 1 z (D1 []) (λH=>k0 17 H) (λz l=>k1 z l [])=k1 z (D1 []) []:=λm' hm'=>by
      obtain ⟨q,rfl⟩:∃ q,m'=q+1:=⟨m'-1,by omega⟩
      rw [Ab];rfl
     exact this LF rfl
    ·exact CV z (R4 E) (λH=>k0 17 H) (λz l=>k1 z l []) (by omega) (E.length-1) 0 LF (by omega) (by omega)
   rw [key]
   cases c3:Ud (E.map Prod.fst) with
   | true=>exact ⟨λh=>(by cases h),λ_=>⟨_,rfl⟩⟩
   | false=>
    rw [Ak9 hs c3]
    exact ⟨λ_=>rfl,λh=>absurd rfl h⟩
theorem Tl {R:Type} (z t:Bool) (T:List Q7) (N:LL) (cp:Int) (k0:Int->LL->Int->By->Bool->Int->Option R) (k1:Bool->Bool->LL->LL->Int->Option R) (hs:(Z9 T).all smE=true) (hl:T.length<=1000000000):∀ (r i m:Nat),i+r=T.length->r<m->
  (TR (if i=0 then none else some (T.getD (i-1) noP).1) (T.drop i)=0->S6 LF m z t (Z9 T) (T.length:Int) (i:Int) N cp k0 k1=k1 z t (Z9 T) N cp)/\
  (TR (if i=0 then none else some (T.getD (i-1) noP).1) (T.drop i)≠0->∃ s b n,S6 LF m z t (Z9 T) (T.length:Int) (i:Int) N cp k0 k1=k0 ((TR (if i=0 then none else some (T.getD (i-1) noP).1) (T.drop i):Nat):Int) N cp s b n)
 | 0,i,m,hi,hm=>by
  obtain ⟨m,rfl⟩:∃ q,m=q+1:=⟨m-1,by omega⟩
  rw [S6,E5 (by omega),List.drop_of_length_le (by omega)]
  exact ⟨λ_=>rfl,λh=>absurd rfl h⟩
 | r+1,i,m,hi,hm=>by
  obtain ⟨m,rfl⟩:∃ q,m=q+1:=⟨m-1,by omega⟩
  have hlt:i<T.length:=by omega
  have ih:=Tl z t T N cp k0 k1 hs hl r (i+1) m (by omega) (by omega)
  rw [if_neg (Nat.succ_ne_zero i),Nat.add_sub_cancel] at ih
  have e2:A1 ((i:Int)+1)=((i+1:Nat):Int):=by rw [A5];rfl
  rw [S6,C6 (by omega),J6 (by omega) (by rw [J8];omega),Int.toNat_natCast,Oh hlt,Iq hlt,TC hlt,TB hlt,e2,W3 noP hlt]
  simp only [cond_true,vl]
  rw [Pf hs hlt,cond_true]
  unfold TR
  cases hv:Ah9 (T.getD i noP).1 (T.getD i noP).2.2 with
  | false=>exact ⟨λh=>(by cases h),λ_=>⟨_,_,_,rfl⟩⟩
  | true=>
   simp only [Bool.not_true,cond_false,if_true]
   by_cases h0:i=0
   ·subst h0
    rw [E5 (by omega),cond_false]
    exact ih
   ·have e1:A1 ((i:Int)-1)=((i-1:Nat):Int):=by rw [A5];omega
    rw [C6 (by omega),e1,J6 (by omega) (by rw [J8];omega),Int.toNat_natCast,Oi (by omega),Iq (by omega),Pf hs (by omega:i-1<T.length),if_neg h0]
    simp only [cond_true]
    have ec:ltI (M3 (T.getD (i-1) noP).1 (T.getD i noP).1) 0=R2 (T.getD (i-1) noP).1 (T.getD i noP).1:=by rw [P9];exact Ii _ _
    rw [ec]
    cases hn:R2 (T.getD (i-1) noP).1 (T.getD i noP).1 with
    | false=>exact ⟨λh=>(by cases h),λ_=>⟨_,_,_,rfl⟩⟩
    | true=>exact ih
theorem Tm {R:Type} {k0:LL->Int->Option R} {k1:Int->LL->Int->By->Bool->Int->Option R} {k2:LL->Int->Bool->LL->Option R} (z t:Bool) (l:LL) (cp:Int) (h0:l.all F7=true) (h1:l.all smE=true) (h2:A2 l.length=true) (hz:N2 z l=true) (hc:(ltI 0 cp&&ltI cp 1001)=true) :
  (Ao cp (l.map B0)=0->Ma LF z t l cp k0 k1 k2=k2 [] cp z l)/\(Ao cp (l.map B0)≠0->(Ao cp (l.map B0)=11/\Ma LF z t l cp k0 k1 k2=k0 [] cp)\/∃ s b n,Ma LF z t l cp k0 k1 k2=k1 (Ao cp (l.map B0):Nat) [] cp s b n):=by
 have hLF:=E8
 have hl:=N8 h2
 have hr:=Vf h0
 generalize hE:l.map B0=T at hr
 subst hr
 rw [J8] at hl
 unfold Ma Ao
 rw [hc,cond_true,J8]
 cases c1:ltI cp (T.length:Nat) with
 | true=>exact ⟨λh=>(by cases h),λ_=>.inl ⟨rfl,rfl⟩⟩
 | false=>
  simp only [cond_false]
  have key:=Tl z t T [] cp (λn l m s b e=>k1 n l m s b e) (λz' t' p l n=>cond (A2 p.length) (cond (N2 z' p) (k2 l n z' p) none) none) h1 hl T.length 0 LF (by omega) (by omega)
  rw [if_pos rfl,List.drop_zero] at key
  refine ⟨λh=>?_,λh=>.inr (key.2 h)⟩
  refine (key.1 h).trans ?_
  rw [h2,hz]
  rfl
theorem ZM (z t:Bool) (l:LL) (h0:l.all D5=true) (h1:l.all smE=true) (h2:A2 l.length=true) (hz:N2 z l=true) {b:Bool} (hb:(Ew (l.map A6)==0)=b) :
  ∃ r H,Ax6 z t l=rv r H/\r.stabQ [0,0] [2] H=cond b (.tup [.s (.sp [[.sl z z 2 (D1 (isE (l.map A6)))]] 0 0),pI 0]) (.tup [.s .nilp,pI (Ew (l.map A6):Nat)]):=by
 unfold Ax6
 cases b with
 | true=>
  refine ⟨_,_,(CW z t l h0 h1 h2 hz).1 (eq_of_beq hb),?_⟩
  have hzz:(z&&(D1 (isE (l.map A6))).isEmpty)=z:=by
   cases z with
   | false=>rfl
   | true=>rw [IO hz rfl];rfl
  show PV.tup [.s (.sp [[.sl (z&&(D1 (isE (l.map A6))).isEmpty) (z&&(D1 (isE (l.map A6))).isEmpty) 2 (D1 (isE (l.map A6)))]] 0 0),pI 0]=_
  rw [hzz];rfl
 | false=>
  obtain ⟨H,e⟩:=(CW z t l h0 h1 h2 hz).2 (by simpa using hb)
  exact ⟨_,_,e,rfl⟩
theorem DE (z t:Bool) (l:LL) (cp:Int) (h0:l.all F7=true) (h1:l.all smE=true) (h2:A2 l.length=true) (hz:N2 z l=true) (hc:(ltI 0 cp&&ltI cp 1001)=true) {b:Bool} (hb:(Ao cp (l.map B0)==0)=b) :
  ∃ r H,NF z t l cp=rv r H/\r.stabQ [0,0] [3,0] H=cond b (.tup [.s (.sp [[.sl z z 3 l,.int .i64 cp]] 0 0),pI 0]) (.tup [.s .nilp,pI (Ao cp (l.map B0):Nat)]):=by
 unfold NF
 cases b with
 | true=>
  refine ⟨_,_,(Tm z t l cp h0 h1 h2 hz hc).1 (eq_of_beq hb),?_⟩
  have hzz:(z&&l.isEmpty)=z:=by
   cases z with
   | false=>rfl
   | true=>rw [IO hz rfl];rfl
  show PV.tup [.s (.sp [[.sl (z&&l.isEmpty) (z&&l.isEmpty) 3 l,.int .i64 cp]] 0 0),pI 0]=_
  rw [hzz];rfl
 | false=>
  rcases (Tm z t l cp h0 h1 h2 hz hc).2 (by simpa using hb) with ⟨e0,e⟩ | ⟨s,b',n,e⟩
  ·rw [e0]
   exact ⟨_,_,e,rfl⟩
  ·exact ⟨_,_,e,rfl⟩
theorem VC {R:Type} {k0:Unit->Option R} {k1:Int->Option R} (n:Int) (h:(ltI 0 n&&ltI n 1001)=true):ZY LF n k0 k1=k1 n:=by
 rw [Bool.and_eq_true,P9,P9,decide_eq_true_eq,decide_eq_true_eq] at h
 unfold ZY
 rw [E5 (by omega),E5 (by omega)]
 rfl
theorem Ar7 {h:List By} {s:By} (H:bsB h s=true):bsI h s<h.length:=by
 unfold bsB at H
 rw [Bool.and_eq_true] at H
 exact Mn.1 H.1
theorem Ax2 (lz lt:Bool) (l:LL) (q:By) (h0:l.all D5=true) (h1:l.all smE=true) (h2:A2 l.length=true) (h3:A2 q.length=true) :
  ∃ r H,ZK lz lt l q=rv r H/\r.stab [0,0] H = .tup [.agg [pS (J2 (l.map A6) q).1.1,pB (J2 (l.map A6) q).1.2],pB (J2 (l.map A6) q).2]:=by
 have hl:=N8 h2
 have hr:=Gk h0
 unfold ZK ZJ
 rw [h0,h1,h2,h3]
 simp only [cond_true,vl]
 generalize hE:l.map A6=E at hr
 subst hr
 rw [D7] at hl ⊢
 unfold J2 Bb6
 cases hb:bsB (E.map Prod.fst) q with
 | false=>exact ⟨_,_,rfl,rfl⟩
 | true=>
  have hlt:bsI (E.map Prod.fst) q<E.length:=by have:=Ar7 hb;rwa [List.length_map] at this
  rw [Bool.not_true,cond_false,J6 (by omega) (by omega),Int.toNat_natCast,Of hlt,Ip hlt,Av8 hlt]
  exact ⟨_,_,rfl,rfl⟩
theorem Ax5 (q:By):∃ r H,Bd7 q=rv r H/\r.stab [0,0] H = .tup [.agg [pS [],pB false],pB false]:=⟨_,_,rfl,rfl⟩
theorem XO {R:Type} {k0:Int->Bool->Option R} (tz tt:Bool) (t:LL) (cp:Int) (q:By) (h0:t.all F7=true) (h1:t.all smE=true) (h2:A2 t.length=true) (h3:A2 q.length=true) :
  Aa9 LF tz tt t cp q k0=k0 ((bsI ((t.map B0).map Prod.fst) q:Nat):Int) (bsB ((t.map B0).map Prod.fst) q):=by
 unfold Aa9
 rw [h0,h1,h2,h3]
 rfl
theorem XP {R:Type} {k0:Unit->Option R} (q:By):A23 LF q k0=k0 ():=rfl
theorem A26 (tz tt:Bool) (t:LL) (cp:Int) (q:By) (h0:t.all F7=true) (h1:t.all smE=true) (h2:A2 t.length=true) (h3:A2 q.length=true) :
  ∃ r H,Ab1 tz tt t cp q=rv r H/\r.stab [0,0] H = .tup [.agg [pS (L6 (t.map B0) q).1.1,pB (L6 (t.map B0) q).1.2.1,pI (L6 (t.map B0) q).1.2.2],pB (L6 (t.map B0) q).2]:=by
 have hl:=N8 h2
 have hr:=Vf h0
 unfold Ab1 Ab0
 rw [h0,h1,h2,h3]
 simp only [cond_true,vl]
 generalize hE:t.map B0=T at hr
 subst hr
 rw [J8] at hl ⊢
 unfold L6 Bb6
 cases hb:bsB (T.map Prod.fst) q with
 | false=>exact ⟨_,_,rfl,rfl⟩
 | true=>
  have hlt:bsI (T.map Prod.fst) q<T.length:=by have:=Ar7 hb;rwa [List.length_map] at this
  rw [Bool.not_true,cond_false,J6 (by omega) (by omega),Int.toNat_natCast,Oh hlt,Iq hlt,TC hlt,TB hlt]
  exact ⟨_,_,rfl,rfl⟩
theorem A29 (q:By):∃ r H,Bk5 q=rv r H/\r.stab [0,0] H = .tup [.agg [pS [],pB false,pI 0],pB false]:=⟨_,_,rfl,rfl⟩
abbrev Bb5 (v:Ub × Bool):PV:=.tup [.agg [pI v.1.1,pS v.1.2.1,pB v.1.2.2],pB v.2]
theorem LY (u:By):L6 [] u=(noP,false):=rfl
theorem LX (u:By):J2 [] u=(noE,false):=rfl
theorem A74 (now:Int) (tz tt:Bool) (t:LL) (cp:Int) (lz lt:Bool) (l:LL) (u:By) (ex:Bool) (h0:t.all F7=true) (h1:t.all smE=true) (h2:A2 t.length=true) (h3:l.all D5=true) (h4:l.all smE=true) (h5:A2 l.length=true) (h6:A2 u.length=true) :
  ∃ r H,As5 now tz tt t cp lz lt l u ex=rv r H/\r.stab [0,0] H=Bb5 (atV now (t.map B0) (l.map A6) u ex):=by
 unfold As5 As4 Um Mr atV MQ
 rw [h0,h1,h2,h3,h4,h5,h6]
 simp only [cond_true,vl,Bool.not_not]
 generalize L6 (t.map B0) u=p
 generalize J2 (l.map A6) u=e
 obtain ⟨⟨ph,pb,pe⟩,pk⟩:=p
 obtain ⟨⟨eh,eb⟩,ek⟩:=e
 cases pk<;>cases (ltI now pe)<;>cases ex<;>cases pb<;>cases ek<;>cases eb<;>exact ⟨_,_,rfl,rfl⟩
theorem A77 (now:Int) (lz lt:Bool) (l:LL) (u:By) (ex:Bool) (h3:l.all D5=true) (h4:l.all smE=true) (h5:A2 l.length=true) (h6:A2 u.length=true) :
  ∃ r H,As6 now lz lt l u ex=rv r H/\r.stab [0,0] H=Bb5 (atV now [] (l.map A6) u ex):=by
 unfold As6 A75 atV MQ
 rw [h3,h4,h5,h6,LY]
 simp only [cond_true,vl]
 generalize J2 (l.map A6) u=e
 obtain ⟨⟨eh,eb⟩,ek⟩:=e
 cases ex<;>cases ek<;>cases eb<;>exact ⟨_,_,rfl,rfl⟩
theorem A80 (now:Int) (tz tt:Bool) (t:LL) (cp:Int) (u:By) (ex:Bool) (h0:t.all F7=true) (h1:t.all smE=true) (h2:A2 t.length=true) (h6:A2 u.length=true) :
  ∃ r H,As8 now tz tt t cp u ex=rv r H/\r.stab [0,0] H=Bb5 (atV now (t.map B0) [] u ex):=by
 unfold As8 As7 Un Ms atV MQ
 rw [h0,h1,h2,h6,LX]
 simp only [cond_true,vl,Bool.not_not]
 generalize L6 (t.map B0) u=p
 obtain ⟨⟨ph,pb,pe⟩,pk⟩:=p
 cases pk<;>cases (ltI now pe)<;>cases ex<;>cases pb<;>exact ⟨_,_,rfl,rfl⟩
theorem A83 (now:Int) (u:By) (ex:Bool) (h6:A2 u.length=true):∃ r H,As9 now u ex=rv r H/\r.stab [0,0] H=Bb5 (atV now [] [] u ex):=by
 unfold As9 A81 atV
 rw [LY,LX]
 exact ⟨_,_,rfl,rfl⟩
theorem Bn {s:By} (h:A2 s.length=true):∀ u∈F9 s,A2 u.length=true:=λu hu=>by
 have:=(Y6 (P5 s) u hu).2
 have:=N8 h
 exact Aa8
theorem TV {R:Type} (z t:Bool) (l:LL) (s:By) (b:Bool) (k0:Bool->Bool->LL->By->Bool->Option R) (k1:Bool->Bool->LL->By->Bool->By->Bool->Option R) (h0:l.all D5=true) (h1:l.all smE=true) (h2:A2 l.length=true):∀ L:List By,(∀ u∈L,A2 u.length=true)->
  Ye LF L z t l s b k0 k1=match L.find? λu=>(J2 (l.map A6) u).2&&(J2 (l.map A6) u).1.2 with
   | some u=>k1 z t l (J2 (l.map A6) u).1.1 (J2 (l.map A6) u).1.2 s b
   | none=>k0 z t l s b
 | [],_=>rfl
 | x::r,hs=>by
  have ih:=TV z t l s b k0 k1 h0 h1 h2 r λu hu=>hs u (by simp [hu])
  rw [TU]
  unfold Rw
  rw [h0,h1,h2,hs x (by simp),List.find?_cons]
  simp only [cond_true,vl]
  rw [ih]
  cases q1:(J2 (l.map A6) x).2 with
  | false=>rfl
  | true=>
   cases q2:(J2 (l.map A6) x).1.2 with
   | false=>rfl
   | true=>show k1 z t l _ true s b=k1 z t l _ (J2 (l.map A6) x).1.2 s b;rw [q2]
abbrev gC3 (v:Ub):PV:=.agg [pI v.1,pS v.2.1,pB v.2.2]
theorem BH {R:Type} (now:Int) (tz tt:Bool) (t:LL) (cp:Int) (lz lt:Bool) (l:LL) (kd:Int) (nm:By) (v4 a0 a1 a2 a3 a4 a5 a6 a7:Int) (n:Int) (s:By) (b:Bool) (k0 k1:_) (h0:t.all F7=true) (h1:t.all smE=true) (h2:A2 t.length=true) (h3:l.all D5=true) (h4:l.all smE=true) (h5:A2 l.length=true):∀ L:List By,(∀ u∈L,A2 u.length=true)->
  Mt (R:=R) LF L now tz tt t cp lz lt l kd nm v4 a0 a1 a2 a3 a4 a5 a6 a7 n s b k0 k1=match L.find? λu=>(atV now (t.map B0) (l.map A6) u false).2 with
   | some u=>k1 now tz tt t cp lz lt l kd nm v4 a0 a1 a2 a3 a4 a5 a6 a7 (atV now (t.map B0) (l.map A6) u false).1.1 (atV now (t.map B0) (l.map A6) u false).1.2.1 (atV now (t.map B0) (l.map A6) u false).1.2.2 n s b
   | none=>k0 now tz tt t cp lz lt l kd nm v4 a0 a1 a2 a3 a4 a5 a6 a7 n s b
 | [],_=>rfl
 | x::r,hs=>by
  have ih:=BH now tz tt t cp lz lt l kd nm v4 a0 a1 a2 a3 a4 a5 a6 a7 n s b k0 k1 h0 h1 h2 h3 h4 h5 r λu hu=>hs u (by simp [hu])
  rw [BG]
  unfold Mu
  rw [h0,h1,h2,h3,h4,h5,hs x (by simp),List.find?_cons]
  simp only [cond_true,vl]
  rw [ih]
  cases q1:(atV now (t.map B0) (l.map A6) x false).2<;>rfl
theorem A87 (now:Int) (tz tt:Bool) (t:LL) (cp:Int) (lz lt:Bool) (l:LL) (kd:Int) (nm:By) (v4 a0 a1 a2 a3 a4 a5 a6 a7:Int) (h0:t.all F7=true) (h1:t.all smE=true) (h2:A2 t.length=true) (h3:l.all D5=true) (h4:l.all smE=true) (h5:A2 l.length=true) (g0:A2 nm.length=true) (g1:ltN v4 4294967296=true) (g2:ok8 a0 a1 a2 a3 a4 a5 a6 a7=true):∃ r H,At4 now tz tt t cp lz lt l kd nm v4 a0 a1 a2 a3 a4 a5 a6 a7=rv r H/\r.stab [] H=gC3 (C5 now (t.map B0) (l.map A6) kd (mkH kd nm v4 (n8 a0 a1 a2 a3 a4 a5 a6 a7))):=by
 unfold At4 At3 Uo C5
 by_cases hk:kd=1
 ·subst hk
  rw [show ((1:Int) != 1)=false from rfl,show ((1:Int)==1)=true from rfl,g0,g1,g2,h0,h1,h2,h3,h4,h5]
  simp only [cond_true,cond_false,vl]
  cases hv:X7 (mkH 1 nm v4 (n8 a0 a1 a2 a3 a4 a5 a6 a7)) with
  | false=>exact ⟨_,_,rfl,rfl⟩
  | true=>
   simp only [Bool.not_true,cond_true,cond_false]
   show ∃ (r:PV) (H:List Blk),_/\r.stab [] H=gC3 (Al now (t.map B0) (l.map A6) nm)
   unfold Al
   cases hg:(atV now (t.map B0) (l.map A6) nm true).2 with
   | true=>exact ⟨_,_,rfl,rfl⟩
   | false=>
    rw [cond_false,BH now tz tt t cp lz lt l 1 nm v4 a0 a1 a2 a3 a4 a5 a6 a7 _ _ _ _ _ h0 h1 h2 h3 h4 h5 _ (Bn g0),if_neg (by simp)]
    cases hf:(F9 nm).find? λu=>(atV now (t.map B0) (l.map A6) u false).2 with
    | none=>exact ⟨_,_,rfl,rfl⟩
    | some u=>exact ⟨_,_,rfl,rfl⟩
 ·rw [show (kd != 1)=true by simpa using hk,show (kd==1)=false by simpa using hk]
  exact ⟨_,_,rfl,rfl⟩
theorem RW (now:Int) (tz tt:Bool) (t:LL) (cp:Int) (lz lt:Bool) (l:LL) (kd:Int) (nm:By) (v4 a0 a1 a2 a3 a4 a5 a6 a7:Int) (h0:t.all F7=true) (h1:t.all smE=true) (h2:A2 t.length=true) (h3:l.all D5=true) (h4:l.all smE=true) (h5:A2 l.length=true) (g0:A2 nm.length=true) (g1:ltN v4 4294967296=true) (g2:ok8 a0 a1 a2 a3 a4 a5 a6 a7=true):∃ r H,BT now tz tt t cp lz lt l kd nm v4 a0 a1 a2 a3 a4 a5 a6 a7=rv r H/\r.stab [] H=pB ((C5 now (t.map B0) (l.map A6) kd (mkH kd nm v4 (n8 a0 a1 a2 a3 a4 a5 a6 a7))).1 != 0):=by
 unfold BT Ut
 rw [h0,h1,h2,h3,h4,h5,g0,g1,g2]
 exact ⟨_,_,rfl,rfl⟩
theorem BK {R:Type} (now:Int) (lz lt:Bool) (l:LL) (kd:Int) (nm:By) (v4 a0 a1 a2 a3 a4 a5 a6 a7:Int) (n:Int) (s:By) (b:Bool) (k0 k1:_) (h3:l.all D5=true) (h4:l.all smE=true) (h5:A2 l.length=true):∀ L:List By,(∀ u∈L,A2 u.length=true)->
  Mv (R:=R) LF L now lz lt l kd nm v4 a0 a1 a2 a3 a4 a5 a6 a7 n s b k0 k1=match L.find? λu=>(atV now [] (l.map A6) u false).2 with
   | some u=>k1 now lz lt l kd nm v4 a0 a1 a2 a3 a4 a5 a6 a7 (atV now [] (l.map A6) u false).1.1 (atV now [] (l.map A6) u false).1.2.1 (atV now [] (l.map A6) u false).1.2.2 n s b
   | none=>k0 now lz lt l kd nm v4 a0 a1 a2 a3 a4 a5 a6 a7 n s b
 | [],_=>rfl
 | x::r,hs=>by
  have ih:=BK now lz lt l kd nm v4 a0 a1 a2 a3 a4 a5 a6 a7 n s b k0 k1 h3 h4 h5 r λu hu=>hs u (by simp [hu])
  rw [BJ]
  unfold Mw
  rw [h3,h4,h5,hs x (by simp),List.find?_cons]
  simp only [cond_true,vl]
  rw [ih]
  cases q1:(atV now [] (l.map A6) x false).2<;>rfl
theorem A90 (now:Int) (lz lt:Bool) (l:LL) (kd:Int) (nm:By) (v4 a0 a1 a2 a3 a4 a5 a6 a7:Int) (h3:l.all D5=true) (h4:l.all smE=true) (h5:A2 l.length=true) (g0:A2 nm.length=true) (g1:ltN v4 4294967296=true) (g2:ok8 a0 a1 a2 a3 a4 a5 a6 a7=true):∃ r H,At6 now lz lt l kd nm v4 a0 a1 a2 a3 a4 a5 a6 a7=rv r H/\r.stab [] H=gC3 (C5 now [] (l.map A6) kd (mkH kd nm v4 (n8 a0 a1 a2 a3 a4 a5 a6 a7))):=by
 unfold At6 At5 Up C5
 by_cases hk:kd=1
 ·subst hk
  rw [show ((1:Int) != 1)=false from rfl,show ((1:Int)==1)=true from rfl,g0,g1,g2,h3,h4,h5]
  simp only [cond_true,cond_false,vl]
  cases hv:X7 (mkH 1 nm v4 (n8 a0 a1 a2 a3 a4 a5 a6 a7)) with
  | false=>exact ⟨_,_,rfl,rfl⟩
  | true=>
   simp only [Bool.not_true,cond_true,cond_false]
   show ∃ (r:PV) (H:List Blk),_/\r.stab [] H=gC3 (Al now [] (l.map A6) nm)
   unfold Al
   cases hg:(atV now [] (l.map A6) nm true).2 with
   | true=>exact ⟨_,_,rfl,rfl⟩
   | false=>
    rw [cond_false,BK now lz lt l 1 nm v4 a0 a1 a2 a3 a4 a5 a6 a7 _ _ _ _ _ h3 h4 h5 _ (Bn g0),if_neg (by simp)]
    cases hf:(F9 nm).find? λu=>(atV now [] (l.map A6) u false).2 with
    | none=>exact ⟨_,_,rfl,rfl⟩
    | some u=>exact ⟨_,_,rfl,rfl⟩
 ·rw [show (kd != 1)=true by simpa using hk,show (kd==1)=false by simpa using hk]
  exact ⟨_,_,rfl,rfl⟩
theorem RY (now:Int) (lz lt:Bool) (l:LL) (kd:Int) (nm:By) (v4 a0 a1 a2 a3 a4 a5 a6 a7:Int) (h3:l.all D5=true) (h4:l.all smE=true) (h5:A2 l.length=true) (g0:A2 nm.length=true) (g1:ltN v4 4294967296=true) (g2:ok8 a0 a1 a2 a3 a4 a5 a6 a7=true):∃ r H,BU now lz lt l kd nm v4 a0 a1 a2 a3 a4 a5 a6 a7=rv r H/\r.stab [] H=pB ((C5 now [] (l.map A6) kd (mkH kd nm v4 (n8 a0 a1 a2 a3 a4 a5 a6 a7))).1 != 0):=by
 unfold BU Uu
 rw [h3,h4,h5,g0,g1,g2]
 exact ⟨_,_,rfl,rfl⟩
theorem BN {R:Type} (now:Int) (tz tt:Bool) (t:LL) (cp:Int) (kd:Int) (nm:By) (v4 a0 a1 a2 a3 a4 a5 a6 a7:Int) (n:Int) (s:By) (b:Bool) (k0 k1:_) (h0:t.all F7=true) (h1:t.all smE=true) (h2:A2 t.length=true):∀ L:List By,(∀ u∈L,A2 u.length=true)->
  Mx (R:=R) LF L now tz tt t cp kd nm v4 a0 a1 a2 a3 a4 a5 a6 a7 n s b k0 k1=match L.find? λu=>(atV now (t.map B0) [] u false).2 with
   | some u=>k1 now tz tt t cp kd nm v4 a0 a1 a2 a3 a4 a5 a6 a7 (atV now (t.map B0) [] u false).1.1 (atV now (t.map B0) [] u false).1.2.1 (atV now (t.map B0) [] u false).1.2.2 n s b
   | none=>k0 now tz tt t cp kd nm v4 a0 a1 a2 a3 a4 a5 a6 a7 n s b
 | [],_=>rfl
 | x::r,hs=>by
  have ih:=BN now tz tt t cp kd nm v4 a0 a1 a2 a3 a4 a5 a6 a7 n s b k0 k1 h0 h1 h2 r λu hu=>hs u (by simp [hu])
  rw [BM]
  unfold My
  rw [h0,h1,h2,hs x (by simp),List.find?_cons]
  simp only [cond_true,vl]
  rw [ih]
  cases q1:(atV now (t.map B0) [] x false).2<;>rfl
theorem A93 (now:Int) (tz tt:Bool) (t:LL) (cp:Int) (kd:Int) (nm:By) (v4 a0 a1 a2 a3 a4 a5 a6 a7:Int) (h0:t.all F7=true) (h1:t.all smE=true) (h2:A2 t.length=true) (g0:A2 nm.length=true) (g1:ltN v4 4294967296=true) (g2:ok8 a0 a1 a2 a3 a4 a5 a6 a7=true):∃ r H,At8 now tz tt t cp kd nm v4 a0 a1 a2 a3 a4 a5 a6 a7=rv r H/\r.stab [] H=gC3 (C5 now (t.map B0) [] kd (mkH kd nm v4 (n8 a0 a1 a2 a3 a4 a5 a6 a7))):=by
 unfold At8 At7 Uq C5
 by_cases hk:kd=1
 ·subst hk
  rw [show ((1:Int) != 1)=false from rfl,show ((1:Int)==1)=true from rfl,g0,g1,g2,h0,h1,h2]
  simp only [cond_true,cond_false,vl]
  cases hv:X7 (mkH 1 nm v4 (n8 a0 a1 a2 a3 a4 a5 a6 a7)) with
  | false=>exact ⟨_,_,rfl,rfl⟩
  | true=>
   simp only [Bool.not_true,cond_true,cond_false]
   show ∃ (r:PV) (H:List Blk),_/\r.stab [] H=gC3 (Al now (t.map B0) [] nm)
   unfold Al
   cases hg:(atV now (t.map B0) [] nm true).2 with
   | true=>exact ⟨_,_,rfl,rfl⟩
   | false=>
    rw [cond_false,BN now tz tt t cp 1 nm v4 a0 a1 a2 a3 a4 a5 a6 a7 _ _ _ _ _ h0 h1 h2 _ (Bn g0),if_neg (by simp)]
    cases hf:(F9 nm).find? λu=>(atV now (t.map B0) [] u false).2 with
    | none=>exact ⟨_,_,rfl,rfl⟩
    | some u=>exact ⟨_,_,rfl,rfl⟩
 ·rw [show (kd != 1)=true by simpa using hk,show (kd==1)=false by simpa using hk]
  exact ⟨_,_,rfl,rfl⟩
theorem SC (now:Int) (tz tt:Bool) (t:LL) (cp:Int) (kd:Int) (nm:By) (v4 a0 a1 a2 a3 a4 a5 a6 a7:Int) (h0:t.all F7=true) (h1:t.all smE=true) (h2:A2 t.length=true) (g0:A2 nm.length=true) (g1:ltN v4 4294967296=true) (g2:ok8 a0 a1 a2 a3 a4 a5 a6 a7=true):∃ r H,BW now tz tt t cp kd nm v4 a0 a1 a2 a3 a4 a5 a6 a7=rv r H/\r.stab [] H=pB ((C5 now (t.map B0) [] kd (mkH kd nm v4 (n8 a0 a1 a2 a3 a4 a5 a6 a7))).1 != 0):=by
 unfold BW Uv
 rw [h0,h1,h2,g0,g1,g2]
 exact ⟨_,_,rfl,rfl⟩
theorem BQ {R:Type} (now:Int) (kd:Int) (nm:By) (v4 a0 a1 a2 a3 a4 a5 a6 a7:Int) (n:Int) (s:By) (b:Bool) (k0 k1:_):∀ L:List By,(∀ u∈L,A2 u.length=true)->
  Mz (R:=R) LF L now kd nm v4 a0 a1 a2 a3 a4 a5 a6 a7 n s b k0 k1=match L.find? λu=>(atV now [] [] u false).2 with
   | some u=>k1 now kd nm v4 a0 a1 a2 a3 a4 a5 a6 a7 (atV now [] [] u false).1.1 (atV now [] [] u false).1.2.1 (atV now [] [] u false).1.2.2 n s b
   | none=>k0 now kd nm v4 a0 a1 a2 a3 a4 a5 a6 a7 n s b
 | [],_=>rfl
 | x::r,hs=>by
  have ih:=BQ now kd nm v4 a0 a1 a2 a3 a4 a5 a6 a7 n s b k0 k1  r λu hu=>hs u (by simp [hu])
  rw [BP]
  unfold Na
  rw [hs x (by simp),List.find?_cons]
  simp only [cond_true,vl]
  rw [ih]
  cases q1:(atV now [] [] x false).2<;>rfl
theorem A96 (now:Int) (kd:Int) (nm:By) (v4 a0 a1 a2 a3 a4 a5 a6 a7:Int) (g0:A2 nm.length=true) (g1:ltN v4 4294967296=true) (g2:ok8 a0 a1 a2 a3 a4 a5 a6 a7=true):∃ r H,Au0 now kd nm v4 a0 a1 a2 a3 a4 a5 a6 a7=rv r H/\r.stab [] H=gC3 (C5 now [] [] kd (mkH kd nm v4 (n8 a0 a1 a2 a3 a4 a5 a6 a7))):=by
 unfold Au0 At9 Ur C5
 by_cases hk:kd=1
 ·subst hk
  rw [show ((1:Int) != 1)=false from rfl,show ((1:Int)==1)=true from rfl,g0,g1,g2]
  simp only [cond_true,cond_false,vl]
  cases hv:X7 (mkH 1 nm v4 (n8 a0 a1 a2 a3 a4 a5 a6 a7)) with
  | false=>exact ⟨_,_,rfl,rfl⟩
  | true=>
   simp only [Bool.not_true,cond_true,cond_false]
   show ∃ (r:PV) (H:List Blk),_/\r.stab [] H=gC3 (Al now [] [] nm)
   unfold Al
   cases hg:(atV now [] [] nm true).2 with
   | true=>exact ⟨_,_,rfl,rfl⟩
   | false=>
    rw [cond_false,BQ now 1 nm v4 a0 a1 a2 a3 a4 a5 a6 a7 _ _ _ _ _  _ (Bn g0),if_neg (by simp)]
    cases hf:(F9 nm).find? λu=>(atV now [] [] u false).2 with
    | none=>exact ⟨_,_,rfl,rfl⟩
    | some u=>exact ⟨_,_,rfl,rfl⟩
 ·rw [show (kd != 1)=true by simpa using hk,show (kd==1)=false by simpa using hk]
  exact ⟨_,_,rfl,rfl⟩
theorem SE (now:Int) (kd:Int) (nm:By) (v4 a0 a1 a2 a3 a4 a5 a6 a7:Int) (g0:A2 nm.length=true) (g1:ltN v4 4294967296=true) (g2:ok8 a0 a1 a2 a3 a4 a5 a6 a7=true):∃ r H,BX now kd nm v4 a0 a1 a2 a3 a4 a5 a6 a7=rv r H/\r.stab [] H=pB ((C5 now [] [] kd (mkH kd nm v4 (n8 a0 a1 a2 a3 a4 a5 a6 a7))).1 != 0):=by
 unfold BX Uw
 rw [g0,g1,g2]
 exact ⟨_,_,rfl,rfl⟩
end
section
open Go Go.Proofs
set_option maxRecDepth 100000
section
variable {σ R : Type} (lf : Nat) (cl : D4) (yh : Yh σ) (s : σ) (k : Out -> St σ -> Option R)
noncomputable def Kf {R:Type} (lf n:Nat) (l_z0 l_t1:Bool) (l2:LL) (name3:By) (i4:Int) (s5:By) (b6:Bool) (k0:By->Bool->Option R):Option R:=match n with | 0=>none | n+1=>cond (ltI i4 (l2.length:Int)) (cond (inR i4 l2.length) (cond (okE ⟨true,true,[.str,.bool]⟩ l2 (Int.toNat i4) 0) (cond (A2 (List.length (gX l2 (Int.toNat i4) 0))) (cond (A2 name3.length) (cond (A99 name3 (Bz0 (gX l2 (Int.toNat i4) 0) (gY l2 (Int.toNat i4) 1))) (cond (inR i4 l2.length) (cond (okE Dh l2 (Int.toNat i4) 0) (cond (ltI (s5.length:Int) (↑(List.length (gX l2 (Int.toNat i4) 0)):Int)) (cond (inR i4 l2.length) (cond (okE ⟨true,true,[.str,.bool]⟩ l2 (Int.toNat i4) 0) (Kf lf n l_z0 l_t1 l2 name3 (A1 (i4+1)) (gX l2 (Int.toNat i4) 0) (gY l2 (Int.toNat i4) 1) k0) none) none) (Kf lf n l_z0 l_t1 l2 name3 (A1 (i4+1)) s5 b6 k0)) none) none) (Kf lf n l_z0 l_t1 l2 name3 (A1 (i4+1)) s5 b6 k0)) none) none) none) none) (k0 s5 b6)
noncomputable def JB {R:Type} (now0:Int) (pins_z1 pins_t2:Bool) (pins3:LL) (i4:Int) (b5:Bool) (n6:Int) (s7:By) (n8v n9 n10 n11 n12 n13 n14 n15 n16 n17:Int) (s18:By) (b19:Bool) (s20:By) (b21:Bool) (k0:Int->Bool->Bool->LL->Int->Int->By->Int->Int->Int->Int->Int->Int->Int->Int->Int->By->Bool->By->Bool->Option R) (k1:Int->Bool->Bool->LL->Int->Bool->Int->By->Int->Int->Int->Int->Int->Int->Int->Int->Int->Int->By->Bool->By->Bool->Option R):Option R:=cond b5 (cond (inR i4 pins3.length) (cond (okE Dh pins3 (Int.toNat i4) 0) (vl (gX pins3 (Int.toNat i4) 0) λs'10=>cond (inR i4 pins3.length) (cond (okE Dh pins3 (Int.toNat i4) 0) (vl (gX pins3 (Int.toNat i4) 0) λs'11=>k0 now0 pins_z1 pins_t2 pins3 i4 n6 s7 n8v n9 n10 n11 n12 n13 n14 n15 n16 s'10 (s'11==s7) s20 b21) none) none) none) none) (k1 now0 pins_z1 pins_t2 pins3 i4 b5 n6 s7 n8v n9 n10 n11 n12 n13 n14 n15 n16 n17 s18 b19 s20 b21)
noncomputable def Hb {R:Type} (lf n:Nat) (now0:Int) (pins_z1 pins_t2:Bool) (pins3:LL) (i4 n5:Int) (s6:By) (n7 n8v n9 n10 n11 n12 n13 n14 n15 n16:Int) (s17:By) (b18:Bool) (s19:By) (b20:Bool) (k0:Int->By->Int->Int->Int->Int->Int->Int->Int->Int->Int->Int->By->Bool->By->Bool->Option R):Option R:=match n with | 0=>none | n+1=>cond (ltI i4 (pins3.length:Int)) (cond (inR i4 pins3.length) (cond (okE ⟨true,true,[.str,.bool,.int .i64]⟩ pins3 (Int.toNat i4) 0) (vl (gX pins3 (Int.toNat i4) 0) λs'7=>vl (gE pins3 (Int.toNat i4) 2) λn'8=>cond (A2 s'7.length) (cond (A2 s6.length) (cond (Bq1 now0 s6 (Bz1 s'7 (gY pins3 (Int.toNat i4) 1) n'8)) (cond (inR i4 pins3.length) (cond (okE Dh pins3 (Int.toNat i4) 0) (vl (gX pins3 (Int.toNat i4) 0) λs'9=>JB now0 pins_z1 pins_t2 pins3 i4 (not (ltI (s'9.length:Int) (s17.length:Int))) n5 s6 n7 n8v n9 n10 n11 n12 n13 n14 n15 n16 s17 b18 s19 b20 (λnow'12 pins_z'13 pins_t'14 pins'15 i'16 n'17 s'18 n'19 n'20 n'21 n'22 n'23 n'24 n'25 n'26 n'27 s'28 b'29 s'30 b'31=>vl (A1 (i'16+1)) λn'54=>Hb lf n now'12 pins_z'13 pins_t'14 pins'15 n'54 n'17 s'18 n'19 n'20 n'21 n'22 n'23 n'24 n'25 n'26 n'27 1 s'28 b'29 s'30 b'31 k0) (λnow'32 pins_z'33 pins_t'34 pins'35 i'36 b'37 n'38 s'39 n'40 n'41 n'42 n'43 n'44 n'45 n'46 n'47 n'48 n'49 s'50 b'51 s'52 b'53=>vl (A1 (i'36+1)) λn'55=>Hb lf n now'32 pins_z'33 pins_t'34 pins'35 n'55 n'38 s'39 n'40 n'41 n'42 n'43 n'44 n'45 n'46 n'47 n'48 n'49 s'50 b'51 s'52 b'53 k0)) none) none) (JB now0 pins_z1 pins_t2 pins3 i4 false n5 s6 n7 n8v n9 n10 n11 n12 n13 n14 n15 n16 s17 b18 s19 b20 (λnow'56 pins_z'57 pins_t'58 pins'59 i'60 n'61 s'62 n'63 n'64 n'65 n'66 n'67 n'68 n'69 n'70 n'71 s'72 b'73 s'74 b'75=>vl (A1 (i'60+1)) λn'98=>Hb lf n now'56 pins_z'57 pins_t'58 pins'59 n'98 n'61 s'62 n'63 n'64 n'65 n'66 n'67 n'68 n'69 n'70 n'71 1 s'72 b'73 s'74 b'75 k0) (λnow'76 pins_z'77 pins_t'78 pins'79 i'80 b'81 n'82 s'83 n'84 n'85 n'86 n'87 n'88 n'89 n'90 n'91 n'92 n'93 s'94 b'95 s'96 b'97=>vl (A1 (i'80+1)) λn'99=>Hb lf n now'76 pins_z'77 pins_t'78 pins'79 n'99 n'82 s'83 n'84 n'85 n'86 n'87 n'88 n'89 n'90 n'91 n'92 n'93 s'94 b'95 s'96 b'97 k0))) none) none) none) none) (k0 n5 s6 n7 n8v n9 n10 n11 n12 n13 n14 n15 n16 s17 b18 s19 b20)
noncomputable abbrev Aq6:Code:=D2 Tryz.f11
noncomputable def Lj (lf:Nat):Cfg:=B8 lf [11] (A4 [(4,[0,3,0])]) [] (A4 [(8,[4]),(5,[0,4]),(7,[4]),(6,[0,4,16]),(4,[0,4,7]),(3,[0,4]),(2,[4]),(1,[0,8]),(0,[0,0])]) [] (A4 [(0,[]),(1,[0,4])]) (some [4]) [] [] []
noncomputable def Gu {R:Type} (lf n:Nat) (l_z0 l_t1:Bool) (l2:LL) (i3:Int) (k0:Unit->Option R) (k1:Unit->Option R):Option R:=match n with | 0=>none | n+1=>cond (ltI i3 (l2.length:Int)) (cond (inR i3 l2.length) (cond (okE Dh l2 (Int.toNat i3) 0) (cond (ltI 300 (↑(List.length (gX l2 (Int.toNat i3) 0)):Int)) (k0 ()) (Gu lf n l_z0 l_t1 l2 (A1 (i3+1)) k0 k1)) none) none) (k1 ())
theorem TL (n l_z0 l_t1 l2 i3):E4 0 ((Lj lf).keep 4) (bd (Lj lf) cl yh (cd [1,1,0,1,0,0] Aq6)) n ⟨gp [(0,.s (.sl l_z0 l_t1 3 l2)),(4,pI i3)] 17,[],s⟩ k =
 Gu lf n l_z0 l_t1 l2 i3 (λ_=>k .ret ⟨gp [(4,pB false)] 18,[],s⟩) (λ_=>k (.exit 0) ⟨gp [] 23,[],s⟩):=by
 induction n generalizing l_z0 l_t1 l2 i3 with
 | zero=>rfl
 | succ n ih=>rw [Gu];simp only [<-ih];kernel_rfl
noncomputable def Bc7 {R:Type} (lf:Nat) (l_z0 l_t1:Bool) (l2:LL) (n3:Int) (k0:Bool->Option R):Option R:=cond (ltI n3 (l2.length:Int)) (k0 false) (Gu lf lf l_z0 l_t1 l2 0 (λ_=>k0 false) (λ_=>k0 true))
theorem Bc8 (d:Nat) (l_z0 l_t1 l2 n3):evC (Lj lf) (d+1) σ yh 11 [.s (.sl l_z0 l_t1 3 l2),pI n3] [] s=Bc7 lf l_z0 l_t1 l2 n3 (λr0=>some (pB r0,[],s)):=by
 refine (evE (fn:=Tryz.f11) (by kernel_rfl)).trans ?_
 generalize evC (Lj lf) d=cl
 unfold Bc7;exact (Eq.trans (by kernel_rfl) (A0 rfl ((TL lf cl yh s (H4 0 (I5 (Lj lf) cl yh (cd [1,1,1] Aq6) (G9 (Lj lf) Tryz.f11))) lf l_z0 l_t1 l2 0).trans (by kernel_rfl))))
noncomputable abbrev Aq5:Code:=D2 Tryz.f12
noncomputable def Li (lf:Nat):Cfg:=B8 lf [12] (A4 [(4,[0,3,0])]) [] (A4 [(8,[4]),(5,[0,4]),(7,[4]),(6,[0,4,16]),(4,[0,4,7]),(3,[0,4]),(2,[4]),(1,[0,8]),(0,[0,0])]) [] (A4 [(0,[]),(1,[0,4])]) (some [4]) [] [] []
noncomputable def Gt {R:Type} (lf n:Nat) (l_z0 l_t1:Bool) (l2:LL) (i3:Int) (k0:Unit->Option R) (k1:Unit->Option R):Option R:=match n with | 0=>none | n+1=>cond (ltI i3 (l2.length:Int)) (cond (inR i3 l2.length) (cond (okE Dh l2 (Int.toNat i3) 0) (cond (ltI 300 (↑(List.length (gX l2 (Int.toNat i3) 0)):Int)) (k0 ()) (Gt lf n l_z0 l_t1 l2 (A1 (i3+1)) k0 k1)) none) none) (k1 ())
theorem TK (n l_z0 l_t1 l2 i3):E4 0 ((Li lf).keep 4) (bd (Li lf) cl yh (cd [1,1,0,1,0,0] Aq5)) n ⟨gp [(0,.s (.sl l_z0 l_t1 2 l2)),(4,pI i3)] 17,[],s⟩ k =
 Gt lf n l_z0 l_t1 l2 i3 (λ_=>k .ret ⟨gp [(4,pB false)] 18,[],s⟩) (λ_=>k (.exit 0) ⟨gp [] 23,[],s⟩):=by
 induction n generalizing l_z0 l_t1 l2 i3 with
 | zero=>rfl
 | succ n ih=>rw [Gt];simp only [<-ih];kernel_rfl
noncomputable def Bc5 {R:Type} (lf:Nat) (l_z0 l_t1:Bool) (l2:LL) (n3:Int) (k0:Bool->Option R):Option R:=cond (ltI n3 (l2.length:Int)) (k0 false) (Gt lf lf l_z0 l_t1 l2 0 (λ_=>k0 false) (λ_=>k0 true))
theorem Bc6 (d:Nat) (l_z0 l_t1 l2 n3):evC (Li lf) (d+1) σ yh 12 [.s (.sl l_z0 l_t1 2 l2),pI n3] [] s=Bc5 lf l_z0 l_t1 l2 n3 (λr0=>some (pB r0,[],s)):=by
 refine (evE (fn:=Tryz.f12) (by kernel_rfl)).trans ?_
 generalize evC (Li lf) d=cl
 unfold Bc5;exact (Eq.trans (by kernel_rfl) (A0 rfl ((TK lf cl yh s (H4 0 (I5 (Li lf) cl yh (cd [1,1,1] Aq5) (G9 (Li lf) Tryz.f12))) lf l_z0 l_t1 l2 0).trans (by kernel_rfl))))
noncomputable def QU (lf:Nat):Cfg:=B8 lf [14] (A4 []) [(38,Wc),(26,PL)] (A4 [(3,[4,0,0]),(2,[7,0,0,0]),(1,[1,5,0]),(0,[0,0])]) [] (A4 []) (some [4,0,0]) [] [] []
noncomputable def Be6 {R:Type} (lf:Nat) (pins_z0 pins_t1:Bool) (pins2:LL) (l_z3 l_t4:Bool) (l5:LL) (k0:Bool->LL->Bool->LL->Option R) (k1:Bool->LL->Bool->Option R) (k2:Bool->LL->Bool->Option R) (k3:Bool->Option R):Option R:=cond (List.all pins2 F7) (cond (List.all pins2 smE) (cond (A2 pins2.length) (cond (N2 pins_z0 pins2) (cond ((ltI 0 1000)&&(ltI 1000 1001)) (cond ((Ao (1000:Int) (List.map B0 pins2))==0) (cond (List.all l5 D5) (cond (List.all l5 smE) (cond (A2 l5.length) (cond (N2 l_z3 l5) (cond ((Ew (List.map A6 l5))==0) (k0 pins_z0 pins2 l_z3 (D1 (isE (List.map A6 l5)))) (vl (↑(Ew (List.map A6 l5)):Int) λn'2=>k1 pins_z0 pins2 (n'2==0))) none) none) none) none) (vl (↑(Ao (1000:Int) (List.map B0 pins2)):Int) λn'3=>cond (List.all l5 D5) (cond (List.all l5 smE) (cond (A2 l5.length) (cond (N2 l_z3 l5) (cond ((Ew (List.map A6 l5))==0) (cond (n'3==0) (k2 l_z3 (D1 (isE (List.map A6 l5))) true) (k2 l_z3 (D1 (isE (List.map A6 l5))) false)) (vl (↑(Ew (List.map A6 l5)):Int) λn'5=>cond (n'3==0) (k3 (n'5==0)) (k3 false))) none) none) none) none)) none) none) none) none) none
theorem Va (d:Nat) (pins_z0 pins_t1 pins2 l_z3 l_t4 l5):evC (QU lf) (d+1) σ yh 14 [.s (.sl pins_z0 pins_t1 3 pins2),.s (.sl l_z3 l_t4 2 l5)] [] s=Be6 lf pins_z0 pins_t1 pins2 l_z3 l_t4 l5 (λr_z0 r1 r_z2 r3=>some (.tup [.s (.sp [[.sl r_z0 r_z0 3 r1,.int .i64 (1000:Int)]] 0 0),.s (.sp [[.sl r_z2 r_z2 2 r3]] 0 0),pB true],[],s)) (λr_z0 r1 r2=>some (.tup [.s (.sp [[.sl r_z0 r_z0 3 r1,.int .i64 (1000:Int)]] 0 0),.s (.nilp),pB r2],[],s)) (λr_z0 r1 r2=>some (.tup [.s (.nilp),.s (.sp [[.sl r_z0 r_z0 2 r1]] 0 0),pB r2],[],s)) (λr0=>some (.tup [.s (.nilp),.s (.nilp),pB r0],[],s)):=by
 refine (evE (fn:=Tryz.f14) (by kernel_rfl)).trans ?_
 generalize evC (QU lf) d=cl
 unfold Be6;kernel_rfl
noncomputable abbrev Ay0 (pins_z0 pins_t1:Bool) (pins2:LL) (l_z3 l_t4:Bool) (l5:LL):Option (PV × List Blk × Unit):=Be6 LF pins_z0 pins_t1 pins2 l_z3 l_t4 l5 (λr_z0 r1 r_z2 r3=>some (.tup [.s (.sp [[.sl r_z0 r_z0 3 r1,.int .i64 (1000:Int)]] 0 0),.s (.sp [[.sl r_z2 r_z2 2 r3]] 0 0),pB true],[],())) (λr_z0 r1 r2=>some (.tup [.s (.sp [[.sl r_z0 r_z0 3 r1,.int .i64 (1000:Int)]] 0 0),.s (.nilp),pB r2],[],())) (λr_z0 r1 r2=>some (.tup [.s (.nilp),.s (.sp [[.sl r_z0 r_z0 2 r1]] 0 0),pB r2],[],())) (λr0=>some (.tup [.s (.nilp),.s (.nilp),pB r0],[],()))
end
section
variable {σ R : Type} (lf : Nat) (cl : D4) (yh : Yh σ) (s : σ) (k : Out -> St σ -> Option R)
noncomputable def HH (lf:Nat):Cfg:=B8 lf [81] (A4 []) [] (A4 [(1,[6]),(0,[3,0,0])]) [] (A4 []) (some [6]) [] [] []
noncomputable def Ax8 {R:Type} (lf:Nat) (s0 sep1:By) (sepSave2:Int) (k0:By->By->Int->Option R):Option R:=k0 s0 sep1 sepSave2
theorem Ax9 (d:Nat) (s0 sep1 sepSave2):evC (HH lf) (d+1) σ yh 81 [pS s0,pS sep1,pI sepSave2] [] s=Ax8 lf s0 sep1 sepSave2 (λs0 s1 n2=>some (.fnr (Fn.func 106) [] [.ptr 1 0 0,.ptr 0 0 0,.ptr 2 0 0],[.box [pS s0],.box [pS s1],.box [pI n2]],s)):=by
 refine (evE (fn:=Tryz.f81) (by kernel_rfl)).trans ?_
 generalize evC (HH lf) d=cl
 unfold Ax8;kernel_rfl
noncomputable def RE (lf:Nat):Cfg:=B8 lf [49] (A4 []) [(81,FF)] (A4 [(1,[4]),(0,[0,0])]) [] (A4 []) (some [4]) [] [] []
noncomputable def Bt0 {R:Type} (lf:Nat) (s0 sep1:By) (k0:By->By->Option R):Option R:=k0 s0 sep1
theorem Bj6 (d:Nat) (s0 sep1):evC (RE lf) (d+1) σ yh 49 [pS s0,pS sep1] [] s=Bt0 lf s0 sep1 (λs0 s1=>some (.fnr (Fn.func 106) [] [.ptr 1 0 0,.ptr 0 0 0,.ptr 2 0 0],[.box [pS s0],.box [pS s1],.box [pI (0:Int)]],s)):=by
 refine (evE (fn:=Tryz.f49) (by kernel_rfl)).trans ?_
 generalize evC (RE lf) d=cl
 unfold Bt0;kernel_rfl
noncomputable abbrev AV:Code:=D2 Tryz.f59
noncomputable def Ie (lf:Nat):Cfg:=B8 lf [59] (A4 []) [(93,Pz),(49,PW),(94,PO)] (A4 [(7,[2]),(6,[2]),(5,[2,13]),(4,[2,0]),(3,[2,9]),(2,[2]),(1,[0,1,7]),(0,[0,1])]) [93,94] (A4 [(0,[2]),(1,[2])]) (some [2]) [] [(106,Uk)] []
noncomputable def Ux {R:Type} (lf:Nat) (x'0:By) (xs:List By) (self:Unit->Option R) (k0:Unit->Option R) (k1:Unit->Option R):Option R:=cond (A2 x'0.length) (cond (not (O7 x'0)) (k1 ()) (self ())) none
noncomputable def Xx {R:Type} (lf:Nat) (L:List By) (k0:Unit->Option R) (k1:Unit->Option R):Option R:=VO (α:=Unit->Option R) (λ_=>k0 ()) (λx'0 xs self _=>Ux lf x'0 xs self  k0 k1) L ()
theorem MF {R:Type} (lf:Nat) (x'0:By) (xs:List By) (k0:Unit->Option R) (k1:Unit->Option R):Xx lf (x'0::xs)  k0 k1=Ux lf x'0 xs (λ_=>Xx lf xs  k0 k1)  k0 k1:=rfl
theorem Ae3 (L:List By):N4 #[13] (gp [(2,.ptr 0 0 0),(9,.fnr (Fn.func 106) [] [.bad,.bad,.bad])] 4) (bd (Ie lf) cl yh (cd [1,1,0,1,0,0] AV)) (bd (Ie lf) cl yh (cd [1,1,0,1,0,1] AV)) (L.map (λ(x'0:By)=>([pS x'0]:List PV))) [.box [pB false],.dead,.dead,.dead] s (rgK (gp [(2,.ptr 0 0 0),(9,.fnr (Fn.func 106) [] [.bad,.bad,.bad])] 4) (λH=>O5 H [2,1,3] [.box [.bad],.box [.bad],.box [.bad]]) k) =
 Xx lf L  (λ_=>k .normal ⟨gp [(2,.ptr 0 0 0),(9,.fnr (Fn.func 106) [] [.bad,.bad,.bad])] 4,[.box [pB false],.box [.bad],.box [.bad],.box [.bad]],s⟩) (λ_=>k .ret ⟨gp [(2,.ptr 0 0 0),(9,.fnr (Fn.func 106) [] [.bad,.bad,.bad])] 4,[.box [pB false],.box [.bad],.box [.bad],.box [.bad]],s⟩):=by
 induction L with
 | nil=>rfl
 | cons x'0 xs ih=>rw [MF];unfold Ux;exact (Eq.trans (by kernel_rfl) (A0 (A0 rfl ih) rfl))
noncomputable def ID {R:Type} (lf:Nat) (s0:By) (k0:Unit->Option R) (k1:Unit->Option R):Option R:=cond ((A2 s0.length)&&((1==1)&&((0:Int)==0))) (Xx lf (pcs (List.getD ([46]:List UInt8) 0 0) s0)  k0 k1) none
abbrev ME (b:Code):Prop:=∀ (k:Out->St σ->Option R) s0,B2 (Ie lf) cl yh b ⟨gp [(2,.ptr 0 0 0),(9,.fnr (Fn.func 106) [] [.ptr 2 0 0,.ptr 1 0 0,.ptr 3 0 0])] 4,[.box [pB false],.box [pS s0],.box [pS ([46]:List UInt8)],.box [pI (0:Int)]],s⟩ k=ID lf s0 (λ_=>k .normal ⟨gp [(2,.ptr 0 0 0),(9,.fnr (Fn.func 106) [] [.bad,.bad,.bad])] 4,[.box [pB false],.box [.bad],.box [.bad],.box [.bad]],s⟩) (λ_=>k .ret ⟨gp [(2,.ptr 0 0 0),(9,.fnr (Fn.func 106) [] [.bad,.bad,.bad])] 4,[.box [pB false],.box [.bad],.box [.bad],.box [.bad]],s⟩)
theorem Ae2:ME (R:=R) lf cl yh s (cd [1,1,0,1,0] AV):=by
 intro k s0;unfold ID;exact ((LN [1,1,0,1,0] (by kernel_rfl)).trans (by kernel_rfl)).trans (Cw (Ae3 lf cl yh s k (pcs (List.getD ([46]:List UInt8) 0 0) s0) ))
noncomputable def hvn {R:Type} (lf:Nat) (name0:By) (k0:Unit->Option R) (k1:Bool->Bool->Option R):Option R:=cond (ltI 253 (name0.length:Int)) (k0 ()) (cond (A2 name0.length) (cond (N5 name0) (k0 ()) (ID lf name0 (λ_=>k1 true true) (λ_=>k1 false false))) none)
theorem Br0 (b_11010:Code) (h_hvn_e1:ME (R:=PV × List Blk × σ) lf cl yh s b_11010) (name0:By):B2 (Ie lf) cl yh (cd [] (S7 [1,1,0,1,0] b_11010 AV)) ⟨[pS name0]++tps 16,[],s⟩ (G9 (Ie lf) Tryz.f59)=hvn lf name0 (λ_=>some (pB false,[.box [pB false]],s)) (λr0 b1=>some (pB r0,[.box [pB b1],.box [.bad],.box [.bad],.box [.bad]],s)):=by
 unfold hvn;exact (Eq.trans (by kernel_rfl) (A0 rfl (A0 (A0 rfl ((h_hvn_e1 (H4 0 (I5 (Ie lf) cl yh (cd [1,1,1] AV) (G9 (Ie lf) Tryz.f59))) name0).trans (by kernel_rfl))) rfl)))
theorem Br1 (d:Nat) (name0):evC (Ie lf) (d+1) σ yh 59 [pS name0] [] s=hvn lf name0 (λ_=>some (pB false,[.box [pB false]],s)) (λr0 b1=>some (pB r0,[.box [pB b1],.box [.bad],.box [.bad],.box [.bad]],s)):=
 (evE (fn:=Tryz.f59) (by kernel_rfl)).trans (Eq.trans (by kernel_rfl) (Br0 lf (evC (Ie lf) d) yh s (cd [1,1,0,1,0] AV) (Ae2 lf (evC (Ie lf) d) yh s) name0))
noncomputable def QO (lf:Nat):Cfg:=B8 lf [41] (A4 []) [] (A4 [(1,[2]),(0,[1])]) [] (A4 []) (some [2]) [] [] []
noncomputable def Bq9 {R:Type} (lf:Nat) (name0:By) (k0:By->Option R):Option R:=k0 name0
theorem Bc1 (d:Nat) (name0):evC (QO lf) (d+1) σ yh 41 [pS name0] [] s=Bq9 lf name0 (λs0=>some (.fnr (Fn.func 76) [] [.ptr 0 0 0],[.box [pS s0]],s)):=by
 refine (evE (fn:=Tryz.f41) (by kernel_rfl)).trans ?_
 generalize evC (QO lf) d=cl
 unfold Bq9;kernel_rfl
noncomputable abbrev Mm:Code:=D2 Tryz.f106
noncomputable def T8 (lf:Nat):Cfg:=B8 lf [106] (A4 [(5,[0,0,0,0]),(1,[0,1])]) [(107,Mj),(108,GG)] (A4 [(10,[]),(9,[0,0,0,0]),(8,[0,0,0,0,3,34]),(7,[0,0,0,0,3,0]),(6,[0,0,0,0,3,25]),(5,[0,0,0,0,3]),(4,[0,1]),(3,[0,1,3,18]),(2,[0,1,3]),(1,[0,1,11]),(0,[0,0,0,0,7])]) [108] (A4 [(2,[0,1]),(3,[0,0,0,0]),(0,[]),(1,[0,1])]) (some []) [] [] []
noncomputable def Zm {σ R:Type} (yh:Yh σ) (lf n:Nat) (s0 s1:By) (n2:Int) (s:σ) (k0:By->By->Int->σ->Option R):Option R:=match n with | 0=>none | n+1=>cond (ltI 0 (s1.length:Int)) none (k0 s0 s1 n2 s)
theorem OF (n:Nat) (s0 s1:By) (n2:Int) (s:σ):E4 3 ((T8 lf).keep 1) (bd (T8 lf) cl yh (cd [0,1,0,0,0,0] Mm)) n ⟨gp [(0,.yd),(1,.ptr 1 0 0)] 49,[.box [pS s0],.box [pS s1],.box [pI n2]],s⟩ k =
 Zm yh lf n s0 s1 n2 s (λs0 s1 n2 s=>k (.exit 0) ⟨gp [] 52,[.box [pS s0],.box [pS s1],.box [pI n2]],s⟩):=by
 induction n generalizing s0 s1 n2 s with
 | zero=>rfl
 | succ n ih=>rw [Zm];kernel_rfl
noncomputable def N6 {σ R:Type} (yh:Yh σ) (lf n:Nat) (s0 s1:By) (n2:Int) (s:σ) (k0:By->By->Int->σ->Option R) (k1:By->By->Int->σ->Option R):Option R:=match n with
 | 0=>none
 | n+1=>
  cond (A2 s1.length)
   (cond (ltI (Lib.index s1 s0) (0:Int))
   (k0 s0 s1 n2 s)
   (vl (A1 ((Lib.index s1 s0)+n2)) λn'5=>
    cond (O6 0 n'5 s1.length)
    (ydK (yh [pS (cut s1 0 n'5)] s) λby'6 s'y6=>
     (cond (not by'6)
     (k1 s0 s1 n2 s'y6)
     (vl (A1 ((Lib.index s1 s0)+(s0.length:Int))) λn'7=>
      cond (O6 n'7 (s1.length:Int) s1.length)
      (vl (cut s1 n'7 (s1.length:Int)) λs'8=>
       N6 yh lf n s0 s'8 n2 s'y6 k0 k1)
      none)))
    none))
   none
theorem OG (n:Nat) (s0 s1:By) (n2:Int) (s:σ):E4 3 ((T8 lf).keep 5) (bd (T8 lf) cl yh (cd [1,0,0,0] Mm)) n ⟨gp [(0,.yd),(0,.ptr 0 0 0),(0,.ptr 1 0 0),(0,.ptr 2 0 0)] 48,[.box [pS s0],.box [pS s1],.box [pI n2]],s⟩ k =
 N6 yh lf n s0 s1 n2 s (λs0 s1 n2 s=>k (.exit 2) ⟨gp [(0,.yd),(1,.ptr 1 0 0)] 49,[.box [pS s0],.box [pS s1],.box [pI n2]],s⟩) (λs0 s1 n2 s=>k .ret ⟨gp [] 52,[.box [pS s0],.box [pS s1],.box [pI n2]],s⟩):=by
 induction n generalizing s0 s1 n2 s with
 | zero=>rfl
 | succ n ih=>rw [N6];simp only [<-ih];kernel_rfl
noncomputable def OE {σ R:Type} (yh:Yh σ) (lf:Nat) (p t:By) (n:Int) (s:σ) (k0:By->By->Int->σ->Option R):Option R:=
 cond ((p.length:Int)==0)
 (Zm yh lf lf p t n s (λs'0 s'1 n'2 s'3=>k0 s'0 s'1 n'2 s'3))
 (N6 yh lf lf p t n s (λs'9 s'10 n'11 s'12=>ydK (yh [pS s'10] s'12) λby'17 s'y17=>
  (k0 s'9 s'10 n'11 s'y17)) (λs'13 s'14 n'15 s'16=>k0 s'13 s'14 n'15 s'16))
theorem A17 (d:Nat) (p t n s):evC (T8 lf) (d+1) σ yh 106 [.yd,.ptr 0 0 0,.ptr 1 0 0,.ptr 2 0 0] [.box [pS p],.box [pS t],.box [pI n]] s=OE yh lf p t n s (λs0 s1 n2 s=>some (.tup [],[.box [pS s0],.box [pS s1],.box [pI n2]],s)):=by
 refine (evE (fn:=Tryz.f106) (by kernel_rfl)).trans ?_
 generalize evC (T8 lf) d=cl
 unfold OE;exact (Eq.trans (by kernel_rfl) (A0 ((OF lf cl yh (H4 0 (I5 (T8 lf) cl yh (cd [0,1,0,1] Mm) (I5 (T8 lf) cl yh (cd [1] Mm) (G9 (T8 lf) Tryz.f106)))) lf p t n s).trans (by kernel_rfl)) ((OG lf cl yh (H4 2 (I5 (T8 lf) cl yh (cd [1,1] Mm) (G9 (T8 lf) Tryz.f106))) lf p t n s).trans (by kernel_rfl))))
noncomputable abbrev A71:Code:=D2 Tryz.f76
noncomputable def Jo (lf:Nat):Cfg:=B8 lf [76] (A4 [(1,[0,0])]) [(59,AP),(50,PU)] (A4 [(3,[0,0]),(2,[0,0,2,17]),(1,[0,0,2,0]),(0,[0,0,6])]) [59,50] (A4 [(0,[]),(1,[0,0])]) (some []) [] [] []
noncomputable def W5 {σ R:Type} (yh:Yh σ) (lf n:Nat) (s0:By) (s:σ) (k0:By->σ->Option R):Option R:=match n with
 | 0=>none
 | n+1=>
  cond (A2 s0.length)
   (vl ((Lib.cut s0 ([46]:List UInt8))).1 λs'2=>
   vl (((Lib.cut s0 ([46]:List UInt8))).2).1 λs'3=>
    cond (not (((Lib.cut s0 ([46]:List UInt8))).2).2)
    (k0 s0 s)
    (ydK (yh [pS s'3] s) λby'4 s'y4=>
     (cond (not by'4)
     (k0 s0 s'y4)
     (W5 yh lf n s'3 s'y4 k0))))
   none
theorem MD (n:Nat) (s0:By) (s:σ):E4 1 ((Jo lf).keep 1) (bd (Jo lf) cl yh (cd [1,0,0] A71)) n ⟨gp [(0,.yd),(0,.ptr 0 0 0)] 22,[.box [pS s0]],s⟩ k =
 W5 yh lf n s0 s (λs0 s=>k .ret ⟨gp [] 24,[.box [pS s0]],s⟩):=by
 induction n generalizing s0 s with
 | zero=>rfl
 | succ n ih=>rw [W5];simp only [<-ih];kernel_rfl
noncomputable def MC {σ R:Type} (yh:Yh σ) (lf:Nat) (t:By) (s:σ) (k0:By->σ->Option R):Option R:=cond (A2 t.length) (cond (not (D3 t)) (k0 t s) (W5 yh lf lf t s (λs'5 s'6=>k0 s'5 s'6))) none
theorem Aw1 (d:Nat) (t s):evC (Jo lf) (d+1) σ yh 76 [.yd,.ptr 0 0 0] [.box [pS t]] s=MC yh lf t s (λs0 s=>some (.tup [],[.box [pS s0]],s)):=by
 refine (evE (fn:=Tryz.f76) (by kernel_rfl)).trans ?_
 generalize evC (Jo lf) d=cl
 unfold MC;exact (Eq.trans (by kernel_rfl) (A0 (A0 rfl ((MD lf cl yh (H4 0 (G9 (Jo lf) Tryz.f76)) lf t s).trans (by kernel_rfl))) rfl))
end
end
end Go.Proofs.YtelhbgonncceeaaGreatDoor.E
namespace Go.Proofs
open Go.Shelf
def Tryz.lays143_ren:Go.Shelf.Ren:=⟨fun | 143=>108 | 219=>109 | 217=>150 | 225=>151 | 224=>152 | 267=>153 | 266=>177 | 314=>178 | n=>n,fun | 9=>9 | 3=>3 | 4=>4 | 5=>5 | 46=>139 | 146=>192 | 51=>24 | n=>n,fun | 1=>0 | n=>n⟩
theorem Tryz.lays143:Go.Proofs.Lays.n143 Tryz.prog Tryz.lays143_ren:={
 mixed:=by kernel_rfl
 f143:=Tryz.func108.trans (congrArg some (by kernel_rfl))
 f217:=Tryz.func150.trans (congrArg some (by kernel_rfl))
 f219:=Tryz.func109.trans (congrArg some (by kernel_rfl))
 f224:=Tryz.func152.trans (congrArg some (by kernel_rfl))
 f225:=Tryz.func151.trans (congrArg some (by kernel_rfl))
 f266:=Tryz.func177.trans (congrArg some (by kernel_rfl))
 f267:=Tryz.func153.trans (congrArg some (by kernel_rfl))
 f314:=Tryz.func178.trans (congrArg some (by kernel_rfl))
 t3:=Tryz.underlying3
 a3:=Tryz.isAgg3
 z3:=Tryz.sizeOf3
 v3:=Tryz.zeroValue3
 t4:=Tryz.underlying4
 a4:=Tryz.isAgg4
 z4:=Tryz.sizeOf4
 v4:=Tryz.zeroValue4
 t5:=Tryz.underlying5
 a5:=Tryz.isAgg5
 z5:=Tryz.sizeOf5
 v5:=Tryz.zeroValue5
 t9:=Tryz.underlying9
 a9:=Tryz.isAgg9
 z9:=Tryz.sizeOf9
 v9:=Tryz.zeroValue9
 t46:=Tryz.underlying139
 a46:=Tryz.isAgg139
 z46:=Tryz.sizeOf139
 v46:=Tryz.zeroValue139
 t51:=Tryz.underlying24
 a51:=Tryz.isAgg24
 z51:=Tryz.sizeOf24
 v51:=Tryz.zeroValue24
 t146:=Tryz.underlying192
 a146:=Tryz.isAgg192
 z146:=Tryz.sizeOf192
 v146:=Tryz.zeroValue192
 g1:=by kernel_rfl }
def Tryz.lays145_ren:Go.Shelf.Ren:=⟨fun | 145=>50 | 220=>82 | 219=>109 | 217=>150 | 225=>151 | 224=>152 | 267=>153 | 266=>177 | 314=>178 | n=>n,fun | 9=>9 | 4=>4 | 59=>91 | 3=>3 | 5=>5 | 46=>139 | 146=>192 | 51=>24 | n=>n,fun | 1=>0 | n=>n⟩
theorem Tryz.lays145:Go.Proofs.Lays.n145 Tryz.prog Tryz.lays145_ren:={
 mixed:=by kernel_rfl
 f145:=Tryz.func50.trans (congrArg some (by kernel_rfl))
 f217:=Tryz.func150.trans (congrArg some (by kernel_rfl))
 f219:=Tryz.func109.trans (congrArg some (by kernel_rfl))
 f220:=Tryz.func82.trans (congrArg some (by kernel_rfl))
 f224:=Tryz.func152.trans (congrArg some (by kernel_rfl))
 f225:=Tryz.func151.trans (congrArg some (by kernel_rfl))
 f266:=Tryz.func177.trans (congrArg some (by kernel_rfl))
 f267:=Tryz.func153.trans (congrArg some (by kernel_rfl))
 f314:=Tryz.func178.trans (congrArg some (by kernel_rfl))
 t3:=Tryz.underlying3
 a3:=Tryz.isAgg3
 z3:=Tryz.sizeOf3
 v3:=Tryz.zeroValue3
 t4:=Tryz.underlying4
 a4:=Tryz.isAgg4
 z4:=Tryz.sizeOf4
 v4:=Tryz.zeroValue4
 t5:=Tryz.underlying5
 a5:=Tryz.isAgg5
 z5:=Tryz.sizeOf5
 v5:=Tryz.zeroValue5
 t9:=Tryz.underlying9
 a9:=Tryz.isAgg9
 z9:=Tryz.sizeOf9
 v9:=Tryz.zeroValue9
 t46:=Tryz.underlying139
 a46:=Tryz.isAgg139
 z46:=Tryz.sizeOf139
 v46:=Tryz.zeroValue139
 t51:=Tryz.underlying24
 a51:=Tryz.isAgg24
 z51:=Tryz.sizeOf24
 v51:=Tryz.zeroValue24
 t59:=Tryz.underlying91
 a59:=Tryz.isAgg91
 z59:=Tryz.sizeOf91
 v59:=Tryz.zeroValue91
 t146:=Tryz.underlying192
 a146:=Tryz.isAgg192
 z146:=Tryz.sizeOf192
 v146:=Tryz.zeroValue192
 g1:=by kernel_rfl }
def Tryz.lays138_ren:Go.Shelf.Ren:=⟨fun | 138=>182 | 195=>160 | 218=>193 | 143=>108 | 219=>109 | 217=>150 | 225=>151 | 224=>152 | 267=>153 | 266=>177 | 314=>178 | n=>n,fun | 9=>9 | 3=>3 | 4=>4 | 5=>5 | 0=>0 | 46=>139 | 146=>192 | 51=>24 | n=>n,fun | 1=>0 | n=>n⟩
theorem Tryz.lays138:Go.Proofs.Lays.n138 Tryz.prog Tryz.lays138_ren:={
 mixed:=by kernel_rfl
 f138:=Tryz.func182.trans (congrArg some (by kernel_rfl))
 f143:=Tryz.func108.trans (congrArg some (by kernel_rfl))
 f195:=Tryz.func160.trans (congrArg some (by kernel_rfl))
 f217:=Tryz.func150.trans (congrArg some (by kernel_rfl))
 f218:=Tryz.func193.trans (congrArg some (by kernel_rfl))
 f219:=Tryz.func109.trans (congrArg some (by kernel_rfl))
 f224:=Tryz.func152.trans (congrArg some (by kernel_rfl))
 f225:=Tryz.func151.trans (congrArg some (by kernel_rfl))
 f266:=Tryz.func177.trans (congrArg some (by kernel_rfl))
 f267:=Tryz.func153.trans (congrArg some (by kernel_rfl))
 f314:=Tryz.func178.trans (congrArg some (by kernel_rfl))
 t0:=Tryz.underlying0
 a0:=Tryz.isAgg0
 z0:=Tryz.sizeOf0
 v0:=Tryz.zeroValue0
 t3:=Tryz.underlying3
 a3:=Tryz.isAgg3
 z3:=Tryz.sizeOf3
 v3:=Tryz.zeroValue3
 t4:=Tryz.underlying4
 a4:=Tryz.isAgg4
 z4:=Tryz.sizeOf4
 v4:=Tryz.zeroValue4
 t5:=Tryz.underlying5
 a5:=Tryz.isAgg5
 z5:=Tryz.sizeOf5
 v5:=Tryz.zeroValue5
 t9:=Tryz.underlying9
 a9:=Tryz.isAgg9
 z9:=Tryz.sizeOf9
 v9:=Tryz.zeroValue9
 t46:=Tryz.underlying139
 a46:=Tryz.isAgg139
 z46:=Tryz.sizeOf139
 v46:=Tryz.zeroValue139
 t51:=Tryz.underlying24
 a51:=Tryz.isAgg24
 z51:=Tryz.sizeOf24
 v51:=Tryz.zeroValue24
 t146:=Tryz.underlying192
 a146:=Tryz.isAgg192
 z146:=Tryz.sizeOf192
 v146:=Tryz.zeroValue192
 g1:=by kernel_rfl }
def Tryz.lays2_21_ren:Go.Shelf.Ren:=⟨fun | 21=>199 | 27=>203 | 28=>204 | 35=>206 | 39=>208 | n=>n,fun | 22=>153 | 3=>3 | 4=>4 | 0=>0 | n=>n,fun | n=>n⟩
theorem Tryz.lays2_21:Go.Proofs.Lays2.n21 Tryz.prog Tryz.lays2_21_ren:={
 mixed:=by kernel_rfl
 f21:=Tryz.func199.trans (congrArg some (by kernel_rfl))
 f27:=Tryz.func203.trans (congrArg some (by kernel_rfl))
 f28:=Tryz.func204.trans (congrArg some (by kernel_rfl))
 f35:=Tryz.func206.trans (congrArg some (by kernel_rfl))
 f39:=Tryz.func208.trans (congrArg some (by kernel_rfl))
 t0:=Tryz.underlying0
 a0:=Tryz.isAgg0
 z0:=Tryz.sizeOf0
 v0:=Tryz.zeroValue0
 t3:=Tryz.underlying3
 a3:=Tryz.isAgg3
 z3:=Tryz.sizeOf3
 v3:=Tryz.zeroValue3
 t4:=Tryz.underlying4
 a4:=Tryz.isAgg4
 z4:=Tryz.sizeOf4
 v4:=Tryz.zeroValue4
 t22:=Tryz.underlying153
 a22:=Tryz.isAgg153
 z22:=Tryz.sizeOf153
 v22:=Tryz.zeroValue153
 i3:=by kernel_rfl }
def Tryz.lays149_ren:Go.Shelf.Ren:=⟨fun | 149=>97 | 222=>142 | n=>n,fun | 9=>9 | 5=>5 | 3=>3 | 4=>4 | n=>n,fun | n=>n⟩
theorem Tryz.lays149:Go.Proofs.Lays.n149 Tryz.prog Tryz.lays149_ren:={
 mixed:=by kernel_rfl
 f149:=Tryz.func97.trans (congrArg some (by kernel_rfl))
 f222:=Tryz.func142.trans (congrArg some (by kernel_rfl))
 t3:=Tryz.underlying3
 a3:=Tryz.isAgg3
 z3:=Tryz.sizeOf3
 v3:=Tryz.zeroValue3
 t4:=Tryz.underlying4
 a4:=Tryz.isAgg4
 z4:=Tryz.sizeOf4
 v4:=Tryz.zeroValue4
 t5:=Tryz.underlying5
 a5:=Tryz.isAgg5
 z5:=Tryz.sizeOf5
 v5:=Tryz.zeroValue5
 t9:=Tryz.underlying9
 a9:=Tryz.isAgg9
 z9:=Tryz.sizeOf9
 v9:=Tryz.zeroValue9 }
end Go.Proofs
namespace Go.Proofs.YtelhbgonncceeaaGreatDoor.E
set_option linter.all false
section
open Go Go.Proofs Go.Sort
set_option maxRecDepth 100000
theorem Av9 {C:Cfg} {St:Nat->Prop} {w:World} (hG:GOK C St w) (hc:C.G=GX):∃ m,w.cell? ⟨0,0,none⟩=some (.int .i64 m):=(hG.2 _ (by rw [hc];rfl)).2
theorem A55:B1 Tryz.prog GX 108 GG:=by
 refine B1.fix (pf:=GH) _ (Dl (fn:=Tryz.f108) (by kernel_rfl) (by kernel_rfl) (by kernel_rfl) ?_)
 intro args ret Hc h
 unfold GH at h
 split at h
 ·rename_i s p
  obtain ⟨h0,h⟩:=B4 h
  obtain ⟨rfl,rfl⟩:=H3 h
  refine ⟨rfl,rfl,λC hP hCG Γ w Vs hG hlt hc=>?_⟩
  obtain ⟨U,V,rfl,hu,hv⟩:=hc.arr2
  obtain ⟨s',rfl,rfl⟩:=hu.inv_str
  obtain ⟨p',rfl,rfl⟩:=hv.inv_str
  obtain ⟨m,hm⟩:=Av9 hG hCG
  have hs:=N8 h0
  refine (Any.strings_Index Tryz.lays143 s' p' m w (by simp at hs;omega) hm).mono ?_
  rintro e w' ⟨rfl,rfl⟩
  exact ⟨_,rfl,RowKit.Below.refl _ _,VP.mk_int _ _⟩
 ·cases h
theorem Bx0:B1 Tryz.prog GX 50 PU:=by
 refine B1.fix (pf:=GD) _ (Dl (fn:=Tryz.f50) (by kernel_rfl) (by kernel_rfl) (by kernel_rfl) ?_)
 intro args ret Hc h
 unfold GD at h
 split at h
 ·rename_i s p
  obtain ⟨h0,h⟩:=B4 h
  obtain ⟨rfl,rfl⟩:=H3 h
  refine ⟨rfl,rfl,λC hP hCG Γ w Vs hG hlt hc=>?_⟩
  obtain ⟨U,V,rfl,hu,hv⟩:=hc.arr2
  obtain ⟨s',rfl,rfl⟩:=hu.inv_str
  obtain ⟨p',rfl,rfl⟩:=hv.inv_str
  obtain ⟨m,hm⟩:=Av9 hG hCG
  have hs:=N8 h0
  refine (Any.strings_Cut Tryz.lays145 s' p' m w (by simp at hs;omega) hm).mono ?_
  rintro e w' ⟨rfl,n,rfl⟩
  exact ⟨_,rfl,KT _ _,VP.mk_tup3 (VP.mk_str _) (VP.mk_str _) (VP.mk_bool _)⟩
 ·cases h
theorem Bw9:B1 Tryz.prog GX 182 Ap6:=by
 refine B1.fix (pf:=GC) _ (Dl (fn:=Tryz.f182) (by kernel_rfl) (by kernel_rfl) (by kernel_rfl) ?_)
 intro args ret Hc h
 unfold GC at h
 split at h
 ·rename_i s p
  obtain ⟨h0,h⟩:=B4 h
  obtain ⟨rfl,rfl⟩:=H3 h
  refine ⟨rfl,rfl,λC hP hCG Γ w Vs hG hlt hc=>?_⟩
  obtain ⟨U,V,rfl,hu,hv⟩:=hc.arr2
  obtain ⟨s',rfl,rfl⟩:=hu.inv_str
  obtain ⟨p',rfl,hp⟩:=hv.inv_str
  obtain ⟨c,rfl⟩:∃ c,p=[c]:=by
   match p,h0 with
   | [c],_=>exact ⟨c,rfl⟩
  have hp':p'=⟨#[c]⟩:=by
   cases p' with
   | mk d=>congr 1;exact Array.toList_inj.1 hp
  subst hp'
  refine (Any.strings_Count_one Tryz.lays138 s' c w).mono ?_
  rintro e w' ⟨rfl,rfl⟩
  exact ⟨_,rfl,RowKit.Below.refl _ _,VP.mk_int _ _⟩
 ·cases h
theorem Bj8 {l:LL} (h:l.all isS=true):l=H6 (l.map elS):=by
 unfold H6
 rw [List.map_map]
 symm
 rw [List.map_congr_left (g:=id)]
 ·simp
 ·intro x hx
  have:=List.all_eq_true.1 h x hx
  unfold isS at this
  split at this
  ·rfl
  grind
end
section
open Go Go.Proofs
set_option maxRecDepth 100000
section
variable {σ R : Type} (lf : Nat) (cl : D4) (yh : Yh σ) (s : σ) (k : Out -> St σ -> Option R)
noncomputable def Ad9 {R:Type} (lf n:Nat) (l_m0:Nat) (n1 n2:Int) (l3:LL) (k0:Int->LL->Option R) (k1:Nat->LL->Option R):Option R:=match n with | 0=>none | n+1=>cond (ltI n2 n1) (cond (inR n2 l_m0) (cond (okE Dh l3 (0+(Int.toNat n2)) 0) (vl (gX l3 (0+(Int.toNat n2)) 0) λs'33=>cond (A2 s'33.length) (vl (↑((Bo6 s'33)).2:Int) λn'35=>cond (n'35 != 0) (k0 n'35 l3) (cond (inR n2 l_m0) (cond (decide ((0+(Int.toNat n2))<l3.length)) (vl (List.set l3 (0+(Int.toNat n2)) (F1 (List.getD l3 (0+(Int.toNat n2)) []) 0 [(SV.str ((Bo6 s'33)).1)])) λl'36=>Ad9 lf n l_m0 n1 (A1 (n2+1)) l'36 k0 k1) none) none)) none) none) none) (k1 l_m0 l3)
noncomputable abbrev YT:Code:=D2 Tryz.f131
noncomputable def Gf (lf:Nat):Cfg:=B8 lf [131] (A4 [(6,[0,1,0,1,10,0,0])]) [(170,Ao9),(161,Ap0)] (A4 [(13,[2]),(12,[0,3,0,2]),(11,[0,2,1,10,0,0]),(10,[0,2,1,10,0,0]),(9,[2]),(8,[0,2,1,1,8,0,0,8]),(7,[0,2,1,1,8,0,0]),(6,[0,2,1,10,0,0,0]),(5,[0,2,1,10,0,0]),(4,[0,2,1]),(3,[2]),(2,[0,2,11]),(1,[0,2,0]),(0,[0])]) [161] (A4 [(0,[0,2,1]),(1,[0,2,1,10,0,0])]) (some [2]) [] [] []
noncomputable def R0 {R:Type} (lf n:Nat) (s0:By) (points_z1:Bool) (points2:LL) (basic3:Bool) (n4 n5:Int) (k0:Unit->Option R) (k1:By->Bool->LL->Bool->Option R):Option R:=match n with | 0=>none | n+1=>cond (ltI n5 n4) (cond (inR n5 points2.length) (cond (okE Fw points2 (Int.toNat n5) 0) (vl (gE points2 (Int.toNat n5) 0) λn'1=>cond (not (ltI n'1 65)) (cond (not (ltI 90 n'1)) (k0 ()) (cond basic3 (R0 lf n s0 points_z1 points2 (ltI n'1 128) n4 (A1 (n5+1)) k0 k1) (R0 lf n s0 points_z1 points2 false n4 (A1 (n5+1)) k0 k1))) (cond basic3 (R0 lf n s0 points_z1 points2 (ltI n'1 128) n4 (A1 (n5+1)) k0 k1) (R0 lf n s0 points_z1 points2 false n4 (A1 (n5+1)) k0 k1))) none) none) (k1 s0 points_z1 points2 basic3)
theorem MT (n s0 points_z1 points2 basic3 n4 n5):E4 0 ((Gf lf).keep 6) (bd (Gf lf) cl yh (cd [1,1,1,1,0,1,0,0] YT)) n ⟨gp [(0,pS s0),(2,.s (.sl points_z1 points_z1 1 points2)),(1,pB basic3),(10,.s (.sl points_z1 points_z1 1 points2)),(0,pI n4),(0,pI n5)] 31,[],s⟩ k =
 R0 lf n s0 points_z1 points2 basic3 n4 n5 (λ_=>k .ret ⟨gp [(2,pB false)] 47,[],s⟩) (λs0 points_z1 points2 basic3=>k (.exit 0) ⟨gp [(0,pS s0),(2,.s (.sl points_z1 points_z1 1 points2)),(1,pB basic3)] 44,[],s⟩):=by
 induction n generalizing s0 points_z1 points2 basic3 n4 n5 with
 | zero=>rfl
 | succ n ih=>rw [R0];simp only [<-ih];kernel_rfl
noncomputable def ZO {R:Type} (lf:Nat) (s0:By) (k0:Bool->Option R):Option R:=cond (A2 s0.length) (cond ((↑((J5 s0)).2:Int) != 0) (k0 false) (R0 lf lf s0 (List.isEmpty ((J5 s0)).1) (Rz ((J5 s0)).1) true (↑(List.length (Rz ((J5 s0)).1)):Int) 0 (λ_=>k0 false) (λs'2 points_z'3 points'4 basic'5=>cond (List.all points'4 Ns) (vl ((X9 (List.map elI points'4))).1 λs'8=>vl (↑((X9 (List.map elI points'4))).2:Int) λn'9=>cond (not basic'5) (cond (n'9==0) (k0 (s'8==s'2)) (k0 false)) (k0 false)) none))) none
theorem Ax7 (d:Nat) (s0):evC (Gf lf) (d+1) σ yh 131 [pS s0] [] s=ZO lf s0 (λr0=>some (pB r0,[],s)):=by
 refine (evE (fn:=Tryz.f131) (by kernel_rfl)).trans ?_
 generalize evC (Gf lf) d=cl
 unfold ZO;exact (Eq.trans (by kernel_rfl) (A0 (A0 rfl ((MT lf cl yh s (H4 0 (I5 (Gf lf) cl yh (cd [1,1,1,1,1] YT) (G9 (Gf lf) Tryz.f131))) lf s0 (List.isEmpty ((J5 s0)).1) (Rz ((J5 s0)).1) true (↑(List.length (Rz ((J5 s0)).1)):Int) 0).trans (by kernel_rfl))) rfl))
noncomputable abbrev Ar1:Code:=D2 Tryz.f94
noncomputable def Ln (lf:Nat):Cfg:=B8 lf [94] (A4 [(4,[0,1,26,0])]) [(130,Ao3),(131,YF)] (A4 [(11,[2]),(10,[5,0]),(9,[0,28,0]),(8,[2]),(7,[0,28,0,28]),(6,[0,3,24,0]),(5,[0,2,25,0]),(4,[0,28,0,0]),(3,[0,28,0]),(2,[2]),(1,[0,26]),(0,[0])]) [130,131] (A4 [(0,[0]),(1,[0,28,0])]) (some [2]) [] [] []
noncomputable def M9 {R:Type} (lf n:Nat) (s0:By) (n1 n2:Int) (k0:Unit->Option R) (k1:By->Option R):Option R:=match n with | 0=>none | n+1=>cond (ltI n2 n1) (cond (inR n2 s0.length) (cond (not (ltI (bAt s0 n2) (97:Int))) (cond (not (not (ltI 122 (bAt s0 n2)))) (cond (not (ltI (bAt s0 n2) (48:Int))) (cond (not (not (ltI 57 (bAt s0 n2)))) (cond ((bAt s0 n2) != 45) (cond ((bAt s0 n2) != 95) (k0 ()) (M9 lf n s0 n1 (A1 (n2+1)) k0 k1)) (M9 lf n s0 n1 (A1 (n2+1)) k0 k1)) (M9 lf n s0 n1 (A1 (n2+1)) k0 k1)) (cond ((bAt s0 n2) != 45) (cond ((bAt s0 n2) != 95) (k0 ()) (M9 lf n s0 n1 (A1 (n2+1)) k0 k1)) (M9 lf n s0 n1 (A1 (n2+1)) k0 k1))) (M9 lf n s0 n1 (A1 (n2+1)) k0 k1)) (cond (not (ltI (bAt s0 n2) (48:Int))) (cond (not (not (ltI 57 (bAt s0 n2)))) (cond ((bAt s0 n2) != 45) (cond ((bAt s0 n2) != 95) (k0 ()) (M9 lf n s0 n1 (A1 (n2+1)) k0 k1)) (M9 lf n s0 n1 (A1 (n2+1)) k0 k1)) (M9 lf n s0 n1 (A1 (n2+1)) k0 k1)) (cond ((bAt s0 n2) != 45) (cond ((bAt s0 n2) != 95) (k0 ()) (M9 lf n s0 n1 (A1 (n2+1)) k0 k1)) (M9 lf n s0 n1 (A1 (n2+1)) k0 k1)))) none) (k1 s0)
theorem UD (n s0 n1 n2):E4 0 ((Ln lf).keep 4) (bd (Ln lf) cl yh (cd [1,1,0,1,0,0] Ar1)) n ⟨gp [(0,pS s0),(28,pI n1),(0,pI n2)] 41,[],s⟩ k =
 M9 lf n s0 n1 n2 (λ_=>k .ret ⟨gp [(2,pB false)] 69,[],s⟩) (λs0=>k (.exit 0) ⟨gp [(0,pS s0)] 71,[],s⟩):=by
 induction n generalizing s0 n1 n2 with
 | zero=>rfl
 | succ n ih=>rw [M9];simp only [<-ih];kernel_rfl
noncomputable def Be7 {R:Type} (lf:Nat) (s0:By) (k0:Bool->Option R):Option R:=cond (ltI (s0.length:Int) (1:Int)) (k0 false) (cond (ltI 63 (s0.length:Int)) (k0 false) (cond (inR 0 s0.length) (cond ((bAt s0 (0:Int))==45) (k0 false) (vl (A1 ((s0.length:Int)-1)) λn'1=>cond (inR n'1 s0.length) (cond ((bAt s0 n'1)==45) (k0 false) (M9 lf lf s0 (s0.length:Int) 0 (λ_=>k0 false) (λs'2=>cond (A2 s'2.length) (vl (Xl s'2 ([120,110,45,45]:List UInt8)) λs'3=>cond (not (List.isPrefixOf ([120,110,45,45]:List UInt8) s'2)) (k0 true) (cond (A2 s'3.length) (k0 (Ad s'3)) none)) none))) none)) none))
theorem Be8 (d:Nat) (s0):evC (Ln lf) (d+1) σ yh 94 [pS s0] [] s=Be7 lf s0 (λr0=>some (pB r0,[],s)):=by
 refine (evE (fn:=Tryz.f94) (by kernel_rfl)).trans ?_
 generalize evC (Ln lf) d=cl
 unfold Be7;exact (Eq.trans (by kernel_rfl) (A0 rfl (A0 rfl (A0 (A0 rfl (A8 λn'1=>(A0 (A0 rfl ((UD lf cl yh s (H4 0 (I5 (Ln lf) cl yh (cd [1,1,1] Ar1) (G9 (Ln lf) Tryz.f94))) lf s0 (s0.length:Int) 0).trans (by kernel_rfl))) rfl))) rfl))))
noncomputable def QP (lf:Nat):Cfg:=B8 lf [39] (A4 []) [(59,AP)] (A4 [(9,[2]),(4,[2]),(6,[2]),(8,[2]),(7,[1,31]),(5,[1,1,1,16]),(3,[1,1,1,0]),(2,[1,1,1]),(1,[1,1]),(0,[1])]) [59] (A4 [(0,[])]) (some [2]) [] [] []
noncomputable def Ht {R:Type} (lf:Nat) (h0:Int) (h1:By) (h2 h3 h4 h5 h6 h7 h8 h9 h10:Int) (k0:Bool->Int->By->Int->Int->Int->Int->Int->Int->Int->Int->Int->LL->Option R):Option R:=cond (h0==1) (cond (A2 h1.length) (cond (D3 h1) (cond (h2==0) (k0 ((h3==0)&&((h4==0)&&((h5==0)&&((h6==0)&&((h7==0)&&((h8==0)&&((h9==0)&&((h10==0)&&true)))))))) h0 h1 h2 h3 h4 h5 h6 h7 h8 h9 h10 (List.replicate 8 [(SV.int .u16 (0:Int))])) (k0 false h0 h1 h2 h3 h4 h5 h6 h7 h8 h9 h10 (List.replicate 8 [(SV.int .u16 (0:Int))]))) (k0 false h0 h1 h2 h3 h4 h5 h6 h7 h8 h9 h10 (List.replicate 8 [(SV.int .u16 (0:Int))]))) none) (cond (h0==2) (cond (h1==[]) (k0 ((h3==0)&&((h4==0)&&((h5==0)&&((h6==0)&&((h7==0)&&((h8==0)&&((h9==0)&&((h10==0)&&true)))))))) h0 h1 h2 h3 h4 h5 h6 h7 h8 h9 h10 (List.replicate 8 [(SV.int .u16 (0:Int))])) (k0 false h0 h1 h2 h3 h4 h5 h6 h7 h8 h9 h10 (List.replicate 8 [(SV.int .u16 (0:Int))]))) (cond (h0==3) (cond (h1==[]) (k0 (h2==0) h0 h1 h2 h3 h4 h5 h6 h7 h8 h9 h10 (List.replicate 8 [(SV.int .u16 (0:Int))])) (k0 false h0 h1 h2 h3 h4 h5 h6 h7 h8 h9 h10 (List.replicate 8 [(SV.int .u16 (0:Int))]))) (k0 false h0 h1 h2 h3 h4 h5 h6 h7 h8 h9 h10 (List.replicate 8 [(SV.int .u16 (0:Int))]))))
theorem Bc2 (d:Nat) (h0 h1 h2 h3 h4 h5 h6 h7 h8 h9 h10):evC (QP lf) (d+1) σ yh 39 [.agg [pI h0,pS h1,p32 h2,p16 h3,p16 h4,p16 h5,p16 h6,p16 h7,p16 h8,p16 h9,p16 h10]] [] s=Ht lf h0 h1 h2 h3 h4 h5 h6 h7 h8 h9 h10 (λr0 n1 s2 n3 n4 n5 n6 n7 n8v n9 n10 n11 l12=>some (pB r0,[.box [pI n1,pS s2,p32 n3,p16 n4,p16 n5,p16 n6,p16 n7,p16 n8v,p16 n9,p16 n10,p16 n11],.arr false 26 1 l12],s)):=by
 refine (evE (fn:=Tryz.f39) (by kernel_rfl)).trans ?_
 generalize evC (QP lf) d=cl
 unfold Ht;kernel_rfl
end
theorem Xk {n m:Nat} (hnm:n<=m):∀ l:List Nat,(∀ p∈l,n<=p->m<=p)->l.countP (λp=>decide (p<m+1))=l.countP (λp=>decide (p<n))+l.countP (· == m)
 | [],_=>rfl
 | p::l,h=>by
  have ih:=Xk hnm l (λq hq=>h q (List.mem_cons_of_mem _ hq))
  have hp:=h p List.mem_cons_self
  grind
theorem Au3 {n:Nat} {l:List Nat} (h:l.countP (λp=>decide (p<n))<l.length):∃ p∈l,n<=p:=by
 apply Classical.byContradiction
 intro hc
 have:l.countP (λp=>decide (p<n))=l.length:=by simp_all
 omega
theorem Az0 (z t:Bool) (pts:List Nat) (basic:Nat) (hl:pts.length<=256) (hb:basic<=256) (hall:∀ p∈pts,p<=1114111):∀ (f n n':Nat) (s:KA),s.done=pts.countP (λp=>decide (p<n))->pts.length<=s.done+f->f<n'->s.delta<=300->s.bias<=500->s.out.length+20*(pts.length-s.done)<=80000->n<=1114112->
  ∀ (R:Type) (k0:LL->Option R),Bf LF n' z t (B3 pts) (basic:Int) (n:Int) (s.delta:Int) (s.bias:Int) (s.done:Int) (s.out.map F5) k0=k0 ((T2 pts basic f n s).out.map F5):=by
 intro f
 have hLF:=E8
 induction f with
 | zero=>
  intro n n' s hd hf hn h1 h2 h3 h4 R k0
  obtain ⟨n',rfl⟩:∃ m,n'=m+1:=⟨n'-1,by omega⟩
  rw [Bf]
  rw [B9,A7]
  rfl
 | succ f ih=>
  intro n n' s hd hf hn h1 h2 h3 h4 R k0
  obtain ⟨n',rfl⟩:∃ m,n'=m+1:=⟨n'-1,by omega⟩
  rw [Bf]
  rw [B9]
  have hcl:pts.countP (λp=>decide (p<n))<=pts.length:=List.countP_le_length
  by_cases hlt:s.done<pts.length
  ·obtain ⟨p0,hp0,hp1⟩:=Au3 (n:=n) (l:=pts) (by omega)
   obtain ⟨g1,g2,g3⟩:=Dx n pts 1114112
   have g4:=g3 p0 hp0 hp1
   have g5:=hall p0 hp0
   have hmem:G8 n pts 1114112∈pts/\n<=G8 n pts 1114112:=by grind
   have he:T2 pts basic (f+1) n s=T2 pts basic f (G8 n pts 1114112+1) { F6 (G8 n pts 1114112) basic pts { s with delta:=s.delta+(G8 n pts 1114112-n)*(s.done+1) } with delta:=(F6 (G8 n pts 1114112) basic pts { s with delta:=s.delta+(G8 n pts 1114112-n)*(s.done+1) }).delta+1 }:=by
    rw [T2,if_pos hlt]
   rw [he,A9,cond_true]
   have hleast:=λ(K:Bool->Bool->LL->Int->Int->Int->Int->Int->Int->LL->Option R)=>VA (k0:=K) z t pts hl n (basic:Int) (s.delta:Int) (s.bias:Int) (s.done:Int) (s.out.map F5) pts.length 0 LF 1114112 (by omega) (by omega)
   rw [List.drop_zero] at hleast
   refine Eq.trans (hleast _) ?_
   generalize G8 n pts 1114112=m at *
   have hmul:(m-n)*(s.done+1)<=1114112*256:=Nat.mul_le_mul (by omega) (by omega)
   have e1:A1 ((s.done:Int)+1)=((s.done+1:Nat):Int):=by rw [A5];rfl
   have e2:A1 ((m:Int)-(n:Int))=((m-n:Nat):Int):=by rw [A5];omega
   have e3:A1 (((m-n:Nat):Int)*((s.done+1:Nat):Int))=(((m-n)*(s.done+1):Nat):Int):=by
    rw [<-Int.natCast_mul]
    exact A5
   have e4:A1 ((s.delta:Int)+(((m-n)*(s.done+1):Nat):Int))=((s.delta+(m-n)*(s.done+1):Nat):Int):=by
    rw [A5];rfl
   simp only [vl,e1,e2,e3,e4]
   have hin:=Bg6 z t pts basic m (by omega) hl pts.length 0 LF { s with delta:=s.delta+(m-n)*(s.done+1) } (by omega) (by omega) (by simp only;omega) h2 (by simp only;omega) (by simp only;omega) hb
   rw [List.drop_zero] at hin
   obtain ⟨q1,q2,q3,q4,q5⟩:=hin
   rw [B9]
   refine Eq.trans (q1 R _) ?_
   have hcnt:0<pts.countP (· == m):=List.countP_pos_iff.2 ⟨m,hmem.1,by simp⟩
   rw [if_pos hcnt] at q5
   have hstep:=Xk hmem.2 pts g3
   generalize F6 m basic pts { s with delta:=s.delta+(m-n)*(s.done+1) } = s' at *
   simp only at q3 q4
   have e5:A1 ((s'.delta:Int)+1)=((s'.delta+1:Nat):Int):=by rw [A5];rfl
   have e6:A1 ((m:Int)+1)=((m+1:Nat):Int):=by rw [A5];rfl
   have hcl2:pts.countP (λp=>decide (p<m+1))<=pts.length:=List.countP_le_length
   simp only [e5,e6]
   exact ih (m+1) n' { s' with delta:=s'.delta+1 } (by simp only;omega) (by simp only;omega) (by omega) (by simp only;omega) q2 (by simp only;omega) (by omega) R k0
  ·rw [A7]
   rw [T2,if_neg hlt]
   rfl
def P7 (l:List Int):By:=(l.filter λx=>decide (x<128)).map λx=>UInt8.ofNat x.toNat
theorem A34 (x:Int) (h0:0<=x) (h:x<128):[SV.int .u8 (wu8 x)]=F5 (UInt8.ofNat x.toNat):=by
 unfold F5
 have e:wu8 x=x:=by unfold wu8;exact Int.emod_eq_of_lt h0 (show x<256 by omega)
 rw [e]
 have:((UInt8.ofNat x.toNat).toNat:Int)=x:=by simp;omega
 rw [this]
theorem Lz {x:Int} (h:ptI x=true):0<=x/\x<=1114111:=by
 cases x with
 | negSucc m=>cases h
 | ofNat m=>
  have:Q6 m=true:=h
  unfold Q6 at this
  simp only [Bool.and_eq_true,Nat.ble_eq] at this
  grind
theorem UV (z t:Bool) (P:List Int) (hl:P.length<=256):∀ (r i n:Nat) (out:By),i+r=P.length->r<n->out.length+r<=1000->
  ((P.drop i).all ptI=true->∀ (R:Type) (k0:LL->Option R) (k1:Bool->Bool->LL->LL->Option R),O2 LF n z t (U1 P) (P.length:Int) (i:Int) (out.map F5) k0 k1=k1 z t (U1 P) ((out++P7 (P.drop i)).map F5))/\
  ((P.drop i).all ptI=false->∃ l,∀ (R:Type) (k0:LL->Option R) (k1:Bool->Bool->LL->LL->Option R),O2 LF n z t (U1 P) (P.length:Int) (i:Int) (out.map F5) k0 k1=k0 l):=by
 intro r
 induction r with
 | zero=>
  intro i n out hi hn ho
  obtain ⟨n,rfl⟩:∃ m,n=m+1:=⟨n-1,by omega⟩
  rw [List.drop_of_length_le (by omega)]
  refine ⟨λ_ R k0 k1=>?_,λh=>(by cases h)⟩
  rw [O2]
  rw [A7]
  simp [P7]
 | succ r ih=>
  intro i n out hi hn ho
  obtain ⟨n,rfl⟩:∃ m,n=m+1:=⟨n-1,by omega⟩
  have hg:=TA P i (by omega)
  have ok:=IR (l:=P) (i:=i) (by omega)
  rw [LH P i (by omega)]
  generalize P.getD i 0=x at *
  have e1:A1 ((i:Int)+1)=((i+1:Nat):Int):=by rw [A5];rfl
  cases hx:ptI x with
  | false=>
   refine ⟨λh=>?_,λ_=>⟨out.map F5,λR k0 k1=>?_⟩⟩
   ·rw [List.all_cons,hx] at h;cases h
   ·rw [O2]
    rw [A9,O9,L1,Int.toNat_natCast,ok]
    simp only [cond_true,vl,hg,hx,Bool.not_false]
  | true=>
   obtain ⟨p0,p1⟩:=Lz hx
   rw [List.all_cons,hx,Bool.true_and]
   by_cases h128:x<128
   ·have hbs:P7 (x::P.drop (i+1))=UInt8.ofNat x.toNat::P7 (P.drop (i+1)):=by
     unfold P7;rw [List.filter_cons_of_pos (by simpa using h128)];rfl
    have hrow:out.map F5++[[SV.int .u8 (wu8 x)]]=(out++[UInt8.ofNat x.toNat]).map F5:=by rw [A34 x p0 h128];simp
    obtain ⟨q1,q2⟩:=ih (i+1) n (out++[UInt8.ofNat x.toNat]) (by omega) (by omega) (by simp;omega)
    have step:∀ (R:Type) (k0:LL->Option R) (k1:Bool->Bool->LL->LL->Option R),O2 LF (n+1) z t (U1 P) (P.length:Int) (i:Int) (out.map F5) k0 k1=O2 LF n z t (U1 P) (P.length:Int) ((i+1:Nat):Int) ((out++[UInt8.ofNat x.toNat]).map F5) k0 k1:=by
     intro R k0 k1
     rw [O2]
     rw [A9,O9,L1,Int.toNat_natCast,ok]
     simp only [cond_true,vl,hg,hx,Bool.not_true,cond_false,e1]
     rw [C6 h128,List.length_map,G1 (by omega),hrow]
     rfl
    refine ⟨λh R k0 k1=>?_,λh=>?_⟩
    ·rw [step,q1 h,hbs];simp
    ·obtain ⟨l,e⟩:=q2 h
     exact ⟨l,λR k0 k1=>by rw [step];exact e R k0 k1⟩
   ·have hbs:P7 (x::P.drop (i+1))=P7 (P.drop (i+1)):=by
     unfold P7;rw [List.filter_cons_of_neg (by simpa using h128)]
    obtain ⟨q1,q2⟩:=ih (i+1) n out (by omega) (by omega) (by omega)
    have step:∀ (R:Type) (k0:LL->Option R) (k1:Bool->Bool->LL->LL->Option R),O2 LF (n+1) z t (U1 P) (P.length:Int) (i:Int) (out.map F5) k0 k1=O2 LF n z t (U1 P) (P.length:Int) ((i+1:Nat):Int) (out.map F5) k0 k1:=by
     intro R k0 k1
     rw [O2]
     rw [A9,O9,L1,Int.toNat_natCast,ok]
     simp only [cond_true,vl,hg,hx,Bool.not_true,cond_false,e1]
     rw [A7]
     rfl
    refine ⟨λh R k0 k1=>?_,λh=>?_⟩
    ·rw [step,q1 h,hbs]
    ·obtain ⟨l,e⟩:=q2 h
     exact ⟨l,λR k0 k1=>by rw [step];exact e R k0 k1⟩
theorem ZZ {P:List Int} (h:P.all ptI=true):∃ pts:List Nat,P=pts.map (λn:Nat=>(n:Int))/\pts.all Q6=true/\∀ p∈pts,p<=1114111:=by
 induction P with
 | nil=>exact ⟨[],rfl,rfl,by simp⟩
 | cons x P ih=>
  rw [List.all_cons,Bool.and_eq_true] at h
  obtain ⟨pts,rfl,h1,h2⟩:=ih h.2
  obtain ⟨p0,p1⟩:=Lz h.1
  obtain ⟨m,rfl⟩:=Int.eq_ofNat_of_zero_le p0
  refine ⟨m::pts,rfl,?_,?_⟩
  ·rw [List.all_cons,h1,Bool.and_true];exact h.1
  grind
theorem Wy (pts:List Nat):P7 (pts.map λn:Nat=>(n:Int))=F4 pts:=by
 unfold P7 F4
 induction pts with
 | nil=>rfl
 | cons p r ih=>
  grind
theorem Wx (pts:List Nat):(F4 pts).length=pts.countP (λp=>decide (p<128)):=by
 unfold F4
 grind
theorem UW (z t:Bool) (P:List Int):(X9 P=([],3)/\∀ (R:Type) (k0:Unit->Option R) (k1:By->Int->LL->Option R),ND LF z t (U1 P) k0 k1=k0 ())\/
  (∃ l,∀ (R:Type) (k0:Unit->Option R) (k1:By->Int->LL->Option R),ND LF z t (U1 P) k0 k1=k1 (X9 P).1 ((X9 P).2:Nat) l):=by
 have hLF:=E8
 by_cases hl:256<P.length
 ·refine .inl ⟨by unfold X9;rw [if_pos hl],λR k0 k1=>?_⟩
  unfold ND
  rw [O9,A9]
  rfl
 ·right
  obtain ⟨q1,q2⟩:=UV z t P (by omega) P.length 0 LF [] (by omega) (by omega) (by simp;omega)
  rw [List.drop_zero] at q1 q2
  cases ha:P.all ptI with
  | false=>
   obtain ⟨l,e⟩:=q2 ha
   refine ⟨l,λR k0 k1=>?_⟩
   unfold ND
   rw [O9,A7,cond_false]
   refine Eq.trans (e R _ _) ?_
   unfold X9
   rw [if_neg hl,ha]
   rfl
  | true=>
   obtain ⟨pts,rfl,hp1,hp2⟩:=ZZ ha
   rw [List.length_map] at hl
   have hen:X9 (pts.map λn:Nat=>(n:Int))=Gj pts:=by
    unfold X9
    rw [List.length_map,if_neg hl,ha]
    simp [Function.comp_def]
   have hbl:=Wx pts
   have hbc:pts.countP (λp=>decide (p<128))<=pts.length:=List.countP_le_length
   have main:∀ (o:By),o.length<=300->∀ (R:Type) (k0:LL->Option R),Bf LF LF z t (B3 pts) ((F4 pts).length:Int) 128 0 72 ((F4 pts).length:Int) (o.map F5) k0=k0 ((T2 pts (F4 pts).length 256 128 { delta:=0,bias:=72,done:=(F4 pts).length,out:=o }).out.map F5):=by
    intro o ho R k0
    exact Az0 z t pts (F4 pts).length (by omega) (by omega) hp2 256 128 LF { delta:=0,bias:=72,done:=(F4 pts).length,out:=o } hbl (by simp only;omega) (by omega) (by simp) (by simp) (by simp only;omega) (by omega) R k0
   have he2:Gj pts=((T2 pts (F4 pts).length 256 128 { delta:=0,bias:=72,done:=(F4 pts).length,out:=if (F4 pts).isEmpty then [] else F4 pts++[45] }).out,0):=by
    unfold Gj
    grind
   refine ⟨(Gj pts).1.map F5,λR k0 k1=>?_⟩
   unfold ND
   rw [O9,List.length_map,A7,cond_false,hen]
   have q1':=q1 ha R
   rw [List.length_map] at q1'
   refine Eq.trans (q1' _ _) ?_
   rw [List.nil_append,Wy,Jw]
   simp only [vl,List.length_map]
   by_cases hbe:F4 pts=[]
   ·rw [hbe,List.length_nil,A7,cond_false]
    have mm:=main [] (by simp) R
    rw [hbe,List.length_nil] at mm
    rw [List.map_nil] at mm
    refine Eq.trans (mm _) ?_
    rw [hbe] at he2
    rw [he2]
    simp only [List.isEmpty_nil,if_true,List.length_nil]
    rw [Ml,Nz]
    rfl
   ·have hpos:0<(F4 pts).length:=List.length_pos_iff.2 hbe
    rw [A9,cond_true,G1 (by omega),cond_true]
    have hrow:(F4 pts).map F5++[[SV.int .u8 (45:Int)]]=(F4 pts++[45]).map F5:=by rw [List.map_append];rfl
    rw [hrow]
    refine Eq.trans (main (F4 pts++[45]) (by simp;omega) R _) ?_
    rw [he2,if_neg (by simpa using hbe)]
    rw [Ml,Nz]
    rfl
theorem Bg7 (z t:Bool) (p:LL) (h0:p.all Ns=true):∃ r H,ND LF z t p (λ_=>rv (.tup [.s (.str []),.s (.int .i64 3)]) []) (λr0 r1 l=>rv (.tup [.s (.str r0),.s (.int .i64 r1)]) [.arr true 5 1 l])=rv r H/\
  r.stab [0,0] H = .tup [.s (.str (X9 (p.map elI)).1),.s (.int .i64 ((X9 (p.map elI)).2:Nat))]:=by
 obtain ⟨P,rfl⟩:=ZE h0
 rw [LI]
 rcases UW z t P with ⟨h1,h2⟩ | ⟨l,h2⟩
 ·exact ⟨_,_,h2 _ _ _,by rw [h1];rfl⟩
 ·exact ⟨_,_,h2 _ _ _,rfl⟩
theorem Aw3 (l:List Nat) (i n:Nat):Gr (B3 l) i (n:Int)=B3 (P0 l i n):=by
 unfold Gr P0 B3
 simp_all
theorem IP (b:Nat) (s:By) (i:Nat):Ym (b:Int) s (i:Int)=((C2 b s i 1 0).2.2:Int)/\((C2 b s i 1 0).2.2=0->Yn (b:Int) s (i:Int)=(C2 b s i 1 0).2.1/\Lx (b:Int) s (i:Int)=((C2 b s i 1 0).1:Int)):=by
 obtain ⟨h1,h2⟩:=Ni b s i 1 0
 have e:N7 (b:Int) s (i:Int) 1 0=N7 (b:Int) s (i:Int) ((1:Nat):Int) ((36*0:Nat):Int):=rfl
 unfold Ym Yn Lx
 rw [e]
 refine ⟨by rw [h1],λh=>?_⟩
 have:=h2 h
 rw [this]
 exact ⟨rfl,rfl⟩
theorem By4 (s:By) (pts:List Nat) (n i b:Nat) (st:Bool) (h:(C2 b s i 1 0).2.2=0) (hi:i<=(C2 b s i 1 0).1) (hp:Q6 (n+(C2 b s i 1 0).1 / (pts.length+1))=true) (hc:¬ 256<pts.length+1) :
  D0 ⟨s,(n:Int),(i:Int),(b:Int),st,B3 pts⟩=(0,⟨(C2 b s i 1 0).2.1,((n+(C2 b s i 1 0).1 / (pts.length+1):Nat):Int),(((C2 b s i 1 0).1 % (pts.length+1)+1:Nat):Int),((L7 ((C2 b s i 1 0).1-i) (pts.length+1) (!st):Nat):Int),true,B3 (P0 pts ((C2 b s i 1 0).1 % (pts.length+1)) (n+(C2 b s i 1 0).1 / (pts.length+1)))⟩):=by
 obtain ⟨h1,h2⟩:=IP b s i
 obtain ⟨h3,h4⟩:=h2 h
 unfold D0
 simp only
 rw [h1,h,if_pos (show ((0:Nat):Int)=0 from rfl),h3,h4,B9]
 generalize (C2 b s i 1 0).1=X at *
 have ec:((pts.length:Int)+1)=((pts.length+1:Nat):Int):=rfl
 have ed:Int.tdiv (X:Int) ((pts.length+1:Nat):Int)=((X / (pts.length+1):Nat):Int):=K2 _ _
 have em:Int.tmod (X:Int) ((pts.length+1:Nat):Int)=((X % (pts.length+1):Nat):Int):=Fy _ _
 have en:(n:Int)+((X / (pts.length+1):Nat):Int)=((n+X / (pts.length+1):Nat):Int):=rfl
 rw [ec,ed,em,en,Ha,hp,if_pos rfl,G7,Int.toNat_natCast,Aw3,Int.toNat_natCast,show ((X:Int)-(i:Int)).toNat=X-i by omega]
 rfl
theorem Bq5 (s:By) (pts:List Nat) (n i b:Nat) (st:Bool):((C2 b s i 1 0).2.2≠0->(D0 ⟨s,(n:Int),(i:Int),(b:Int),st,B3 pts⟩).1=((C2 b s i 1 0).2.2:Int))/\
  ((C2 b s i 1 0).2.2=0->Q6 (n+(C2 b s i 1 0).1 / (pts.length+1))=false->(D0 ⟨s,(n:Int),(i:Int),(b:Int),st,B3 pts⟩).1=2)/\
  ((C2 b s i 1 0).2.2=0->Q6 (n+(C2 b s i 1 0).1 / (pts.length+1))=true->256<pts.length+1->(D0 ⟨s,(n:Int),(i:Int),(b:Int),st,B3 pts⟩).1=3):=by
 obtain ⟨h1,h2⟩:=IP b s i
 have ec:(((B3 pts).length:Int)+1)=((pts.length+1:Nat):Int):=by rw [B9];rfl
 have ed:∀ X:Nat,Int.tdiv (X:Int) ((pts.length+1:Nat):Int)=((X / (pts.length+1):Nat):Int):=λX=>K2 _ _
 have en:∀ A:Nat,(n:Int)+(A:Int)=((n+A:Nat):Int):=λA=>rfl
 refine ⟨λh=>?_,λh hp=>?_,λh hp hc=>?_⟩
 ·unfold D0
  simp only
  rw [h1,G7]
 ·obtain ⟨h3,h4⟩:=h2 h
  unfold D0
  simp only
  rw [h1,h,if_pos (show ((0:Nat):Int)=0 from rfl),h4,ec,ed,en,Ha,hp,if_neg (by simp)]
 ·obtain ⟨h3,h4⟩:=h2 h
  unfold D0
  simp only
  rw [h1,h,if_pos (show ((0:Nat):Int)=0 from rfl),h4,ec,ed,en,Ha,hp,if_pos rfl,Fq]
theorem Y7 (pts:List Nat) (n i b:Nat) (f:Bool):E9 [] pts n i b f=(pts,0):=by rw [E9];rfl
theorem Co {s:By} (hs:s≠[]) (pts:List Nat) (n i b:Nat) (f:Bool) (h:(C2 b s i 1 0).2.2≠0):E9 s pts n i b f=([],(C2 b s i 1 0).2.2):=by
 rw [E9,dif_neg hs]
 grind
theorem Aj {s:By} (hs:s≠[]) (pts:List Nat) (n i b:Nat) (f:Bool) (h:(C2 b s i 1 0).2.2=0):E9 s pts n i b f =
  if Q6 (n+(C2 b s i 1 0).1 / (pts.length+1)) then (if 256<pts.length+1 then ([],3) else E9 (C2 b s i 1 0).2.1 (P0 pts ((C2 b s i 1 0).1 % (pts.length+1)) (n+(C2 b s i 1 0).1 / (pts.length+1))) (n+(C2 b s i 1 0).1 / (pts.length+1)) ((C2 b s i 1 0).1 % (pts.length+1)+1) (L7 ((C2 b s i 1 0).1-i) (pts.length+1) f) false) else ([],2):=by
 rw [E9,dif_neg hs]
 simp only
 rw [dif_pos h]
theorem V2 (l:List Nat) (i n:Nat):(P0 l i n).length=l.length+1:=by
 unfold P0
 grind
theorem Ah7:∀ (r:Nat) (s:By) (pts:List Nat) (n i b f:Nat) (st:Bool),s.length<=r->r<f->s.length<=1000000->pts.length<=256->n<=1114111->i<=1000->b<=500->
  ((E9 s pts n i b (!st)).2=0->∃ s' n' i' b' st',∀ (R:Type) (k0:Int->LL->By->Int->Int->Int->Bool->Option R) (k1:LL->By->Int->Int->Int->Bool->Option R),N3 LF f (B3 pts) s (n:Int) (i:Int) (b:Int) st k0 k1=k1 (B3 (E9 s pts n i b (!st)).1) s' n' i' b' st')/\
  ((E9 s pts n i b (!st)).2≠0->(E9 s pts n i b (!st)).1=[]/\∃ l s' n' i' b' st',∀ (R:Type) (k0:Int->LL->By->Int->Int->Int->Bool->Option R) (k1:LL->By->Int->Int->Int->Bool->Option R),N3 LF f (B3 pts) s (n:Int) (i:Int) (b:Int) st k0 k1=k0 ((E9 s pts n i b (!st)).2:Nat) l s' n' i' b' st'):=by
 intro r
 induction r with
 | zero=>
  intro s pts n i b f st h hf _ _ _ _ _
  obtain ⟨f,rfl⟩:∃ m,f=m+1:=⟨f-1,by omega⟩
  have hs:s=[]:=List.length_eq_zero_iff.1 (by omega)
  subst hs
  rw [Y7]
  refine ⟨λ_=>⟨[],n,i,b,st,λR k0 k1=>?_⟩,λh=>absurd rfl h⟩
  rw [N3]
  rfl
 | succ r ih=>
  intro s pts n i b f st h hf h1 h2 h3 h4 h5
  obtain ⟨f,rfl⟩:∃ m,f=m+1:=⟨f-1,by omega⟩
  by_cases hs:s=[]
  ·subst hs
   rw [Y7]
   refine ⟨λ_=>⟨[],n,i,b,st,λR k0 k1=>?_⟩,λh=>absurd rfl h⟩
   rw [N3]
   rfl
  ·have start:∀ (R:Type) (k0:Int->LL->By->Int->Int->Int->Bool->Option R) (k1:LL->By->Int->Int->Int->Bool->Option R),N3 LF (f+1) (B3 pts) s (n:Int) (i:Int) (b:Int) st k0 k1 =
     cond ((D0 ⟨s,n,i,b,st,B3 pts⟩).1 != 0) (k0 (D0 ⟨s,n,i,b,st,B3 pts⟩).1 (D0 ⟨s,n,i,b,st,B3 pts⟩).2.l (D0 ⟨s,n,i,b,st,B3 pts⟩).2.rest (D0 ⟨s,n,i,b,st,B3 pts⟩).2.n (D0 ⟨s,n,i,b,st,B3 pts⟩).2.i (D0 ⟨s,n,i,b,st,B3 pts⟩).2.b (D0 ⟨s,n,i,b,st,B3 pts⟩).2.st)
      (N3 LF f (D0 ⟨s,n,i,b,st,B3 pts⟩).2.l (D0 ⟨s,n,i,b,st,B3 pts⟩).2.rest (D0 ⟨s,n,i,b,st,B3 pts⟩).2.n (D0 ⟨s,n,i,b,st,B3 pts⟩).2.i (D0 ⟨s,n,i,b,st,B3 pts⟩).2.b (D0 ⟨s,n,i,b,st,B3 pts⟩).2.st k0 k1):=by
    intro R k0 k1
    rw [N3]
    rw [show (s==([]:By))=false from beq_eq_false_iff_ne.2 hs,Aa8,L2,L2,L2,B9,Nat.ble_eq_true_of_le (show pts.length<=100000 by omega)]
    rfl
   obtain ⟨d1,d2,d3⟩:=Bq5 s pts n i b st
   have hok:=By4 s pts n i b st
   generalize D0 ⟨s,n,i,b,st,B3 pts⟩=D at *
   by_cases he:(C2 b s i 1 0).2.2=0
   ·rw [Aj hs pts n i b (!st) he]
    obtain ⟨m1,m2⟩:=IP b s i
    obtain ⟨m3,m4⟩:=m2 he
    have hE:Ym (b:Int) s (i:Int)=0:=by rw [m1,he];rfl
    obtain ⟨q1,q2,q3⟩:=Nh b s i 1 0 (by omega) (by omega) (by omega) hE
    have q1':(i:Int)<=Lx (b:Int) s (i:Int):=q1
    have q2':Lx (b:Int) s (i:Int)<=1099511627776:=q2
    have q3':(Yn (b:Int) s (i:Int)).length<s.length:=q3
    rw [m4] at q1' q2'
    rw [m3] at q3'
    cases hp:Q6 (n+(C2 b s i 1 0).1 / (pts.length+1)) with
    | false=>
     rw [if_neg (by simp)]
     refine ⟨λh=>by simp at h,λ_=>⟨rfl,D.2.l,D.2.rest,D.2.n,D.2.i,D.2.b,D.2.st,λR k0 k1=>?_⟩⟩
     ·rw [start,d2 he hp]
      rfl
    | true=>
     rw [if_pos rfl]
     by_cases hc:256<pts.length+1
     ·rw [if_pos hc]
      refine ⟨λh=>by simp at h,λ_=>⟨rfl,D.2.l,D.2.rest,D.2.n,D.2.i,D.2.b,D.2.st,λR k0 k1=>?_⟩⟩
      rw [start,d3 he hp hc]
      rfl
     ·rw [if_neg hc]
      have hok:=hok he (by omega) hp hc
      have hn':n+(C2 b s i 1 0).1 / (pts.length+1)<=1114111:=by
       unfold Q6 at hp
       simp_all
      have hmod:=Nat.mod_lt (C2 b s i 1 0).1 (show 0<pts.length+1 by omega)
      have had:=Hy ((C2 b s i 1 0).1-i) (pts.length+1) (!st) (by omega)
      have:=ih (C2 b s i 1 0).2.1 (P0 pts ((C2 b s i 1 0).1 % (pts.length+1)) (n+(C2 b s i 1 0).1 / (pts.length+1))) (n+(C2 b s i 1 0).1 / (pts.length+1)) ((C2 b s i 1 0).1 % (pts.length+1)+1) (L7 ((C2 b s i 1 0).1-i) (pts.length+1) (!st)) f true (by omega) (by omega) (by omega) (by rw [V2];omega) hn' (by omega) had
      obtain ⟨p1,p2⟩:=this
      refine ⟨λh=>?_,λh=>?_⟩
      ·obtain ⟨s',n',i',b',st',e⟩:=p1 h
       refine ⟨s',n',i',b',st',λR k0 k1=>?_⟩
       rw [start,hok]
       exact e R k0 k1
      ·obtain ⟨pe,l,s',n',i',b',st',e⟩:=p2 h
       refine ⟨pe,l,s',n',i',b',st',λR k0 k1=>?_⟩
       rw [start,hok]
       exact e R k0 k1
   ·rw [Co hs pts n i b (!st) he]
    refine ⟨λh=>absurd h he,λ_=>⟨rfl,D.2.l,D.2.rest,D.2.n,D.2.i,D.2.b,D.2.st,λR k0 k1=>?_⟩⟩
    rw [start,d1 he,show (((C2 b s i 1 0).2.2:Int) != 0)=true by rw [bne_iff_ne];omega]
    rfl
theorem Fs (l:List Nat):Rz l=B3 l:=rfl
theorem UR {R:Type} {k0:Unit->Option R} {k1:By->Option R} (s:By) (hs:s.length<=1000000):∀ (r i n:Nat),i+r=s.length->r<n->
  Gz LF n s (s.length:Int) (i:Int) k0 k1=if (s.drop i).any (λb=>Nat.ble 128 b.toNat) then k0 () else k1 s:=by
 intro r
 induction r with
 | zero=>
  intro i n hi hn
  obtain ⟨n,rfl⟩:∃ m,n=m+1:=⟨n-1,by omega⟩
  rw [Gz]
  rw [A7,List.drop_of_length_le (by omega)]
  rfl
 | succ r ih=>
  intro i n hi hn
  obtain ⟨n,rfl⟩:∃ m,n=m+1:=⟨n-1,by omega⟩
  rw [Gz]
  have e1:A1 ((i:Int)+1)=((i+1:Nat):Int):=by rw [A5];rfl
  rw [A9,L1,L9,L5 s i (by omega),e1,List.any_cons]
  simp only [cond_true]
  generalize s.getD i 0=b
  by_cases h:128<=b.toNat
  ·rw [A7,Nat.ble_eq_true_of_le h]
   rfl
  ·have:Nat.ble 128 b.toNat=false:=by rw [Bool.eq_false_iff,ne_eq,Nat.ble_eq];exact h
   rw [A9,this,Bool.false_or]
   exact ih (i+1) n (by omega) (by omega)
theorem Ah6 {R:Type} {k0:By->Int->LL->Option R} (s:By) (hs:s.length<=1000000) (k:Nat) (hk:k<=s.length):∀ (r i n:Nat) (l:List Nat),i+r=k->r<n->l.length=i->
  Ea LF n s (k:Int) (i:Int) (B3 l) k0=k0 s (k:Int) (B3 (l++((s.take k).drop i).map (·.toNat))):=by
 intro r
 induction r with
 | zero=>
  intro i n l hi hn hl
  obtain ⟨n,rfl⟩:∃ m,n=m+1:=⟨n-1,by omega⟩
  rw [Ea]
  rw [A7,List.drop_of_length_le (by rw [List.length_take];omega)]
  simp
 | succ r ih=>
  intro i n l hi hn hl
  obtain ⟨n,rfl⟩:∃ m,n=m+1:=⟨n-1,by omega⟩
  rw [Ea]
  have e1:A1 ((i:Int)+1)=((i+1:Nat):Int):=by rw [A5];rfl
  have hd:(s.take k).drop i=s.getD i 0::(s.take k).drop (i+1):=by
   rw [L5 (s.take k) i (by rw [List.length_take];omega)]
   congr 1
   rw [List.getD_eq_getElem?_getD,List.getD_eq_getElem?_getD,List.getElem?_take_of_lt (by omega)]
  rw [A9,L1,L9,hd,B9,G1 (by omega),e1]
  simp only [cond_true]
  generalize s.getD i 0=b
  have hb:=b.toNat_lt
  have e2:A1 (b.toNat:Int)=(b.toNat:Int):=A5
  have hrow:B3 l++[[SV.int .i64 (A1 (b.toNat:Int))]]=B3 (l++[b.toNat]):=by rw [e2,Iw];rfl
  rw [hrow,ih (i+1) n _ (by omega) (by omega) (by simp;omega)]
  simp
theorem Iu:∀ s:By,E1 s<=s.length-1
 | []=>by simp [E1]
 | b::r=>by
  have:=Iu r
  unfold E1
  grind
theorem US (s:By) (h0:A2 s.length=true):(∃ e,J5 s=([],e)/\∀ (R:Type) (k0:Int->Option R) (k1:Int->LL->By->Int->Int->Int->Bool->Option R) (k2:LL->By->Int->Int->Int->Bool->Option R),Ol LF s k0 k1 k2=k0 (e:Nat))\/
  (∃ e l s' n' i' b' st',J5 s=([],e)/\∀ (R:Type) (k0:Int->Option R) (k1:Int->LL->By->Int->Int->Int->Bool->Option R) (k2:LL->By->Int->Int->Int->Bool->Option R),Ol LF s k0 k1 k2=k1 (e:Nat) l s' n' i' b' st')\/
  ((J5 s).2=0/\∃ s' n' i' b' st',∀ (R:Type) (k0:Int->Option R) (k1:Int->LL->By->Int->Int->Int->Bool->Option R) (k2:LL->By->Int->Int->Int->Bool->Option R),Ol LF s k0 k1 k2=k2 (B3 (J5 s).1) s' n' i' b' st'):=by
 have hLF:=E8
 unfold J5
 by_cases hl:1024<s.length
 ·rw [if_pos hl]
  refine .inl ⟨3,rfl,λR k0 k1 k2=>?_⟩
  unfold Ol
  rw [A9]
  rfl
 ·rw [if_neg hl]
  have asc:=λ(R:Type) (K0:Unit->Option R) (K1:By->Option R)=>UR (k0:=K0) (k1:=K1) s (by omega) s.length 0 LF (by omega) (by omega)
  rw [List.drop_zero] at asc
  cases ha:s.any (λb=>Nat.ble 128 b.toNat) with
  | true=>
   rw [if_pos rfl]
   refine .inl ⟨4,rfl,λR k0 k1 k2=>?_⟩
   unfold Ol
   rw [A7,cond_false]
   refine Eq.trans (asc R _ _) ?_
   rw [ha,if_pos rfl]
   rfl
  | false=>
   rw [if_neg (by simp)]
   obtain ⟨d1,d2⟩:=It s
   have hlt:=Iu s
   have key:∀ (pts:List Nat) (t:By),pts.length<=256->t.length<=1024->(∀ (R:Type) (k0:Int->Option R) (k1:Int->LL->By->Int->Int->Int->Bool->Option R) (k2:LL->By->Int->Int->Int->Bool->Option R),Ol LF s k0 k1 k2=N3 LF LF (B3 pts) t 128 0 72 false k1 k2)->
     (∃ e l s' n' i' b' st',E9 t pts 128 0 72 true=([],e)/\∀ (R:Type) (k0:Int->Option R) (k1:Int->LL->By->Int->Int->Int->Bool->Option R) (k2:LL->By->Int->Int->Int->Bool->Option R),Ol LF s k0 k1 k2=k1 (e:Nat) l s' n' i' b' st')\/
     ((E9 t pts 128 0 72 true).2=0/\∃ s' n' i' b' st',∀ (R:Type) (k0:Int->Option R) (k1:Int->LL->By->Int->Int->Int->Bool->Option R) (k2:LL->By->Int->Int->Int->Bool->Option R),Ol LF s k0 k1 k2=k2 (B3 (E9 t pts 128 0 72 true).1) s' n' i' b' st'):=by
    intro pts t hp ht he
    obtain ⟨p1,p2⟩:=Ah7 t.length t pts 128 0 72 LF false (Nat.le_refl _) (by omega) (by omega) hp (by omega) (by omega) (by omega)
    rw [Bool.not_false] at p1 p2
    by_cases hz:(E9 t pts 128 0 72 true).2=0
    ·obtain ⟨s',n',i',b',st',e⟩:=p1 hz
     exact .inr ⟨hz,s',n',i',b',st',λR k0 k1 k2=>by rw [he];exact e R k1 k2⟩
    ·obtain ⟨pe,l,s',n',i',b',st',e⟩:=p2 hz
     exact .inl ⟨_,l,s',n',i',b',st',Prod.ext pe rfl,λR k0 k1 k2=>by rw [he];exact e R k1 k2⟩
   have hu:u8n 45=45:=rfl
   have top:∀ (R:Type) (k0:Int->Option R) (k1:Int->LL->By->Int->Int->Int->Bool->Option R) (k2:LL->By->Int->Int->Int->Bool->Option R),Ol LF s k0 k1 k2 =
     cond (ltI 0 (G3 45 s)) (Ea LF LF s (G3 45 s) 0 [] (λs'5 k'6 l'7=>cond (O6 (A1 (k'6+1)) (s'5.length:Int) s'5.length)
      (vl (cut s'5 (A1 (k'6+1)) (s'5.length:Int)) λs'8=>cond (ltI 256 (l'7.length:Int)) (k1 3 l'7 s'8 128 0 72 false) (N3 LF LF l'7 s'8 128 0 72 false k1 k2)) none))
      (N3 LF LF [] s 128 0 72 false k1 k2):=by
    intro R k0 k1 k2
    unfold Ol
    rw [A7,cond_false]
    refine Eq.trans (asc R _ _) ?_
    rw [ha,if_neg (by simp),h0,hu]
    rfl
   by_cases hd:0<E1 s
   ·have hmem:45∈s:=by
     apply Classical.byContradiction
     intro h
     have:=(d2 h).2
     omega
    have hI:=d1 hmem
    generalize E1 s=m at *
    have hcopy:=λ(R:Type) (K:By->Int->LL->Option R)=>Ah6 (k0:=K) s (by omega) m (by omega) m 0 LF [] (by omega) (by omega) rfl
    rw [List.drop_zero] at hcopy
    have e1:A1 ((m:Int)+1)=((m+1:Nat):Int):=by rw [A5];rfl
    have hlen:((s.take m).map (·.toNat)).length=m:=by rw [List.length_map,List.length_take];omega
    have top2:∀ (R:Type) (k0:Int->Option R) (k1:Int->LL->By->Int->Int->Int->Bool->Option R) (k2:LL->By->Int->Int->Int->Bool->Option R),Ol LF s k0 k1 k2 =
      cond (ltI 256 (m:Int)) (k1 3 (B3 ((s.take m).map (·.toNat))) (s.drop (m+1)) 128 0 72 false) (N3 LF LF (B3 ((s.take m).map (·.toNat))) (s.drop (m+1)) 128 0 72 false k1 k2):=by
     intro R k0 k1 k2
     rw [top,hI,A9,cond_true]
     refine Eq.trans (hcopy R _) ?_
     rw [e1,Q1,Nc,List.take_length,List.nil_append,B9,hlen]
     rfl
    by_cases h256:256<m
    ·rw [if_pos h256]
     refine .inr (.inl ⟨3,B3 ((s.take m).map (·.toNat)),s.drop (m+1),128,0,72,false,rfl,λR k0 k1 k2=>?_⟩)
     rw [top2,A9]
     rfl
    ·rw [if_neg h256,if_neg (show ¬ m=0 by omega)]
     exact .inr (key _ (s.drop (m+1)) (by rw [hlen];omega) (by rw [List.length_drop];omega) (λR k0 k1 k2=>by rw [top2,A7];rfl))
   ·have hz:E1 s=0:=by omega
    have hI:¬ 0<G3 45 s:=by
     by_cases hm:45∈s
     all_goals grind
    rw [hz,G7,if_pos rfl]
    refine .inr (key [] s (by simp) (by omega) (λR k0 k1 k2=>?_))
    rw [top,A7]
    rfl
theorem Oc (l:List Nat):(B3 l).isEmpty=l.isEmpty:=by cases l<;>rfl
theorem Bg2 (s:By) (h0:A2 s.length=true):∃ r H,Ol LF s (λr0=>rv (.tup [.fl 0,.s (.int .i64 r0)]) [.arr true 3 1 []]) (λr0 l1 s2 n3 n4 n5 b6=>rv (.tup [.fl 2,.s (.int .i64 r0)]) [.arr true 3 1 l1,.box [.s (.str s2),.fl 0,.s (.int .i64 n3),.s (.int .i64 n4),.s (.int .i64 n5),.s (.bool b6)],.arr true 3 1 []]) (λl0 s1 n2 n3 n4 b5=>rv (.tup [.fl 0,.s (.int .i64 (0:Int))]) [.arr true 3 1 l0,.box [.s (.str s1),.fl 0,.s (.int .i64 n2),.s (.int .i64 n3),.s (.int .i64 n4),.s (.bool b5)]])=rv r H/\
  r.stab [1,0] H = .tup [.s (.sl (J5 s).1.isEmpty (J5 s).1.isEmpty 1 (Rz (J5 s).1)),.s (.int .i64 ((J5 s).2:Nat))]:=by
 rcases US s h0 with ⟨e,h1,h2⟩ | ⟨e,l,s',n',i',b',st',h1,h2⟩ | ⟨h1,s',n',i',b',st',h2⟩
 ·refine ⟨_,_,h2 _ _ _ _,?_⟩
  rw [h1]
  rfl
 ·refine ⟨_,_,h2 _ _ _ _,?_⟩
  rw [h1]
  rfl
 ·refine ⟨_,_,h2 _ _ _ _,?_⟩
  rw [h1,Fs]
  simp [PV.stab,Im,Rm,PV.snap,I6,Oc]
end
section
open Go
theorem Yw:∀ (n m:Nat) (l:By),l.length<=n->l.length<=m->Tn n l=Tn m l
 | 0,m,l,hn,_=>by
  have:l=[]:=List.length_eq_zero_iff.1 (by omega)
  subst this;cases m<;>simp [Tn]
 | n+1,0,l,_,hm=>by
  have:l=[]:=List.length_eq_zero_iff.1 (by omega)
  subst this;simp [Tn]
 | n+1,m+1,l,hn,hm=>by
  unfold Tn
  split
  ·rfl
  ·rename_i hne
   have hw:=Lib.decodeL_width l
   have hl:0<l.length:=List.length_pos_iff.2 hne
   rw [Yw n m (l.drop (Lib.decodeL l).2) (by rw [List.length_drop];omega) (by rw [List.length_drop];omega)]
theorem Ai2 (l:By) (hne:l≠[]):Sb l=if (Lib.decodeL l).1=65533/\(Lib.decodeL l).2=1 then none else (Sb (l.drop (Lib.decodeL l).2)).map ((Lib.decodeL l).1::·):=by
 have hl:0<l.length:=List.length_pos_iff.2 hne
 have hw:=Lib.decodeL_width l
 obtain ⟨n,hn⟩:∃ n,l.length=n+1:=⟨l.length-1,by omega⟩
 unfold Sb
 rw [hn]
 conv=>lhs;unfold Tn
 rw [if_neg hne,Yw n (l.drop (Lib.decodeL l).2).length _ (by rw [List.length_drop];omega) (Nat.le_refl _)]
open Lib in theorem B15 (n b0 b1 b2 b3:Nat) (hb:194<=b0/\b0<224) (h1:b1<256):decodeN n b0 b1 b2 b3=if 2<=n/\128<=b1/\b1<=191 then ((b0-192)*64+b1-128,2) else (65533,1):=by
 unfold decodeN
 rw [G7]
 by_cases hc:2<=n/\128<=b1/\b1<=191
 ·rw [if_pos hc,Fq,Fq]
  exact Prod.ext (by show b0 % 32*64+b1 % 64=(b0-192)*64+b1-128;omega) rfl
 ·rw [if_neg hc,G7,G7,G7]
open Lib in theorem B16 (n b0 b1 b2 b3:Nat) (hb:224<=b0/\b0<240) (h1:b1<256) (h2:b2<256):decodeN n b0 b1 b2 b3=if 3<=n/\(128<=b1/\b1<=191)/\(128<=b2/\b2<=191) then
  (if 2048<=((b0-224)*64+b1-128)*64+b2-128/\Q6 (((b0-224)*64+b1-128)*64+b2-128)=true then (((b0-224)*64+b1-128)*64+b2-128,3) else (65533,1)) else (65533,1):=by
 unfold decodeN
 rw [G7,G7]
 by_cases hc:3<=n/\(128<=b1/\b1<=191)/\(128<=b2/\b2<=191)
 ·rw [if_pos hc,Fq]
  have e:b0 % 16*4096+b1 % 64*64+b2 % 64=((b0-224)*64+b1-128)*64+b2-128:=by omega
  rw [e]
  generalize ((b0-224)*64+b1-128)*64+b2-128=v
  congr 1
  simp only [Q6,Bool.and_eq_true,Bool.or_eq_true,Nat.ble_eq,Nat.blt_eq]
  apply propext;omega
 ·rw [if_neg hc,G7,G7]
open Lib in theorem B17 (n b0 b1 b2 b3:Nat) (hb:240<=b0/\b0<245) (h1:b1<256) (h2:b2<256) (h3:b3<256):decodeN n b0 b1 b2 b3=if 4<=n/\(128<=b1/\b1<=191)/\(128<=b2/\b2<=191)/\(128<=b3/\b3<=191) then
  (if 65536<=(((b0-240)*64+b1-128)*64+b2-128)*64+b3-128/\Q6 ((((b0-240)*64+b1-128)*64+b2-128)*64+b3-128)=true then ((((b0-240)*64+b1-128)*64+b2-128)*64+b3-128,4) else (65533,1)) else (65533,1):=by
 unfold decodeN
 rw [G7,G7,G7]
 by_cases hc:4<=n/\(128<=b1/\b1<=191)/\(128<=b2/\b2<=191)/\(128<=b3/\b3<=191)
 ·rw [if_pos hc,Fq]
  have e:b0 % 8*262144+b1 % 64*4096+b2 % 64*64+b3 % 64=(((b0-240)*64+b1-128)*64+b2-128)*64+b3-128:=by omega
  rw [e]
  generalize (((b0-240)*64+b1-128)*64+b2-128)*64+b3-128=v
  congr 1
  simp only [Q6,Bool.and_eq_true,Bool.or_eq_true,Nat.ble_eq,Nat.blt_eq]
  apply propext;omega
 ·rw [if_neg hc,G7]
end
section
open Go Go.Proofs
theorem LK (l:List Nat):X9 (l.map λn:Nat=>(n:Int))=Gj l:=by
 have h1:(l.map λn:Nat=>(n:Int)).all ptI=l.all Q6:=by
  rw [List.all_map]
  congr 1
 have h2:(l.map λn:Nat=>(n:Int)).map Int.toNat=l:=by
  rw [List.map_map]
  exact (List.map_congr_left λa _=>by simp).trans (List.map_id l)
 unfold X9
 rw [List.length_map,h1,h2]
 by_cases h:256<l.length
 ·rw [if_pos h];unfold Gj;rw [if_pos h]
 ·rw [if_neg h]
  cases hp:l.all Q6 with
  | true=>rw [if_pos rfl]
  | false=>
   rw [if_neg (by simp)]
   unfold Gj
   grind
theorem LJ (l:List Nat):(B3 l).map elI=l.map λn:Nat=>(n:Int):=by
 unfold B3
 rw [List.map_map]
 exact List.map_congr_left λa _=>rfl
theorem Kn (l:List Nat):(B3 l).all Ns=true:=by
 unfold B3
 rw [List.all_map,List.all_eq_true]
 intro x _
 rfl
theorem UA {R:Type} {k0:Unit->Option R} {k1:By->Bool->LL->Bool->Option R} (s:By) (z:Bool) (p:List Nat) (hp:p.length<=1000000000):∀ (r i n:Nat) (b:Bool),i+r=p.length->r<n->
  R0 LF n s z (B3 p) b (p.length:Int) (i:Int) k0 k1=if (p.drop i).any (λp=>Nat.ble 65 p&&Nat.ble p 90) then k0 () else k1 s z (B3 p) (b && !((p.drop i).any λp=>Nat.ble 128 p)):=by
 intro r
 induction r with
 | zero=>
  intro i n b hi hn
  obtain ⟨n,rfl⟩:∃ m,n=m+1:=⟨n-1,by omega⟩
  rw [R0]
  rw [A7,List.drop_of_length_le (by omega)]
  simp
 | succ r ih=>
  intro i n b hi hn
  obtain ⟨n,rfl⟩:∃ m,n=m+1:=⟨n-1,by omega⟩
  rw [R0]
  have e1:A1 ((i:Int)+1)=((i+1:Nat):Int):=by rw [A5];rfl
  have hd:p.drop i=p.getD i 0::p.drop (i+1):=by
   rw [List.getD_eq_getElem?_getD,List.getElem?_eq_getElem (by omega),Option.getD_some,List.getElem_cons_drop]
  rw [A9,B9,L1,Int.toNat_natCast,Jx (by omega),Rn _ _ (by omega),hd,List.any_cons,List.any_cons,e1]
  simp only [cond_true,vl]
  generalize p.getD i 0=q
  have go:∀ c:Bool,R0 LF n s z (B3 p) c (p.length:Int) ((i+1:Nat):Int) k0 k1=_:=λc=>ih (i+1) n c (by omega) (by omega)
  by_cases h1:q<65
  ·rw [A9,show Nat.ble 65 q=false by rw [Bool.eq_false_iff,ne_eq,Nat.ble_eq];omega]
   have h2:Nat.ble 128 q=false:=by rw [Bool.eq_false_iff,ne_eq,Nat.ble_eq];omega
   rw [show ltI (q:Int) (128:Int)=true from A9,h2]
   simp only [Bool.not_true,cond_false,Bool.false_and,Bool.false_or]
   cases b<;>simp only [cond_true,cond_false]<;>rw [go]
  ·rw [A7,show Nat.ble 65 q=true by rw [Nat.ble_eq];omega]
   simp only [Bool.not_false,cond_true,Bool.true_and]
   by_cases h2:90<q
   ·rw [A9,show Nat.ble q 90=false by rw [Bool.eq_false_iff,ne_eq,Nat.ble_eq];omega]
    simp only [Bool.not_true,cond_false,Bool.false_or]
    by_cases h3:q<128
    ·rw [show ltI (q:Int) (128:Int)=true from A9,show Nat.ble 128 q=false by rw [Bool.eq_false_iff,ne_eq,Nat.ble_eq];omega]
     cases b<;>simp only [cond_true,cond_false,Bool.false_or]<;>rw [go]
    ·rw [show ltI (q:Int) (128:Int)=false from A7,show Nat.ble 128 q=true by rw [Nat.ble_eq];omega]
     cases b<;>simp only [cond_true,cond_false,Bool.true_or,Bool.not_true,Bool.and_false]<;>rw [go]<;>simp
   ·rw [A7,show Nat.ble q 90=true by rw [Nat.ble_eq];omega]
    simp
theorem SL:∀ (m:Nat) (s:By) (pts:List Nat) (n i b:Nat) (f:Bool),s.length<=m->pts.length<=256->(E9 s pts n i b f).1.length<=256:=by
 intro m
 induction m with
 | zero=>
  intro s pts n i b f hs hp
  obtain rfl:=List.length_eq_zero_iff.1 (Nat.le_zero.1 hs)
  rw [Y7]
  exact hp
 | succ m ih=>
  intro s pts n i b f hs hp
  by_cases h:s=[]
  ·grind
  ·by_cases hq:(C2 b s i 1 0).2.2=0
   ·rw [Aj h _ _ _ _ _ hq]
    have hlt:=Jr b s i 1 0 hq
    split
    ·split
     ·grind
     ·rename_i h2
      exact ih _ _ _ _ _ _ (by omega) (by rw [V2];omega)
    grind
   ·rw [Co h _ _ _ _ _ hq]
    grind
theorem LD (s:By):(J5 s).1.length<=256:=by
 unfold J5
 split
 ·grind
 ·split
  ·grind
  ·split
   ·grind
   ·rename_i h
    exact SL _ _ _ _ _ _ _ (Nat.le_refl _) (by rw [List.length_map,List.length_take];omega)
theorem UB {R:Type} {k0:Bool->Option R} (s:By) (h0:A2 s.length=true):ZO LF s k0=k0 (Ad s):=by
 have hLF:=E8
 unfold ZO Ad
 rw [h0,cond_true]
 by_cases h:(J5 s).2=0
 ·have e:(((J5 s).2:Int) != (0:Int))=false:=by rw [h];rfl
  rw [e,cond_false,Fs,B9,h]
  have hl:=LD s
  refine Eq.trans (UA s _ (J5 s).1 (by omega) (J5 s).1.length 0 LF true (by omega) (by omega)) ?_
  rw [List.drop_zero]
  cases h1:(J5 s).1.any (λp=>Nat.ble 65 p&&Nat.ble p 90) with
  | true=>simp
  | false=>
   rw [if_neg (by simp),Kn,LJ,LK]
   simp only [cond_true,vl,Bool.true_and,Bool.not_false]
   cases h2:(J5 s).1.any (λp=>Nat.ble 128 p) with
   | false=>simp
   | true=>
    simp only [Bool.not_true,Bool.not_false,cond_true,Bool.and_true,beq_self_eq_true,Bool.true_and]
    by_cases h3:(Gj (J5 s).1).2=0
    all_goals grind
 grind
theorem Ag4 {R:Type} {k0:Unit->Option R} {k1:By->Option R} (s:By) (hs:s.length<=1000000000):∀ (r i n:Nat),i+r=s.length->r<n->
  M9 LF n s (s.length:Int) (i:Int) k0 k1=if (s.drop i).all Q5 then k1 s else k0 ():=by
 intro r
 induction r with
 | zero=>
  intro i n hi hn
  obtain ⟨n,rfl⟩:∃ m,n=m+1:=⟨n-1,by omega⟩
  rw [M9]
  rw [A7,List.drop_of_length_le (by omega)]
  rfl
 | succ r ih=>
  intro i n hi hn
  obtain ⟨n,rfl⟩:∃ m,n=m+1:=⟨n-1,by omega⟩
  rw [M9]
  have e1:A1 ((i:Int)+1)=((i+1:Nat):Int):=by rw [A5];rfl
  rw [A9,L1,L9,L5 s i (by omega),e1,List.all_cons]
  simp only [cond_true]
  rw [ih (i+1) n (by omega) (by omega)]
  generalize s.getD i 0=b
  have hb:=Tf b
  have q1:((b.toNat:Int) != 45) = !(b==45):=congrArg _ (U5 b 45 (by omega))
  have q2:((b.toNat:Int) != 95) = !(b==95):=congrArg _ (U5 b 95 (by omega))
  rw [q1,q2]
  have t:∀ {x:Bool},Q5 b=x->(if (Q5 b&&(s.drop (i+1)).all Q5)=true then k1 s else k0 ())=if (x&&(s.drop (i+1)).all Q5)=true then k1 s else k0 ():=λh=>by rw [h]
  cases hl:Q5 b with
  | true=>
   rw [hb] at hl
   simp only [Bool.true_and]
   by_cases h1:b=45
   ·subst h1
    simp (disch:=decide) [ltI]
   ·by_cases h2:b=95
    ·subst h2
     simp (disch:=decide) [ltI]
    ·rcases hl with hl | hl | hl | hl
     ·rw [show ltI (b.toNat:Int) 97=false from A7,show ltI (122:Int) b.toNat=false from A7];rfl
     ·rw [show ltI (b.toNat:Int) 97=true from A9,show ltI (b.toNat:Int) 48=false from A7,show ltI (57:Int) b.toNat=false from A7];rfl
     ·exact absurd hl h1
     ·exact absurd hl h2
  | false=>
   have hn:¬ ((97<=b.toNat/\b.toNat<=122)\/(48<=b.toNat/\b.toNat<=57)\/b=45\/b=95):=λh=>by rw [hb.2 h] at hl;cases hl
   have n1:(b==45)=false:=by simpa using λh=>hn (.inr (.inr (.inl h)))
   have n2:(b==95)=false:=by simpa using λh=>hn (.inr (.inr (.inr h)))
   rw [n1,n2]
   simp only [Bool.not_false,cond_true,Bool.false_and,Bool.false_eq_true,if_false]
   by_cases h1:b.toNat<48
   ·rw [show ltI (b.toNat:Int) 97=true from A9,show ltI (b.toNat:Int) 48=true from A9];rfl
   ·by_cases h2:b.toNat<97
    ·rw [show ltI (b.toNat:Int) 97=true from A9,show ltI (b.toNat:Int) 48=false from A7,show ltI (57:Int) b.toNat=true from A9];rfl
    ·rw [show ltI (b.toNat:Int) 97=false from A7,show ltI (122:Int) b.toNat=true from A9,show ltI (b.toNat:Int) 48=false from A7,show ltI (57:Int) b.toNat=true from A9];rfl
theorem Ag5 {R:Type} {k0:Bool->Option R} (s:By) (h0:A2 s.length=true):Be7 LF s k0=k0 (O7 s):=by
 have hs:=N8 h0
 have hLF:=E8
 unfold Be7 O7
 by_cases h1:s=[]
 ·simp_all
 ·have hl:0<s.length:=List.length_pos_iff.2 h1
  have he:s.isEmpty=false:=by simpa using h1
  rw [A7,cond_false,he]
  by_cases h2:63<s.length
  ·rw [A9,show Nat.ble s.length 63=false by rw [Bool.eq_false_iff,ne_eq,Nat.ble_eq];omega]
   rfl
  ·rw [A7,cond_false,show Nat.ble s.length 63=true by rw [Nat.ble_eq];omega,L1]
   have q1:(bAt s 0==(45:Int))=(s.getD 0 0==45):=by rw [Ia];exact U5 _ 45 (by omega)
   have e1:A1 ((s.length:Int)-1)=((s.length-1:Nat):Int):=by rw [A5];omega
   rw [q1,e1]
   simp only [cond_true,vl]
   rw [L1,L9,show ((((s.getD (s.length-1) 0).toNat:Nat):Int)==45)=(s.getD (s.length-1) 0==45) from U5 _ 45 (by omega)]
   cases h3:(s.getD 0 0==45) with
   | true=>
    grind
   | false=>
    rw [show (s.getD 0 0 != 45)=true by unfold bne;rw [h3];rfl]
    simp only [cond_true,cond_false]
    cases h4:(s.getD (s.length-1) 0==45) with
    | true=>
     grind
    | false=>
     rw [show (s.getD (s.length-1) 0 != 45)=true by unfold bne;rw [h4];rfl]
     simp only [cond_false]
     refine Eq.trans (Ag4 s hs s.length 0 LF (by omega) (by omega)) ?_
     rw [List.drop_zero]
     cases h5:s.all Q5 with
     | false=>simp
     | true=>
      rw [if_pos rfl,h0,cond_true]
      simp only [Bool.not_false,Bool.true_and,Bool.and_true]
      show cond (!(xnB.isPrefixOf s)) _ _=_
      cases h6:xnB.isPrefixOf s with
      | false=>rfl
      | true=>
       have hc:Xl s xnB=s.drop 4:=by unfold Xl;rw [h6];rfl
       show cond (A2 (Xl s xnB).length) (k0 (Ad (Xl s xnB))) none=_
       rw [hc,I9 (by rw [List.length_drop];omega)]
       rfl
abbrev B14 (kd:Int) (nm:By) (v4 a0 a1 a2 a3 a4 a5 a6 a7:Int):List PV:=[.s (.int .i64 kd),.s (.str nm),.s (.int .u32 v4),.s (.int .u16 a0),.s (.int .u16 a1),.s (.int .u16 a2),.s (.int .u16 a3),.s (.int .u16 a4),.s (.int .u16 a5),.s (.int .u16 a6),.s (.int .u16 a7)]
theorem MG {R:Type} {k0 k1:Unit->Option R}:∀ l:List By,(∀ x∈l,x.length<=1000000000)->Xx LF l k0 k1=if l.all O7 then k0 () else k1 ()
 | [],_=>rfl
 | x::r,h=>by
  rw [MF]
  unfold Ux
  rw [I9 (h x (by simp)),cond_true,List.all_cons]
  have ih:=MG (k0:=k0) (k1:=k1) r (λy hy=>h y (by simp [hy]))
  grind
theorem Br2 (s:By) (h0:A2 s.length=true):∃ r H,hvn LF s (λ_=>rv (.s (.bool false)) [.box [.s (.bool false)]]) (λr0 b1=>rv (.s (.bool r0)) [.box [.s (.bool b1)],.box [.bad],.box [.bad],.box [.bad]])=rv r H/\r.stab [] H = .s (.bool (D3 s)):=by
 have hs:=N8 h0
 unfold hvn ID D3
 by_cases h1:253<s.length
 ·rw [A9,show Nat.ble s.length 253=false by rw [Bool.eq_false_iff,ne_eq,Nat.ble_eq];omega]
  exact ⟨_,_,rfl,rfl⟩
 ·rw [A7,cond_false,h0,cond_true,show Nat.ble s.length 253=true by rw [Nat.ble_eq];omega]
  cases h2:N5 s with
  | true=>exact ⟨_,_,rfl,rfl⟩
  | false=>
   rw [cond_false,show ((1:Nat)==1&&(0:Int)==(0:Int))=true from rfl,show ([46]:By).getD 0 0=46 from rfl,Bool.and_true,cond_true,MG _ (λx hx=>by have:=(Kb hx).2;omega)]
   cases h3:(pcs 46 s).all O7 with
   | true=>exact ⟨_,_,rfl,rfl⟩
   | false=>exact ⟨_,_,rfl,rfl⟩
theorem Bz2 (b0 b1 b2 b3 b4 b5 b6 b7:Nat):(n8 (b0:Int) b1 b2 b3 b4 b5 b6 b7==z8)=(((b0:Int)==0)&&(((b1:Int)==0)&&(((b2:Int)==0)&&(((b3:Int)==0)&&(((b4:Int)==0)&&(((b5:Int)==0)&&(((b6:Int)==0)&&(((b7:Int)==0)&&true)))))))):=by
 have e:n8 (b0:Int) b1 b2 b3 b4 b5 b6 b7=[b0,b1,b2,b3,b4,b5,b6,b7]:=rfl
 have q:∀ b:Nat,((b:Int)==0)=(b==0):=λb=>by grind
 rw [e]
 simp only [q,z8]
 rfl
theorem Bc3 (kd:Int) (nm:By) (v4 a0 a1 a2 a3 a4 a5 a6 a7:Int) (h0:A2 nm.length=true) (h1:ltN v4 4294967296=true) (h2:ok8 a0 a1 a2 a3 a4 a5 a6 a7=true) :
  ∃ r H,Ht LF kd nm v4 a0 a1 a2 a3 a4 a5 a6 a7 (λr0 n1 s2 n3 n4 n5 n6 n7 n8 n9 n10 n11 l12=>rv (.s (.bool r0)) [.box (B14 n1 s2 n3 n4 n5 n6 n7 n8 n9 n10 n11),.arr false 26 1 l12])=rv r H/\
   r.stab [] H = .s (.bool (X7 (mkH kd nm v4 (n8 a0 a1 a2 a3 a4 a5 a6 a7)))):=by
 obtain ⟨b0,b1,b2,b3,b4,b5,b6,b7,rfl,rfl,rfl,rfl,rfl,rfl,rfl,rfl,hb⟩:=Bf6 h2
 obtain ⟨v0,v1⟩:=I3.1 h1
 obtain ⟨v,rfl⟩:=Int.eq_ofNat_of_zero_le v0
 have qv:((v:Int)==0)=(v==0):=by
  rw [Bool.eq_iff_iff,beq_iff_eq,beq_iff_eq];omega
 have qn:(nm==([]:By))=nm.isEmpty:=by cases nm<;>rfl
 have hk:(mkH kd nm (v:Int) (n8 (b0:Int) b1 b2 b3 b4 b5 b6 b7)).kind=if ltN kd 4 then kd.toNat else 0:=rfl
 have hn:(mkH kd nm (v:Int) (n8 (b0:Int) b1 b2 b3 b4 b5 b6 b7)).name=nm:=rfl
 have hv:(mkH kd nm (v:Int) (n8 (b0:Int) b1 b2 b3 b4 b5 b6 b7)).v4=v:=Int.toNat_natCast v
 have h6:(mkH kd nm (v:Int) (n8 (b0:Int) b1 b2 b3 b4 b5 b6 b7)).v6=n8 (b0:Int) b1 b2 b3 b4 b5 b6 b7:=rfl
 unfold Ht X7
 rw [hk,hn,hv,h6,Bz2,qv,qn]
 by_cases k1:kd=1
 ·subst k1
  rw [show ((1:Int)==1)=true from rfl,cond_true,h0,cond_true,if_pos (by decide)]
  cases D3 nm with
  | false=>exact ⟨_,_,rfl,rfl⟩
  | true=>
   cases (v==0) with
   | false=>exact ⟨_,_,rfl,rfl⟩
   | true=>exact ⟨_,_,rfl,rfl⟩
 ·rw [show (kd==(1:Int))=false by simpa using k1,cond_false]
  by_cases k2:kd=2
  ·subst k2
   rw [show ((2:Int)==2)=true from rfl,cond_true,if_neg (by decide),if_pos (by decide)]
   cases nm.isEmpty with
   | false=>exact ⟨_,_,rfl,rfl⟩
   | true=>exact ⟨_,_,rfl,rfl⟩
  ·rw [show (kd==(2:Int))=false by simpa using k2,cond_false]
   by_cases k3:kd=3
   ·subst k3
    rw [show ((3:Int)==3)=true from rfl,cond_true,if_neg (by decide),if_neg (by decide),if_pos (by decide)]
    cases nm.isEmpty with
    | false=>exact ⟨_,_,rfl,rfl⟩
    | true=>exact ⟨_,_,rfl,rfl⟩
   ·rw [show (kd==(3:Int))=false by simpa using k3,cond_false]
    have hkk:(if ltN kd 4 then kd.toNat else 0)=0:=by
     split
     ·rename_i h
      have:=I3.1 h
      omega
     ·rfl
    rw [hkk]
    exact ⟨_,_,rfl,rfl⟩
theorem UC {R:Type} {k0:By->By->Int->Option R} (t p:By) (n:Int):Ax8 LF t p n k0=k0 t p n:=rfl
theorem Al1 {R:Type} {k0:By->By->Option R} (t p:By):Bt0 LF t p k0=k0 t p:=rfl
theorem Ae1 {R:Type} {k0:By->Option R} (t:By):Bq9 LF t k0=k0 t:=rfl
theorem Ac6 {c:UInt8} {s:By} (h:c∉s):Lib.cut s [c]=(s,[],false):=by
 unfold Lib.cut
 rw [Ls h,if_neg (by decide)]
theorem Au7 {c:UInt8} {p r:By} (h:c∉p):Lib.cut (p++c::r) [c]=(p,r,true):=by
 unfold Lib.cut
 rw [Rq h,Fq,Int.toNat_natCast,List.take_left,List.length_singleton]
 simp_all
theorem XL {σ R:Type} (yh:Yh σ) (c:UInt8):∀ (m:Nat) (t:By) (n:Nat) (s s':σ),t.length<=m->t.length<=1000000000->m<n->Q0 yh ((pcs c t).map λx=>([.s (.str x)]:List PV)) s=some s'->
  ∃ t' , (∃ s0:σ,∃ b:Bool,yh [.s (.str t')] s0=some (b,s')/\∀ (k0 k1:By->By->Int->σ->Option R),N6 yh LF n [c] t 0 s k0 k1=k0 [c] t' 0 s0)\/(∀ (k0 k1:By->By->Int->σ->Option R),N6 yh LF n [c] t 0 s k0 k1=k1 [c] t' 0 s'):=by
 intro m
 induction m with
 | zero=>
  intro t n s s' ht ht2 hn h
  obtain rfl:=List.length_eq_zero_iff.1 (Nat.le_zero.1 ht)
  obtain ⟨n,rfl⟩:∃ m,n=m+1:=⟨n-1,by omega⟩
  rw [Jb (by simp)] at h
  simp only [List.map_cons,List.map_nil,Q0] at h
  refine ⟨[],.inl ⟨s,?_⟩⟩
  have e:∀ (k0 k1:By->By->Int->σ->Option R),N6 yh LF (n+1) [c] [] 0 s k0 k1=k0 [c] [] 0 s:=λk0 k1=>by
   rw [N6]
   rw [Ls (by simp)]
   rfl
  cases hy:yh [.s (.str [])] s with
  | none=>rw [hy] at h;cases h
  | some q=>
   obtain ⟨b,s1⟩:=q
   rw [hy] at h
   have:s1=s':=by cases b<;>simpa using h
   subst this
   exact ⟨b,rfl,e⟩
 | succ m ih=>
  intro t n s s' ht ht2 hn h
  obtain ⟨n,rfl⟩:∃ m,n=m+1:=⟨n-1,by omega⟩
  rcases Eh c t with hc | ⟨p,r,rfl,hc⟩
  ·rw [Jb hc] at h
   simp only [List.map_cons,List.map_nil,Q0] at h
   refine ⟨t,.inl ⟨s,?_⟩⟩
   have e:∀ (k0 k1:By->By->Int->σ->Option R),N6 yh LF (n+1) [c] t 0 s k0 k1=k0 [c] t 0 s:=λk0 k1=>by
    rw [N6]
    rw [Ls hc,I9 ht2]
    rfl
   cases hy:yh [.s (.str t)] s with
   | none=>rw [hy] at h;cases h
   | some q=>
    obtain ⟨b,s1⟩:=q
    rw [hy] at h
    have:s1=s':=by cases b<;>simpa using h
    subst this
    exact ⟨b,rfl,e⟩
  ·rw [Ve hc] at h
   simp only [List.map_cons,Q0] at h
   have hlen:(p++c::r).length=p.length+r.length+1:=by rw [List.length_append,List.length_cons];omega
   have e1:A1 ((p.length:Int)+0)=((p.length:Nat):Int):=by rw [A5];omega
   have e2:A1 ((p.length:Int)+(([c]:By).length:Int))=((p.length+1:Nat):Int):=by
    rw [E3 (by simp;omega) (by simp;omega)];simp
   have e3:cut (p++c::r) 0 (p.length:Int)=p:=by rw [Ai,Int.toNat_natCast,List.take_left]
   have e4:cut (p++c::r) ((p.length+1:Nat):Int) ((p++c::r).length:Int)=r:=by
    rw [M7,Int.toNat_natCast,show p++c::r=(p++[c])++r by simp,List.drop_left' (by simp)]
   have top:∀ (k0 k1:By->By->Int->σ->Option R),N6 yh LF (n+1) [c] (p++c::r) 0 s k0 k1=ydK (yh [.s (.str p)] s) λb s1=>cond (not b) (k1 [c] (p++c::r) 0 s1) (N6 yh LF n [c] r 0 s1 k0 k1):=λk0 k1=>by
    rw [N6]
    rw [Rq hc,I9 ht2,cond_true,A7,cond_false]
    simp only [vl,e1,e2,e3,e4]
    rw [Q1,cond_true,Q1]
    rfl
   cases hy:yh [.s (.str p)] s with
   | none=>rw [hy] at h;cases h
   | some q=>
    obtain ⟨b,s1⟩:=q
    rw [hy] at h top
    cases b with
    | false=>
     have:s1=s':=by simpa using h
     subst this
     exact ⟨p++c::r,.inr λk0 k1=>by rw [top];rfl⟩
    | true=>
     simp only at h
     obtain ⟨t',⟨s0,b,e,f⟩ | f⟩:=ih r n s1 s' (by omega) (by omega) (by omega) h
     ·exact ⟨t',.inl ⟨s0,b,e,λk0 k1=>by rw [top];exact f k0 k1⟩⟩
     ·exact ⟨t',.inr λk0 k1=>by rw [top];exact f k0 k1⟩
theorem XM {σ R:Type} (yh:Yh σ) (p t:By) (n:Int) (s s':σ) (h:(A2 t.length&&(p.length==1&&n==0))=true) (hr:Q0 yh ((pcs (p.getD 0 0) t).map λx=>([.s (.str x)]:List PV)) s=some s') :
  ∃ t',∀ (k0:By->By->Int->σ->Option R),OE yh LF p t n s k0=k0 p t' n s':=by
 have hLF:=E8
 simp only [Bool.and_eq_true,beq_iff_eq] at h
 obtain ⟨h1,h2,rfl⟩:=h
 obtain ⟨c,rfl⟩:=List.length_eq_one_iff.1 h2
 have ht:=N8 h1
 obtain ⟨t',⟨s0,b,e,f⟩ | f⟩:=XL (R:=R) yh c t.length t LF s s' (Nat.le_refl _) ht (by omega) hr
 ·refine ⟨t',λk0=>?_⟩
  unfold OE
  rw [show (((([c]:By).length:Nat):Int)==0)=false from rfl,cond_false]
  refine Eq.trans (f _ _) ?_
  rw [e]
  rfl
 ·refine ⟨t',λk0=>?_⟩
  unfold OE
  rw [show (((([c]:By).length:Nat):Int)==0)=false from rfl,cond_false]
  exact f _ _
theorem Xw {σ R:Type} (yh:Yh σ):∀ (l:List By) (t:By) (n:Nat) (s s':σ),VN t->pcs 46 t=l->l.length<n->Q0 yh ((X5 l).map λx=>([.s (.str x)]:List PV)) s=some s'->
  ∃ t',∀ (k0:By->σ->Option R),W5 yh LF n t s k0=k0 t' s'
 | [],t,n,s,s',hv,hp,hn,hr=>absurd hp (Ja 46 t)
 | [x],t,n,s,s',hv,hp,hn,hr=>by
  obtain ⟨n,rfl⟩:∃ m,n=m+1:=⟨n-1,by omega⟩
  simp only [X5,List.map_nil,Q0,Option.some.injEq] at hr
  subst hr
  have hno:(46:UInt8)∉t:=by
   intro h
   have h1:=Gy 46 t
   rw [hp] at h1
   have:=List.count_pos_iff.2 h
   simp at h1
   omega
  refine ⟨t,λk0=>?_⟩
  rw [W5]
  rw [Ac6 hno,I9 (by have:=hv.le;omega)]
  rfl
 | x::y::r,t,n,s,s',hv,hp,hn,hr=>by
  obtain ⟨n,rfl⟩:∃ m,n=m+1:=⟨n-1,by omega⟩
  obtain ⟨q1,q2,q3⟩:=hv.super hp
  have hx:(46:UInt8)∉x:=(Kb (s:=t) (x:=x) (by rw [hp];simp)).1
  simp only [X5,List.map_cons,Q0] at hr
  have top:∀ (k0:By->σ->Option R),W5 yh LF (n+1) t s k0=ydK (yh [.s (.str (Lib.join (y::r) [46]))] s) λb s1=>cond (not b) (k0 t s1) (W5 yh LF n (Lib.join (y::r) [46]) s1 k0):=λk0=>by
   rw [W5]
   have:Lib.cut t [46]=(x,Lib.join (y::r) [46],true):=by rw [q1];exact Au7 hx
   rw [this,I9 (by have:=hv.le;omega)]
   rfl
  cases hy:yh [.s (.str (Lib.join (y::r) [46]))] s with
  | none=>rw [hy] at hr;cases hr
  | some q=>
   obtain ⟨b,s1⟩:=q
   rw [hy] at hr top
   cases b with
   | false=>
    have:s1=s':=by simpa using hr
    subst this
    exact ⟨t,λk0=>by rw [top];rfl⟩
   | true=>
    simp only at hr
    obtain ⟨t',f⟩:=Xw yh (y::r) (Lib.join (y::r) [46]) n s1 s' q2 q3 (by simp only [List.length_cons] at hn ⊢;omega) hr
    exact ⟨t',λk0=>by rw [top];exact f k0⟩
theorem TG {σ R:Type} (yh:Yh σ) (t:By) (s s':σ) (h:A2 t.length=true) (hr:Q0 yh ((F9 t).map λx=>([.s (.str x)]:List PV)) s=some s') :
  ∃ t',∀ (k0:By->σ->Option R),MC yh LF t s k0=k0 t' s':=by
 have hLF:=E8
 have ht:=N8 h
 unfold F9 at hr
 cases hv:D3 t with
 | false=>
  rw [hv] at hr
  simp only [Bool.false_eq_true,if_false,List.map_nil,Q0,Option.some.injEq] at hr
  subst hr
  refine ⟨t,λk0=>?_⟩
  unfold MC
  rw [h,hv]
  rfl
 | true=>
  rw [hv,if_pos rfl] at hr
  have hpl:=Gy 46 t
  have hcl:=Fl 46 t
  obtain ⟨t',f⟩:=Xw (R:=R) yh _ t LF s s' (Dj.1 hv) rfl (by omega) hr
  refine ⟨t',λk0=>?_⟩
  unfold MC
  rw [h,hv]
  exact f _
set_option maxRecDepth 100000
def Tru (x:Option (PV × List Blk × Unit)):Prop:=∃ H,x=some (.s (.bool true),H,())
theorem Av3 {els:LL} (h:∀ el∈els,Ty.ofL [.str,.bool] el):els.all D5=true:=by
 rw [List.all_eq_true]
 intro el he
 have:=h el he
 simp only [Ty.ofL,Ty.of] at this
 obtain ⟨_,_,rfl,⟨l,rfl,_⟩,_,_,rfl,⟨b,rfl⟩,rfl⟩:=this
 rfl
theorem Az2 {els:LL} (h:∀ el∈els,Ty.ofL [.str,.bool,.int .i64] el):els.all F7=true:=by
 rw [List.all_eq_true]
 intro el he
 have:=h el he
 simp only [Ty.ofL,Ty.of] at this
 obtain ⟨_,_,rfl,⟨l,rfl,_⟩,_,_,rfl,⟨b,rfl⟩,_,_,rfl,⟨n,rfl,h1,h2⟩,rfl⟩:=this
 have h1:-9223372036854775808<=n:=h1
 have h2:n<=9223372036854775807:=h2
 exact Aw2.2 ⟨h1,by omega⟩
theorem Aq0 {P:Program} {t:Nat} {v:PV} (h:Mg P t v) (e:Bc P 20 t=some [.slice [.str,.bool]]) (ha:Hz P t=false):∃ z l,v = .s (.sl z false 2 l)/\l.all D5=true/\N2 z l=true:=by
 obtain ⟨x,rfl,h5⟩:=GS h e ha
 simp only [Ty.of,List.length_cons,List.length_nil] at h5
 rcases h5 with rfl | ⟨els,rfl,hl,hall⟩
 ·exact ⟨true,[],rfl,rfl,rfl⟩
 ·exact ⟨false,els,rfl,Av3 hall,rfl⟩
theorem Aq1 {P:Program} {t:Nat} {v:PV} (h:Mg P t v) (e:Bc P 20 t=some [.slice [.str,.bool,.int .i64]]) (ha:Hz P t=false):∃ z l,v = .s (.sl z false 3 l)/\l.all F7=true/\N2 z l=true:=by
 obtain ⟨x,rfl,h5⟩:=GS h e ha
 simp only [Ty.of,List.length_cons,List.length_nil] at h5
 rcases h5 with rfl | ⟨els,rfl,hl,hall⟩
 ·exact ⟨true,[],rfl,rfl,rfl⟩
 ·exact ⟨false,els,rfl,Az2 hall,rfl⟩
theorem A69 {P:Program} {t:Nat} {v:PV} (h:Mg P t v) (e:Bc P 20 t=some [.str,.str]) (ha:Hz P t=true):∃ a b,v = .agg [.s (.str a),.s (.str b)]:=by
 obtain ⟨tys,l,h1,h2,h3⟩:=h
 rw [e] at h1
 obtain rfl:=Option.some.inj h1
 simp only [Ty.ofL,Ty.of] at h2
 obtain ⟨_,_,rfl,⟨a,rfl,_⟩,_,_,rfl,⟨b,rfl,_⟩,rfl⟩:=h2
 rcases h3 with ⟨_,rfl⟩ | ⟨h3,_⟩
 ·exact ⟨a,b,rfl⟩
 ·rw [ha] at h3;cases h3
theorem DT {n:Int} {l:LL} (hn:n<=1000) (h:Ay n l=true):l.all smE=true/\A2 l.length=true:=by
 unfold Ay at h
 rw [Bool.and_eq_true,List.all_eq_true] at h
 refine ⟨List.all_eq_true.2 λel he=>?_,?_⟩
 ·have:=h.2 el he
  rw [P9] at this
  unfold smE
  exact I9 (by simp at this;omega)
 ·have:=h.1
  rw [P9] at this
  exact I9 (by simp at this;omega)
end
end Go.Proofs.YtelhbgonncceeaaGreatDoor.E
