/-
  Parts of the proof, merged by a program of the prover's own; no condition.
-/
import Derived.Test.YtelhbgonncceeaaGreatDoorKCD3
import Derived.BigQuiet
import Derived.Deep.QuietTactic
import Derived.Ground.SlsfProg
import Derived.LoopTactic
import Derived.Shelf.Abstract
import Derived.Shelf.LaysM
import Derived.Shelf.SlSortCmp.WholeK
import Derived.Shelf.Small.Strs
import Derived.Shelf.Spec.SlicesInsert
import Derived.Shelf.Spec.SlicesInsertGrow
import Derived.Shelf.Spec.TrailingZeros
import Derived.Shelf.Strconv.Itoa3
import Derived.Shelf.Strings.Count
import Derived.Shelf.Strings.Cut
import Derived.Shelf.Strings.IndexAnyAll
import Derived.Shelf.Strings.LastIndex
import Derived.Shelf.Strings.OnBuilder
import Derived.Shelf.Strings.Search3
import Derived.Shelf.Unicode.ValidAny
import Derived.Shelf.Utf8.RuneCount
import Derived.Test.YtelhbgonncceeaaGreatDoorProg
import Derived.WalkKit
import Derived.WalkMore
namespace Go.Proofs.YtelhbgonncceeaaGreatDoor.E
set_option linter.all false
section
open Go Go.Proofs
theorem Pc (k b:Nat):H4 ((36*k:Nat):Int) (b:Int)=(thr k b:Int):=by
 unfold H4 thr
 omega
theorem Aa0 {R:Type} {k0:Int->Option R} (b:Int):Bf0 LF b k0=k0 b:=rfl
theorem QZ {R:Type} {k0:Int->Int->Int->Option R} (k b:Int) (h0:ltN k 1000000000000=true) (h1:ltN b 1000000=true):WN LF k b k0=k0 (H4 k b) (Int.add k 36) b:=by
 obtain ⟨a0,a1⟩:=K9.1 h0
 obtain ⟨b0,b1⟩:=K9.1 h1
 unfold WN
 have e1:A1 (k+36)=k+36:=A3
 have e2:A1 (k+36-b)=k+36-b:=A3
 simp only [vl,e1,e2]
 have:(if (26:Int)<(if (1:Int) > k+36-b then (1:Int) else k+36-b) then (26:Int) else (if (1:Int) > k+36-b then (1:Int) else k+36-b))=H4 k b:=by
  unfold H4
  omega
 grind
theorem Jr {q k b:Nat} (h:q<thr k b):K8 q k b=[T3 q]:=by rw [K8,dif_pos h]
theorem Qr {q k b:Nat} (h:¬ q<thr k b):K8 q k b=T3 (thr k b+(q-thr k b) % (36-thr k b))::K8 ((q-thr k b) / (36-thr k b)) (k+1) b:=by rw [K8,dif_neg h]
theorem EZ {x y m:Nat} (hy:10<=y) (h:x<10*m):x / y<m:=by
 have h1:x / y<=x / 10:=Nat.div_le_div_left hy (by omega)
 omega
theorem OO (b:Nat):∀ (r q k:Nat),q<10 ^ r->(K8 q k b).length<=r+1:=by
 intro r
 induction r with
 | zero=>
  intro q k h
  have ht:=P0 k b
  rw [Jr (by simp at h;omega)]
  simp
 | succ r ih=>
  intro q k h
  have ht:=P0 k b
  by_cases hq:q<thr k b
  ·rw [Jr hq];simp
  ·rw [Qr hq,List.length_cons]
   have:=ih ((q-thr k b) / (36-thr k b)) (k+1) (EZ (by omega) (by rw [Nat.pow_succ] at h;omega))
   omega
theorem ZR (z:Bool) (b:Nat) (hb:b<1000000):∀ (r q k n:Nat) (l:LL),q<10 ^ r->q<1152921504606846976->k+r<=1000->r<n->l.length+r<=200000->
  ∃ (n2 n3:Int),∀ (R:Type) (k0:Bool->LL->Int->Int->Option R),Dm LF n (q:Int) z l (b:Int) ((36*k:Nat):Int) k0=k0 z (l++(K8 q k b).map C9) n2 n3:=by
 have fin:∀ (q k n:Nat) (l:LL),q<thr k b->k<=1000->l.length<=200000->∃ (n2 n3:Int),∀ (R:Type) (k0:Bool->LL->Int->Int->Option R),Dm LF (n+1) (q:Int) z l (b:Int) ((36*k:Nat):Int) k0=k0 z (l++(K8 q k b).map C9) n2 n3:=by
  intro q k n l hq hk hl
  have ht:=P0 k b
  refine ⟨(b:Int),Int.add ((36*k:Nat):Int) 36,λR k0=>?_⟩
  rw [Dm]
  rw [L0,L0,Pc,A7,L0,Jr hq]
  simp only [vl,cond_true,Int.toNat_natCast]
  rw [E2 (by omega)]
  rfl
 intro r
 induction r with
 | zero=>
  intro q k n l h _ hk hn hl
  have ht:=P0 k b
  obtain ⟨n,rfl⟩:∃ m,n=m+1:=⟨n-1,by omega⟩
  exact fin q k n l (by simp at h;omega) (by omega) (by omega)
 | succ r ih=>
  intro q k n l h hq60 hk hn hl
  have ht:=P0 k b
  obtain ⟨n,rfl⟩:∃ m,n=m+1:=⟨n-1,by omega⟩
  by_cases hq:q<thr k b
  ·exact fin q k n l hq (by omega) (by omega)
  ·have hd:(q-thr k b) / (36-thr k b)<10 ^ r:=EZ (by omega) (by rw [Nat.pow_succ] at h;omega)
   have hd2:(q-thr k b) / (36-thr k b)<=q:=Nat.le_trans (Nat.div_le_self _ _) (by omega)
   have hm2:(q-thr k b) % (36-thr k b)<36-thr k b:=Nat.mod_lt _ (by omega)
   obtain ⟨n2,n3,e⟩:=ih ((q-thr k b) / (36-thr k b)) (k+1) n (l++[C9 (T3 (thr k b+(q-thr k b) % (36-thr k b)))]) hd (by omega) (by omega) (by omega) (by rw [List.length_append,List.length_singleton];omega)
   refine ⟨n2,n3,λR k0=>?_⟩
   rw [Dm]
   have c1:A1 ((q:Int)-(thr k b:Int))=((q-thr k b:Nat):Int):=by rw [A3];omega
   have c2:A1 ((36:Int)-(thr k b:Int))=((36-thr k b:Nat):Int):=by rw [A3];omega
   have c3:Int.tmod ((q-thr k b:Nat):Int) ((36-thr k b:Nat):Int)=(((q-thr k b) % (36-thr k b):Nat):Int):=Fr _ _
   have c4:Int.tdiv ((q-thr k b:Nat):Int) ((36-thr k b:Nat):Int)=(((q-thr k b) / (36-thr k b):Nat):Int):=J6 _ _
   have c7:((((36-thr k b:Nat):Int)) != 0)=true:=by rw [bne_iff_ne];omega
   rw [L0,L0,Pc,A6]
   simp only [vl,c1,c2,c3,c4,c7,cond_true,cond_false]
   rw [Qr hq]
   generalize hA:(q-thr k b) / (36-thr k b)=A at *
   generalize hB:(q-thr k b) % (36-thr k b)=B at *
   have c5:A1 ((thr k b:Int)+(B:Int))=((thr k b+B:Nat):Int):=by rw [A3];rfl
   have c6:A1 (A:Int)=(A:Int):=A3
   rw [c5,c6,L0,E2 (by omega),Int.toNat_natCast,show Int.add ((36*k:Nat):Int) 36=((36*(k+1):Nat):Int) from (by show ((36*k:Nat):Int)+36=_;omega)]
   refine Eq.trans (e R k0) ?_
   simp [List.append_assoc]
theorem ZS (q b:Int) (z:Bool) (l:LL) (h0:ltN q 1152921504606846976=true) (h1:ltN b 1000000=true) (h2:Nat.ble l.length 100000=true) :
  ∃ (n2 n3:Int),∀ (R:Type) (k0:Bool->LL->Int->Int->Option R),Be6 LF q b z l k0=k0 z (List.append l ((K8 q.toNat 0 b.toNat).map C9)) n2 n3:=by
 obtain ⟨a0,a1⟩:=K9.1 h0
 obtain ⟨b0,b1⟩:=K9.1 h1
 obtain ⟨q,rfl⟩:=Int.eq_ofNat_of_zero_le a0
 obtain ⟨b,rfl⟩:=Int.eq_ofNat_of_zero_le b0
 have hl:=Nat.le_of_ble_eq_true h2
 have hLF:=E5
 obtain ⟨n2,n3,e⟩:=ZR z b (by omega) 19 q 0 LF l (by omega) (by omega) (by omega) (by omega) (by omega)
 exact ⟨n2,n3,λR k0=>e R _⟩
def T9 (l:List Int):LL:=l.map λx=>[SV.int .i64 x]
def A9 (l:List Nat):LL:=l.map λx:Nat=>[SV.int .i64 (x:Int)]
theorem Jx (l:List Nat):T9 (l.map λn:Nat=>(n:Int))=A9 l:=by simp [T9,A9,Function.comp_def]
theorem O0 (l:List Int):(T9 l).length=l.length:=by simp [T9]
theorem B6 (l:List Nat):(A9 l).length=l.length:=by simp [A9]
theorem Fj (a b:List Nat):A9 (a++b)=A9 a++A9 b:=by simp [A9]
theorem FW {l:List Int} {i:Nat} (h:i<l.length):okE Fp (T9 l) i 0=true:=by
 unfold okE T9 Fp
 simp [List.getD_eq_getElem?_getD,h,okS,SV.has]
theorem OR (l:List Int) (i:Nat) (h:i<l.length):gE (T9 l) i 0=l.getD i 0:=by
 unfold gE gC T9
 simp [List.getD_eq_getElem?_getD,List.getElem?_eq_getElem h,SV.gI]
theorem Jz {l:List Nat} {i:Nat} (h:i<l.length):okE Fp (A9 l) i 0=true:=by
 rw [<-Jx];exact FW (by simpa using h)
theorem Qx (l:List Nat) (i:Nat) (h:i<l.length):gE (A9 l) i 0=(l.getD i 0:Int):=by
 rw [<-Jx,OR _ _ (by simpa using h)]
 grind
theorem VM {l:LL} (h:l.all Ig=true):∃ P:List Int,l=T9 P:=by
 induction l with
 | nil=>exact ⟨[],rfl⟩
 | cons x r ih=>
  simp only [List.all_cons,Bool.and_eq_true] at h
  obtain ⟨P,rfl⟩:=ih h.2
  have hx:=h.1
  unfold Ig at hx
  split at hx
  ·rename_i n
   exact ⟨n::P,rfl⟩
  ·cases hx
theorem IS (P:List Int):(T9 P).map elI=P:=by
 unfold T9
 rw [List.map_map]
 conv=>rhs;rw [<-List.map_id P]
 apply List.map_congr_left
 intro x _
 simp [elI,SV.gI]
theorem IR (l:List Int) (i:Nat) (h:i<l.length):l.drop i=l.getD i 0::l.drop (i+1):=by simp_all
theorem Mz (l:List Nat) (i:Nat) (h:i<l.length):l.drop i=l.getD i 0::l.drop (i+1):=by simp_all
theorem Av8:∀ (r d k:Nat),d<456*35 ^ r->Qb d k<=k+36*r+36:=by
 intro r
 induction r with
 | zero=>
  intro d k h
  rw [La (by simp at h;omega)]
  have:36*d / (d+38)<=36:=by
   apply Nat.div_le_of_le_mul
   omega
  omega
 | succ r ih=>
  intro d k h
  by_cases hd:455<d
  ·rw [Ve hd]
   grind
  grind
theorem Hq (d c:Nat) (f:Bool) (h:d<1152921504606846976):L2 d c f<=500:=by
 unfold L2
 have hx:∀ x:Nat,x<=d->Qb (x+x / c) 0<=500:=by
  intro x hx
  have:=Nat.div_le_self x c
  have:=Av8 11 (x+x / c) 0 (by omega)
  omega
 grind
theorem Zy {q k b:Nat} (h:q<1152921504606846976):(K8 q k b).length<=20:=OO b 19 q k (by omega)
theorem WM (z t:Bool) (pts:List Nat) (basic m:Nat) (hm:m<=1114112) (hl:pts.length<=256):∀ (r i n:Nat) (s:BZ),i+r=pts.length->r<n->s.delta+r<=1000000000000->s.bias<=500->s.out.length+20*r<=90000->s.done+r<=1000->basic<=256->
  (∀ (R:Type) (k0:Bool->Bool->LL->Int->Int->Int->Int->Int->LL->Option R),W8 LF n z t (A9 pts) (basic:Int) (m:Int) (s.delta:Int) (s.bias:Int) (s.done:Int) (pts.length:Int) (i:Int) (s.out.map C9) k0 =
   k0 z t (A9 pts) (basic:Int) (m:Int) ((F0 m basic (pts.drop i) s).delta:Int) ((F0 m basic (pts.drop i) s).bias:Int) ((F0 m basic (pts.drop i) s).done:Int) ((F0 m basic (pts.drop i) s).out.map C9))/\
  (F0 m basic (pts.drop i) s).bias<=500/\(F0 m basic (pts.drop i) s).out.length<=s.out.length+20*(pts.drop i).countP (· == m)/\(F0 m basic (pts.drop i) s).done=s.done+(pts.drop i).countP (· == m)/\
  (F0 m basic (pts.drop i) s).delta<=(if 0<(pts.drop i).countP (· == m) then r else s.delta+r):=by
 intro r
 induction r with
 | zero=>
  intro i n s hi hn h1 h2 h3 h4 hb
  obtain ⟨n,rfl⟩:∃ m,n=m+1:=⟨n-1,by omega⟩
  rw [List.drop_of_length_le (by omega)]
  refine ⟨λR k0=>?_,h2,by simp [F0],by simp [F0],by simp [F0]⟩
  rw [W8]
  rw [A6]
  rfl
 | succ r ih=>
  intro i n s hi hn h1 h2 h3 h4 hb
  obtain ⟨n,rfl⟩:∃ m,n=m+1:=⟨n-1,by omega⟩
  rw [Mz pts i (by omega)]
  have hg:=Qx pts i (by omega)
  have ok:=Jz (l:=pts) (i:=i) (by omega)
  generalize pts.getD i 0=p at *
  have e1:A1 ((i:Int)+1)=((i+1:Nat):Int):=by rw [A3];rfl
  have e2:A1 ((s.delta:Int)+1)=((s.delta+1:Nat):Int):=by rw [A3];rfl
  have e3:A1 ((s.done:Int)+1)=((s.done+1:Nat):Int):=by rw [A3];rfl
  by_cases hp:p<m
  ·have hne:(p==m)=false:=by rw [beq_eq_false_iff_ne];omega
   have hs:F0 m basic (p::pts.drop (i+1)) s=F0 m basic (pts.drop (i+1)) { s with delta:=s.delta+1 }:=by rw [F0,if_pos hp]
   obtain ⟨q1,q2,q3,q4,q5⟩:=ih (i+1) n { s with delta:=s.delta+1 } (by omega) (by omega) (by simp only;omega) h2 (by simp only;omega) (by simp only;omega) hb
   rw [hs,List.countP_cons_of_neg (by rw [hne];simp)]
   refine ⟨λR k0=>?_,q2,q3,q4,?_⟩
   ·rw [W8]
    rw [A7,B6,I8,Int.toNat_natCast,ok]
    simp only [cond_true,vl,hg,e1,e2]
    rw [A7,cond_true]
    exact q1 R k0
   ·simp only at q5
    split at q5<;>split<;>omega
  ·by_cases hq:p=m
   ·subst hq
    have hn20:=Zy (q:=s.delta) (k:=0) (b:=s.bias) (by omega)
    have had:=Hq s.delta (s.done+1) (s.done==basic) (by omega)
    have hs:F0 p basic (p::pts.drop (i+1)) s=F0 p basic (pts.drop (i+1)) { delta:=0,bias:=L2 s.delta (s.done+1) (s.done==basic),done:=s.done+1,out:=s.out++K8 s.delta 0 s.bias }:=by rw [F0,if_neg hp,if_pos rfl]
    obtain ⟨q1,q2,q3,q4,q5⟩:=ih (i+1) n { delta:=0,bias:=L2 s.delta (s.done+1) (s.done==basic),done:=s.done+1,out:=s.out++K8 s.delta 0 s.bias } (by omega) (by omega) (by simp only;omega) had (by simp only [List.length_append];omega) (by simp only;omega) hb
    rw [hs,List.countP_cons_of_pos (by simp)]
    refine ⟨λR k0=>?_,q2,?_,?_,?_⟩
    ·rw [W8]
     have hbeq:((s.done:Int)==(basic:Int))=(s.done==basic):=by grind
     rw [A7,B6,I8,Int.toNat_natCast,ok]
     simp only [cond_true,vl,hg,e1,e3]
     rw [A6,cond_false,beq_self_eq_true,cond_true,L0,L0,List.length_map,Nat.ble_eq_true_of_le (show s.out.length<=100000 by omega),L0,A7,hbeq]
     simp only [cond_true,Int.toNat_natCast]
     have hrow:List.append (s.out.map C9) ((K8 s.delta 0 s.bias).map C9)=(s.out++K8 s.delta 0 s.bias).map C9:=by rw [List.map_append];rfl
     rw [hrow]
     exact q1 R k0
    ·simp only [List.length_append] at q3;omega
    ·simp only at q4;omega
    ·simp only at q5
     rw [Ar]
     split at q5<;>omega
   ·have hne:(p==m)=false:=by rw [beq_eq_false_iff_ne];omega
    have hs:F0 m basic (p::pts.drop (i+1)) s=F0 m basic (pts.drop (i+1)) s:=by rw [F0,if_neg hp,if_neg hq]
    obtain ⟨q1,q2,q3,q4,q5⟩:=ih (i+1) n s (by omega) (by omega) (by omega) h2 (by omega) (by omega) hb
    rw [hs,List.countP_cons_of_neg (by rw [hne];simp)]
    refine ⟨λR k0=>?_,q2,q3,q4,?_⟩
    ·rw [W8]
     rw [A7,B6,I8,Int.toNat_natCast,ok]
     simp only [cond_true,vl,hg,e1]
     rw [A6,cond_false,show ((p:Int)==(m:Int))=false by rw [beq_eq_false_iff_ne];omega,cond_false]
     exact q1 R k0
    ·split at q5<;>split<;>omega
theorem QY {R:Type} {k0:Bool->Bool->LL->Int->Int->Int->Int->Int->Int->LL->Option R} (z t:Bool) (pts:List Nat) (hl:pts.length<=256) (n0:Nat) (basic delta bias done:Int) (l:LL):∀ (r i n m:Nat),i+r=pts.length->r<n->
  Dp LF n z t (A9 pts) basic (n0:Int) delta bias done (m:Int) (pts.length:Int) (i:Int) l k0=k0 z t (A9 pts) basic (n0:Int) delta bias done ((E9 n0 (pts.drop i) m:Nat):Int) l:=by
 intro r
 induction r with
 | zero=>
  intro i n m hi hn
  obtain ⟨n,rfl⟩:∃ m,n=m+1:=⟨n-1,by omega⟩
  rw [Dp]
  rw [A6,List.drop_of_length_le (by omega)]
  rfl
 | succ r ih=>
  intro i n m hi hn
  obtain ⟨n,rfl⟩:∃ m,n=m+1:=⟨n-1,by omega⟩
  have hg:=Qx pts i (by omega)
  have ok:=Jz (l:=pts) (i:=i) (by omega)
  rw [Dp,Mz pts i (by omega)]
  generalize pts.getD i 0=p at *
  have e1:A1 ((i:Int)+1)=((i+1:Nat):Int):=by rw [A3];rfl
  rw [A7,B6,I8,Int.toNat_natCast,ok]
  simp only [cond_true,vl,hg,e1,E9]
  by_cases h:n0<=p
  ·rw [if_pos h,A6,Bool.not_false,cond_true]
   have:(if (p:Int)<(m:Int) then (p:Int) else (m:Int))=((min m p:Nat):Int):=by split<;>omega
   rw [this]
   exact ih (i+1) n (min m p) (by omega) (by omega)
  ·rw [if_neg h,A7,Bool.not_true,cond_false]
   exact ih (i+1) n m (by omega) (by omega)
theorem Aj (n:Nat):∀ (l:List Nat) (m:Nat),(E9 n l m=m\/(E9 n l m∈l/\n<=E9 n l m))/\E9 n l m<=m/\∀ p∈l,n<=p->E9 n l m<=p
 | [],m=>⟨.inl rfl,Nat.le_refl _,λp h=>by cases h⟩
 | q::r,m=>by
  obtain ⟨h1,h2,h3⟩:=Aj n r (if n<=q then min m q else m)
  simp only [E9]
  grind
set_option maxRecDepth 100000
section
variable {σ R : Type} (lf : Nat) (cl : D1) (yh : Yh σ) (s : σ) (k : Out -> St σ -> Option R)
noncomputable abbrev Bb6:Code:=E3 Tryz.f198
noncomputable def Qi (lf:Nat):Cfg:=C2 lf [198] (A5 [(3,[0,1,0,0])]) [(194,Uo),(202,MZ)] (A5 [(17,[2]),(16,[0,2,0,53]),(15,[0,2,0]),(14,[2]),(13,[0,2,0,1,45]),(12,[0,2,0,0,0]),(11,[2]),(10,[0,2,0,0,41]),(9,[0,2,0,0]),(8,[0,2,0,0]),(7,[2]),(6,[0,2,0,0,18]),(5,[0,2,0,0]),(4,[2]),(3,[0,2,0,11]),(2,[0,2,0]),(1,[0,2]),(0,[0])]) [202] (A5 [(0,[2]),(1,[0,2,0])]) (some [2]) [(201,Jh)] [] [201]
noncomputable def Ax {R:Type} (lf n:Nat) (w0:Int) (s1:By) (n2 n3 n4:Int) (b5 z6:Bool) (l7:LL) (n8v:Int) (k0:Int->By->Int->Int->Int->Bool->Bool->LL->Int->Option R):Option R:=match n with | 0=>none | n+1=>cond (s1==[]) (k0 4 s1 n2 n3 n4 b5 z6 l7 n8v) (cond (inR 0 s1.length) (cond (inR (bAt s1 (0:Int)) 256) (vl (C1 (u8n (bAt s1 (0:Int)))) λn'1=>cond (ltI n'1 0) (k0 4 s1 n2 n3 n4 b5 z6 l7 n8v) (cond (N3 1 (s1.length:Int) s1.length) (vl (cut s1 1 (s1.length:Int)) λs'3=>vl (A1 (n3+(A1 (n'1*w0)))) λn'5=>cond (ltI 1099511627776 n'5) (k0 19 s'3 n2 n'5 n4 b5 z6 l7 n8v) (cond (ltN n8v 1000000000000) (cond (ltN n4 1000000) (cond (ltI n'1 (H4 n8v n4)) (k0 0 s'3 n2 n'5 n4 b5 z6 l7 (Int.add n8v (36:Int))) (vl (A1 ((36:Int)-(H4 n8v n4))) λn'6=>cond (ltI 1099511627776 (A1 (w0*n'6))) (k0 19 s'3 n2 n'5 n4 b5 z6 l7 (Int.add n8v (36:Int))) (Ax lf n (A1 (w0*n'6)) s'3 n2 n'5 n4 b5 z6 l7 (Int.add n8v (36:Int)) k0))) none) none)) none)) none) none)
theorem OM (n w0 s1 n2 n3 n4 b5 z6 l7 n8v):E6 4 ((Qi lf).keep 3) (bd (Qi lf) cl yh (cd [1,1,1,0,0] Bb6)) n ⟨gp [(0,.ptr 0 0 0),(2,.fnr (Fn.func 201) [] [.ptr 3 0 0,.ptr 2 0 0]),(0,pI w0)] 54,[.box [pS s1,.fl 1,pI n2,pI n3,pI n4,pB b5],.arr z6 3 1 l7,.box [pI n4],.box [pI n8v]],s⟩ k =
 Ax lf n w0 s1 n2 n3 n4 b5 z6 l7 n8v (λn0 s1 n2 n3 n4 b5 z6 l7 n8v=>k .ret ⟨gp [(2,pI n0)] 56,[.box [pS s1,.fl 1,pI n2,pI n3,pI n4,pB b5],.arr z6 3 1 l7,.box [pI n4],.box [pI n8v]],s⟩):=by
 induction n generalizing w0 s1 n2 n3 n4 b5 z6 l7 n8v with
 | zero=>rfl
 | succ n ih=>rw [Ax];simp only [<-ih];kernel_rfl
noncomputable def Bc7 {R:Type} (lf:Nat) (rest:By) (n i b:Int) (st z:Bool) (l:LL) (k0:Int->By->Int->Int->Int->Bool->Bool->LL->Int->Option R):Option R:=Ax lf lf 1 rest n i b st z l 0 (λn'7 s'8 n'9 n'10 n'11 b'12 z'13 l'14 n'15=>k0 n'7 s'8 n'9 n'10 n'11 b'12 z'13 l'14 n'15)
theorem Ax3 (d:Nat) (rest n i b st z l):evC (Qi lf) (d+1) σ yh 198 [.ptr 0 0 0] [.box [pS rest,.fl 1,pI n,pI i,pI b,pB st],.arr z 3 1 l] s=Bc7 lf rest n i b st z l (λr0 s1 n2 n3 n4 b5 z6 l7 n8v=>some (pI r0,[.box [pS s1,.fl 1,pI n2,pI n3,pI n4,pB b5],.arr z6 3 1 l7,.box [pI n4],.box [pI n8v]],s)):=by
 refine (evE (fn:=Tryz.f198) (by kernel_rfl)).trans ?_
 generalize evC (Qi lf) d=cl
 unfold Bc7;exact (Eq.trans (by kernel_rfl) ((OM lf cl yh s (G5 0 (I4 (Qi lf) Tryz.f198)) lf 1 rest n i b st z l 0).trans (by kernel_rfl)))
noncomputable def EJ (lf:Nat):Cfg:=C2 lf [189] (A5 []) [(186,Hn),(184,Ho)] (A5 [(16,[2]),(15,[]),(14,[0]),(13,[2]),(12,[0,67]),(11,[2]),(10,[0,4,60]),(9,[0,4]),(8,[0,4]),(7,[0,4]),(6,[0,4]),(5,[0,2,1]),(4,[2]),(3,[0,2,0,8]),(2,[0,2,0]),(1,[0,2]),(0,[0])]) [186,184] (A5 []) (some [2]) [(198,CC),(199,DY)] [] [198,199]
noncomputable def VE {R:Type} (lf:Nat) (rest:By) (n i b:Int) (st z:Bool) (l:LL) (k0:Int->By->Int->Int->Int->Bool->Bool->LL->Option R):Option R:=cond (A4 rest.length) (cond (ltN b 1000000) (cond (ltN i 1099511627777) (cond ((Xh b rest i) != 0) (k0 (Xh b rest i) (Xi b rest i) n (Lx b rest i) b st z l) (vl (A1 ((l.length:Int)+1)) λn'1=>vl (A1 ((Lx b rest i)-i)) λn'4=>cond (ltN n'4 1152921504606846976) (cond (ltN n'1 1000000) (cond (ltI 0 n'1) (vl (↑(L2 (Int.toNat n'4) (Int.toNat n'1) (not st)):Int) λn'5=>cond (n'1 != 0) (vl (A1 (Int.tdiv (Lx b rest i) n'1)) λn'7=>cond (n'1 != 0) (vl (Int.tmod (Lx b rest i) n'1) λn'9=>cond (not (ptI (A1 (n+n'7)))) (k0 2 (Xi b rest i) (A1 (n+n'7)) n'9 n'5 true z l) (cond (ltI 256 n'1) (k0 3 (Xi b rest i) (A1 (n+n'7)) n'9 n'5 true z l) (cond (ltN n'9 (Nat.add l.length 1)) (cond (Nat.ble l.length 100000) (vl (Gg l (Int.toNat n'9) (A1 (n+n'7))) λl'11=>k0 0 (Xi b rest i) (A1 (n+n'7)) (A1 (n'9+1)) n'5 true z l'11) none) none))) none) none) none) none) none)) none) none) none
theorem Aj3 (d:Nat) (rest n i b st z l):evC (EJ lf) (d+1) σ yh 189 [.ptr 0 0 0] [.box [pS rest,.fl 1,pI n,pI i,pI b,pB st],.arr z 3 1 l] s=VE lf rest n i b st z l (λr0 s1 n2 n3 n4 b5 z6 l7=>some (pI r0,[.box [pS s1,.fl 1,pI n2,pI n3,pI n4,pB b5],.arr z6 3 1 l7],s)):=by
 refine (evE (fn:=Tryz.f189) (by kernel_rfl)).trans ?_
 generalize evC (EJ lf) d=cl
 unfold VE;kernel_rfl
noncomputable abbrev Ld:Code:=E3 Tryz.f170
noncomputable def S8 (lf:Nat):Cfg:=C2 lf [170] (A5 [(20,[2,0,1]),(13,[0,1,0,1,0,22,0]),(4,[0,1,0,9,0])]) [(97,Tk)] (A5 [(24,[2,0]),(23,[2,0]),(22,[5,2,59]),(21,[5,2]),(20,[5,58]),(19,[2,0]),(18,[5,53]),(17,[5]),(16,[0,4,0,22,0]),(15,[0,4,0,22,0]),(14,[0,4,0,0,21,0]),(13,[0,4,0,22,0,0]),(12,[0,4,0,22,0]),(11,[0,4,0,21]),(10,[0,4,0]),(9,[0,4]),(8,[0,12,0]),(7,[2,0]),(6,[0,12,0,5]),(5,[0,3,8,0]),(4,[0,12,0,0]),(3,[0,12,0]),(2,[2,0]),(1,[0,10]),(0,[0])]) [97] (A5 [(4,[5]),(5,[5]),(2,[0,4,0]),(3,[0,4,0,22,0]),(0,[0]),(1,[0,12,0])]) (some [2,0]) [(189,Tj)] [] [189] (nt:=[(199,1,3,1)])
noncomputable def Gq {R:Type} (lf n:Nat) (s0:By) (n1 n2:Int) (k0:Unit->Option R) (k1:By->Option R):Option R:=match n with | 0=>none | n+1=>cond (ltI n2 n1) (cond (inR n2 s0.length) (cond (not (ltI (bAt s0 n2) (128:Int))) (k0 ()) (Gq lf n s0 n1 (A1 (n2+1)) k0 k1)) none) (k1 s0)
theorem QQ (n s0 n1 n2):E6 0 ((S8 lf).keep 4) (bd (S8 lf) cl yh (cd [1,1,0,1,0,0] Ld)) n ⟨gp [(0,pS s0),(12,pI n1),(0,pI n2)] 59,[],s⟩ k =
 Gq lf n s0 n1 n2 (λ_=>k .ret ⟨gp [(2,.fl 0),(0,pI (4:Int))] 70,[.arr true 3 1 []],s⟩) (λs0=>k (.exit 0) ⟨gp [(0,pS s0)] 73,[],s⟩):=by
 induction n generalizing s0 n1 n2 with
 | zero=>rfl
 | succ n ih=>rw [Gq];simp only [<-ih];kernel_rfl
noncomputable def Dn {R:Type} (lf n:Nat) (s0:By) (kk1 n2:Int) (l3:LL) (k0:By->Int->LL->Option R):Option R:=match n with | 0=>none | n+1=>cond (ltI n2 kk1) (cond (inR n2 s0.length) (cond (E4 (l3.length+1)) (Dn lf n s0 kk1 (A1 (n2+1)) (l3++[[(SV.int .i64 (A1 (bAt s0 n2)))]]) k0) none) none) (k0 s0 kk1 l3)
theorem QR (n s0 kk1 n2 l3):E6 2 ((S8 lf).keep 13) (bd (S8 lf) cl yh (cd [1,1,1,1,0,1,1,0,0,1,0,0] Ld)) n ⟨gp [(0,pS s0),(4,.ptr 1 0 0),(0,pI kk1),(22,pI kk1),(0,pI n2)] 43,[.arr true 3 1 l3,.box [pS s0,.fl 0,pI (128:Int),pI (0:Int),pI (72:Int),pB false]],s⟩ k =
 Dn lf n s0 kk1 n2 l3 (λs0 kk1 l2=>k (.exit 2) ⟨gp [(0,pS s0),(4,.ptr 1 0 0),(0,pI kk1)] 67,[.arr true 3 1 l2,.box [pS s0,.fl 0,pI (128:Int),pI (0:Int),pI (72:Int),pB false]],s⟩):=by
 induction n generalizing s0 kk1 n2 l3 with
 | zero=>rfl
 | succ n ih=>rw [Dn];simp only [<-ih];kernel_rfl
noncomputable def N0 {R:Type} (lf n:Nat) (l0:LL) (s1:By) (n2 n3 n4:Int) (b5:Bool) (k0:Int->LL->By->Int->Int->Int->Bool->Option R) (k1:LL->By->Int->Int->Int->Bool->Option R):Option R:=match n with | 0=>none | n+1=>cond (not (s1==[])) (cond (A4 s1.length) (cond (ltN n4 1000000) (cond (ltN n3 1099511627777) (cond (ltN n2 1152921504606846976) (cond (Nat.ble l0.length 100000) (vl ((C7 (DS.mk s1 n2 n3 n4 b5 l0))).1 λn'10=>vl (DS.l ((C7 (DS.mk s1 n2 n3 n4 b5 l0))).2) λl'11=>cond (n'10 != 0) (k0 n'10 l'11 (DS.rest ((C7 (DS.mk s1 n2 n3 n4 b5 l0))).2) (DS.n ((C7 (DS.mk s1 n2 n3 n4 b5 l0))).2) (DS.i ((C7 (DS.mk s1 n2 n3 n4 b5 l0))).2) (DS.b ((C7 (DS.mk s1 n2 n3 n4 b5 l0))).2) (DS.st ((C7 (DS.mk s1 n2 n3 n4 b5 l0))).2)) (N0 lf n l'11 (DS.rest ((C7 (DS.mk s1 n2 n3 n4 b5 l0))).2) (DS.n ((C7 (DS.mk s1 n2 n3 n4 b5 l0))).2) (DS.i ((C7 (DS.mk s1 n2 n3 n4 b5 l0))).2) (DS.b ((C7 (DS.mk s1 n2 n3 n4 b5 l0))).2) (DS.st ((C7 (DS.mk s1 n2 n3 n4 b5 l0))).2) k0 k1)) none) none) none) none) none) (k1 l0 s1 n2 n3 n4 b5)
theorem Xp (n l0 s1 n2 n3 n4 b5):E6 2 ((S8 lf).keep 20) (bd (S8 lf) cl yh (cd [1,1,1,1,1,1,0,0,0] Ld)) n ⟨gp [(5,.ptr 1 0 0)] 68,[.arr true 3 1 l0,.box [pS s1,.fl 0,pI n2,pI n3,pI n4,pB b5]],s⟩ k =
 N0 lf n l0 s1 n2 n3 n4 b5 (λn0 l1 s2 n3 n4 n5 b6=>k .ret ⟨gp [(2,.fl 2),(0,pI n0)] 70,[.arr true 3 1 l1,.box [pS s2,.fl 0,pI n3,pI n4,pI n5,pB b6],.arr true 3 1 []],s⟩) (λl0 s1 n2 n3 n4 b5=>k (.exit 4) ⟨gp [(5,.ptr 1 0 0)] 68,[.arr true 3 1 l0,.box [pS s1,.fl 0,pI n2,pI n3,pI n4,pB b5]],s⟩):=by
 induction n generalizing l0 s1 n2 n3 n4 b5 with
 | zero=>rfl
 | succ n ih=>rw [N0];simp only [<-ih];kernel_rfl
noncomputable def Oc {R:Type} (lf:Nat) (s0:By) (k0:Int->Option R) (k1:Int->LL->By->Int->Int->Int->Bool->Option R) (k2:LL->By->Int->Int->Int->Bool->Option R):Option R:=cond (ltI 1024 (s0.length:Int)) (k0 3) (Gq lf lf s0 (s0.length:Int) 0 (λ_=>k0 4) (λs'0=>cond (A4 s'0.length) (vl (G0 (u8n (45:Int)) s'0) λn'4=>cond (ltI 0 n'4) (Dn lf lf s'0 n'4 0 [] (λs'5 kk'6 l'7=>vl (A1 (kk'6+1)) λn'8=>cond (N3 n'8 (s'5.length:Int) s'5.length) (vl (cut s'5 n'8 (s'5.length:Int)) λs'9=>cond (ltI 256 (l'7.length:Int)) (k1 3 l'7 s'9 128 0 72 false) (N0 lf lf l'7 s'9 128 0 72 false (λn'12 l'13 s'14 n'15 n'16 n'17 b'18=>k1 n'12 l'13 s'14 n'15 n'16 n'17 b'18) (λl'19 s'20 n'21 n'22 n'23 b'24=>k2 l'19 s'20 n'21 n'22 n'23 b'24))) none)) (N0 lf lf [] s'0 128 0 72 false (λn'25 l'26 s'27 n'28 n'29 n'30 b'31=>k1 n'25 l'26 s'27 n'28 n'29 n'30 b'31) (λl'32 s'33 n'34 n'35 n'36 b'37=>k2 l'32 s'33 n'34 n'35 n'36 b'37))) none))
theorem A32 (d:Nat) (s0):evC (S8 lf) (d+1) σ yh 170 [pS s0] [] s=Oc lf s0 (λr0=>some (.tup [.fl 0,pI r0],[.arr true 3 1 []],s)) (λr0 l1 s2 n3 n4 n5 b6=>some (.tup [.fl 2,pI r0],[.arr true 3 1 l1,.box [pS s2,.fl 0,pI n3,pI n4,pI n5,pB b6],.arr true 3 1 []],s)) (λl0 s1 n2 n3 n4 b5=>some (.tup [.fl 0,pI (0:Int)],[.arr true 3 1 l0,.box [pS s1,.fl 0,pI n2,pI n3,pI n4,pB b5]],s)):=by
 refine (evE (fn:=Tryz.f170) (by kernel_rfl)).trans ?_
 generalize evC (S8 lf) d=cl
 unfold Oc;exact let K0:=(G5 4 (H5 (S8 lf) cl yh (cd [1,1,1,1,1,1,1] Ld) (I4 (S8 lf) Tryz.f170)));(Eq.trans (by kernel_rfl) (A0 rfl ((QQ lf cl yh s (G5 0 (H5 (S8 lf) cl yh (cd [1,1,1] Ld) (I4 (S8 lf) Tryz.f170))) lf s0 (s0.length:Int) 0).trans (congr (congr rfl (by kernel_rfl)) (fx1 λs'0=>(Eq.trans (by kernel_rfl) (A0 (A8 λn'4=>(A0 ((QR lf cl yh s (G5 2 (H5 (S8 lf) cl yh (cd [1,1,1,1,0,1,1,0,1] Ld) (H5 (S8 lf) cl yh (cd [1,1,1,1,1] Ld) (I4 (S8 lf) Tryz.f170)))) lf s'0 n'4 0 []).trans (congr rfl (fx3 λs'5 kk'6 l'7=>(Eq.trans (by kernel_rfl) (A8 λn'8=>(A0 (A8 λs'9=>(A0 rfl ((Xp lf cl yh s K0 lf l'7 s'9 128 0 72 false).trans (by kernel_rfl)))) rfl)))))) ((Xp lf cl yh s K0 lf [] s'0 128 0 72 false).trans (by kernel_rfl)))) rfl)))))))
noncomputable abbrev IA:Code:=E3 Tryz.f142
noncomputable def Ca (lf:Nat):Cfg:=C2 lf [142] (A5 [(2,[0,0,2,0])]) [] (A5 [(6,[4]),(3,[0,0,3]),(5,[4]),(4,[0,0,3,11]),(2,[0,0,3,4]),(1,[0,0,3]),(0,[0,0])]) [] (A5 [(0,[]),(1,[0,0,3])]) (some [4]) [] [] []
noncomputable def Y4 {R:Type} (lf n:Nat) (s0:By) (c1 i2:Int) (k0:Int->Option R) (k1:Unit->Option R):Option R:=match n with | 0=>none | n+1=>cond (not (ltI i2 0)) (cond (inR i2 s0.length) (cond ((bAt s0 i2)==c1) (k0 i2) (Y4 lf n s0 c1 (A1 (i2-1)) k0 k1)) none) (k1 ())
theorem FJ (n s0 c1 i2):E6 0 ((Ca lf).keep 2) (bd (Ca lf) cl yh (cd [1,0,1,0,0] IA)) n ⟨gp [(0,pS s0),(0,p8 c1),(3,pI i2)] 13,[],s⟩ k =
 Y4 lf n s0 c1 i2 (λn0=>k .ret ⟨gp [(4,pI n0)] 14,[],s⟩) (λ_=>k (.exit 0) ⟨gp [] 19,[],s⟩):=by
 induction n generalizing s0 c1 i2 with
 | zero=>rfl
 | succ n ih=>rw [Y4];simp only [<-ih];kernel_rfl
noncomputable def FI {R:Type} (lf:Nat) (s0:By) (c1:Int) (k0:Int->Option R):Option R:=vl (A1 ((s0.length:Int)-1)) λn'1=>Y4 lf lf s0 c1 n'1 (λn'2=>k0 n'2) (λ_=>k0 (-1))
theorem YK (d:Nat) (s0 c1):evC (Ca lf) (d+1) σ yh 142 [pS s0,p8 c1] [] s=FI lf s0 c1 (λr0=>some (pI r0,[],s)):=by
 refine (evE (fn:=Tryz.f142) (by kernel_rfl)).trans ?_
 generalize evC (Ca lf) d=cl
 unfold FI;exact (Eq.trans (by kernel_rfl) (A8 λn'1=>((FJ lf cl yh s (G5 0 (H5 (Ca lf) cl yh (cd [1,1] IA) (I4 (Ca lf) Tryz.f142))) lf s0 c1 n'1).trans (by kernel_rfl))))
noncomputable def EK (lf:Nat):Cfg:=C2 lf [97] (A5 []) [(142,HP)] (A5 [(1,[4]),(0,[0,0])]) [142] (A5 []) (some [4]) [] [] []
noncomputable def VQ {R:Type} (lf:Nat) (s0:By) (c1:Int) (k0:Int->Option R):Option R:=cond (A4 s0.length) (cond (inR c1 256) (k0 (G0 (u8n c1) s0)) none) none
theorem Al7 (d:Nat) (s0 c1):evC (EK lf) (d+1) σ yh 97 [pS s0,p8 c1] [] s=VQ lf s0 c1 (λr0=>some (pI r0,[],s)):=by
 refine (evE (fn:=Tryz.f97) (by kernel_rfl)).trans ?_
 generalize evC (EK lf) d=cl
 unfold VQ;kernel_rfl
end
theorem Bk (c:UInt8):-1<=C1 c/\C1 c<=35:=by
 unfold C1 Hl
 grind
theorem Gx (k b:Int):1<=H4 k b/\H4 k b<=26:=by unfold H4;omega
theorem Z0 {x w:Int} (h0:0<=x) (h1:x<=35) (w0:0<=w) (w1:w<=1099511627776):0<=x*w/\x*w<=38482906972160:=by
 refine ⟨Int.mul_nonneg h0 w0,?_⟩
 have:=Int.mul_le_mul h1 w1 w0 (show (0:Int)<=35 by omega)
 omega
theorem Mx (b:Int):∀ (s:By) (i w k:Int),0<=i->0<=w->w<=1099511627776->(N5 b s i w k).1=0->i<=(N5 b s i w k).2.2/\(N5 b s i w k).2.2<=1099511627776/\(N5 b s i w k).2.1.length<s.length
 | [],i,w,k,_,_,_,h=>by simp [N5] at h
 | c::r,i,w,k,hi,hw,hw1,h=>by
  have hv:=Bk c
  have ht:=Gx k b
  unfold N5 at h ⊢
  split at h
  ·simp at h
  ·rename_i h1
   rw [if_neg h1]
   have hm:=Z0 (by omega) hv.2 hw hw1
   split at h
   ·simp at h
   ·rename_i h2
    rw [if_neg h2]
    split at h
    ·grind
    ·rename_i h3
     rw [if_neg h3]
     split at h
     ·omega
     ·rename_i h4
      rw [if_neg h4]
      obtain ⟨q1,q2,q3⟩:=Mx b r (i+C1 c*w) (w*(36-H4 k b)) (k+36) (by omega) (Int.mul_nonneg hw (by omega)) (by omega) h
      grind
theorem XV (n2:Int) (b:Int) (st z:Bool) (l:LL) (hb0:0<=b) (hb1:b<1000000):∀ (s:By) (n:Nat) (i w k:Int),s.length<n->s.length<=1000000000->0<=i->i<=1099511627776->0<=w->w<=1099511627776->0<=k->k+36*s.length<=100000000000->
  ∃ k',∀ (R:Type) (k0:Int->By->Int->Int->Int->Bool->Bool->LL->Int->Option R),Ax LF n w s n2 i b st z l k k0=k0 (N5 b s i w k).1 (N5 b s i w k).2.1 n2 (N5 b s i w k).2.2 b st z l k':=by
 intro s
 induction s with
 | nil=>
  intro n i w k hn hs hi hi1 hw hw1 hk hk1
  obtain ⟨n,rfl⟩:∃ m,n=m+1:=⟨n-1,by omega⟩
  refine ⟨k,λR k0=>?_⟩
  rw [Ax]
  rfl
 | cons c r ih=>
  intro n i w k hn hs hi hi1 hw hw1 hk hk1
  obtain ⟨n,rfl⟩:∃ m,n=m+1:=⟨n-1,by omega⟩
  rw [List.length_cons] at hn hs hk1
  have hv:=Bk c
  have ht:=Gx k b
  have hu:u8n (bAt (c::r) 0)=c:=by unfold u8n bAt;simp
  have hin:inR (bAt (c::r) 0) 256=true:=by rw [Hr];have:=c.toNat_lt;exact M8 (by omega) (by simp;omega)
  have hcut:cut (c::r) 1 ((c::r).length:Int)=r:=by
   have:=Mt (c::r) 1 (c::r).length
   grind
  have hne:((c::r)==([]:By))=false:=rfl
  have start:∀ (R:Type) (k0:Int->By->Int->Int->Int->Bool->Bool->LL->Int->Option R),Ax LF (n+1) w (c::r) n2 i b st z l k k0 =
    cond (ltI (C1 c) 0) (k0 4 (c::r) n2 i b st z l k)
     (vl (A1 (i+(A1 (C1 c*w)))) λn'5=>cond (ltI 1099511627776 n'5) (k0 19 r n2 n'5 b st z l k)
      (cond (ltI (C1 c) (H4 k b)) (k0 0 r n2 n'5 b st z l (Int.add k 36))
       (vl (A1 (36-(H4 k b))) λn'6=>cond (ltI 1099511627776 (A1 (w*n'6))) (k0 19 r n2 n'5 b st z l (Int.add k 36)) (Ax LF n (A1 (w*n'6)) r n2 n'5 b st z l (Int.add k 36) k0)))):=by
   intro R k0
   rw [Ax]
   rw [hne,hin,M8 (by omega) (by rw [List.length_cons];omega),U2 (by omega) (by rw [List.length_cons];omega) (by omega),hcut,hu,L0,L0]
   rfl
  unfold N5
  by_cases h1:C1 c<0
  ·rw [if_pos h1]
   refine ⟨k,λR k0=>?_⟩
   rw [start,C0 h1]
   rfl
  ·rw [if_neg h1]
   have hm:=Z0 (by omega) hv.2 hw hw1
   have e1:A1 (C1 c*w)=C1 c*w:=A3
   have e2:A1 (i+C1 c*w)=i+C1 c*w:=A3
   by_cases h2:1099511627776<i+C1 c*w
   ·rw [if_pos h2]
    refine ⟨k,λR k0=>?_⟩
    rw [start,A6,e1,e2]
    simp only [vl,cond_false]
    rw [C0 h2]
    rfl
   ·rw [if_neg h2]
    by_cases h3:C1 c<H4 k b
    ·rw [if_pos h3]
     refine ⟨Int.add k 36,λR k0=>?_⟩
     rw [start,A6,e1,e2]
     simp only [vl,cond_false]
     rw [A6,C0 h3]
     rfl
    ·rw [if_neg h3]
     have e3:A1 (36-H4 k b)=36-H4 k b:=A3
     have hm2:=Z0 (x:=36-H4 k b) (by omega) (by omega) hw hw1
     rw [Int.mul_comm] at hm2
     have e4:A1 (w*(36-H4 k b))=w*(36-H4 k b):=A3
     by_cases h4:1099511627776<w*(36-H4 k b)
     ·rw [if_pos h4]
      refine ⟨Int.add k 36,λR k0=>?_⟩
      rw [start,A6,e1,e2]
      simp only [vl,cond_false]
      rw [A6,A6,e3,e4,C0 h4]
      rfl
     ·rw [if_neg h4]
      obtain ⟨k',e⟩:=ih n (i+C1 c*w) (w*(36-H4 k b)) (k+36) (by omega) (by omega) (by omega) (by omega) (by omega) (by omega) (by omega) (by omega)
      refine ⟨k',λR k0=>?_⟩
      rw [start,A6,e1,e2]
      simp only [vl,cond_false]
      rw [A6,A6,e3,e4,A6]
      exact e R k0
theorem XW (rest:By) (n i b:Int) (st z:Bool) (l:LL) (h0:A4 rest.length=true) (h1:ltN b 1000000=true) (h2:ltN i 1099511627777=true) :
  ∃ k',∀ (R:Type) (k0:Int->By->Int->Int->Int->Bool->Bool->LL->Int->Option R),Bc7 LF rest n i b st z l k0=k0 (Xh b rest i) (Xi b rest i) n (Lx b rest i) b st z l k':=by
 have hs:=L8 h0
 obtain ⟨b0,b1⟩:=K9.1 h1
 obtain ⟨i0,i1⟩:=K9.1 h2
 have hLF:=E5
 obtain ⟨k',e⟩:=XV n b st z l b0 (by omega) rest LF i 1 0 (by omega) (by omega) i0 (by omega) (by omega) (by omega) (by omega) (by omega)
 exact ⟨k',λR k0=>e R _⟩
theorem ON {R:Type} {k0:Int->By->Int->Int->Int->Bool->Bool->LL->Option R} (rest:By) (n i b:Int) (st z:Bool) (l:LL) (h0:A4 rest.length=true) (h1:ltN b 1000000=true) (h2:ltN i 1099511627777=true) (h3:ltN n 1152921504606846976=true) (h4:Nat.ble l.length 100000=true) :
  VE LF rest n i b st z l k0=k0 (C7 ⟨rest,n,i,b,st,l⟩).1 (C7 ⟨rest,n,i,b,st,l⟩).2.rest (C7 ⟨rest,n,i,b,st,l⟩).2.n (C7 ⟨rest,n,i,b,st,l⟩).2.i (C7 ⟨rest,n,i,b,st,l⟩).2.b (C7 ⟨rest,n,i,b,st,l⟩).2.st z (C7 ⟨rest,n,i,b,st,l⟩).2.l:=by
 obtain ⟨i0,i1⟩:=K9.1 h2
 obtain ⟨n0,n1⟩:=K9.1 h3
 have hl:=Nat.le_of_ble_eq_true h4
 unfold VE C7
 rw [h0,h1,h2]
 simp only [cond_true]
 by_cases he:Xh b rest i=0
 ·rw [if_pos he,he]
  obtain ⟨q1,q2,q3⟩:=Mx b rest i 1 0 i0 (by omega) (by omega) he
  have q1':i<=Lx b rest i:=q1
  have q2':Lx b rest i<=1099511627776:=q2
  have e1:A1 ((l.length:Int)+1)=(l.length:Int)+1:=A3
  simp only [vl]
  rw [e1]
  generalize Lx b rest i=x at *
  have hx0:0<=x:=by omega
  obtain ⟨X,rfl⟩:=Int.eq_ofNat_of_zero_le hx0
  have e2:A1 ((X:Int)-i)=(X:Int)-i:=A3
  have ec:((l.length:Int)+1)=((l.length+1:Nat):Int):=rfl
  have ed:Int.tdiv (X:Int) ((l.length+1:Nat):Int)=((X / (l.length+1):Nat):Int):=J6 _ _
  have em:Int.tmod (X:Int) ((l.length+1:Nat):Int)=((X % (l.length+1):Nat):Int):=Fr _ _
  have hd:=Nat.div_le_self X (l.length+1)
  have hm:=Nat.mod_lt X (show 0<l.length+1 by omega)
  rw [e2,ec,ed,em]
  generalize hA:X / (l.length+1)=A at *
  generalize hB:X % (l.length+1)=B at *
  have e3:A1 (A:Int)=(A:Int):=A3
  have e4:A1 (n+(A:Int))=n+(A:Int):=A3
  have e5:A1 ((B:Int)+1)=(B:Int)+1:=A3
  have c0:((0:Int) != 0)=false:=rfl
  have c1:((((l.length+1:Nat):Int)) != 0)=true:=by rw [bne_iff_ne];omega
  rw [e3,e4,e5,c0,L0,L0,A7,c1]
  simp only [cond_true,cond_false]
  cases hp:ptI (n+(A:Int)) with
  | false=>simp
  | true=>
   simp only [Bool.not_true,cond_false,if_true]
   by_cases h256:(256:Int)<((l.length+1:Nat):Int)
   ·rw [if_pos h256,C0 h256]
    rfl
   ·rw [if_neg h256,A6,cond_false,WE (by omega) (by show (B:Int)<((l.length+1:Nat):Int);omega),h4]
    rfl
 ·rw [if_neg he,show (Xh b rest i != 0)=true from bne_iff_ne.2 he]
  rfl
theorem JO (c:UInt8):∀ l:By,-1<=G0 c l
 | []=>by simp [G0]
 | b::r=>by
  have:=JO c r
  unfold G0
  omega
theorem Wr (c b:UInt8):∀ l:By,G0 c (l++[b])=if b=c then (l.length:Int) else G0 c l
 | []=>by
  by_cases h:b=c<;>simp [G0,h]
 | a::l=>by
  have ih:=Wr c b l
  rw [List.cons_append,G0,ih]
  by_cases h:b=c
  ·grind
  ·rw [if_neg h,if_neg h]
   rfl
theorem JH {R:Type} {k0:Int->Option R} {k1:Unit->Option R} (s:By) (c:UInt8) (hs:s.length<=1000000000):∀ (m n:Nat),m<=s.length->m<n->
  Y4 LF n s (c.toNat:Int) ((m:Int)-1) k0 k1=if G0 c (s.take m)<0 then k1 () else k0 (G0 c (s.take m)):=by
 intro m
 induction m with
 | zero=>
  intro n hm hn
  obtain ⟨n,rfl⟩:∃ m,n=m+1:=⟨n-1,by omega⟩
  rw [Y4]
  rw [A7]
  rfl
 | succ m ih=>
  intro n hm hn
  obtain ⟨n,rfl⟩:∃ m,n=m+1:=⟨n-1,by omega⟩
  rw [Y4]
  have e0:(((m+1:Nat):Int)-1)=(m:Int):=by omega
  have e1:A1 ((m:Int)-1)=(m:Int)-1:=A3
  have ht:s.take (m+1)=s.take m++[s.getD m 0]:=by
   rw [List.take_add_one,List.getD_eq_getElem?_getD,List.getElem?_eq_getElem (by omega)]
   rfl
  rw [e0,e1,A6,I8,G9,ht,Wr]
  simp only [Bool.not_false,cond_true]
  by_cases h:s.getD m 0=c
  ·rw [if_pos h,h,beq_self_eq_true,cond_true,List.length_take,Nat.min_eq_left (by omega),G4]
  ·have hne:(((s.getD m 0).toNat:Int)==(c.toNat:Int))=false:=by
    rw [beq_eq_false_iff_ne]
    intro he
    exact h (UInt8.toNat.inj (Int.ofNat.inj he))
   rw [if_neg h,hne,cond_false]
   exact ih n (by omega) (by omega)
theorem As3 {c:Int} (h:inR c 256=true):c=((u8n c).toNat:Int):=by
 simp only [inR,Bool.and_eq_true,decide_eq_true_eq] at h
 unfold u8n
 simp
 omega
theorem JI {R:Type} {k0:Int->Option R} (s:By) (c:Int) (h0:A4 s.length=true) (h1:inR c 256=true):FI LF s c k0=k0 (G0 (u8n c) s):=by
 have hs:=L8 h0
 have hLF:=E5
 have hc:=As3 h1
 generalize u8n c=d at *
 subst hc
 unfold FI
 have e1:A1 ((s.length:Int)-1)=(s.length:Int)-1:=A3
 simp only [vl]
 rw [e1]
 refine Eq.trans (JH s d (by omega) s.length LF (by omega) (by omega)) ?_
 rw [List.take_length]
 have:=JO d s
 by_cases h:G0 d s<0
 ·rw [if_pos h,show G0 d s = -1 by omega]
 ·rw [if_neg h]
theorem PG {R:Type} {k0:Int->Option R} (s:By) (c:Int) (h0:A4 s.length=true) (h1:inR c 256=true):VQ LF s c k0=k0 (G0 (u8n c) s):=by
 unfold VQ
 grind
theorem Ii:∀ s:By,(45∈s->G0 45 s=(D8 s:Int))/\(45∉s->G0 45 s = -1/\D8 s=0)
 | []=>⟨λh=>(by cases h),λ_=>⟨rfl,rfl⟩⟩
 | b::r=>by
  obtain ⟨h1,h2⟩:=Ii r
  unfold G0 D8
  grind
theorem LY {c:UInt8} (h:Hl c=none):C1 c = -1:=by unfold C1;rw [h]
theorem LZ {c:UInt8} {x:Nat} (h:Hl c=some x):C1 c=x:=by unfold C1;rw [h]
theorem My (b:Nat):∀ (s:By) (i w k:Nat),N5 (b:Int) s (i:Int) (w:Int) ((36*k:Nat):Int)=((((B9 b s i w k).2.2:Nat):Int),(N5 (b:Int) s (i:Int) (w:Int) ((36*k:Nat):Int)).2)/\
  ((B9 b s i w k).2.2=0->(N5 (b:Int) s (i:Int) (w:Int) ((36*k:Nat):Int)).2=((B9 b s i w k).2.1,((B9 b s i w k).1:Int)))
 | [],i,w,k=>⟨rfl,λh=>by simp [B9] at h⟩
 | c::r,i,w,k=>by
  unfold N5 B9
  cases hv:Hl c with
  | none=>
   rw [LY hv,Ar]
   grind
  | some x=>
   rw [LZ hv,G4,Pc]
   have e1:(i:Int)+(x:Int)*(w:Int)=((i+x*w:Nat):Int):=by push_cast;rfl
   have ht:=P0 k b
   have e2:(w:Int)*(36-(thr k b:Int))=((w*(36-thr k b):Nat):Int):=by grind
   have e3:((36*k:Nat):Int)+36=((36*(k+1):Nat):Int):=by omega
   have hsat:En=1099511627776:=by decide
   rw [e1,e2,e3,hsat]
   simp only
   generalize i+x*w=I
   generalize w*(36-thr k b)=W
   by_cases h2:1099511627776<I
   ·grind
   ·rw [G4,if_neg h2]
    by_cases h3:x<thr k b
    ·grind
    ·rw [G4,if_neg h3]
     by_cases h4:1099511627776<W
     ·grind
     ·rw [G4,if_neg h4]
      exact My b r I W (k+1)
end
section
open Go Go.Op
set_option maxRecDepth 100000
theorem ZN {R:Type} {k0:Bool->Option R} (s:By):A20 LF s k0=k0 false:=by unfold A20;simp
theorem ZM {R:Type} {k0:Bool->Option R} (n:Int):A18 LF n k0=k0 false:=by unfold A18;simp
theorem Ai2 {R:Type} {k0:Int->Option R} (a b:By):ccs LF a b k0=k0 (T2 a b):=by
 unfold ccs T2
 cases h:bytesLess a b with
 | true=>rfl
 | false=>
  have e:(not (false || a==b))=bytesLess b a:=by
   rw [R5] at h ⊢
   have h:=of_decide_eq_false h
   by_cases hab:a=b
   ·subst hab;simp
   ·have:b<a:=by
     apply Decidable.byContradiction
     intro g
     exact hab (List.le_antisymm (List.not_lt.1 g) (List.not_lt.1 h))
    simp [hab,this]
  rw [e]
  cases bytesLess b a<;>rfl
theorem Ai1 {R:Type} {k0:Int->Option R} (a b:Int):cci LF a b k0=k0 (EX a b):=by
 unfold cci EX
 cases ltI a b<;>cases ltI b a<;>rfl
theorem Y7:∀ s:By,((46:UInt8)∉s/\G0 46 s = -1)\/∃ p q,s=p++46::q/\(46:UInt8)∉q/\G0 46 s=(p.length:Int)
 | []=>.inl ⟨by simp,rfl⟩
 | b::r=>by
  rcases Y7 r with ⟨h1,h2⟩ | ⟨p,q,h1,h2,h3⟩
  ·by_cases hb:b=46
   ·exact .inr ⟨[],r,by rw [hb];rfl,h1,by unfold G0;rw [h2,if_pos (by decide),if_pos hb];rfl⟩
   ·exact .inl ⟨by simp [h1];exact λe=>hb e.symm,by unfold G0;rw [h2,if_pos (by decide),if_neg hb]⟩
  ·refine .inr ⟨b::p,q,by rw [h1];rfl,h2,?_⟩
   unfold G0
   rw [h3,G4]
   simp
theorem Xx {s:By} (h:(46:UInt8)∉s):rl s=[s]:=by
 unfold rl pcs
 rw [Bj 46 s [] h]
 rfl
theorem Xy (p:By) {q:By} (h:(46:UInt8)∉q):rl (p++46::q)=q::rl p:=by
 unfold rl pcs
 rw [Bi,Bj 46 q [] h,List.reverse_append]
 rfl
theorem WS (s:By):rl s≠[]:=by
 unfold rl
 simpa using Iv 46 s
theorem U7 {a b:By} (h:T2 a b=0):a=b:=by
 unfold T2 at h
 cases h1:bytesLess a b with
 | true=>rw [h1] at h;cases h
 | false=>
  cases h2:bytesLess b a with
  | true=>rw [h1,h2] at h;cases h
  | false=>
   rw [R5] at h1 h2
   exact List.le_antisymm (List.not_lt.1 (of_decide_eq_false h2)) (List.not_lt.1 (of_decide_eq_false h1))
theorem Zs (a:By):bytesLess a a=false:=by rw [R5];simp
def Qo (x y:List By):Int:=cond (Xe x y) (-1) (cond (Xe y x) 1 0)
theorem M0 {a b:By} {x y:List By} (h:T2 a b≠0):Qo (a::x) (b::y)=T2 a b:=by
 have hne:a≠b:=λe=>h (by rw [e];unfold T2;rw [Zs];rfl)
 have e1:(a==b)=false:=by simpa using hne
 have e2:(b==a)=false:=by simpa using Ne.symm hne
 unfold Qo T2
 simp only [Xe,e1,e2,Bool.false_and,Bool.or_false]
theorem L9 {a:By} {x y:List By}:Qo (a::x) (a::y)=Qo x y:=by
 unfold Qo
 simp only [Xe,Zs,beq_self_eq_true,Bool.true_and,Bool.false_or]
theorem AW {R:Type} {k0:Int->Option R}:∀ (n:Nat) (a b:By),a.length<=1000000000->b.length<=1000000000->a.length<n->
  Kc LF n a b k0 (λi k=>k0 (EX (if ((0:Int)<i) then (0:Int) else i) (if ((0:Int)<k) then (0:Int) else k)))=k0 (Q1 a b)
 | 0,a,b,_,_,h=>by omega
 | n+1,a,b,ha,hb,h=>by
  have e46:u8n (46:Int)=46:=rfl
  have hcmp:∀ x y:By,Q1 x y=Qo (rl x) (rl y):=λx y=>rfl
  rw [Kc]
  simp only [vl,e46]
  rw [I7 ha,I7 hb,cond_true,cond_true,hcmp]
  rcases Y7 a with ⟨a1,a2⟩ | ⟨p,q,rfl,a1,a2⟩<;>rcases Y7 b with ⟨b1,b2⟩ | ⟨p',q',rfl,b1,b2⟩<;>rw [a2,b2]
  ·have e1:cut a (A1 (-1+1)) (a.length:Int)=a:=by rw [A3,M3];rfl
   have e2:cut b (A1 (-1+1)) (b.length:Int)=b:=by rw [A3,M3];rfl
   rw [e1,e2,P5 (by rw [A3];omega) (by rw [A3];omega),P5 (by rw [A3];omega) (by rw [A3];omega),cond_true,cond_true,Xx a1,Xx b1]
   by_cases hc:T2 a b=0
   ·rw [show (T2 a b != 0)=false by rw [hc];rfl,cond_false,A7,cond_true,U7 hc,L9];rfl
   ·rw [show (T2 a b != 0)=true by simpa using hc,cond_true,M0 hc]
  ·have e1:cut a (A1 (-1+1)) (a.length:Int)=a:=by rw [A3,M3];rfl
   have e2:cut (p'++46::q') (A1 ((p'.length:Int)+1)) ((p'++46::q').length:Int)=q':=by
    simp only [List.length_append,List.length_cons] at hb
    rw [A3,M3,show (((p'.length:Int)+1).toNat)=p'.length+1 by omega]
    simp
   have hl:(p'++46::q').length=p'.length+(q'.length+1):=by simp
   rw [e1,e2,P5 (by rw [A3];omega) (by rw [A3];omega),P5 (by rw [A3];omega) (by rw [A3];omega),cond_true,cond_true,Xx a1,Xy p' b1]
   by_cases hc:T2 a q'=0
   ·rw [show (T2 a q' != 0)=false by rw [hc];rfl,cond_false,A7,cond_true,U7 hc,L9,G4]
    have e3:(if (0:Int)<(p'.length:Int) then (0:Int) else (p'.length:Int))=0:=by split<;>omega
    rw [e3]
    have:Qo [] (rl p') = -1:=by
     unfold Qo
     cases hr:rl p' with
     | nil=>exact absurd hr (WS p')
     | cons x r=>rfl
    rw [this];rfl
   ·rw [show (T2 a q' != 0)=true by simpa using hc,cond_true,M0 hc]
  ·have e1:cut (p++46::q) (A1 ((p.length:Int)+1)) ((p++46::q).length:Int)=q:=by
    simp only [List.length_append,List.length_cons] at ha
    rw [A3,M3,show (((p.length:Int)+1).toNat)=p.length+1 by omega]
    simp
   have e2:cut b (A1 (-1+1)) (b.length:Int)=b:=by rw [A3,M3];rfl
   have hl:(p++46::q).length=p.length+(q.length+1):=by simp
   rw [e1,e2,P5 (by rw [A3];omega) (by rw [A3];omega),P5 (by rw [A3];omega) (by rw [A3];omega),cond_true,cond_true,Xx b1,Xy p a1]
   by_cases hc:T2 q b=0
   ·rw [show (T2 q b != 0)=false by rw [hc];rfl,cond_false,A6,cond_false,A7,cond_true,U7 hc,L9]
    have e3:(if (0:Int)<(p.length:Int) then (0:Int) else (p.length:Int))=0:=by split<;>omega
    rw [e3,G4]
    have:Qo (rl p) []=1:=by
     unfold Qo
     cases hr:rl p with
     | nil=>exact absurd hr (WS p)
     | cons x r=>rfl
    rw [this];rfl
   ·rw [show (T2 q b != 0)=true by simpa using hc,cond_true,M0 hc]
  ·have e1:cut (p++46::q) (A1 ((p.length:Int)+1)) ((p++46::q).length:Int)=q:=by
    simp only [List.length_append,List.length_cons] at ha
    rw [A3,M3,show (((p.length:Int)+1).toNat)=p.length+1 by omega]
    simp
   have e2:cut (p'++46::q') (A1 ((p'.length:Int)+1)) ((p'++46::q').length:Int)=q':=by
    simp only [List.length_append,List.length_cons] at hb
    rw [A3,M3,show (((p'.length:Int)+1).toNat)=p'.length+1 by omega]
    simp
   have hl:(p++46::q).length=p.length+(q.length+1):=by simp
   have hl':(p'++46::q').length=p'.length+(q'.length+1):=by simp
   rw [e1,e2,P5 (by rw [A3];omega) (by rw [A3];omega),P5 (by rw [A3];omega) (by rw [A3];omega),cond_true,cond_true,Xy p a1,Xy p' b1]
   by_cases hc:T2 q q'=0
   ·rw [show (T2 q q' != 0)=false by rw [hc];rfl,cond_false,A6,cond_false,A6,cond_false,P5,cond_true,P5,cond_true,U7 hc,L9,Ad,Ad,Int.toNat_natCast,Int.toNat_natCast,List.take_left,List.take_left,AW n p p' (by omega) (by omega) (by omega)]
    rfl
   ·rw [show (T2 q q' != 0)=true by simpa using hc,cond_true,M0 hc]
theorem ZU {R:Type} {k0:Int->Option R} (a b:By) (h0:A4 a.length=true) (h1:A4 b.length=true):A29 LF a b k0=k0 (Q1 a b):=by
 have hLF:=E5
 have ha:=L8 h0
 unfold A29
 exact AW LF a b ha (L8 h1) (by omega)
theorem A07 (h:By) (b:Bool) (h0:A4 h.length=true):∃ r H,A05 LF h b (λr0 s1 b2=>rv (.s (.bool r0)) [.box [.s (.str s1),.s (.bool b2)]])=rv r H/\r.stab [] H = .s (.bool (not (D6 h))):=by
 unfold A05
 rw [h0]
 exact ⟨_,_,rfl,rfl⟩
theorem Be1 (h:By) (b:Bool) (s:By) (h0:A4 h.length=true) (h1:A4 s.length=true):∃ r H,lgf LF h b s (λr0 s1 b2=>rv (.s (.int .i64 r0)) [.box [.s (.str s1),.s (.bool b2)]])=rv r H/\r.stab [] H = .s (.int .i64 (Q1 h s)):=by
 unfold lgf
 rw [h0,h1]
 exact ⟨_,_,rfl,rfl⟩
theorem YV {R:Type} (z t:Bool) (l:List Ent) (hs:(F8 l).all smE=true) (k0:Int->Option R) (k1:Unit->Option R) (hl:l.length<=1000000000):∀ (r i m:Nat),i+r=l.length->r<m->
  Gj LF m z t (F8 l) (l.length:Int) (i:Int) k0 k1=match (l.drop i).findIdx? (λe=>!D6 e.1) with | some j=>k0 ((i+j:Nat):Int) | none=>k1 ():=by
 intro r
 induction r with
 | zero=>
  intro i m hi hm
  obtain ⟨m,rfl⟩:∃ q,m=q+1:=⟨m-1,by omega⟩
  rw [Gj,A6,List.drop_of_length_le (by omega)]
  rfl
 | succ r ih=>
  intro i m hi hm
  obtain ⟨m,rfl⟩:∃ q,m=q+1:=⟨m-1,by omega⟩
  have e1:A1 ((i:Int)+1)=((i+1:Nat):Int):=by rw [A3];rfl
  have hd:l.drop i=l.getD i noE::l.drop (i+1):=by
   rw [List.getD_eq_getElem?_getD,List.getElem?_eq_getElem (by omega),Option.getD_some,List.getElem_cons_drop]
  rw [Gj,A7,M8 (by omega) (by rw [C8];omega),Int.toNat_natCast,Jy (by omega),Gf (by omega),Ow hs (by omega),e1,hd,List.findIdx?_cons]
  simp only [cond_true]
  cases D6 (l.getD i noE).1 with
  | false=>simp
  | true=>
   rw [Bool.not_true,cond_false,ih (i+1) m (by omega) (by omega)]
   cases (l.drop (i+1)).findIdx? (λe=>!D6 e.1) with
   | none=>rfl
   | some j=>simp [Nat.add_assoc,Nat.add_comm 1 j]
theorem YW {R:Type} {k0:Int->Option R} (z t:Bool) (l:LL) (h0:l.all K3=true) (h1:l.all smE=true) (h2:A4 l.length=true):A03 LF z t l k0=k0 (ixE (l.map B5)):=by
 have hLF:=E5
 have hl:=L8 h2
 rw [Df h0] at h1 hl ⊢
 generalize l.map B5=q at h1 hl ⊢
 rw [C8] at hl
 unfold A03 ixE
 rw [C8,Nc]
 refine (YV z t q h1 _ _ hl q.length 0 LF (by omega) (by omega)).trans ?_
 rw [List.drop_zero]
 cases q.findIdx? (λe=>!D6 e.1) with
 | none=>rfl
 | some j=>
  show k0 ((0+j:Nat):Int)=k0 (j:Int)
  rw [Nat.zero_add]
theorem Bd9 (l:List Ent):(!ltI (ixE l) 0)=NF l:=by
 unfold ixE NF
 cases h:l.findIdx? (λe=>!D6 e.1) with
 | none=>
  rw [List.findIdx?_eq_none_iff] at h
  show (!ltI (-1) 0)=_
  rw [A7]
  exact (List.any_eq_false.2 λx hx=>by rw [h x hx];simp).symm
 | some j=>
  show (!ltI (j:Int) 0)=_
  rw [A6]
  exact (List.any_eq_true.2 (by
   obtain ⟨hj,hp,_⟩:=List.findIdx?_eq_some_iff_getElem.1 h
   exact ⟨_,List.getElem_mem hj,hp⟩)).symm
theorem YS {R:Type} {k0:Bool->Option R} (z t:Bool) (l:LL) (h0:l.all K3=true) (h1:l.all smE=true) (h2:A4 l.length=true):A00 LF z t l k0=k0 (NF (l.map B5)):=by
 unfold A00
 rw [h0,h1,h2,<-Bd9]
 rfl
theorem An9 {z:Bool} {l:LL} (h:Io z l=true) (hz:z=true):l=[]:=by
 subst hz
 simpa [Io] using h
theorem YR {R:Type} {k0:Bool->LL->Option R} (z t:Bool) (l:LL) (h0:A4 l.length=true) (h1:Io z l=true):Az8 LF z t l k0=k0 z l:=by
 unfold Az8
 cases z with
 | true=>rw [An9 h1 rfl];rfl
 | false=>
  have:=L8 h0
  rw [E2 (by omega)]
  rfl
theorem Bm5 {a b:Nat} (h:a+b<=4000000000):A1 (Ar1 .u64 (As7 (A1 ((a:Int)+(b:Int)))) 1)=(((a+b) / 2:Nat):Int):=by
 have e1:A1 ((a:Int)+(b:Int))=((a+b:Nat):Int):=by rw [A3];omega
 have e2:As7 ((a+b:Nat):Int)=((a+b:Nat):Int):=XC (by omega) (by omega)
 have e3:Ar1 .u64 ((a+b:Nat):Int) 1=(((a+b) / 2:Nat):Int):=A61 .u64 (a+b) 1 (by decide)
 rw [e1,e2,e3,A3]
theorem AK {R:Type} (z t:Bool) (l:List Ent) (s:By) (hs:(F8 l).all smE=true) (h1:A4 s.length=true) (n:Int) (k0:Bool->Bool->LL->By->Int->Int->Option R) (hl:l.length<=1000000000):∀ (r i j m:Nat),j-i<=r->i<=j->j<=l.length->r<m->
  Dk LF m z t (F8 l) s n (i:Int) (j:Int) k0=k0 z t (F8 l) s n ((Li (λi=>Q1 ((l.map Prod.fst).getD i []) s) (r+1) i j:Nat):Int):=by
 intro r
 induction r with
 | zero=>
  intro i j m hr hi hj hm
  obtain ⟨m,rfl⟩:∃ q,m=q+1:=⟨m-1,by omega⟩
  rw [Dk,A6]
  unfold Li
  rw [G4]
  rfl
 | succ r ih=>
  intro i j m hr hi hj hm
  obtain ⟨m,rfl⟩:∃ q,m=q+1:=⟨m-1,by omega⟩
  rw [Dk]
  by_cases hij:i<j
  ·have hh:(i+j) / 2<l.length:=by omega
   rw [A7,Li,if_pos hij]
   simp only [vl,cond_true]
   rw [Bm5 (by omega),M8 (by omega) (by rw [C8];omega),Int.toNat_natCast,Jy hh,Gf hh,Ow hs hh,h1,VO Prod.fst (d:=noE) hh]
   simp only [cond_true]
   have e1:A1 ((((i+j) / 2:Nat):Int)+1)=(((i+j) / 2+1:Nat):Int):=by rw [A3];rfl
   by_cases hc:Q1 (l.getD ((i+j) / 2) noE).1 s<0
   ·rw [C0 hc,cond_true,if_pos hc,e1,ih _ _ m (by omega) (by omega) hj (by omega)]
   ·rw [E0 (by omega),cond_false,if_neg hc,ih _ _ m (by omega) (by omega) (by omega) (by omega)]
  ·rw [A6,Li,if_neg hij]
   rfl
theorem YP {R:Type} {k0:Int->Bool->Option R} (z t:Bool) (l:LL) (s:By) (h0:l.all K3=true) (h1:l.all smE=true) (h2:A4 l.length=true) (h3:A4 s.length=true) :
  Az6 LF z t l s k0=k0 (bsI ((l.map B5).map Prod.fst) s:Int) (bsB ((l.map B5).map Prod.fst) s):=by
 have hLF:=E5
 have hl:=L8 h2
 rw [Df h0] at h1 hl ⊢
 generalize l.map B5=q at h1 hl ⊢
 rw [C8] at hl
 unfold Az6
 rw [C8,Nc]
 have hlo:=AK (R:=R) z t q s h1 h3 (q.length:Int)
 refine (AK z t q s h1 h3 _ _ hl q.length 0 q.length LF (by omega) (by omega) (by omega) (by omega)).trans ?_
 have hle:=(Tm (λi=>Q1 ((q.map Prod.fst).getD i []) s) (q.length+1) 0 q.length (by omega)).2
 have e:bsI (q.map Prod.fst) s=Li (λi=>Q1 ((q.map Prod.fst).getD i []) s) (q.length+1) 0 q.length:=by unfold bsI;rw [List.length_map]
 rw [<-e] at hle ⊢
 unfold bsB
 generalize bsI (q.map Prod.fst) s=i at hle ⊢
 rw [List.length_map]
 by_cases hi:i<q.length
 ·simp only [vl]
  rw [A7,M8 (by omega) (by rw [C8];omega),Int.toNat_natCast,Jy hi,Gf hi,Ow h1 hi,h3,show Nat.blt i q.length=true from Tl.2 hi,VO Prod.fst (d:=noE) hi,XO]
  rfl
 ·rw [A6,show Nat.blt i q.length=false by cases hb:Nat.blt i q.length with | false=>rfl | true=>exact absurd (Tl.1 hb) hi]
  rfl
theorem Ar2 {l:List Ent} (h:(F8 l).all smE=true):∀ e∈l,e.1.length<=1000000000:=λe he=>by
 have:=List.all_eq_true.1 h (Qs e) (List.mem_map.2 ⟨e,he,rfl⟩)
 exact L8 this
end
section
open Go Go.Proofs
set_option maxRecDepth 100000
section
variable {σ R : Type} (lf : Nat) (cl : D1) (yh : Yh σ) (s : σ) (k : Out -> St σ -> Option R)
noncomputable abbrev Ag9:Code:=E3 Tryz.f26
noncomputable def Ln (lf:Nat):Cfg:=C2 lf [26] (A5 [(8,[2,0,0,0])]) [(57,CO),(60,CM)] (A5 [(12,[2,0]),(9,[4,0]),(11,[2,0]),(10,[4,0,26]),(8,[4,0,12]),(7,[4,0]),(6,[4]),(5,[4]),(4,[2,0]),(3,[0,9]),(2,[2,0]),(1,[0,7]),(0,[0])]) [57] (A5 [(0,[4]),(1,[4,0])]) (some [2,0]) [] [] [] (nt:=[(105,0,63,2)]) (Z:=[(61,Pq)])
noncomputable def Z4 {R:Type} (lf n:Nat) (i0:Int) (z1:Bool) (l2:LL) (k0:(List Blk)->Option R) (k1:Bool->LL->Option R):Option R:=match n with | 0=>none | n+1=>cond (ltI i0 (l2.length:Int)) (cond (inR i0 l2.length) (cond (okE Gw l2 (Int.toNat i0) 0) (cond (inR (A1 (i0-1)) l2.length) (cond (okE Gw l2 (Int.toNat (A1 (i0-1))) 0) (vl (gX l2 (Int.toNat (A1 (i0-1))) 0) λs'0=>cond ((gX l2 (Int.toNat i0) 0)==s'0) (k0 [(Blk.arr z1 63 2 l2)]) (Z4 lf n (A1 (i0+1)) z1 l2 k0 k1)) none) none) none) none) (k1 z1 l2)
theorem PO (n i0 z1 l2):E6 1 ((Ln lf).keep 8) (bd (Ln lf) cl yh (cd [1,1,1,1,1,0,1,0,0] Ag9)) n ⟨gp [(4,.fl 0),(0,pI i0)] 30,[.arr z1 63 2 l2],s⟩ k =
 Z4 lf n i0 z1 l2 (λH0=>k .ret ⟨gp [(2,.s (.nilp)),(0,pI (17:Int))] 32,H0,s⟩) (λz0 l1=>k (.exit 0) ⟨gp [(4,.fl 0)] 31,[.arr z0 63 2 l1],s⟩):=by
 induction n generalizing i0 z1 l2 with
 | zero=>rfl
 | succ n ih=>rw [Z4];simp only [<-ih];kernel_rfl
noncomputable def YX {R:Type} (lf:Nat) (l_z0 l_t1:Bool) (l2:LL) (k0:Int->(List Blk)->Option R) (k1:Bool->LL->(List Blk)->Option R):Option R:=cond (ltI 1000 (l2.length:Int)) (k0 3 []) (cond (List.all l2 K3) (cond (List.all l2 smE) (cond (A4 l2.length) (cond (NF (List.map B5 l2)) (k0 14 []) (cond (A4 l2.length) (cond (Io l_z0 l2) (cond ((List.all l2 K3)&&((List.all l2 smE)&&(A4 l2.length))) (Z4 lf lf 1 l_z0 (F8 (R1 (List.map B5 l2))) (λH'1=>k0 17 H'1) (λz'2 l'3=>k1 z'2 l'3 [])) none) none) none)) none) none) none)
theorem VZ (d:Nat) (l_z0 l_t1 l2):evC (Ln lf) (d+1) σ yh 26 [.s (.sl l_z0 l_t1 2 l2)] [] s=YX lf l_z0 l_t1 l2 (λr0 H1=>some (.tup [.s (.nilp),pI r0],H1,s)) (λz0 l1 H2=>some (.tup [.ptr 1 0 0,pI (0:Int)],(.arr z0 63 2 l1::.box [.fl 0]::H2),s)):=by
 refine (evE (fn:=Tryz.f26) (by kernel_rfl)).trans ?_
 generalize evC (Ln lf) d=cl
 unfold YX;exact (Eq.trans (by kernel_rfl) (A0 rfl (A0 (A0 (A0 (A0 rfl (A0 (A0 (A0 ((PO lf cl yh s (G5 0 (H5 (Ln lf) cl yh (cd [1,1,1,1,1,1] Ag9) (I4 (Ln lf) Tryz.f26))) lf 1 l_z0 (F8 (R1 (List.map B5 l2)))).trans (by kernel_rfl)) rfl) rfl) rfl)) rfl) rfl) rfl)))
noncomputable abbrev An0 (l_z0 l_t1:Bool) (l2:LL):Option (PV × List Blk × Unit):=YX LF l_z0 l_t1 l2 (λr0 H1=>some (.tup [.s (.nilp),pI r0],H1,())) (λz0 l1 H2=>some (.tup [.ptr 1 0 0,pI (0:Int)],(.arr z0 63 2 l1::.box [.fl 0]::H2),()))
noncomputable def EM (lf:Nat):Cfg:=C2 lf [28] (A5 []) [(65,MP)] (A5 [(6,[4,0]),(5,[4,0]),(4,[0,3,1,14]),(3,[0,3,1,0]),(2,[4,0]),(1,[0,0,2,4]),(0,[0,0,2])]) [65] (A5 []) (some [4,0]) [] [] []
noncomputable def VX {R:Type} (lf:Nat) (lz lt:Bool) (l:LL) (q:By) (k0:By->Bool->Bool->By->Bool->Option R):Option R:=cond (List.all l K3) (cond (List.all l smE) (cond (A4 l.length) (cond (A4 q.length) (vl (↑(bsI (List.map Prod.fst (List.map B5 l)) q):Int) λn'1=>cond (not (bsB (List.map Prod.fst (List.map B5 l)) q)) (k0 ([]:List UInt8) false false ([]:List UInt8) false) (cond (inR n'1 l.length) (cond (okE ⟨true,true,[.str,.bool]⟩ l (Int.toNat n'1) 0) (k0 (gX l (Int.toNat n'1) 0) (gY l (Int.toNat n'1) 1) true (gX l (Int.toNat n'1) 0) (gY l (Int.toNat n'1) 1)) none) none)) none) none) none) none
theorem Am5 (d:Nat) (lz lt l q):evC (EM lf) (d+1) σ yh 28 [.s (.sp [[.sl lz lt 2 l]] 0 0),pS q] [] s=VX lf lz lt l q (λr0 r1 r2 s3 b4=>some (.tup [.agg [pS r0,pB r1],pB r2],[.box [pS s3,pB b4]],s)):=by
 refine (evE (fn:=Tryz.f28) (by kernel_rfl)).trans ?_
 generalize evC (EM lf) d=cl
 unfold VX;kernel_rfl
noncomputable abbrev VY (lz lt:Bool) (l:LL) (q:By):Option (PV × List Blk × Unit):=VX LF lz lt l q (λr0 r1 r2 s3 b4=>some (.tup [.agg [pS r0,pB r1],pB r2],[.box [pS s3,pB b4]],()))
noncomputable def EN (lf:Nat):Cfg:=C2 lf [28] (A5 []) [] (A5 [(6,[4,0]),(5,[4,0]),(4,[0,3,1,14]),(3,[0,3,1,0]),(2,[4,0]),(1,[0,0,2,4]),(0,[0,0,2])]) [] (A5 []) (some [4,0]) [] [] []
noncomputable def Am7 {R:Type} (lf:Nat) (q:By) (k0:Unit->Option R):Option R:=k0 ()
theorem Am8 (d:Nat) (q):evC (EN lf) (d+1) σ yh 28 [.s (.nilp),pS q] [] s=Am7 lf q (λ_=>some (.tup [.agg [pS ([]:List UInt8),pB false],pB false],[.box [pS ([]:List UInt8),pB false]],s)):=by
 refine (evE (fn:=Tryz.f28) (by kernel_rfl)).trans ?_
 generalize evC (EN lf) d=cl
 unfold Am7;kernel_rfl
noncomputable abbrev A02 (q:By):Option (PV × List Blk × Unit):=Am7 LF q (λ_=>some (.tup [.agg [pS ([]:List UInt8),pB false],pB false],[.box [pS ([]:List UInt8),pB false]],()))
noncomputable abbrev Jj:Code:=E3 Tryz.f30
noncomputable def V9 (lf:Nat):Cfg:=C2 lf [30] (A5 []) [(28,Uh),(41,Po)] (A5 [(9,[4,0]),(8,[4,0]),(7,[2,1,0,3,22]),(6,[2,1,0,3,0]),(5,[2,1,0,2]),(4,[2,1,0,14]),(3,[4,0]),(2,[1,0,1,0,0,10]),(1,[1,0,1,0,0,0]),(0,[1,0,1,0])]) [] (A5 [(0,[4,0]),(1,[2,1,0])]) (some [4,0]) [] [(76,Ft)] []
noncomputable def Jv {R:Type} (lf:Nat) (x'2:By) (xs:List By) (self:Bool->Bool->LL->By->Bool->Option R) (z0 t1:Bool) (l2:LL) (s3:By) (b4:Bool) (k0:Bool->Bool->LL->By->Bool->Option R) (k1:Bool->Bool->LL->By->Bool->By->Bool->Option R):Option R:=cond (List.all l2 K3) (cond (List.all l2 smE) (cond (A4 l2.length) (cond (A4 x'2.length) (vl (((L5 (List.map B5 l2) x'2)).1).1 λs'3=>cond ((L5 (List.map B5 l2) x'2)).2 (cond (((L5 (List.map B5 l2) x'2)).1).2 (k1 z0 t1 l2 s'3 (((L5 (List.map B5 l2) x'2)).1).2 s3 b4) (self z0 t1 l2 s3 b4)) (self z0 t1 l2 s3 b4)) none) none) none) none
noncomputable def Il {R:Type} (lf:Nat) (L:List By) (z0 t1:Bool) (l2:LL) (s3:By) (b4:Bool) (k0:Bool->Bool->LL->By->Bool->Option R) (k1:Bool->Bool->LL->By->Bool->By->Bool->Option R):Option R:=A46 (α:=Bool->Bool->LL->By->Bool->Option R) (λz0 t1 l2 s3 b4=>k0 z0 t1 l2 s3 b4) (λx'2 xs self z0 t1 l2 s3 b4=>Jv lf x'2 xs self z0 t1 l2 s3 b4 k0 k1) L z0 t1 l2 s3 b4
theorem Wu {R:Type} (lf:Nat) (x'2:By) (xs:List By) (z0 t1:Bool) (l2:LL) (s3:By) (b4:Bool) (k0:Bool->Bool->LL->By->Bool->Option R) (k1:Bool->Bool->LL->By->Bool->By->Bool->Option R):Il lf (x'2::xs) z0 t1 l2 s3 b4 k0 k1=Jv lf x'2 xs (λz0 t1 l2 s3 b4=>Il lf xs z0 t1 l2 s3 b4 k0 k1) z0 t1 l2 s3 b4 k0 k1:=rfl
theorem JR (L:List By) (z0 t1:Bool) (l2:LL) (s3:By) (b4:Bool):Q0 #[21] (gp [(2,.ptr 0 0 0),(1,.ptr 1 0 0),(0,.ptr 2 0 0),(14,.fnr (Fn.func 76) [] [.bad])] 14) (bd (V9 lf) cl yh (cd [1,1,0,1,0,0] Jj)) (bd (V9 lf) cl yh (cd [1,1,0,1,0,1] Jj)) (L.map (λ(x'2:By)=>([pS x'2]:List PV))) [.box [.s (.sp [[.sl z0 t1 2 l2]] 0 0)],.box [pS ([]:List UInt8),pB false],.box [pB false],.box [pS s3,pB b4],.dead] s (rgK (gp [(2,.ptr 0 0 0),(1,.ptr 1 0 0),(0,.ptr 2 0 0),(14,.fnr (Fn.func 76) [] [.bad])] 14) (λH=>R0 H [4] [.box [.bad]]) k) =
 Il lf L z0 t1 l2 s3 b4 (λz0 t1 l2 s3 b4=>k .normal ⟨gp [(2,.ptr 0 0 0),(1,.ptr 1 0 0),(0,.ptr 2 0 0),(14,.fnr (Fn.func 76) [] [.bad])] 14,[.box [.s (.sp [[.sl z0 t1 2 l2]] 0 0)],.box [pS ([]:List UInt8),pB false],.box [pB false],.box [pS s3,pB b4],.box [.bad]],s⟩) (λz0 t1 l2 s3 b4 s5 b6=>k .ret ⟨gp [(2,.ptr 0 0 0),(1,.ptr 1 0 0),(0,.ptr 2 0 0),(14,.fnr (Fn.func 76) [] [.bad])] 14,[.box [.s (.sp [[.sl z0 t1 2 l2]] 0 0)],.box [pS s3,pB b4],.box [pB true],.box [pS s5,pB b6],.box [.bad]],s⟩):=by
 induction L generalizing z0 t1 l2 s3 b4 with
 | nil=>rfl
 | cons x'2 xs ih=>rw [Wu];unfold Jv;exact (Eq.trans (by kernel_rfl) (A0 (A0 (A0 (A0 (A8 λs'3=>(A0 (A0 rfl (ih z0 t1 l2 s3 b4)) (ih z0 t1 l2 s3 b4))) rfl) rfl) rfl) rfl))
noncomputable def Np {R:Type} (lf:Nat) (z0 t1:Bool) (l2:LL) (s3:By) (b4:Bool) (s5:By) (k0:Bool->Bool->LL->By->Bool->Option R) (k1:Bool->Bool->LL->By->Bool->By->Bool->Option R):Option R:=cond (A4 s5.length) (Il lf (I1 s5) z0 t1 l2 s3 b4 k0 k1) none
abbrev Wt (b:Code):Prop:=∀ (k:Out->St σ->Option R) z0 t1 l2 s3 b4 s5,B0 (V9 lf) cl yh b ⟨gp [(2,.ptr 0 0 0),(1,.ptr 1 0 0),(0,.ptr 2 0 0),(14,.fnr (Fn.func 76) [] [.ptr 4 0 0])] 14,[.box [.s (.sp [[.sl z0 t1 2 l2]] 0 0)],.box [pS ([]:List UInt8),pB false],.box [pB false],.box [pS s3,pB b4],.box [pS s5]],s⟩ k=Np lf z0 t1 l2 s3 b4 s5 (λz0 t1 l2 s3 b4=>k .normal ⟨gp [(2,.ptr 0 0 0),(1,.ptr 1 0 0),(0,.ptr 2 0 0),(14,.fnr (Fn.func 76) [] [.bad])] 14,[.box [.s (.sp [[.sl z0 t1 2 l2]] 0 0)],.box [pS ([]:List UInt8),pB false],.box [pB false],.box [pS s3,pB b4],.box [.bad]],s⟩) (λz0 t1 l2 s3 b4 s5 b6=>k .ret ⟨gp [(2,.ptr 0 0 0),(1,.ptr 1 0 0),(0,.ptr 2 0 0),(14,.fnr (Fn.func 76) [] [.bad])] 14,[.box [.s (.sp [[.sl z0 t1 2 l2]] 0 0)],.box [pS s3,pB b4],.box [pB true],.box [pS s5,pB b6],.box [.bad]],s⟩)
theorem JQ:Wt (R:=R) lf cl yh s (cd [1,1,0,1,0] Jj):=by
 intro k z0 t1 l2 s3 b4 s5;unfold Np;exact ((Aj8 [1,1,0,1,0] (by kernel_rfl)).trans (by kernel_rfl)).trans (Lv (JR lf cl yh s k (I1 s5) z0 t1 l2 s3 b4))
noncomputable def JP {R:Type} (lf:Nat) (lz lt:Bool) (l:LL) (q:By) (k0:By->Bool->Bool->Bool->LL->Option R) (k1:By->Bool->Bool->Bool->Bool->LL->By->Bool->Bool->By->Bool->Option R):Option R:=cond (List.all l K3) (cond (List.all l smE) (cond (A4 l.length) (cond (A4 q.length) (vl (((L5 (List.map B5 l) q)).1).1 λs'1=>cond ((L5 (List.map B5 l) q)).2 (k0 s'1 (((L5 (List.map B5 l) q)).1).2 lz lt l) (Np lf lz lt l s'1 (((L5 (List.map B5 l) q)).1).2 q (λz'4 t'5 l'6 s'7 b'8=>k1 ([]:List UInt8) false false z'4 t'5 l'6 ([]:List UInt8) false false s'7 b'8) (λz'9 t'10 l'11 s'12 b'13 s'14 b'15=>k1 s'12 b'13 true z'9 t'10 l'11 s'12 b'13 true s'14 b'15))) none) none) none) none
theorem Al9 (b_11010:Code) (h_lfndA_e1:Wt (R:=PV × List Blk × σ) lf cl yh s b_11010) (lz lt:Bool) (l:LL) (q:By):B0 (V9 lf) cl yh (cd [] (Q2 [1,1,0,1,0] b_11010 Jj)) ⟨[.s (.sp [[.sl lz lt 2 l]] 0 0),pS q]++tps 33,[],s⟩ (I4 (V9 lf) Tryz.f30)=JP lf lz lt l q (λr0 r1 z2 t3 l4=>some (.tup [.agg [pS r0,pB r1],pB true],[.box [.s (.sp [[.sl z2 t3 2 l4]] 0 0)],.box [pS r0,pB r1],.box [pB true],.box [pS r0,pB r1]],s)) (λr0 r1 r2 z3 t4 l5 s6 b7 b8 s9 b10=>some (.tup [.agg [pS r0,pB r1],pB r2],[.box [.s (.sp [[.sl z3 t4 2 l5]] 0 0)],.box [pS s6,pB b7],.box [pB b8],.box [pS s9,pB b10],.box [.bad]],s)):=by
 unfold JP;exact (Eq.trans (by kernel_rfl) (A0 (A0 (A0 (A0 (A8 λs'1=>(A0 rfl ((h_lfndA_e1 (G5 0 (H5 (V9 lf) cl yh (cd [1,1,1] Jj) (I4 (V9 lf) Tryz.f30))) lz lt l s'1 (((L5 (List.map B5 l) q)).1).2 q).trans (by kernel_rfl)))) rfl) rfl) rfl) rfl))
theorem Am0 (d:Nat) (lz lt l q):evC (V9 lf) (d+1) σ yh 30 [.s (.sp [[.sl lz lt 2 l]] 0 0),pS q] [] s=JP lf lz lt l q (λr0 r1 z2 t3 l4=>some (.tup [.agg [pS r0,pB r1],pB true],[.box [.s (.sp [[.sl z2 t3 2 l4]] 0 0)],.box [pS r0,pB r1],.box [pB true],.box [pS r0,pB r1]],s)) (λr0 r1 r2 z3 t4 l5 s6 b7 b8 s9 b10=>some (.tup [.agg [pS r0,pB r1],pB r2],[.box [.s (.sp [[.sl z3 t4 2 l5]] 0 0)],.box [pS s6,pB b7],.box [pB b8],.box [pS s9,pB b10],.box [.bad]],s)):=
 (evE (fn:=Tryz.f30) (by kernel_rfl)).trans (Eq.trans (by kernel_rfl) (Al9 lf (evC (V9 lf) d) yh s (cd [1,1,0,1,0] Jj) (JQ lf (evC (V9 lf) d) yh s) lz lt l q))
noncomputable abbrev VV (lz lt:Bool) (l:LL) (q:By):Option (PV × List Blk × Unit):=JP LF lz lt l q (λr0 r1 z2 t3 l4=>some (.tup [.agg [pS r0,pB r1],pB true],[.box [.s (.sp [[.sl z2 t3 2 l4]] 0 0)],.box [pS r0,pB r1],.box [pB true],.box [pS r0,pB r1]],())) (λr0 r1 r2 z3 t4 l5 s6 b7 b8 s9 b10=>some (.tup [.agg [pS r0,pB r1],pB r2],[.box [.s (.sp [[.sl z3 t4 2 l5]] 0 0)],.box [pS s6,pB b7],.box [pB b8],.box [pS s9,pB b10],.box [.bad]],()))
noncomputable abbrev Jk:Code:=E3 Tryz.f30
noncomputable def W0 (lf:Nat):Cfg:=C2 lf [30] (A5 []) [(28,Uh),(41,Po)] (A5 [(9,[4,0]),(8,[4,0]),(7,[2,1,0,3,22]),(6,[2,1,0,3,0]),(5,[2,1,0,2]),(4,[2,1,0,14]),(3,[4,0]),(2,[1,0,1,0,0,10]),(1,[1,0,1,0,0,0]),(0,[1,0,1,0])]) [] (A5 [(0,[4,0]),(1,[2,1,0])]) (some [4,0]) [] [(76,Ft)] []
noncomputable def Rg {R:Type} (lf:Nat) (x'0:By) (xs:List By) (self:Unit->Option R) (k0:Unit->Option R):Option R:=self ()
noncomputable def Im {R:Type} (lf:Nat) (L:List By) (k0:Unit->Option R):Option R:=A46 (α:=Unit->Option R) (λ_=>k0 ()) (λx'0 xs self _=>Rg lf x'0 xs self  k0) L ()
theorem PM {R:Type} (lf:Nat) (x'0:By) (xs:List By) (k0:Unit->Option R):Im lf (x'0::xs)  k0=Rg lf x'0 xs (λ_=>Im lf xs  k0)  k0:=rfl
theorem JU (L:List By):Q0 #[21] (gp [(2,.ptr 0 0 0),(1,.ptr 1 0 0),(0,.ptr 2 0 0),(14,.fnr (Fn.func 76) [] [.bad])] 14) (bd (W0 lf) cl yh (cd [1,1,0,1,0,0] Jk)) (bd (W0 lf) cl yh (cd [1,1,0,1,0,1] Jk)) (L.map (λ(x'0:By)=>([pS x'0]:List PV))) [.box [.s (.nilp)],.box [pS ([]:List UInt8),pB false],.box [pB false],.box [pS ([]:List UInt8),pB false],.dead] s (rgK (gp [(2,.ptr 0 0 0),(1,.ptr 1 0 0),(0,.ptr 2 0 0),(14,.fnr (Fn.func 76) [] [.bad])] 14) (λH=>R0 H [4] [.box [.bad]]) k) =
 Im lf L  (λ_=>k .normal ⟨gp [(2,.ptr 0 0 0),(1,.ptr 1 0 0),(0,.ptr 2 0 0),(14,.fnr (Fn.func 76) [] [.bad])] 14,[.box [.s (.nilp)],.box [pS ([]:List UInt8),pB false],.box [pB false],.box [pS ([]:List UInt8),pB false],.box [.bad]],s⟩):=by
 induction L with
 | nil=>rfl
 | cons x'0 xs ih=>rw [PM];unfold Rg;exact (Eq.trans (by kernel_rfl) ih)
noncomputable def Nq {R:Type} (lf:Nat) (s0:By) (k0:Unit->Option R):Option R:=cond (A4 s0.length) (Im lf (I1 s0)  k0) none
abbrev Ww (b:Code):Prop:=∀ (k:Out->St σ->Option R) s0,B0 (W0 lf) cl yh b ⟨gp [(2,.ptr 0 0 0),(1,.ptr 1 0 0),(0,.ptr 2 0 0),(14,.fnr (Fn.func 76) [] [.ptr 4 0 0])] 14,[.box [.s (.nilp)],.box [pS ([]:List UInt8),pB false],.box [pB false],.box [pS ([]:List UInt8),pB false],.box [pS s0]],s⟩ k=Nq lf s0 (λ_=>k .normal ⟨gp [(2,.ptr 0 0 0),(1,.ptr 1 0 0),(0,.ptr 2 0 0),(14,.fnr (Fn.func 76) [] [.bad])] 14,[.box [.s (.nilp)],.box [pS ([]:List UInt8),pB false],.box [pB false],.box [pS ([]:List UInt8),pB false],.box [.bad]],s⟩)
theorem JT:Ww (R:=R) lf cl yh s (cd [1,1,0,1,0] Jk):=by
 intro k s0;unfold Nq;exact ((Aj8 [1,1,0,1,0] (by kernel_rfl)).trans (by kernel_rfl)).trans (Lv (JU lf cl yh s k (I1 s0) ))
noncomputable def JS {R:Type} (lf:Nat) (q:By) (k0:Unit->Option R):Option R:=Nq lf q (λ_=>k0 ())
theorem Am2 (b_11010:Code) (h_lfndB_e1:Ww (R:=PV × List Blk × σ) lf cl yh s b_11010) (q:By):B0 (W0 lf) cl yh (cd [] (Q2 [1,1,0,1,0] b_11010 Jk)) ⟨[.s (.nilp),pS q]++tps 33,[],s⟩ (I4 (W0 lf) Tryz.f30)=JS lf q (λ_=>some (.tup [.agg [pS ([]:List UInt8),pB false],pB false],[.box [.s (.nilp)],.box [pS ([]:List UInt8),pB false],.box [pB false],.box [pS ([]:List UInt8),pB false],.box [.bad]],s)):=by
 unfold JS;exact (Eq.trans (by kernel_rfl) ((h_lfndB_e1 (G5 0 (H5 (W0 lf) cl yh (cd [1,1,1] Jk) (I4 (W0 lf) Tryz.f30))) q).trans (by kernel_rfl)))
theorem Am3 (d:Nat) (q):evC (W0 lf) (d+1) σ yh 30 [.s (.nilp),pS q] [] s=JS lf q (λ_=>some (.tup [.agg [pS ([]:List UInt8),pB false],pB false],[.box [.s (.nilp)],.box [pS ([]:List UInt8),pB false],.box [pB false],.box [pS ([]:List UInt8),pB false],.box [.bad]],s)):=
 (evE (fn:=Tryz.f30) (by kernel_rfl)).trans (Eq.trans (by kernel_rfl) (Am2 lf (evC (W0 lf) d) yh s (cd [1,1,0,1,0] Jk) (JT lf (evC (W0 lf) d) yh s) q))
noncomputable abbrev VW (q:By):Option (PV × List Blk × Unit):=JS LF q (λ_=>some (.tup [.agg [pS ([]:List UInt8),pB false],pB false],[.box [.s (.nilp)],.box [pS ([]:List UInt8),pB false],.box [pB false],.box [pS ([]:List UInt8),pB false],.box [.bad]],()))
end
end
section
open Go Go.Op
set_option maxRecDepth 100000
theorem Ir {l:List Ent} {i:Nat} (h:i<l.length):okE Gw (F8 l) i 0=true:=by unfold okE;rw [Fd h];simp [h,okS,Qs,SV.has,Gw]
theorem Cg {α:Type} (d:α) {l:List α} {i:Nat} (h:i<l.length):l.drop i=l.getD i d::l.drop (i+1):=by
 rw [List.getD_eq_getElem?_getD,List.getElem?_eq_getElem h,Option.getD_some,List.getElem_cons_drop]
theorem AM {R:Type} (z:Bool) (S:List Ent) (k0:List Blk->Option R) (k1:Bool->LL->Option R) (hl:S.length<=1000000000):∀ (r j m:Nat),j+1+r=S.length->r<m->
  Z4 LF m ((j+1:Nat):Int) z (F8 S) k0 k1=if EE (S.drop j) then k0 [.arr z 63 2 (F8 S)] else k1 z (F8 S)
 | 0,j,m,hj,hm=>by
  obtain ⟨m,rfl⟩:∃ q,m=q+1:=⟨m-1,by omega⟩
  rw [Z4,E0 (by rw [C8];omega),Cg noE (by omega),List.drop_of_length_le (i:=j+1) (by omega)]
  rfl
 | r+1,j,m,hj,hm=>by
  obtain ⟨m,rfl⟩:∃ q,m=q+1:=⟨m-1,by omega⟩
  have e1:A1 (((j+1:Nat):Int)-1)=(j:Int):=by rw [A3];omega
  have e2:A1 (((j+1:Nat):Int)+1)=((j+1+1:Nat):Int):=by rw [A3];rfl
  rw [Z4,C0 (by rw [C8];omega),M8 (by omega) (by rw [C8];omega),Int.toNat_natCast,Ir (by omega),e1,M8 (by omega) (by rw [C8];omega),Int.toNat_natCast,Ir (by omega),Gf (by omega),Gf (by omega),e2]
  simp only [cond_true,vl]
  rw [Cg noE (by omega:j<S.length),Cg noE (by omega:j+1<S.length)]
  unfold EE
  cases hq:((S.getD (j+1) noE).1==(S.getD j noE).1) with
  | true=>rfl
  | false=>
   rw [cond_false,AM z S k0 k1 hl r (j+1) m (by omega) (by omega),Cg noE (by omega:j+1<S.length),Bool.false_or]
theorem AN {R:Type} {k0:Int->List Blk->Option R} {k1:Bool->LL->List Blk->Option R} (z t:Bool) (l:LL) (h0:l.all K3=true) (h1:l.all smE=true) (h2:A4 l.length=true) (hz:Io z l=true) :
  (Kn (l.map B5)=0->YX LF z t l k0 k1=k1 z (F8 (isE (l.map B5))) [])/\(Kn (l.map B5)≠0->∃ H,YX LF z t l k0 k1=k0 (Kn (l.map B5):Nat) H):=by
 have hLF:=E5
 have hl:=L8 h2
 have hr:=Df h0
 generalize hE:l.map B5=E at hr
 subst hr
 rw [C8] at hl
 have hs:=Ar2 h1
 have hp:=(Cy hs).length_eq
 unfold YX Kn
 rw [Nc] at hE ⊢
 by_cases c1:1000<E.length
 ·rw [C0 (by rw [C8];omega),if_pos c1]
  exact ⟨λh=>(by cases h),λ_=>⟨_,rfl⟩⟩
 ·rw [E0 (by rw [C8];omega),if_neg c1,cond_false,h0,h1,h2]
  simp only [cond_true,Bool.and_self]
  cases c2:NF E with
  | true=>exact ⟨λh=>(by cases h),λ_=>⟨_,rfl⟩⟩
  | false=>
   rw [hz]
   simp only [cond_true,cond_false,Bool.false_eq_true,if_false]
   have key:Z4 LF LF 1 z (F8 (R1 E)) (λH=>k0 17 H) (λz l=>k1 z l [])=if Na (E.map Prod.fst) then k0 17 [.arr z 63 2 (F8 (R1 E))] else k1 z (F8 (R1 E)) []:=by
    rw [<-Af9 hs]
    by_cases c0:E.length=0
    ·have e0:R1 E=[]:=List.eq_nil_of_length_eq_zero (by omega)
     rw [e0]
     obtain ⟨m,hm⟩:∃ q,LF=q+1:=⟨LF-1,by omega⟩
     have:∀ m,m=LF->Z4 LF m 1 z (F8 []) (λH=>k0 17 H) (λz l=>k1 z l [])=k1 z (F8 []) []:=λm' hm'=>by
      obtain ⟨q,rfl⟩:∃ q,m'=q+1:=⟨m'-1,by omega⟩
      rw [Z4];rfl
     exact this LF rfl
    ·exact AM z (R1 E) (λH=>k0 17 H) (λz l=>k1 z l []) (by omega) (E.length-1) 0 LF (by omega) (by omega)
   rw [key]
   cases c3:Na (E.map Prod.fst) with
   | true=>exact ⟨λh=>(by cases h),λ_=>⟨_,rfl⟩⟩
   | false=>
    rw [Ac5 hs c3]
    exact ⟨λ_=>rfl,λh=>absurd rfl h⟩
theorem WA (z t:Bool) (l:LL) (h0:l.all K3=true) (h1:l.all smE=true) (h2:A4 l.length=true) (hz:Io z l=true) {b:Bool} (hb:(Kn (l.map B5)==0)=b) :
  ∃ r H,An0 z t l=rv r H/\r.stabQ [0,0] [2] H=cond b (.tup [.s (.sp [[.sl z z 2 (F8 (isE (l.map B5)))]] 0 0),pI 0]) (.tup [.s .nilp,pI (Kn (l.map B5):Nat)]):=by
 unfold An0
 cases b with
 | true=>
  refine ⟨_,_,(AN z t l h0 h1 h2 hz).1 (eq_of_beq hb),?_⟩
  have hzz:(z&&(F8 (isE (l.map B5))).isEmpty)=z:=by
   cases z with
   | false=>rfl
   | true=>rw [An9 hz rfl];rfl
  show PV.tup [.s (.sp [[.sl (z&&(F8 (isE (l.map B5))).isEmpty) (z&&(F8 (isE (l.map B5))).isEmpty) 2 (F8 (isE (l.map B5)))]] 0 0),pI 0]=_
  rw [hzz];rfl
 | false=>
  obtain ⟨H,e⟩:=(AN z t l h0 h1 h2 hz).2 (by simpa using hb)
  exact ⟨_,_,e,rfl⟩
theorem Bc1 {h:List By} {s:By} (H:bsB h s=true):bsI h s<h.length:=by
 unfold bsB at H
 rw [Bool.and_eq_true] at H
 exact Tl.1 H.1
theorem Am6 (lz lt:Bool) (l:LL) (q:By) (h0:l.all K3=true) (h1:l.all smE=true) (h2:A4 l.length=true) (h3:A4 q.length=true) :
  ∃ r H,VY lz lt l q=rv r H/\r.stab [0,0] H = .tup [.agg [pS (L5 (l.map B5) q).1.1,pB (L5 (l.map B5) q).1.2],pB (L5 (l.map B5) q).2]:=by
 have hl:=L8 h2
 have hr:=Df h0
 unfold VY VX
 rw [h0,h1,h2,h3]
 simp only [cond_true,vl]
 generalize hE:l.map B5=E at hr
 subst hr
 rw [C8] at hl ⊢
 unfold L5 Ak5
 cases hb:bsB (E.map Prod.fst) q with
 | false=>exact ⟨_,_,rfl,rfl⟩
 | true=>
  have hlt:bsI (E.map Prod.fst) q<E.length:=by have:=Bc1 hb;rwa [List.length_map] at this
  rw [Bool.not_true,cond_false,M8 (by omega) (by omega),Int.toNat_natCast,Jy hlt,Gf hlt,OS hlt]
  exact ⟨_,_,rfl,rfl⟩
theorem Am9 (q:By):∃ r H,A02 q=rv r H/\r.stab [0,0] H = .tup [.agg [pS [],pB false],pB false]:=⟨_,_,rfl,rfl⟩
theorem GW {s:By} (h:A4 s.length=true):∀ u∈I1 s,A4 u.length=true:=λu hu=>by
 have:=(Y1 (O9 s) u hu).2
 have:=L8 h
 exact WZ
theorem Wv {R:Type} (z t:Bool) (l:LL) (s:By) (b:Bool) (k0:Bool->Bool->LL->By->Bool->Option R) (k1:Bool->Bool->LL->By->Bool->By->Bool->Option R) (h0:l.all K3=true) (h1:l.all smE=true) (h2:A4 l.length=true):∀ L:List By,(∀ u∈L,A4 u.length=true)->
  Il LF L z t l s b k0 k1=match L.find? λu=>(L5 (l.map B5) u).2&&(L5 (l.map B5) u).1.2 with
   | some u=>k1 z t l (L5 (l.map B5) u).1.1 (L5 (l.map B5) u).1.2 s b
   | none=>k0 z t l s b
 | [],_=>rfl
 | x::r,hs=>by
  have ih:=Wv z t l s b k0 k1 h0 h1 h2 r λu hu=>hs u (by simp [hu])
  rw [Wu]
  unfold Jv
  rw [h0,h1,h2,hs x (by simp),List.find?_cons]
  simp only [cond_true,vl]
  rw [ih]
  cases q1:(L5 (l.map B5) x).2 with
  | false=>rfl
  | true=>
   cases q2:(L5 (l.map B5) x).1.2 with
   | false=>rfl
   | true=>show k1 z t l _ true s b=k1 z t l _ (L5 (l.map B5) x).1.2 s b;rw [q2]
abbrev Ay0 (v:Ent × Bool):PV:=.tup [.agg [pS v.1.1,pB v.1.2],pB v.2]
theorem Am1 (lz lt:Bool) (l:LL) (q:By) (h0:l.all K3=true) (h1:l.all smE=true) (h2:A4 l.length=true) (h3:A4 q.length=true):∃ r H,VV lz lt l q=rv r H/\r.stab [0,0] H=Ay0 (Ag (l.map B5) q):=by
 unfold VV JP Np Ag
 rw [h0,h1,h2,h3]
 simp only [cond_true,vl]
 cases hg:(L5 (l.map B5) q).2 with
 | true=>refine ⟨_,_,rfl,?_⟩;rw [if_pos rfl];show Ay0 (_,true)=Ay0 (L5 (l.map B5) q);rw [<-hg]
 | false=>
  rw [cond_false,Wv lz lt l _ _ _ _ h0 h1 h2 _ (GW h3),if_neg (by simp)]
  cases hf:(I1 q).find? λu=>(L5 (l.map B5) u).2&&(L5 (l.map B5) u).1.2 with
  | none=>exact ⟨_,_,rfl,rfl⟩
  | some u=>
   have hu:=List.find?_some hf
   rw [Bool.and_eq_true] at hu
   refine ⟨_,_,rfl,?_⟩
   show Ay0 ((L5 (l.map B5) u).1,true)=_
   rw [<-hu.1]
theorem Wx {R:Type} (k0:Unit->Option R):∀ L:List By,Im LF L k0=k0 ()
 | []=>rfl
 | x::r=>Wx k0 r
theorem Am4 (q:By) (h3:A4 q.length=true):∃ r H,VW q=rv r H/\r.stab [0,0] H = .tup [.agg [pS [],pB false],pB false]:=by
 unfold VW JS Nq
 rw [h3,cond_true,Wx]
 exact ⟨_,_,rfl,rfl⟩
end
section
open Go Go.Proofs
set_option maxRecDepth 100000
section
variable {σ R : Type} (lf : Nat) (cl : D1) (yh : Yh σ) (s : σ) (k : Out -> St σ -> Option R)
noncomputable def Kh {R:Type} (lf n:Nat) (l_z0 l_t1:Bool) (l2:LL) (name3:By) (i4:Int) (s5:By) (b6:Bool) (k0:By->Bool->Option R):Option R:=match n with | 0=>none | n+1=>cond (ltI i4 (l2.length:Int)) (cond (inR i4 l2.length) (cond (okE ⟨true,true,[.str,.bool]⟩ l2 (Int.toNat i4) 0) (cond (A4 (List.length (gX l2 (Int.toNat i4) 0))) (cond (A4 name3.length) (cond (Db name3 (Bj9 (gX l2 (Int.toNat i4) 0) (gY l2 (Int.toNat i4) 1))) (cond (inR i4 l2.length) (cond (okE Gw l2 (Int.toNat i4) 0) (cond (ltI (s5.length:Int) (↑(List.length (gX l2 (Int.toNat i4) 0)):Int)) (cond (inR i4 l2.length) (cond (okE ⟨true,true,[.str,.bool]⟩ l2 (Int.toNat i4) 0) (Kh lf n l_z0 l_t1 l2 name3 (A1 (i4+1)) (gX l2 (Int.toNat i4) 0) (gY l2 (Int.toNat i4) 1) k0) none) none) (Kh lf n l_z0 l_t1 l2 name3 (A1 (i4+1)) s5 b6 k0)) none) none) (Kh lf n l_z0 l_t1 l2 name3 (A1 (i4+1)) s5 b6 k0)) none) none) none) none) (k0 s5 b6)
noncomputable abbrev Ag6:Code:=E3 Tryz.f12
noncomputable def Lk (lf:Nat):Cfg:=C2 lf [12] (A5 [(4,[0,3,0])]) [] (A5 [(8,[4]),(5,[0,4]),(7,[4]),(6,[0,4,16]),(4,[0,4,7]),(3,[0,4]),(2,[4]),(1,[0,8]),(0,[0,0])]) [] (A5 [(0,[]),(1,[0,4])]) (some [4]) [] [] []
noncomputable def Gi {R:Type} (lf n:Nat) (l_z0 l_t1:Bool) (l2:LL) (i3:Int) (k0:Unit->Option R) (k1:Unit->Option R):Option R:=match n with | 0=>none | n+1=>cond (ltI i3 (l2.length:Int)) (cond (inR i3 l2.length) (cond (okE Gw l2 (Int.toNat i3) 0) (cond (ltI 300 (↑(List.length (gX l2 (Int.toNat i3) 0)):Int)) (k0 ()) (Gi lf n l_z0 l_t1 l2 (A1 (i3+1)) k0 k1)) none) none) (k1 ())
theorem PC (n l_z0 l_t1 l2 i3):E6 0 ((Lk lf).keep 4) (bd (Lk lf) cl yh (cd [1,1,0,1,0,0] Ag6)) n ⟨gp [(0,.s (.sl l_z0 l_t1 2 l2)),(4,pI i3)] 17,[],s⟩ k =
 Gi lf n l_z0 l_t1 l2 i3 (λ_=>k .ret ⟨gp [(4,pB false)] 18,[],s⟩) (λ_=>k (.exit 0) ⟨gp [] 23,[],s⟩):=by
 induction n generalizing l_z0 l_t1 l2 i3 with
 | zero=>rfl
 | succ n ih=>rw [Gi];simp only [<-ih];kernel_rfl
noncomputable def Az1 {R:Type} (lf:Nat) (l_z0 l_t1:Bool) (l2:LL) (n3:Int) (k0:Bool->Option R):Option R:=cond (ltI n3 (l2.length:Int)) (k0 false) (Gi lf lf l_z0 l_t1 l2 0 (λ_=>k0 false) (λ_=>k0 true))
theorem Az2 (d:Nat) (l_z0 l_t1 l2 n3):evC (Lk lf) (d+1) σ yh 12 [.s (.sl l_z0 l_t1 2 l2),pI n3] [] s=Az1 lf l_z0 l_t1 l2 n3 (λr0=>some (pB r0,[],s)):=by
 refine (evE (fn:=Tryz.f12) (by kernel_rfl)).trans ?_
 generalize evC (Lk lf) d=cl
 unfold Az1;exact (Eq.trans (by kernel_rfl) (A0 rfl ((PC lf cl yh s (G5 0 (H5 (Lk lf) cl yh (cd [1,1,1] Ag6) (I4 (Lk lf) Tryz.f12))) lf l_z0 l_t1 l2 0).trans (by kernel_rfl))))
end
section
variable {σ R : Type} (lf : Nat) (cl : D1) (yh : Yh σ) (s : σ) (k : Out -> St σ -> Option R)
noncomputable def EO (lf:Nat):Cfg:=C2 lf [81] (A5 []) [] (A5 [(1,[6]),(0,[3,0,0])]) [] (A5 []) (some [6]) [] [] []
noncomputable def An3 {R:Type} (lf:Nat) (s0 sep1:By) (sepSave2:Int) (k0:By->By->Int->Option R):Option R:=k0 s0 sep1 sepSave2
theorem An4 (d:Nat) (s0 sep1 sepSave2):evC (EO lf) (d+1) σ yh 81 [pS s0,pS sep1,pI sepSave2] [] s=An3 lf s0 sep1 sepSave2 (λs0 s1 n2=>some (.fnr (Fn.func 106) [] [.ptr 1 0 0,.ptr 0 0 0,.ptr 2 0 0],[.box [pS s0],.box [pS s1],.box [pI n2]],s)):=by
 refine (evE (fn:=Tryz.f81) (by kernel_rfl)).trans ?_
 generalize evC (EO lf) d=cl
 unfold An3;kernel_rfl
noncomputable def OA (lf:Nat):Cfg:=C2 lf [49] (A5 []) [(81,CW)] (A5 [(1,[4]),(0,[0,0])]) [] (A5 []) (some [4]) [] [] []
noncomputable def Bf3 {R:Type} (lf:Nat) (s0 sep1:By) (k0:By->By->Option R):Option R:=k0 s0 sep1
theorem A62 (d:Nat) (s0 sep1):evC (OA lf) (d+1) σ yh 49 [pS s0,pS sep1] [] s=Bf3 lf s0 sep1 (λs0 s1=>some (.fnr (Fn.func 106) [] [.ptr 1 0 0,.ptr 0 0 0,.ptr 2 0 0],[.box [pS s0],.box [pS s1],.box [pI (0:Int)]],s)):=by
 refine (evE (fn:=Tryz.f49) (by kernel_rfl)).trans ?_
 generalize evC (OA lf) d=cl
 unfold Bf3;kernel_rfl
noncomputable abbrev Zn:Code:=E3 Tryz.f59
noncomputable def Hu (lf:Nat):Cfg:=C2 lf [59] (A5 []) [(93,Jg),(49,DZ),(94,CY)] (A5 [(7,[2]),(6,[2]),(5,[2,13]),(4,[2,0]),(3,[2,9]),(2,[2]),(1,[0,1,7]),(0,[0,1])]) [93,94] (A5 [(0,[2]),(1,[2])]) (some [2]) [] [(106,Mi)] []
noncomputable def Tn {R:Type} (lf:Nat) (x'0:By) (xs:List By) (self:Unit->Option R) (k0:Unit->Option R) (k1:Unit->Option R):Option R:=cond (A4 x'0.length) (cond (not (K2 x'0)) (k1 ()) (self ())) none
noncomputable def Wl {R:Type} (lf:Nat) (L:List By) (k0:Unit->Option R) (k1:Unit->Option R):Option R:=A46 (α:=Unit->Option R) (λ_=>k0 ()) (λx'0 xs self _=>Tn lf x'0 xs self  k0 k1) L ()
theorem JF {R:Type} (lf:Nat) (x'0:By) (xs:List By) (k0:Unit->Option R) (k1:Unit->Option R):Wl lf (x'0::xs)  k0 k1=Tn lf x'0 xs (λ_=>Wl lf xs  k0 k1)  k0 k1:=rfl
theorem YI (L:List By):Q0 #[13] (gp [(2,.ptr 0 0 0),(9,.fnr (Fn.func 106) [] [.bad,.bad,.bad])] 4) (bd (Hu lf) cl yh (cd [1,1,0,1,0,0] Zn)) (bd (Hu lf) cl yh (cd [1,1,0,1,0,1] Zn)) (L.map (λ(x'0:By)=>([pS x'0]:List PV))) [.box [pB false],.dead,.dead,.dead] s (rgK (gp [(2,.ptr 0 0 0),(9,.fnr (Fn.func 106) [] [.bad,.bad,.bad])] 4) (λH=>R0 H [2,1,3] [.box [.bad],.box [.bad],.box [.bad]]) k) =
 Wl lf L  (λ_=>k .normal ⟨gp [(2,.ptr 0 0 0),(9,.fnr (Fn.func 106) [] [.bad,.bad,.bad])] 4,[.box [pB false],.box [.bad],.box [.bad],.box [.bad]],s⟩) (λ_=>k .ret ⟨gp [(2,.ptr 0 0 0),(9,.fnr (Fn.func 106) [] [.bad,.bad,.bad])] 4,[.box [pB false],.box [.bad],.box [.bad],.box [.bad]],s⟩):=by
 induction L with
 | nil=>rfl
 | cons x'0 xs ih=>rw [JF];unfold Tn;exact (Eq.trans (by kernel_rfl) (A0 (A0 rfl ih) rfl))
noncomputable def FH {R:Type} (lf:Nat) (s0:By) (k0:Unit->Option R) (k1:Unit->Option R):Option R:=cond ((A4 s0.length)&&((1==1)&&((0:Int)==0))) (Wl lf (pcs (List.getD ([46]:List UInt8) 0 0) s0)  k0 k1) none
abbrev JE (b:Code):Prop:=∀ (k:Out->St σ->Option R) s0,B0 (Hu lf) cl yh b ⟨gp [(2,.ptr 0 0 0),(9,.fnr (Fn.func 106) [] [.ptr 2 0 0,.ptr 1 0 0,.ptr 3 0 0])] 4,[.box [pB false],.box [pS s0],.box [pS ([46]:List UInt8)],.box [pI (0:Int)]],s⟩ k=FH lf s0 (λ_=>k .normal ⟨gp [(2,.ptr 0 0 0),(9,.fnr (Fn.func 106) [] [.bad,.bad,.bad])] 4,[.box [pB false],.box [.bad],.box [.bad],.box [.bad]],s⟩) (λ_=>k .ret ⟨gp [(2,.ptr 0 0 0),(9,.fnr (Fn.func 106) [] [.bad,.bad,.bad])] 4,[.box [pB false],.box [.bad],.box [.bad],.box [.bad]],s⟩)
theorem YH:JE (R:=R) lf cl yh s (cd [1,1,0,1,0] Zn):=by
 intro k s0;unfold FH;exact ((Aj8 [1,1,0,1,0] (by kernel_rfl)).trans (by kernel_rfl)).trans (Lv (YI lf cl yh s k (pcs (List.getD ([46]:List UInt8) 0 0) s0) ))
noncomputable def hvn {R:Type} (lf:Nat) (name0:By) (k0:Unit->Option R) (k1:Bool->Bool->Option R):Option R:=cond (ltI 253 (name0.length:Int)) (k0 ()) (cond (A4 name0.length) (cond (N1 name0) (k0 ()) (FH lf name0 (λ_=>k1 true true) (λ_=>k1 false false))) none)
theorem Bd3 (b_11010:Code) (h_hvn_e1:JE (R:=PV × List Blk × σ) lf cl yh s b_11010) (name0:By):B0 (Hu lf) cl yh (cd [] (Q2 [1,1,0,1,0] b_11010 Zn)) ⟨[pS name0]++tps 16,[],s⟩ (I4 (Hu lf) Tryz.f59)=hvn lf name0 (λ_=>some (pB false,[.box [pB false]],s)) (λr0 b1=>some (pB r0,[.box [pB b1],.box [.bad],.box [.bad],.box [.bad]],s)):=by
 unfold hvn;exact (Eq.trans (by kernel_rfl) (A0 rfl (A0 (A0 rfl ((h_hvn_e1 (G5 0 (H5 (Hu lf) cl yh (cd [1,1,1] Zn) (I4 (Hu lf) Tryz.f59))) name0).trans (by kernel_rfl))) rfl)))
theorem Bd4 (d:Nat) (name0):evC (Hu lf) (d+1) σ yh 59 [pS name0] [] s=hvn lf name0 (λ_=>some (pB false,[.box [pB false]],s)) (λr0 b1=>some (pB r0,[.box [pB b1],.box [.bad],.box [.bad],.box [.bad]],s)):=
 (evE (fn:=Tryz.f59) (by kernel_rfl)).trans (Eq.trans (by kernel_rfl) (Bd3 lf (evC (Hu lf) d) yh s (cd [1,1,0,1,0] Zn) (YH lf (evC (Hu lf) d) yh s) name0))
noncomputable def NP (lf:Nat):Cfg:=C2 lf [41] (A5 []) [] (A5 [(1,[2]),(0,[1])]) [] (A5 []) (some [2]) [] [] []
noncomputable def Bd2 {R:Type} (lf:Nat) (name0:By) (k0:By->Option R):Option R:=k0 name0
theorem Ay9 (d:Nat) (name0):evC (NP lf) (d+1) σ yh 41 [pS name0] [] s=Bd2 lf name0 (λs0=>some (.fnr (Fn.func 76) [] [.ptr 0 0 0],[.box [pS s0]],s)):=by
 refine (evE (fn:=Tryz.f41) (by kernel_rfl)).trans ?_
 generalize evC (NP lf) d=cl
 unfold Bd2;kernel_rfl
noncomputable abbrev Ml:Code:=E3 Tryz.f106
noncomputable def T6 (lf:Nat):Cfg:=C2 lf [106] (A5 [(5,[0,0,0,0]),(1,[0,1])]) [(107,Mh),(108,Uz)] (A5 [(10,[]),(9,[0,0,0,0]),(8,[0,0,0,0,3,34]),(7,[0,0,0,0,3,0]),(6,[0,0,0,0,3,25]),(5,[0,0,0,0,3]),(4,[0,1]),(3,[0,1,3,18]),(2,[0,1,3]),(1,[0,1,11]),(0,[0,0,0,0,7])]) [108] (A5 [(2,[0,1]),(3,[0,0,0,0]),(0,[]),(1,[0,1])]) (some []) [] [] []
noncomputable def Yj {σ R:Type} (yh:Yh σ) (lf n:Nat) (s0 s1:By) (n2:Int) (s:σ) (k0:By->By->Int->σ->Option R):Option R:=match n with | 0=>none | n+1=>cond (ltI 0 (s1.length:Int)) none (k0 s0 s1 n2 s)
theorem LK (n:Nat) (s0 s1:By) (n2:Int) (s:σ):E6 3 ((T6 lf).keep 1) (bd (T6 lf) cl yh (cd [0,1,0,0,0,0] Ml)) n ⟨gp [(0,.yd),(1,.ptr 1 0 0)] 49,[.box [pS s0],.box [pS s1],.box [pI n2]],s⟩ k =
 Yj yh lf n s0 s1 n2 s (λs0 s1 n2 s=>k (.exit 0) ⟨gp [] 52,[.box [pS s0],.box [pS s1],.box [pI n2]],s⟩):=by
 induction n generalizing s0 s1 n2 s with
 | zero=>rfl
 | succ n ih=>rw [Yj];kernel_rfl
noncomputable def N2 {σ R:Type} (yh:Yh σ) (lf n:Nat) (s0 s1:By) (n2:Int) (s:σ) (k0:By->By->Int->σ->Option R) (k1:By->By->Int->σ->Option R):Option R:=match n with
 | 0=>none
 | n+1=>
  cond (A4 s1.length)
   (cond (ltI (Lib.index s1 s0) (0:Int))
   (k0 s0 s1 n2 s)
   (vl (A1 ((Lib.index s1 s0)+n2)) λn'5=>
    cond (N3 0 n'5 s1.length)
    (ydK (yh [pS (cut s1 0 n'5)] s) λby'6 s'y6=>
     (cond (not by'6)
     (k1 s0 s1 n2 s'y6)
     (vl (A1 ((Lib.index s1 s0)+(s0.length:Int))) λn'7=>
      cond (N3 n'7 (s1.length:Int) s1.length)
      (vl (cut s1 n'7 (s1.length:Int)) λs'8=>
       N2 yh lf n s0 s'8 n2 s'y6 k0 k1)
      none)))
    none))
   none
theorem LM (n:Nat) (s0 s1:By) (n2:Int) (s:σ):E6 3 ((T6 lf).keep 5) (bd (T6 lf) cl yh (cd [1,0,0,0] Ml)) n ⟨gp [(0,.yd),(0,.ptr 0 0 0),(0,.ptr 1 0 0),(0,.ptr 2 0 0)] 48,[.box [pS s0],.box [pS s1],.box [pI n2]],s⟩ k =
 N2 yh lf n s0 s1 n2 s (λs0 s1 n2 s=>k (.exit 2) ⟨gp [(0,.yd),(1,.ptr 1 0 0)] 49,[.box [pS s0],.box [pS s1],.box [pI n2]],s⟩) (λs0 s1 n2 s=>k .ret ⟨gp [] 52,[.box [pS s0],.box [pS s1],.box [pI n2]],s⟩):=by
 induction n generalizing s0 s1 n2 s with
 | zero=>rfl
 | succ n ih=>rw [N2];simp only [<-ih];kernel_rfl
noncomputable def LJ {σ R:Type} (yh:Yh σ) (lf:Nat) (p t:By) (n:Int) (s:σ) (k0:By->By->Int->σ->Option R):Option R:=
 cond ((p.length:Int)==0)
 (Yj yh lf lf p t n s (λs'0 s'1 n'2 s'3=>k0 s'0 s'1 n'2 s'3))
 (N2 yh lf lf p t n s (λs'9 s'10 n'11 s'12=>ydK (yh [pS s'10] s'12) λby'17 s'y17=>
  (k0 s'9 s'10 n'11 s'y17)) (λs'13 s'14 n'15 s'16=>k0 s'13 s'14 n'15 s'16))
theorem Ar3 (d:Nat) (p t n s):evC (T6 lf) (d+1) σ yh 106 [.yd,.ptr 0 0 0,.ptr 1 0 0,.ptr 2 0 0] [.box [pS p],.box [pS t],.box [pI n]] s=LJ yh lf p t n s (λs0 s1 n2 s=>some (.tup [],[.box [pS s0],.box [pS s1],.box [pI n2]],s)):=by
 refine (evE (fn:=Tryz.f106) (by kernel_rfl)).trans ?_
 generalize evC (T6 lf) d=cl
 unfold LJ;exact (Eq.trans (by kernel_rfl) (A0 ((LK lf cl yh (G5 0 (H5 (T6 lf) cl yh (cd [0,1,0,1] Ml) (H5 (T6 lf) cl yh (cd [1] Ml) (I4 (T6 lf) Tryz.f106)))) lf p t n s).trans (by kernel_rfl)) ((LM lf cl yh (G5 2 (H5 (T6 lf) cl yh (cd [1,1] Ml) (I4 (T6 lf) Tryz.f106))) lf p t n s).trans (by kernel_rfl))))
noncomputable abbrev Aw2:Code:=E3 Tryz.f76
noncomputable def Jl (lf:Nat):Cfg:=C2 lf [76] (A5 [(1,[0,0])]) [(59,UF),(50,DU)] (A5 [(3,[0,0]),(2,[0,0,2,17]),(1,[0,0,2,0]),(0,[0,0,6])]) [59,50] (A5 [(0,[]),(1,[0,0])]) (some []) [] [] []
noncomputable def W4 {σ R:Type} (yh:Yh σ) (lf n:Nat) (s0:By) (s:σ) (k0:By->σ->Option R):Option R:=match n with
 | 0=>none
 | n+1=>
  cond (A4 s0.length)
   (vl ((Lib.cut s0 ([46]:List UInt8))).1 λs'2=>
   vl (((Lib.cut s0 ([46]:List UInt8))).2).1 λs'3=>
    cond (not (((Lib.cut s0 ([46]:List UInt8))).2).2)
    (k0 s0 s)
    (ydK (yh [pS s'3] s) λby'4 s'y4=>
     (cond (not by'4)
     (k0 s0 s'y4)
     (W4 yh lf n s'3 s'y4 k0))))
   none
theorem JD (n:Nat) (s0:By) (s:σ):E6 1 ((Jl lf).keep 1) (bd (Jl lf) cl yh (cd [1,0,0] Aw2)) n ⟨gp [(0,.yd),(0,.ptr 0 0 0)] 22,[.box [pS s0]],s⟩ k =
 W4 yh lf n s0 s (λs0 s=>k .ret ⟨gp [] 24,[.box [pS s0]],s⟩):=by
 induction n generalizing s0 s with
 | zero=>rfl
 | succ n ih=>rw [W4];simp only [<-ih];kernel_rfl
noncomputable def JC {σ R:Type} (yh:Yh σ) (lf:Nat) (t:By) (s:σ) (k0:By->σ->Option R):Option R:=cond (A4 t.length) (cond (not (D6 t)) (k0 t s) (W4 yh lf lf t s (λs'5 s'6=>k0 s'5 s'6))) none
theorem Al1 (d:Nat) (t s):evC (Jl lf) (d+1) σ yh 76 [.yd,.ptr 0 0 0] [.box [pS t]] s=JC yh lf t s (λs0 s=>some (.tup [],[.box [pS s0]],s)):=by
 refine (evE (fn:=Tryz.f76) (by kernel_rfl)).trans ?_
 generalize evC (Jl lf) d=cl
 unfold JC;exact (Eq.trans (by kernel_rfl) (A0 (A0 rfl ((JD lf cl yh (G5 0 (I4 (Jl lf) Tryz.f76)) lf t s).trans (by kernel_rfl))) rfl))
end
end
end Go.Proofs.YtelhbgonncceeaaGreatDoor.E
namespace Go.Proofs
open Go.Shelf
def Tryz.lays156_ren:Go.Shelf.Ren:=⟨fun | 156=>119 | 165=>162 | 166=>70 | 169=>72 | 240=>104 | 241=>187 | 276=>147 | 277=>196 | n=>n,fun | 31=>83 | 9=>9 | 3=>3 | 4=>4 | 0=>0 | 20=>20 | 72=>112 | 76=>115 | 70=>109 | 37=>110 | 75=>114 | 127=>142 | 164=>172 | 5=>5 | 80=>118 | n=>n,fun | n=>n⟩
theorem Tryz.lays156:Go.Proofs.Lays.n156 Tryz.prog Tryz.lays156_ren:={
 mixed:=by kernel_rfl
 f156:=Tryz.func119.trans (congrArg some (by kernel_rfl))
 f165:=Tryz.func162.trans (congrArg some (by kernel_rfl))
 f166:=Tryz.func70.trans (congrArg some (by kernel_rfl))
 f169:=Tryz.func72.trans (congrArg some (by kernel_rfl))
 f240:=Tryz.func104.trans (congrArg some (by kernel_rfl))
 f241:=Tryz.func187.trans (congrArg some (by kernel_rfl))
 f276:=Tryz.func147.trans (congrArg some (by kernel_rfl))
 f277:=Tryz.func196.trans (congrArg some (by kernel_rfl))
 t0:=Tryz.underlying0
 a0:=Tryz.isAgg0
 z0:=Tryz.sizeOf0
 v0:=Tryz.zeroValue0
 t3:=Tryz.underlying3
 a3:=Tryz.isAgg3
 z3:=Tryz.sizeOf3
 v3:=Tryz.zeroValue3
 t4:=Tryz.underlying4
 a4:=Tryz.isAgg4
 z4:=Tryz.sizeOf4
 v4:=Tryz.zeroValue4
 t9:=Tryz.underlying9
 a9:=Tryz.isAgg9
 z9:=Tryz.sizeOf9
 v9:=Tryz.zeroValue9
 t20:=Tryz.underlying20
 a20:=Tryz.isAgg20
 z20:=Tryz.sizeOf20
 v20:=Tryz.zeroValue20
 t31:=Tryz.underlying83
 a31:=Tryz.isAgg83
 z31:=Tryz.sizeOf83
 v31:=Tryz.zeroValue83
 t37:=Tryz.underlying110
 a37:=Tryz.isAgg110
 z37:=Tryz.sizeOf110
 v37:=Tryz.zeroValue110
 t70:=Tryz.underlying109
 a70:=Tryz.isAgg109
 z70:=Tryz.sizeOf109
 v70:=Tryz.zeroValue109
 t72:=Tryz.underlying112
 a72:=Tryz.isAgg112
 z72:=Tryz.sizeOf112
 v72:=Tryz.zeroValue112
 t75:=Tryz.underlying114
 a75:=Tryz.isAgg114
 z75:=Tryz.sizeOf114
 v75:=Tryz.zeroValue114
 t76:=Tryz.underlying115
 a76:=Tryz.isAgg115
 z76:=Tryz.sizeOf115
 v76:=Tryz.zeroValue115
 t127:=Tryz.underlying142
 a127:=Tryz.isAgg142
 z127:=Tryz.sizeOf142
 v127:=Tryz.zeroValue142
 t164:=Tryz.underlying172
 a164:=Tryz.isAgg172
 z164:=Tryz.sizeOf172
 v164:=Tryz.zeroValue172 }
theorem Tryz.Builder_Extra_156:Builder.Extra Tryz.prog Tryz.lays156_ren:={
 sizeBuilder:=by kernel_rfl
 liesBuilder:=by kernel_rfl
 t5:=Tryz.underlying5
 a5:=Tryz.isAgg5
 z5:=Tryz.sizeOf5
 v5:=Tryz.zeroValue5
 infoByte:=by kernel_rfl
 cellsByte:=by kernel_rfl
 sizeByte:=by kernel_rfl
 neB5:=by decide }
def Tryz.lays195_ren:Go.Shelf.Ren:=⟨fun | 195=>160 | n=>n,fun | 9=>9 | 3=>3 | 0=>0 | 4=>4 | n=>n,fun | n=>n⟩
theorem Tryz.lays195:Go.Proofs.Lays.n195 Tryz.prog Tryz.lays195_ren:={
 mixed:=by kernel_rfl
 f195:=Tryz.func160.trans (congrArg some (by kernel_rfl))
 t0:=Tryz.underlying0
 a0:=Tryz.isAgg0
 z0:=Tryz.sizeOf0
 v0:=Tryz.zeroValue0
 t3:=Tryz.underlying3
 a3:=Tryz.isAgg3
 z3:=Tryz.sizeOf3
 v3:=Tryz.zeroValue3
 t4:=Tryz.underlying4
 a4:=Tryz.isAgg4
 z4:=Tryz.sizeOf4
 v4:=Tryz.zeroValue4
 t9:=Tryz.underlying9
 a9:=Tryz.isAgg9
 z9:=Tryz.sizeOf9
 v9:=Tryz.zeroValue9 }
def Tryz.lays143_ren:Go.Shelf.Ren:=⟨fun | 143=>108 | 219=>109 | 217=>150 | 225=>151 | 224=>152 | 267=>153 | 266=>177 | 314=>178 | n=>n,fun | 9=>9 | 3=>3 | 4=>4 | 5=>5 | 46=>139 | 146=>192 | 51=>24 | n=>n,fun | 1=>0 | n=>n⟩
theorem Tryz.lays143:Go.Proofs.Lays.n143 Tryz.prog Tryz.lays143_ren:={
 mixed:=by kernel_rfl
 f143:=Tryz.func108.trans (congrArg some (by kernel_rfl))
 f217:=Tryz.func150.trans (congrArg some (by kernel_rfl))
 f219:=Tryz.func109.trans (congrArg some (by kernel_rfl))
 f224:=Tryz.func152.trans (congrArg some (by kernel_rfl))
 f225:=Tryz.func151.trans (congrArg some (by kernel_rfl))
 f266:=Tryz.func177.trans (congrArg some (by kernel_rfl))
 f267:=Tryz.func153.trans (congrArg some (by kernel_rfl))
 f314:=Tryz.func178.trans (congrArg some (by kernel_rfl))
 t3:=Tryz.underlying3
 a3:=Tryz.isAgg3
 z3:=Tryz.sizeOf3
 v3:=Tryz.zeroValue3
 t4:=Tryz.underlying4
 a4:=Tryz.isAgg4
 z4:=Tryz.sizeOf4
 v4:=Tryz.zeroValue4
 t5:=Tryz.underlying5
 a5:=Tryz.isAgg5
 z5:=Tryz.sizeOf5
 v5:=Tryz.zeroValue5
 t9:=Tryz.underlying9
 a9:=Tryz.isAgg9
 z9:=Tryz.sizeOf9
 v9:=Tryz.zeroValue9
 t46:=Tryz.underlying139
 a46:=Tryz.isAgg139
 z46:=Tryz.sizeOf139
 v46:=Tryz.zeroValue139
 t51:=Tryz.underlying24
 a51:=Tryz.isAgg24
 z51:=Tryz.sizeOf24
 v51:=Tryz.zeroValue24
 t146:=Tryz.underlying192
 a146:=Tryz.isAgg192
 z146:=Tryz.sizeOf192
 v146:=Tryz.zeroValue192
 g1:=by kernel_rfl }
def Tryz.lays145_ren:Go.Shelf.Ren:=⟨fun | 145=>50 | 220=>82 | 219=>109 | 217=>150 | 225=>151 | 224=>152 | 267=>153 | 266=>177 | 314=>178 | n=>n,fun | 9=>9 | 4=>4 | 59=>91 | 3=>3 | 5=>5 | 46=>139 | 146=>192 | 51=>24 | n=>n,fun | 1=>0 | n=>n⟩
theorem Tryz.lays145:Go.Proofs.Lays.n145 Tryz.prog Tryz.lays145_ren:={
 mixed:=by kernel_rfl
 f145:=Tryz.func50.trans (congrArg some (by kernel_rfl))
 f217:=Tryz.func150.trans (congrArg some (by kernel_rfl))
 f219:=Tryz.func109.trans (congrArg some (by kernel_rfl))
 f220:=Tryz.func82.trans (congrArg some (by kernel_rfl))
 f224:=Tryz.func152.trans (congrArg some (by kernel_rfl))
 f225:=Tryz.func151.trans (congrArg some (by kernel_rfl))
 f266:=Tryz.func177.trans (congrArg some (by kernel_rfl))
 f267:=Tryz.func153.trans (congrArg some (by kernel_rfl))
 f314:=Tryz.func178.trans (congrArg some (by kernel_rfl))
 t3:=Tryz.underlying3
 a3:=Tryz.isAgg3
 z3:=Tryz.sizeOf3
 v3:=Tryz.zeroValue3
 t4:=Tryz.underlying4
 a4:=Tryz.isAgg4
 z4:=Tryz.sizeOf4
 v4:=Tryz.zeroValue4
 t5:=Tryz.underlying5
 a5:=Tryz.isAgg5
 z5:=Tryz.sizeOf5
 v5:=Tryz.zeroValue5
 t9:=Tryz.underlying9
 a9:=Tryz.isAgg9
 z9:=Tryz.sizeOf9
 v9:=Tryz.zeroValue9
 t46:=Tryz.underlying139
 a46:=Tryz.isAgg139
 z46:=Tryz.sizeOf139
 v46:=Tryz.zeroValue139
 t51:=Tryz.underlying24
 a51:=Tryz.isAgg24
 z51:=Tryz.sizeOf24
 v51:=Tryz.zeroValue24
 t59:=Tryz.underlying91
 a59:=Tryz.isAgg91
 z59:=Tryz.sizeOf91
 v59:=Tryz.zeroValue91
 t146:=Tryz.underlying192
 a146:=Tryz.isAgg192
 z146:=Tryz.sizeOf192
 v146:=Tryz.zeroValue192
 g1:=by kernel_rfl }
def Tryz.lays138_ren:Go.Shelf.Ren:=⟨fun | 138=>182 | 195=>160 | 218=>193 | 143=>108 | 219=>109 | 217=>150 | 225=>151 | 224=>152 | 267=>153 | 266=>177 | 314=>178 | n=>n,fun | 9=>9 | 3=>3 | 4=>4 | 5=>5 | 0=>0 | 46=>139 | 146=>192 | 51=>24 | n=>n,fun | 1=>0 | n=>n⟩
theorem Tryz.lays138:Go.Proofs.Lays.n138 Tryz.prog Tryz.lays138_ren:={
 mixed:=by kernel_rfl
 f138:=Tryz.func182.trans (congrArg some (by kernel_rfl))
 f143:=Tryz.func108.trans (congrArg some (by kernel_rfl))
 f195:=Tryz.func160.trans (congrArg some (by kernel_rfl))
 f217:=Tryz.func150.trans (congrArg some (by kernel_rfl))
 f218:=Tryz.func193.trans (congrArg some (by kernel_rfl))
 f219:=Tryz.func109.trans (congrArg some (by kernel_rfl))
 f224:=Tryz.func152.trans (congrArg some (by kernel_rfl))
 f225:=Tryz.func151.trans (congrArg some (by kernel_rfl))
 f266:=Tryz.func177.trans (congrArg some (by kernel_rfl))
 f267:=Tryz.func153.trans (congrArg some (by kernel_rfl))
 f314:=Tryz.func178.trans (congrArg some (by kernel_rfl))
 t0:=Tryz.underlying0
 a0:=Tryz.isAgg0
 z0:=Tryz.sizeOf0
 v0:=Tryz.zeroValue0
 t3:=Tryz.underlying3
 a3:=Tryz.isAgg3
 z3:=Tryz.sizeOf3
 v3:=Tryz.zeroValue3
 t4:=Tryz.underlying4
 a4:=Tryz.isAgg4
 z4:=Tryz.sizeOf4
 v4:=Tryz.zeroValue4
 t5:=Tryz.underlying5
 a5:=Tryz.isAgg5
 z5:=Tryz.sizeOf5
 v5:=Tryz.zeroValue5
 t9:=Tryz.underlying9
 a9:=Tryz.isAgg9
 z9:=Tryz.sizeOf9
 v9:=Tryz.zeroValue9
 t46:=Tryz.underlying139
 a46:=Tryz.isAgg139
 z46:=Tryz.sizeOf139
 v46:=Tryz.zeroValue139
 t51:=Tryz.underlying24
 a51:=Tryz.isAgg24
 z51:=Tryz.sizeOf24
 v51:=Tryz.zeroValue24
 t146:=Tryz.underlying192
 a146:=Tryz.isAgg192
 z146:=Tryz.sizeOf192
 v146:=Tryz.zeroValue192
 g1:=by kernel_rfl }
def Tryz.lays196_ren:Go.Shelf.Ren:=⟨fun | 196=>159 | 259=>183 | n=>n,fun | 9=>9 | 4=>4 | 3=>3 | 5=>5 | 12=>12 | 119=>188 | 0=>0 | 46=>139 | 139=>191 | 138=>190 | 53=>168 | n=>n,fun | 3=>1 | 4=>2 | n=>n⟩
theorem Tryz.lays196:Go.Proofs.Lays.n196 Tryz.prog Tryz.lays196_ren:={
 mixed:=by kernel_rfl
 f196:=Tryz.func159.trans (congrArg some (by kernel_rfl))
 f259:=Tryz.func183.trans (congrArg some (by kernel_rfl))
 t0:=Tryz.underlying0
 a0:=Tryz.isAgg0
 z0:=Tryz.sizeOf0
 v0:=Tryz.zeroValue0
 t3:=Tryz.underlying3
 a3:=Tryz.isAgg3
 z3:=Tryz.sizeOf3
 v3:=Tryz.zeroValue3
 t4:=Tryz.underlying4
 a4:=Tryz.isAgg4
 z4:=Tryz.sizeOf4
 v4:=Tryz.zeroValue4
 t5:=Tryz.underlying5
 a5:=Tryz.isAgg5
 z5:=Tryz.sizeOf5
 v5:=Tryz.zeroValue5
 t9:=Tryz.underlying9
 a9:=Tryz.isAgg9
 z9:=Tryz.sizeOf9
 v9:=Tryz.zeroValue9
 t12:=Tryz.underlying12
 a12:=Tryz.isAgg12
 z12:=Tryz.sizeOf12
 v12:=Tryz.zeroValue12
 t46:=Tryz.underlying139
 a46:=Tryz.isAgg139
 z46:=Tryz.sizeOf139
 v46:=Tryz.zeroValue139
 t53:=Tryz.underlying168
 a53:=Tryz.isAgg168
 z53:=Tryz.sizeOf168
 v53:=Tryz.zeroValue168
 t119:=Tryz.underlying188
 a119:=Tryz.isAgg188
 z119:=Tryz.sizeOf188
 t138:=Tryz.underlying190
 a138:=Tryz.isAgg190
 z138:=Tryz.sizeOf190
 v138:=Tryz.zeroValue190
 t139:=Tryz.underlying191
 a139:=Tryz.isAgg191
 z139:=Tryz.sizeOf191
 v139:=Tryz.zeroValue191
 g3:=by kernel_rfl
 g4:=by kernel_rfl }
def Tryz.lays2_21_ren:Go.Shelf.Ren:=⟨fun | 21=>199 | 27=>203 | 28=>204 | 35=>206 | 39=>208 | n=>n,fun | 22=>153 | 3=>3 | 4=>4 | 0=>0 | n=>n,fun | n=>n⟩
theorem Tryz.lays2_21:Go.Proofs.Lays2.n21 Tryz.prog Tryz.lays2_21_ren:={
 mixed:=by kernel_rfl
 f21:=Tryz.func199.trans (congrArg some (by kernel_rfl))
 f27:=Tryz.func203.trans (congrArg some (by kernel_rfl))
 f28:=Tryz.func204.trans (congrArg some (by kernel_rfl))
 f35:=Tryz.func206.trans (congrArg some (by kernel_rfl))
 f39:=Tryz.func208.trans (congrArg some (by kernel_rfl))
 t0:=Tryz.underlying0
 a0:=Tryz.isAgg0
 z0:=Tryz.sizeOf0
 v0:=Tryz.zeroValue0
 t3:=Tryz.underlying3
 a3:=Tryz.isAgg3
 z3:=Tryz.sizeOf3
 v3:=Tryz.zeroValue3
 t4:=Tryz.underlying4
 a4:=Tryz.isAgg4
 z4:=Tryz.sizeOf4
 v4:=Tryz.zeroValue4
 t22:=Tryz.underlying153
 a22:=Tryz.isAgg153
 z22:=Tryz.sizeOf153
 v22:=Tryz.zeroValue153
 i3:=by kernel_rfl }
def Tryz.lays149_ren:Go.Shelf.Ren:=⟨fun | 149=>97 | 222=>142 | n=>n,fun | 9=>9 | 5=>5 | 3=>3 | 4=>4 | n=>n,fun | n=>n⟩
theorem Tryz.lays149:Go.Proofs.Lays.n149 Tryz.prog Tryz.lays149_ren:={
 mixed:=by kernel_rfl
 f149:=Tryz.func97.trans (congrArg some (by kernel_rfl))
 f222:=Tryz.func142.trans (congrArg some (by kernel_rfl))
 t3:=Tryz.underlying3
 a3:=Tryz.isAgg3
 z3:=Tryz.sizeOf3
 v3:=Tryz.zeroValue3
 t4:=Tryz.underlying4
 a4:=Tryz.isAgg4
 z4:=Tryz.sizeOf4
 v4:=Tryz.zeroValue4
 t5:=Tryz.underlying5
 a5:=Tryz.isAgg5
 z5:=Tryz.sizeOf5
 v5:=Tryz.zeroValue5
 t9:=Tryz.underlying9
 a9:=Tryz.isAgg9
 z9:=Tryz.sizeOf9
 v9:=Tryz.zeroValue9 }
end Go.Proofs
namespace Go.Proofs.YtelhbgonncceeaaGreatDoor.E
set_option linter.all false
section
open Go Go.Proofs Go.Sort
set_option maxRecDepth 100000
theorem Ak7 {C:Cfg} {St:Nat->Prop} {w:World} {g:Nat} {k:IntKind} {zs:List Int} (hG:GOK C St w) (hc:C.G=GX) (h:GX.tab g=some (k,zs)):∃ e x,w.heap[g]? = some (.cells (zs.map λz=>Value.int k z).toArray e x):=(hG.1 g k zs (by rw [hc];exact h)).2
theorem Ak6 {C:Cfg} {St:Nat->Prop} {w:World} (hG:GOK C St w) (hc:C.G=GX):∃ m,w.cell? ⟨0,0,none⟩=some (.int .i64 m):=(hG.2 _ (by rw [hc];rfl)).2
theorem FG {w:World} {g:Nat} {zs:List Int} {k:IntKind} {e:TypeId} {x} (h:w.heap[g]? = some (.cells (zs.map λz=>Value.int k z).toArray e x)) (i:Nat) (hi:i<zs.length):w.cell? ⟨g,i,none⟩=some (.int k (zs.getD i 0)):=by
 simp [World.cell?,h,List.getD_eq_getElem?_getD,List.getElem?_eq_getElem hi]
theorem Ay1 {C:Cfg} {St:Nat->Prop} {w:World} (hG:GOK C St w) (hc:C.G=GX):Lib.Utf8Tabs 1 2 w:=by
 obtain ⟨e1,x1,h1⟩:=Ak7 (g:=1) (k:=.u8) (zs:=Lib.firstTab) hG hc rfl
 obtain ⟨e2,x2,h2⟩:=Ak7 (g:=2) (k:=.u8) (zs:=Bz) hG hc rfl
 refine ⟨λc hc=>?_,λi hi=>⟨?_,?_⟩⟩
 ·rw [FG h1 c (by simp [Lib.firstTab];omega)]
  simp [Lib.firstTab,List.getD_eq_getElem?_getD,List.getElem?_eq_getElem,hc]
 ·rw [FG h2 (2*i) (by simp [Bz];omega)]
  have:2*i<32:=by omega
  simp [Bz,List.getD_eq_getElem?_getD,this]
 ·rw [FG h2 (2*i+1) (by simp [Bz];omega)]
  have:2*i+1<32:=by omega
  have e:(2*i+1) / 2=i:=by omega
  have e2:¬ (2*i+1) % 2=0:=by omega
  simp [Bz,List.getD_eq_getElem?_getD,this,e,e2]
theorem UB:B1 Tryz.prog GX 108 Uz:=by
 refine B1.fix (pf:=DW) _ (N4 (fn:=Tryz.f108) (by kernel_rfl) (by kernel_rfl) (by kernel_rfl) ?_)
 intro args ret Hc h
 unfold DW at h
 split at h
 ·rename_i s p
  obtain ⟨h0,h⟩:=C4 h
  obtain ⟨rfl,rfl⟩:=I2 h
  refine ⟨rfl,rfl,λC hP hCG Γ w Vs hG hlt hc=>?_⟩
  obtain ⟨U,V,rfl,hu,hv⟩:=hc.arr2
  obtain ⟨s',rfl,rfl⟩:=hu.inv_str
  obtain ⟨p',rfl,rfl⟩:=hv.inv_str
  obtain ⟨m,hm⟩:=Ak6 hG hCG
  have hs:=L8 h0
  refine (Any.strings_Index Tryz.lays143 s' p' m w (by simp at hs;omega) hm).mono ?_
  rintro e w' ⟨rfl,rfl⟩
  exact ⟨_,rfl,RowKit.Below.refl _ _,VP.mk_int _ _⟩
 ·cases h
theorem Au7:B1 Tryz.prog GX 50 DU:=by
 refine B1.fix (pf:=DV) _ (N4 (fn:=Tryz.f50) (by kernel_rfl) (by kernel_rfl) (by kernel_rfl) ?_)
 intro args ret Hc h
 unfold DV at h
 split at h
 ·rename_i s p
  obtain ⟨h0,h⟩:=C4 h
  obtain ⟨rfl,rfl⟩:=I2 h
  refine ⟨rfl,rfl,λC hP hCG Γ w Vs hG hlt hc=>?_⟩
  obtain ⟨U,V,rfl,hu,hv⟩:=hc.arr2
  obtain ⟨s',rfl,rfl⟩:=hu.inv_str
  obtain ⟨p',rfl,rfl⟩:=hv.inv_str
  obtain ⟨m,hm⟩:=Ak6 hG hCG
  have hs:=L8 h0
  refine (Any.strings_Cut Tryz.lays145 s' p' m w (by simp at hs;omega) hm).mono ?_
  rintro e w' ⟨rfl,n,rfl⟩
  exact ⟨_,rfl,ID _ _,VP.mk_tup3 (VP.mk_str _) (VP.mk_str _) (VP.mk_bool _)⟩
 ·cases h
theorem Au6:B1 Tryz.prog GX 182 NB:=by
 refine B1.fix (pf:=DT) _ (N4 (fn:=Tryz.f182) (by kernel_rfl) (by kernel_rfl) (by kernel_rfl) ?_)
 intro args ret Hc h
 unfold DT at h
 split at h
 ·rename_i s p
  obtain ⟨h0,h⟩:=C4 h
  obtain ⟨rfl,rfl⟩:=I2 h
  refine ⟨rfl,rfl,λC hP hCG Γ w Vs hG hlt hc=>?_⟩
  obtain ⟨U,V,rfl,hu,hv⟩:=hc.arr2
  obtain ⟨s',rfl,rfl⟩:=hu.inv_str
  obtain ⟨p',rfl,hp⟩:=hv.inv_str
  obtain ⟨c,rfl⟩:∃ c,p=[c]:=by
   match p,h0 with
   | [c],_=>exact ⟨c,rfl⟩
  have hp':p'=⟨#[c]⟩:=by
   cases p' with
   | mk d=>congr 1;exact Array.toList_inj.1 hp
  subst hp'
  refine (Any.strings_Count_one Tryz.lays138 s' c w).mono ?_
  rintro e w' ⟨rfl,rfl⟩
  exact ⟨_,rfl,RowKit.Below.refl _ _,VP.mk_int _ _⟩
 ·cases h
theorem A64 {l:LL} (h:l.all isS=true):l=G8 (l.map elS):=by
 unfold G8
 rw [List.map_map]
 symm
 rw [List.map_congr_left (g:=id)]
 ·simp
 ·intro x hx
  have:=List.all_eq_true.1 h x hx
  unfold isS at this
  split at this
  ·rfl
  grind
theorem A90:B1 Tryz.prog GX 119 US:=by
 refine B1.fix (pf:=Va) _ (N4 (fn:=Tryz.f119) (by kernel_rfl) (by kernel_rfl) (by kernel_rfl) ?_)
 intro args ret Hc h
 unfold Va at h
 split at h
 ·rename_i z t l p
  obtain ⟨h0,h⟩:=C4 h
  obtain ⟨h1,h⟩:=C4 h
  obtain ⟨h2,h⟩:=C4 h
  obtain ⟨rfl,rfl⟩:=I2 h
  refine ⟨rfl,rfl,λC hP hCG Γ w Vs hG hlt hc=>?_⟩
  obtain ⟨U,V,rfl,hu,hv⟩:=hc.arr2
  obtain ⟨p',rfl,rfl⟩:=hv.inv_str
  have hlen:=L8 h1
  have hn:=L8 h2
  have hs:=hu.inv_s
  have none':∀ (a:Option Addr) (cap:Nat),l=[]->Calls Tryz.prog 119 #[.slice a 0 cap,.string p'] w λe w'=>∃ V,e = .returned V/\RowKit.Below w.heap.size w w'/\VP Γ (A2 []) w' (.s (.str (Lib.join (l.map elS) p'.data.toList))) V:=by
   intro a cap hl
   subst hl
   refine (Any.strings_Join_none Tryz.lays156 Tryz.Builder_Extra_156 a cap p' w).mono ?_
   rintro e w' ⟨rfl,rfl⟩
   exact ⟨_,rfl,RowKit.Below.refl _ _,VP.mk_str _⟩
  cases hs with
  | nil=>exact none' _ _ rfl
  | emp=>exact none' _ _ rfl
  | sl _ _ g off n cap sz Vc hn' hcap hm ht hg hl' hcl hvl=>
   subst hn'
   have hrow:=A64 h0
   have hsz:∀ i (h:i<l.length),∃ b:ByteArray,(l[i])=[SV.str b.data.toList]/\w.cell? ⟨g,off+i,none⟩=some (.string b):=by
    intro i hi
    have hx:=List.all_eq_true.1 h0 (l[i]) (List.getElem_mem hi)
    unfold isS at hx
    split at hx
    ·rename_i x he
     have hc1:=hcl i hi 0 (by rw [he];simp)
     have hv1:=hvl i hi 0 (by rw [he];simp)
     simp only [he,List.getElem_cons_zero] at hv1
     obtain ⟨b,hb,rfl⟩:=hv1.inv_str
     rw [hb] at hc1
     exact ⟨b,he,by simpa using hc1⟩
    ·cases hx
   obtain ⟨xs,hxs,hcx⟩:∃ xs:List ByteArray,xs.map (·.data.toList)=l.map elS/\∀ (j:Nat) x,xs[j]? = some x->w.cell? ⟨g,off+j,none⟩=some (.string x):=by
    refine ⟨(l.map elS).map λs=>⟨s.toArray⟩,by simp [Function.comp_def],?_⟩
    intro j x hx
    simp only [List.getElem?_map] at hx
    cases hj:l[j]? with
    | none=>simp [hj] at hx
    | some el=>
     obtain ⟨hj1,rfl⟩:=List.getElem?_eq_some_iff.1 hj
     obtain ⟨b,hb,hc2⟩:=hsz j hj1
     simp only [hj,Option.map_some,Option.some.injEq] at hx
     rw [hb] at hx
     simp [elS,SV.gS] at hx
     rw [<-hx]
     exact hc2
   have hll:xs.length=l.length:=by
    have:=congrArg List.length hxs
    simpa using this
   rw [<-hxs] at hlen ⊢
   have hb:g<w.heap.size:=hlt g hg
   have hmx:l.length<=140737488355328:=by omega
   refine (hll ▸ Any.strings_Join Tryz.lays156 Tryz.Builder_Extra_156 g off cap xs p' w hcx hb (by omega) (by omega) (by omega)).mono ?_
   rintro e w' ⟨rfl,hw⟩
   exact ⟨_,rfl,hw,VP.mk_str _⟩
 ·cases h
end
section
open Go Go.Proofs
set_option maxRecDepth 100000
section
variable {σ R : Type} (lf : Nat) (cl : D1) (yh : Yh σ) (s : σ) (k : Out -> St σ -> Option R)
noncomputable def YE {R:Type} (lf n:Nat) (l_m0:Nat) (n1 n2:Int) (l3:LL) (k0:Int->LL->Option R) (k1:Nat->LL->Option R):Option R:=match n with | 0=>none | n+1=>cond (ltI n2 n1) (cond (inR n2 l_m0) (cond (okE Gw l3 (0+(Int.toNat n2)) 0) (vl (gX l3 (0+(Int.toNat n2)) 0) λs'33=>cond (A4 s'33.length) (vl (↑((Jd s'33)).2:Int) λn'35=>cond (n'35 != 0) (k0 n'35 l3) (cond (inR n2 l_m0) (cond (decide ((0+(Int.toNat n2))<l3.length)) (vl (List.set l3 (0+(Int.toNat n2)) (F1 (List.getD l3 (0+(Int.toNat n2)) []) 0 [(SV.str ((Jd s'33)).1)])) λl'36=>YE lf n l_m0 n1 (A1 (n2+1)) l'36 k0 k1) none) none)) none) none) none) (k1 l_m0 l3)
noncomputable abbrev UZ:Code:=E3 Tryz.f131
noncomputable def Fy (lf:Nat):Cfg:=C2 lf [131] (A5 [(6,[0,1,0,1,10,0,0])]) [(170,Af3),(161,MY)] (A5 [(13,[2]),(12,[0,3,0,2]),(11,[0,2,1,10,0,0]),(10,[0,2,1,10,0,0]),(9,[2]),(8,[0,2,1,1,8,0,0,8]),(7,[0,2,1,1,8,0,0]),(6,[0,2,1,10,0,0,0]),(5,[0,2,1,10,0,0]),(4,[0,2,1]),(3,[2]),(2,[0,2,11]),(1,[0,2,0]),(0,[0])]) [161] (A5 [(0,[0,2,1]),(1,[0,2,1,10,0,0])]) (some [2]) [] [] []
noncomputable def Q6 {R:Type} (lf n:Nat) (s0:By) (points_z1:Bool) (points2:LL) (basic3:Bool) (n4 n5:Int) (k0:Unit->Option R) (k1:By->Bool->LL->Bool->Option R):Option R:=match n with | 0=>none | n+1=>cond (ltI n5 n4) (cond (inR n5 points2.length) (cond (okE Fp points2 (Int.toNat n5) 0) (vl (gE points2 (Int.toNat n5) 0) λn'1=>cond (not (ltI n'1 65)) (cond (not (ltI 90 n'1)) (k0 ()) (cond basic3 (Q6 lf n s0 points_z1 points2 (ltI n'1 128) n4 (A1 (n5+1)) k0 k1) (Q6 lf n s0 points_z1 points2 false n4 (A1 (n5+1)) k0 k1))) (cond basic3 (Q6 lf n s0 points_z1 points2 (ltI n'1 128) n4 (A1 (n5+1)) k0 k1) (Q6 lf n s0 points_z1 points2 false n4 (A1 (n5+1)) k0 k1))) none) none) (k1 s0 points_z1 points2 basic3)
theorem JX (n s0 points_z1 points2 basic3 n4 n5):E6 0 ((Fy lf).keep 6) (bd (Fy lf) cl yh (cd [1,1,1,1,0,1,0,0] UZ)) n ⟨gp [(0,pS s0),(2,.s (.sl points_z1 points_z1 1 points2)),(1,pB basic3),(10,.s (.sl points_z1 points_z1 1 points2)),(0,pI n4),(0,pI n5)] 31,[],s⟩ k =
 Q6 lf n s0 points_z1 points2 basic3 n4 n5 (λ_=>k .ret ⟨gp [(2,pB false)] 47,[],s⟩) (λs0 points_z1 points2 basic3=>k (.exit 0) ⟨gp [(0,pS s0),(2,.s (.sl points_z1 points_z1 1 points2)),(1,pB basic3)] 44,[],s⟩):=by
 induction n generalizing s0 points_z1 points2 basic3 n4 n5 with
 | zero=>rfl
 | succ n ih=>rw [Q6];simp only [<-ih];kernel_rfl
noncomputable def WC {R:Type} (lf:Nat) (s0:By) (k0:Bool->Option R):Option R:=cond (A4 s0.length) (cond ((↑((J3 s0)).2:Int) != 0) (k0 false) (Q6 lf lf s0 (List.isEmpty ((J3 s0)).1) (Rj ((J3 s0)).1) true (↑(List.length (Rj ((J3 s0)).1)):Int) 0 (λ_=>k0 false) (λs'2 points_z'3 points'4 basic'5=>cond (List.all points'4 Ig) (vl ((Q5 (List.map elI points'4))).1 λs'8=>vl (↑((Q5 (List.map elI points'4))).2:Int) λn'9=>cond (not basic'5) (cond (n'9==0) (k0 (s'8==s'2)) (k0 false)) (k0 false)) none))) none
theorem An1 (d:Nat) (s0):evC (Fy lf) (d+1) σ yh 131 [pS s0] [] s=WC lf s0 (λr0=>some (pB r0,[],s)):=by
 refine (evE (fn:=Tryz.f131) (by kernel_rfl)).trans ?_
 generalize evC (Fy lf) d=cl
 unfold WC;exact (Eq.trans (by kernel_rfl) (A0 (A0 rfl ((JX lf cl yh s (G5 0 (H5 (Fy lf) cl yh (cd [1,1,1,1,1] UZ) (I4 (Fy lf) Tryz.f131))) lf s0 (List.isEmpty ((J3 s0)).1) (Rj ((J3 s0)).1) true (↑(List.length (Rj ((J3 s0)).1)):Int) 0).trans (by kernel_rfl))) rfl))
noncomputable abbrev Ah1:Code:=E3 Tryz.f94
noncomputable def Lp (lf:Nat):Cfg:=C2 lf [94] (A5 [(4,[0,1,26,0])]) [(130,Ae3),(131,UL)] (A5 [(11,[2]),(10,[5,0]),(9,[0,28,0]),(8,[2]),(7,[0,28,0,28]),(6,[0,3,24,0]),(5,[0,2,25,0]),(4,[0,28,0,0]),(3,[0,28,0]),(2,[2]),(1,[0,26]),(0,[0])]) [130,131] (A5 [(0,[0]),(1,[0,28,0])]) (some [2]) [] [] []
noncomputable def M5 {R:Type} (lf n:Nat) (s0:By) (n1 n2:Int) (k0:Unit->Option R) (k1:By->Option R):Option R:=match n with | 0=>none | n+1=>cond (ltI n2 n1) (cond (inR n2 s0.length) (cond (not (ltI (bAt s0 n2) (97:Int))) (cond (not (not (ltI 122 (bAt s0 n2)))) (cond (not (ltI (bAt s0 n2) (48:Int))) (cond (not (not (ltI 57 (bAt s0 n2)))) (cond ((bAt s0 n2) != 45) (cond ((bAt s0 n2) != 95) (k0 ()) (M5 lf n s0 n1 (A1 (n2+1)) k0 k1)) (M5 lf n s0 n1 (A1 (n2+1)) k0 k1)) (M5 lf n s0 n1 (A1 (n2+1)) k0 k1)) (cond ((bAt s0 n2) != 45) (cond ((bAt s0 n2) != 95) (k0 ()) (M5 lf n s0 n1 (A1 (n2+1)) k0 k1)) (M5 lf n s0 n1 (A1 (n2+1)) k0 k1))) (M5 lf n s0 n1 (A1 (n2+1)) k0 k1)) (cond (not (ltI (bAt s0 n2) (48:Int))) (cond (not (not (ltI 57 (bAt s0 n2)))) (cond ((bAt s0 n2) != 45) (cond ((bAt s0 n2) != 95) (k0 ()) (M5 lf n s0 n1 (A1 (n2+1)) k0 k1)) (M5 lf n s0 n1 (A1 (n2+1)) k0 k1)) (M5 lf n s0 n1 (A1 (n2+1)) k0 k1)) (cond ((bAt s0 n2) != 45) (cond ((bAt s0 n2) != 95) (k0 ()) (M5 lf n s0 n1 (A1 (n2+1)) k0 k1)) (M5 lf n s0 n1 (A1 (n2+1)) k0 k1)))) none) (k1 s0)
theorem PZ (n s0 n1 n2):E6 0 ((Lp lf).keep 4) (bd (Lp lf) cl yh (cd [1,1,0,1,0,0] Ah1)) n ⟨gp [(0,pS s0),(28,pI n1),(0,pI n2)] 41,[],s⟩ k =
 M5 lf n s0 n1 n2 (λ_=>k .ret ⟨gp [(2,pB false)] 69,[],s⟩) (λs0=>k (.exit 0) ⟨gp [(0,pS s0)] 71,[],s⟩):=by
 induction n generalizing s0 n1 n2 with
 | zero=>rfl
 | succ n ih=>rw [M5];simp only [<-ih];kernel_rfl
noncomputable def A16 {R:Type} (lf:Nat) (s0:By) (k0:Bool->Option R):Option R:=cond (ltI (s0.length:Int) (1:Int)) (k0 false) (cond (ltI 63 (s0.length:Int)) (k0 false) (cond (inR 0 s0.length) (cond ((bAt s0 (0:Int))==45) (k0 false) (vl (A1 ((s0.length:Int)-1)) λn'1=>cond (inR n'1 s0.length) (cond ((bAt s0 n'1)==45) (k0 false) (M5 lf lf s0 (s0.length:Int) 0 (λ_=>k0 false) (λs'2=>cond (A4 s'2.length) (vl (Vw s'2 ([120,110,45,45]:List UInt8)) λs'3=>cond (not (List.isPrefixOf ([120,110,45,45]:List UInt8) s'2)) (k0 true) (cond (A4 s'3.length) (k0 (Z6 s'3)) none)) none))) none)) none))
theorem A17 (d:Nat) (s0):evC (Lp lf) (d+1) σ yh 94 [pS s0] [] s=A16 lf s0 (λr0=>some (pB r0,[],s)):=by
 refine (evE (fn:=Tryz.f94) (by kernel_rfl)).trans ?_
 generalize evC (Lp lf) d=cl
 unfold A16;exact (Eq.trans (by kernel_rfl) (A0 rfl (A0 rfl (A0 (A0 rfl (A8 λn'1=>(A0 (A0 rfl ((PZ lf cl yh s (G5 0 (H5 (Lp lf) cl yh (cd [1,1,1] Ah1) (I4 (Lp lf) Tryz.f94))) lf s0 (s0.length:Int) 0).trans (by kernel_rfl))) rfl))) rfl))))
noncomputable abbrev NH:Code:=E3 Tryz.f118
noncomputable def Hv (lf:Nat):Cfg:=C2 lf [118] (A5 [(9,[2,0,1,20])]) [(159,HU),(160,HT),(111,MT),(161,MY),(94,CY)] (A5 [(18,[2,0]),(17,[2,0]),(16,[4,41]),(15,[4]),(14,[2,0]),(13,[8,32]),(12,[8,0]),(11,[5,20]),(10,[5,1,18]),(9,[5,20,0,0]),(8,[5,20]),(7,[4,0]),(6,[4,19]),(5,[0,3]),(2,[2,0]),(4,[2,0]),(3,[0,13]),(1,[0,9]),(0,[0])]) [159,160,111,161,94] (A5 [(1,[5]),(2,[5,20]),(0,[0])]) (some [2,0]) [] [] []
noncomputable def Az {R:Type} (lf n:Nat) (l0:LL) (s1:By) (m2:Nat) (k0:LL->By->Nat->Option R):Option R:=match n with | 0=>none | n+1=>cond (decide (m2<s1.length)) (vl ((Utf8.decode ⟨List.toArray s1⟩ m2)).1 λn'4=>cond (E4 (l0.length+1)) (Az lf n (l0++[[(SV.int .i64 (A1 n'4))]]) s1 (m2+((Utf8.decode ⟨List.toArray s1⟩ m2)).2) k0) none) (k0 l0 s1 m2)
theorem PE (n:Nat) (l0:LL) (s1:By) (m2:Nat):E6 2 ((Hv lf).keep 9) (bd (Hv lf) cl yh (cd [1,1,1,0,1,0,1,0,1,0,0] NH)) n ⟨gp [(5,.fl 0),(20,.it 1)] 21,[.arr true 3 1 l0,.iter s1 m2],s⟩ k =
 Az lf n l0 s1 m2 (λl0 s1 m2=>k (.exit 1) ⟨gp [(5,.fl 0)] 42,[.arr true 3 1 l0,.iter s1 m2],s⟩):=by
 induction n generalizing l0 s1 m2 with
 | zero=>rfl
 | succ n ih=>rw [Az];simp only [<-ih];kernel_rfl
noncomputable def JN {R:Type} (lf:Nat) (s0:By) (k0:By->Int->Option R) (k1:By->Int->LL->By->Nat->Option R):Option R:=cond (A4 s0.length) (cond (not (Option.isSome (Cr s0))) (k0 ([]:List UInt8) 4) (cond (A4 s0.length) (vl (↑(Lib.runeCountL s0):Int) λn'1=>cond (ltI 256 n'1) (k0 ([]:List UInt8) 3) (cond (A4 s0.length) (cond (A4 s0.length) (vl (↑(Lib.runeCountL s0):Int) λn'3=>cond (ltI n'3 (s0.length:Int)) (Az lf lf [] (D9 s0) 0 (λl'5 s'6 m'7=>cond (List.all l'5 Ig) (vl ((Q5 (List.map elI l'5))).1 λs'8=>vl (↑((Q5 (List.map elI l'5))).2:Int) λn'9=>cond (n'9 != 0) (k1 ([]:List UInt8) 14 l'5 s'6 m'7) (cond (IK 4 s'8.length) (vl (([120,110,45,45]:List UInt8)++s'8) λs'10=>cond (A4 s'10.length) (cond (not (K2 s'10)) (k1 ([]:List UInt8) 14 l'5 s'6 m'7) (k1 s'10 0 l'5 s'6 m'7)) none) none)) none)) (cond (A4 (List.length (D9 s0))) (cond (not (K2 (D9 s0))) (k0 ([]:List UInt8) 14) (k0 (D9 s0) 0)) none)) none) none)) none)) none
theorem Az4 (d:Nat) (s0):evC (Hv lf) (d+1) σ yh 118 [pS s0] [] s=JN lf s0 (λr0 r1=>some (.tup [pS r0,pI r1],[],s)) (λr0 r1 l2 s3 m4=>some (.tup [pS r0,pI r1],[.arr true 3 1 l2,.iter s3 m4],s)):=by
 refine (evE (fn:=Tryz.f118) (by kernel_rfl)).trans ?_
 generalize evC (Hv lf) d=cl
 unfold JN;exact (Eq.trans (by kernel_rfl) (A0 (A0 rfl (A0 (A8 λn'1=>(A0 rfl (A0 (A0 (A8 λn'3=>(A0 ((PE lf cl yh s (G5 1 (H5 (Hv lf) cl yh (cd [1,1,1,0,1,0,1,1] NH) (H5 (Hv lf) cl yh (cd [1,1,1,1] NH) (I4 (Hv lf) Tryz.f118)))) lf [] (D9 s0) 0).trans (by kernel_rfl)) (A0 (A0 rfl rfl) rfl))) rfl) rfl))) rfl)) rfl))
noncomputable abbrev Lc:Code:=E3 Tryz.f156
noncomputable def Ec (lf:Nat):Cfg:=C2 lf [156] (A5 []) [] (A5 [(7,[2]),(2,[2]),(4,[2]),(6,[2]),(5,[0,23]),(3,[0,12]),(1,[0,2]),(0,[0])]) [] (A5 [(0,[])]) (some [2]) [] [] []
noncomputable def Ni {R:Type} (b0:Int) (b1:Bool) (k0:Int->Option R) (k1:Int->Bool->Option R):Option R:=cond b1 (vl (A1 (wu8 (b0-97))) λn'1=>vl (A1 (n'1+10)) λn'2=>k0 n'2) (cond (not (ltI b0 65)) (cond (not (ltI 70 b0)) (vl (A1 (wu8 (b0-65))) λn'3=>vl (A1 (n'3+10)) λn'4=>k0 n'4) (k1 b0 (not (ltI 70 b0)))) (k1 b0 false))
abbrev AE (b:Code):Prop:=∀ (k:Out->St σ->Option R) b0 b1,B0 (Ec lf) cl yh b ⟨gp [(0,p8 b0),(12,pB b1)] 21,[],s⟩ k=Ni b0 b1 (λn0=>k .ret ⟨gp [(2,pI n0)] 32,[],s⟩) (λb0 b1=>k .normal ⟨gp [(0,p8 b0),(23,pB b1)] 10,[],s⟩)
theorem OW:AE (R:=R) lf cl yh s (cd [1,0,0,1,1,1] Lc):=by
 intro k b0 b1;unfold Ni;kernel_rfl
noncomputable def Nj {R:Type} (b0:Int) (b1:Bool) (k0:Int->Option R) (k1:Int->Bool->Option R):Option R:=cond b1 (vl (A1 (wu8 (b0-48))) λn'0=>k0 n'0) (cond (not (ltI b0 97)) (Ni b0 (not (ltI 102 b0)) (λn'5=>k0 n'5) (λb'6 b'7=>k1 b'6 b'7)) (Ni b0 false (λn'8=>k0 n'8) (λb'9 b'10=>k1 b'9 b'10)))
abbrev Qz (b:Code):Prop:=∀ (k:Out->St σ->Option R) b0 b1,B0 (Ec lf) cl yh b ⟨gp [(0,p8 b0),(2,pB b1)] 31,[],s⟩ k=Nj b0 b1 (λn0=>k .ret ⟨gp [(2,pI n0)] 32,[],s⟩) (λb0 b1=>k .normal ⟨gp [(0,p8 b0),(23,pB b1)] 10,[],s⟩)
theorem OX (b_100111:Code) (h_hdig_j0:AE (R:=R) lf cl yh s b_100111):Qz (R:=R) lf cl yh s (cd [1,0,0,1] (Q2 [1,0,0,1,1,1] b_100111 Lc)):=by
 intro k b0 b1;unfold Nj;simp only [<-h_hdig_j0 k];kernel_rfl
theorem OY:Qz (R:=R) lf cl yh s (cd [1,0,0,1] Lc):=by
 intro k b0 b1;exact Eq.trans (by kernel_rfl) (OX lf cl yh s (cd [1,0,0,1,1,1] Lc) (OW lf cl yh s) k b0 b1)
noncomputable def Al0 {R:Type} (lf:Nat) (b0:Int) (k0:Int->Option R):Option R:=cond (not (ltI b0 48)) (Nj b0 (not (ltI 57 b0)) (λn'11=>k0 n'11) (λb'12 b'13=>k0 (-1))) (Nj b0 false (λn'14=>k0 n'14) (λb'15 b'16=>k0 (-1)))
theorem Ay4 (b_1001:Code) (h_hdig_j1:Qz (R:=PV × List Blk × σ) lf cl yh s b_1001) (b0:Int):B0 (Ec lf) cl yh (cd [] (Q2 [1,0,0,1] b_1001 Lc)) ⟨[p8 b0]++tps 34,[],s⟩ (I4 (Ec lf) Tryz.f156)=Al0 lf b0 (λr0=>some (pI r0,[],s)):=by
 unfold Al0;exact let K0:=(G5 0 (H5 (Ec lf) cl yh (cd [1,1] Lc) (I4 (Ec lf) Tryz.f156)));(Eq.trans (by kernel_rfl) (A0 ((h_hdig_j1 K0 b0 (not (ltI 57 b0))).trans (by kernel_rfl)) ((h_hdig_j1 K0 b0 false).trans (by kernel_rfl))))
theorem Ay5 (d:Nat) (b0):evC (Ec lf) (d+1) σ yh 156 [p8 b0] [] s=Al0 lf b0 (λr0=>some (pI r0,[],s)):=
 (evE (fn:=Tryz.f156) (by kernel_rfl)).trans (Eq.trans (by kernel_rfl) (Ay4 lf (evC (Ec lf) d) yh s (cd [1,0,0,1] Lc) (OY lf (evC (Ec lf) d) yh s) b0))
noncomputable abbrev Ag5:Code:=E3 Tryz.f114
noncomputable def Lj (lf:Nat):Cfg:=C2 lf [114] (A5 [(3,[0,1,0,0,0])]) [(156,Ae5)] (A5 [(14,[2,0]),(4,[0,3,0]),(13,[0,3,0]),(12,[0,3,0]),(11,[2,0]),(10,[0,3,0,0,0,39]),(9,[0,3,0,0,0]),(8,[2,0]),(7,[0,3,0,25]),(6,[0,3,0]),(5,[0,3,0,14]),(3,[0,3,0,8]),(2,[0,3,0]),(1,[0,3]),(0,[0])]) [156] (A5 [(0,[4]),(1,[0,3,0])]) (some [2,0]) [] [] []
noncomputable def M9 {R:Type} (lf n:Nat) (s0:By) (i1:Int) (l2:LL) (k0:LL->Option R) (k1:LL->Option R):Option R:=match n with | 0=>none | n+1=>cond (ltI i1 (s0.length:Int)) (cond (inR i1 s0.length) (cond ((bAt s0 i1) != 37) (cond (inR i1 s0.length) (cond (E4 (l2.length+1)) (M9 lf n s0 (A1 (i1+1)) (l2++[[(SV.int .u8 (bAt s0 i1))]]) k0 k1) none) none) (cond (not (ltI (A1 (i1+2)) (s0.length:Int))) (k0 l2) (cond (inR (A1 (i1+1)) s0.length) (vl (bAt s0 (A1 (i1+1))) λn'2=>cond (inR n'2 256) (cond (inR (A1 (i1+2)) s0.length) (vl (bAt s0 (A1 (i1+2))) λn'3=>cond (inR n'3 256) (cond (ltI (Hz (u8n n'2)) (0:Int)) (k0 l2) (cond (ltI (Hz (u8n n'3)) (0:Int)) (k0 l2) (vl (A1 ((16:Int)*(Hz (u8n n'2)))) λn'4=>vl (A1 (n'4+(Hz (u8n n'3)))) λn'5=>cond (E4 (l2.length+1)) (vl (A1 ((A1 (i1+2))+1)) λn'6=>M9 lf n s0 n'6 (l2++[[(SV.int .u8 (wu8 n'5))]]) k0 k1) none))) none) none) none) none))) none) (k1 l2)
theorem OU (n s0 i1 l2):E6 1 ((Lj lf).keep 3) (bd (Lj lf) cl yh (cd [1,0,1,1,0,1,0,0] Ag5)) n ⟨gp [(0,pS s0),(3,.fl 0),(0,pI i1)] 54,[.arr false 5 1 l2],s⟩ k =
 M9 lf n s0 i1 l2 (λl0=>k .ret ⟨gp [(2,pS ([]:List UInt8)),(0,pB false)] 56,[.arr false 5 1 l0],s⟩) (λl0=>k (.exit 0) ⟨gp [(4,.fl 0)] 55,[.arr false 5 1 l0],s⟩):=by
 induction n generalizing s0 i1 l2 with
 | zero=>rfl
 | succ n ih=>rw [M9];simp only [<-ih];kernel_rfl
noncomputable def Ak9 {R:Type} (lf:Nat) (s0:By) (k0:By->Bool->LL->Option R):Option R:=cond ((decide ((0:Int)<=(s0.length:Int)))&&(E4 (Int.toNat (s0.length:Int)))) (M9 lf lf s0 0 [] (λl'7=>k0 ([]:List UInt8) false l'7) (λl'8=>cond (List.all l'8 Tg) (k0 (List.map Qq l'8) true l'8) none)) none
theorem Ay2 (d:Nat) (s0):evC (Lj lf) (d+1) σ yh 114 [pS s0] [] s=Ak9 lf s0 (λr0 r1 l2=>some (.tup [pS r0,pB r1],[.arr false 5 1 l2],s)):=by
 refine (evE (fn:=Tryz.f114) (by kernel_rfl)).trans ?_
 generalize evC (Lj lf) d=cl
 unfold Ak9;exact (Eq.trans (by kernel_rfl) (A0 ((OU lf cl yh s (G5 0 (H5 (Lj lf) cl yh (cd [1,0,1,1,1] Ag5) (I4 (Lj lf) Tryz.f114))) lf s0 0 []).trans (by kernel_rfl)) rfl))
noncomputable def Nk {R:Type} (lf:Nat) (h0:Int) (h1:By) (h2 h3 h4 h5 h6 h7 h8 h9 h10:Int) (k0:Bool->Int->By->Int->Int->Int->Int->Int->Int->Int->Int->Int->LL->Option R):Option R:=cond (h0==1) (cond (A4 h1.length) (cond (D6 h1) (cond (h2==0) (k0 ((h3==0)&&((h4==0)&&((h5==0)&&((h6==0)&&((h7==0)&&((h8==0)&&((h9==0)&&((h10==0)&&true)))))))) h0 h1 h2 h3 h4 h5 h6 h7 h8 h9 h10 (List.replicate 8 [(SV.int .u16 (0:Int))])) (k0 false h0 h1 h2 h3 h4 h5 h6 h7 h8 h9 h10 (List.replicate 8 [(SV.int .u16 (0:Int))]))) (k0 false h0 h1 h2 h3 h4 h5 h6 h7 h8 h9 h10 (List.replicate 8 [(SV.int .u16 (0:Int))]))) none) (cond (h0==2) (cond (h1==[]) (k0 ((h3==0)&&((h4==0)&&((h5==0)&&((h6==0)&&((h7==0)&&((h8==0)&&((h9==0)&&((h10==0)&&true)))))))) h0 h1 h2 h3 h4 h5 h6 h7 h8 h9 h10 (List.replicate 8 [(SV.int .u16 (0:Int))])) (k0 false h0 h1 h2 h3 h4 h5 h6 h7 h8 h9 h10 (List.replicate 8 [(SV.int .u16 (0:Int))]))) (cond (h0==3) (cond (h1==[]) (k0 (h2==0) h0 h1 h2 h3 h4 h5 h6 h7 h8 h9 h10 (List.replicate 8 [(SV.int .u16 (0:Int))])) (k0 false h0 h1 h2 h3 h4 h5 h6 h7 h8 h9 h10 (List.replicate 8 [(SV.int .u16 (0:Int))]))) (k0 false h0 h1 h2 h3 h4 h5 h6 h7 h8 h9 h10 (List.replicate 8 [(SV.int .u16 (0:Int))]))))
end
theorem Mq {n m:Nat} (hnm:n<=m):∀ l:List Nat,(∀ p∈l,n<=p->m<=p)->l.countP (λp=>decide (p<m+1))=l.countP (λp=>decide (p<n))+l.countP (· == m)
 | [],_=>rfl
 | p::l,h=>by
  have ih:=Mq hnm l (λq hq=>h q (List.mem_cons_of_mem _ hq))
  have hp:=h p List.mem_cons_self
  grind
theorem OC {n:Nat} {l:List Nat} (h:l.countP (λp=>decide (p<n))<l.length):∃ p∈l,n<=p:=by
 apply Classical.byContradiction
 intro hc
 have:l.countP (λp=>decide (p<n))=l.length:=by simp_all
 omega
theorem Ao7 (z t:Bool) (pts:List Nat) (basic:Nat) (hl:pts.length<=256) (hb:basic<=256) (hall:∀ p∈pts,p<=1114111):∀ (f n n':Nat) (s:BZ),s.done=pts.countP (λp=>decide (p<n))->pts.length<=s.done+f->f<n'->s.delta<=300->s.bias<=500->s.out.length+20*(pts.length-s.done)<=80000->n<=1114112->
  ∀ (R:Type) (k0:LL->Option R),Bc LF n' z t (A9 pts) (basic:Int) (n:Int) (s.delta:Int) (s.bias:Int) (s.done:Int) (s.out.map C9) k0=k0 ((L6 pts basic f n s).out.map C9):=by
 intro f
 have hLF:=E5
 induction f with
 | zero=>
  intro n n' s hd hf hn h1 h2 h3 h4 R k0
  obtain ⟨n',rfl⟩:∃ m,n'=m+1:=⟨n'-1,by omega⟩
  rw [Bc]
  rw [B6,A6]
  rfl
 | succ f ih=>
  intro n n' s hd hf hn h1 h2 h3 h4 R k0
  obtain ⟨n',rfl⟩:∃ m,n'=m+1:=⟨n'-1,by omega⟩
  rw [Bc]
  rw [B6]
  have hcl:pts.countP (λp=>decide (p<n))<=pts.length:=List.countP_le_length
  by_cases hlt:s.done<pts.length
  ·obtain ⟨p0,hp0,hp1⟩:=OC (n:=n) (l:=pts) (by omega)
   obtain ⟨g1,g2,g3⟩:=Aj n pts 1114112
   have g4:=g3 p0 hp0 hp1
   have g5:=hall p0 hp0
   have hmem:E9 n pts 1114112∈pts/\n<=E9 n pts 1114112:=by grind
   have he:L6 pts basic (f+1) n s=L6 pts basic f (E9 n pts 1114112+1) { F0 (E9 n pts 1114112) basic pts { s with delta:=s.delta+(E9 n pts 1114112-n)*(s.done+1) } with delta:=(F0 (E9 n pts 1114112) basic pts { s with delta:=s.delta+(E9 n pts 1114112-n)*(s.done+1) }).delta+1 }:=by
    rw [L6,if_pos hlt]
   rw [he,A7,cond_true]
   have hleast:=λ(K:Bool->Bool->LL->Int->Int->Int->Int->Int->Int->LL->Option R)=>QY (k0:=K) z t pts hl n (basic:Int) (s.delta:Int) (s.bias:Int) (s.done:Int) (s.out.map C9) pts.length 0 LF 1114112 (by omega) (by omega)
   rw [List.drop_zero] at hleast
   refine Eq.trans (hleast _) ?_
   generalize E9 n pts 1114112=m at *
   have hmul:(m-n)*(s.done+1)<=1114112*256:=Nat.mul_le_mul (by omega) (by omega)
   have e1:A1 ((s.done:Int)+1)=((s.done+1:Nat):Int):=by rw [A3];rfl
   have e2:A1 ((m:Int)-(n:Int))=((m-n:Nat):Int):=by rw [A3];omega
   have e3:A1 (((m-n:Nat):Int)*((s.done+1:Nat):Int))=(((m-n)*(s.done+1):Nat):Int):=by
    rw [<-Int.natCast_mul]
    exact A3
   have e4:A1 ((s.delta:Int)+(((m-n)*(s.done+1):Nat):Int))=((s.delta+(m-n)*(s.done+1):Nat):Int):=by
    rw [A3];rfl
   simp only [vl,e1,e2,e3,e4]
   have hin:=WM z t pts basic m (by omega) hl pts.length 0 LF { s with delta:=s.delta+(m-n)*(s.done+1) } (by omega) (by omega) (by simp only;omega) h2 (by simp only;omega) (by simp only;omega) hb
   rw [List.drop_zero] at hin
   obtain ⟨q1,q2,q3,q4,q5⟩:=hin
   rw [B6]
   refine Eq.trans (q1 R _) ?_
   have hcnt:0<pts.countP (· == m):=List.countP_pos_iff.2 ⟨m,hmem.1,by simp⟩
   rw [if_pos hcnt] at q5
   have hstep:=Mq hmem.2 pts g3
   generalize F0 m basic pts { s with delta:=s.delta+(m-n)*(s.done+1) } = s' at *
   simp only at q3 q4
   have e5:A1 ((s'.delta:Int)+1)=((s'.delta+1:Nat):Int):=by rw [A3];rfl
   have e6:A1 ((m:Int)+1)=((m+1:Nat):Int):=by rw [A3];rfl
   have hcl2:pts.countP (λp=>decide (p<m+1))<=pts.length:=List.countP_le_length
   simp only [e5,e6]
   exact ih (m+1) n' { s' with delta:=s'.delta+1 } (by simp only;omega) (by simp only;omega) (by omega) (by simp only;omega) q2 (by simp only;omega) (by omega) R k0
  ·rw [A6]
   rw [L6,if_neg hlt]
   rfl
def P2 (l:List Int):By:=(l.filter λx=>decide (x<128)).map λx=>UInt8.ofNat x.toNat
theorem As2 (x:Int) (h0:0<=x) (h:x<128):[SV.int .u8 (wu8 x)]=C9 (UInt8.ofNat x.toNat):=by
 unfold C9
 have e:wu8 x=x:=by unfold wu8;exact Int.emod_eq_of_lt h0 (show x<256 by omega)
 rw [e]
 have:((UInt8.ofNat x.toNat).toNat:Int)=x:=by simp;omega
 rw [this]
theorem Lz {x:Int} (h:ptI x=true):0<=x/\x<=1114111:=by
 cases x with
 | negSucc m=>cases h
 | ofNat m=>
  have:O4 m=true:=h
  unfold O4 at this
  simp only [Bool.and_eq_true,Nat.ble_eq] at this
  grind
theorem QS (z t:Bool) (P:List Int) (hl:P.length<=256):∀ (r i n:Nat) (out:By),i+r=P.length->r<n->out.length+r<=1000->
  ((P.drop i).all ptI=true->∀ (R:Type) (k0:LL->Option R) (k1:Bool->Bool->LL->LL->Option R),N7 LF n z t (T9 P) (P.length:Int) (i:Int) (out.map C9) k0 k1=k1 z t (T9 P) ((out++P2 (P.drop i)).map C9))/\
  ((P.drop i).all ptI=false->∃ l,∀ (R:Type) (k0:LL->Option R) (k1:Bool->Bool->LL->LL->Option R),N7 LF n z t (T9 P) (P.length:Int) (i:Int) (out.map C9) k0 k1=k0 l):=by
 intro r
 induction r with
 | zero=>
  intro i n out hi hn ho
  obtain ⟨n,rfl⟩:∃ m,n=m+1:=⟨n-1,by omega⟩
  rw [List.drop_of_length_le (by omega)]
  refine ⟨λ_ R k0 k1=>?_,λh=>(by cases h)⟩
  rw [N7]
  rw [A6]
  simp [P2]
 | succ r ih=>
  intro i n out hi hn ho
  obtain ⟨n,rfl⟩:∃ m,n=m+1:=⟨n-1,by omega⟩
  have hg:=OR P i (by omega)
  have ok:=FW (l:=P) (i:=i) (by omega)
  rw [IR P i (by omega)]
  generalize P.getD i 0=x at *
  have e1:A1 ((i:Int)+1)=((i+1:Nat):Int):=by rw [A3];rfl
  cases hx:ptI x with
  | false=>
   refine ⟨λh=>?_,λ_=>⟨out.map C9,λR k0 k1=>?_⟩⟩
   ·rw [List.all_cons,hx] at h;cases h
   ·rw [N7]
    rw [A7,O0,I8,Int.toNat_natCast,ok]
    simp only [cond_true,vl,hg,hx,Bool.not_false]
  | true=>
   obtain ⟨p0,p1⟩:=Lz hx
   rw [List.all_cons,hx,Bool.true_and]
   by_cases h128:x<128
   ·have hbs:P2 (x::P.drop (i+1))=UInt8.ofNat x.toNat::P2 (P.drop (i+1)):=by
     unfold P2;rw [List.filter_cons_of_pos (by simpa using h128)];rfl
    have hrow:out.map C9++[[SV.int .u8 (wu8 x)]]=(out++[UInt8.ofNat x.toNat]).map C9:=by rw [As2 x p0 h128];simp
    obtain ⟨q1,q2⟩:=ih (i+1) n (out++[UInt8.ofNat x.toNat]) (by omega) (by omega) (by simp;omega)
    have step:∀ (R:Type) (k0:LL->Option R) (k1:Bool->Bool->LL->LL->Option R),N7 LF (n+1) z t (T9 P) (P.length:Int) (i:Int) (out.map C9) k0 k1=N7 LF n z t (T9 P) (P.length:Int) ((i+1:Nat):Int) ((out++[UInt8.ofNat x.toNat]).map C9) k0 k1:=by
     intro R k0 k1
     rw [N7]
     rw [A7,O0,I8,Int.toNat_natCast,ok]
     simp only [cond_true,vl,hg,hx,Bool.not_true,cond_false,e1]
     rw [C0 h128,List.length_map,E2 (by omega),hrow]
     rfl
    refine ⟨λh R k0 k1=>?_,λh=>?_⟩
    ·rw [step,q1 h,hbs];simp
    ·obtain ⟨l,e⟩:=q2 h
     exact ⟨l,λR k0 k1=>by rw [step];exact e R k0 k1⟩
   ·have hbs:P2 (x::P.drop (i+1))=P2 (P.drop (i+1)):=by
     unfold P2;rw [List.filter_cons_of_neg (by simpa using h128)]
    obtain ⟨q1,q2⟩:=ih (i+1) n out (by omega) (by omega) (by omega)
    have step:∀ (R:Type) (k0:LL->Option R) (k1:Bool->Bool->LL->LL->Option R),N7 LF (n+1) z t (T9 P) (P.length:Int) (i:Int) (out.map C9) k0 k1=N7 LF n z t (T9 P) (P.length:Int) ((i+1:Nat):Int) (out.map C9) k0 k1:=by
     intro R k0 k1
     rw [N7]
     rw [A7,O0,I8,Int.toNat_natCast,ok]
     simp only [cond_true,vl,hg,hx,Bool.not_true,cond_false,e1]
     rw [A6]
     rfl
    refine ⟨λh R k0 k1=>?_,λh=>?_⟩
    ·rw [step,q1 h,hbs]
    ·obtain ⟨l,e⟩:=q2 h
     exact ⟨l,λR k0 k1=>by rw [step];exact e R k0 k1⟩
theorem WO {P:List Int} (h:P.all ptI=true):∃ pts:List Nat,P=pts.map (λn:Nat=>(n:Int))/\pts.all O4=true/\∀ p∈pts,p<=1114111:=by
 induction P with
 | nil=>exact ⟨[],rfl,rfl,by simp⟩
 | cons x P ih=>
  rw [List.all_cons,Bool.and_eq_true] at h
  obtain ⟨pts,rfl,h1,h2⟩:=ih h.2
  obtain ⟨p0,p1⟩:=Lz h.1
  obtain ⟨m,rfl⟩:=Int.eq_ofNat_of_zero_le p0
  refine ⟨m::pts,rfl,?_,?_⟩
  ·rw [List.all_cons,h1,Bool.and_true];exact h.1
  grind
theorem Vj (pts:List Nat):P2 (pts.map λn:Nat=>(n:Int))=F4 pts:=by
 unfold P2 F4
 induction pts with
 | nil=>rfl
 | cons p r ih=>
  grind
theorem Lh (pts:List Nat):(F4 pts).length=pts.countP (λp=>decide (p<128)):=by
 unfold F4
 grind
theorem QT (z t:Bool) (P:List Int):(Q5 P=([],3)/\∀ (R:Type) (k0:Unit->Option R) (k1:By->Int->LL->Option R),KH LF z t (T9 P) k0 k1=k0 ())\/
  (∃ l,∀ (R:Type) (k0:Unit->Option R) (k1:By->Int->LL->Option R),KH LF z t (T9 P) k0 k1=k1 (Q5 P).1 ((Q5 P).2:Nat) l):=by
 have hLF:=E5
 by_cases hl:256<P.length
 ·refine .inl ⟨by unfold Q5;rw [if_pos hl],λR k0 k1=>?_⟩
  unfold KH
  rw [O0,A7]
  rfl
 ·right
  obtain ⟨q1,q2⟩:=QS z t P (by omega) P.length 0 LF [] (by omega) (by omega) (by simp;omega)
  rw [List.drop_zero] at q1 q2
  cases ha:P.all ptI with
  | false=>
   obtain ⟨l,e⟩:=q2 ha
   refine ⟨l,λR k0 k1=>?_⟩
   unfold KH
   rw [O0,A6,cond_false]
   refine Eq.trans (e R _ _) ?_
   unfold Q5
   rw [if_neg hl,ha]
   rfl
  | true=>
   obtain ⟨pts,rfl,hp1,hp2⟩:=WO ha
   rw [List.length_map] at hl
   have hen:Q5 (pts.map λn:Nat=>(n:Int))=Ay pts:=by
    unfold Q5
    rw [List.length_map,if_neg hl,ha]
    simp [Function.comp_def]
   have hbl:=Lh pts
   have hbc:pts.countP (λp=>decide (p<128))<=pts.length:=List.countP_le_length
   have main:∀ (o:By),o.length<=300->∀ (R:Type) (k0:LL->Option R),Bc LF LF z t (A9 pts) ((F4 pts).length:Int) 128 0 72 ((F4 pts).length:Int) (o.map C9) k0=k0 ((L6 pts (F4 pts).length 256 128 { delta:=0,bias:=72,done:=(F4 pts).length,out:=o }).out.map C9):=by
    intro o ho R k0
    exact Ao7 z t pts (F4 pts).length (by omega) (by omega) hp2 256 128 LF { delta:=0,bias:=72,done:=(F4 pts).length,out:=o } hbl (by simp only;omega) (by omega) (by simp) (by simp) (by simp only;omega) (by omega) R k0
   have he2:Ay pts=((L6 pts (F4 pts).length 256 128 { delta:=0,bias:=72,done:=(F4 pts).length,out:=if (F4 pts).isEmpty then [] else F4 pts++[45] }).out,0):=by
    unfold Ay
    grind
   refine ⟨(Ay pts).1.map C9,λR k0 k1=>?_⟩
   unfold KH
   rw [O0,List.length_map,A6,cond_false,hen]
   have q1':=q1 ha R
   rw [List.length_map] at q1'
   refine Eq.trans (q1' _ _) ?_
   rw [List.nil_append,Vj,Jx]
   simp only [vl,List.length_map]
   by_cases hbe:F4 pts=[]
   ·rw [hbe,List.length_nil,A6,cond_false]
    have mm:=main [] (by simp) R
    rw [hbe,List.length_nil] at mm
    rw [List.map_nil] at mm
    refine Eq.trans (mm _) ?_
    rw [hbe] at he2
    rw [he2]
    simp only [List.isEmpty_nil,if_true,List.length_nil]
    rw [Ew,Fi]
    rfl
   ·have hpos:0<(F4 pts).length:=List.length_pos_iff.2 hbe
    rw [A7,cond_true,E2 (by omega),cond_true]
    have hrow:(F4 pts).map C9++[[SV.int .u8 (45:Int)]]=(F4 pts++[45]).map C9:=by rw [List.map_append];rfl
    rw [hrow]
    refine Eq.trans (main (F4 pts++[45]) (by simp;omega) R _) ?_
    rw [he2,if_neg (by simpa using hbe)]
    rw [Ew,Fi]
    rfl
theorem A37 (z t:Bool) (p:LL) (h0:p.all Ig=true):∃ r H,KH LF z t p (λ_=>rv (.tup [.s (.str []),.s (.int .i64 3)]) []) (λr0 r1 l=>rv (.tup [.s (.str r0),.s (.int .i64 r1)]) [.arr true 5 1 l])=rv r H/\
  r.stab [0,0] H = .tup [.s (.str (Q5 (p.map elI)).1),.s (.int .i64 ((Q5 (p.map elI)).2:Nat))]:=by
 obtain ⟨P,rfl⟩:=VM h0
 rw [IS]
 rcases QT z t P with ⟨h1,h2⟩ | ⟨l,h2⟩
 ·exact ⟨_,_,h2 _ _ _,by rw [h1];rfl⟩
 ·exact ⟨_,_,h2 _ _ _,rfl⟩
theorem Al2 (l:List Nat) (i n:Nat):Gg (A9 l) i (n:Int)=A9 (O2 l i n):=by
 unfold Gg O2 A9
 simp_all
theorem FT (b:Nat) (s:By) (i:Nat):Xh (b:Int) s (i:Int)=((B9 b s i 1 0).2.2:Int)/\((B9 b s i 1 0).2.2=0->Xi (b:Int) s (i:Int)=(B9 b s i 1 0).2.1/\Lx (b:Int) s (i:Int)=((B9 b s i 1 0).1:Int)):=by
 obtain ⟨h1,h2⟩:=My b s i 1 0
 have e:N5 (b:Int) s (i:Int) 1 0=N5 (b:Int) s (i:Int) ((1:Nat):Int) ((36*0:Nat):Int):=rfl
 unfold Xh Xi Lx
 rw [e]
 refine ⟨by rw [h1],λh=>?_⟩
 have:=h2 h
 rw [this]
 exact ⟨rfl,rfl⟩
theorem Bj4 (s:By) (pts:List Nat) (n i b:Nat) (st:Bool) (h:(B9 b s i 1 0).2.2=0) (hi:i<=(B9 b s i 1 0).1) (hp:O4 (n+(B9 b s i 1 0).1 / (pts.length+1))=true) (hc:¬ 256<pts.length+1) :
  C7 ⟨s,(n:Int),(i:Int),(b:Int),st,A9 pts⟩=(0,⟨(B9 b s i 1 0).2.1,((n+(B9 b s i 1 0).1 / (pts.length+1):Nat):Int),(((B9 b s i 1 0).1 % (pts.length+1)+1:Nat):Int),((L2 ((B9 b s i 1 0).1-i) (pts.length+1) (!st):Nat):Int),true,A9 (O2 pts ((B9 b s i 1 0).1 % (pts.length+1)) (n+(B9 b s i 1 0).1 / (pts.length+1)))⟩):=by
 obtain ⟨h1,h2⟩:=FT b s i
 obtain ⟨h3,h4⟩:=h2 h
 unfold C7
 simp only
 rw [h1,h,if_pos (show ((0:Nat):Int)=0 from rfl),h3,h4,B6]
 generalize (B9 b s i 1 0).1=X at *
 have ec:((pts.length:Int)+1)=((pts.length+1:Nat):Int):=rfl
 have ed:Int.tdiv (X:Int) ((pts.length+1:Nat):Int)=((X / (pts.length+1):Nat):Int):=J6 _ _
 have em:Int.tmod (X:Int) ((pts.length+1:Nat):Int)=((X % (pts.length+1):Nat):Int):=Fr _ _
 have en:(n:Int)+((X / (pts.length+1):Nat):Int)=((n+X / (pts.length+1):Nat):Int):=rfl
 rw [ec,ed,em,en,Gr,hp,if_pos rfl,G4,Int.toNat_natCast,Al2,Int.toNat_natCast,show ((X:Int)-(i:Int)).toNat=X-i by omega]
 rfl
theorem Bc8 (s:By) (pts:List Nat) (n i b:Nat) (st:Bool):((B9 b s i 1 0).2.2≠0->(C7 ⟨s,(n:Int),(i:Int),(b:Int),st,A9 pts⟩).1=((B9 b s i 1 0).2.2:Int))/\
  ((B9 b s i 1 0).2.2=0->O4 (n+(B9 b s i 1 0).1 / (pts.length+1))=false->(C7 ⟨s,(n:Int),(i:Int),(b:Int),st,A9 pts⟩).1=2)/\
  ((B9 b s i 1 0).2.2=0->O4 (n+(B9 b s i 1 0).1 / (pts.length+1))=true->256<pts.length+1->(C7 ⟨s,(n:Int),(i:Int),(b:Int),st,A9 pts⟩).1=3):=by
 obtain ⟨h1,h2⟩:=FT b s i
 have ec:(((A9 pts).length:Int)+1)=((pts.length+1:Nat):Int):=by rw [B6];rfl
 have ed:∀ X:Nat,Int.tdiv (X:Int) ((pts.length+1:Nat):Int)=((X / (pts.length+1):Nat):Int):=λX=>J6 _ _
 have en:∀ A:Nat,(n:Int)+(A:Int)=((n+A:Nat):Int):=λA=>rfl
 refine ⟨λh=>?_,λh hp=>?_,λh hp hc=>?_⟩
 ·unfold C7
  simp only
  rw [h1,G4]
 ·obtain ⟨h3,h4⟩:=h2 h
  unfold C7
  simp only
  rw [h1,h,if_pos (show ((0:Nat):Int)=0 from rfl),h4,ec,ed,en,Gr,hp,if_neg (by simp)]
 ·obtain ⟨h3,h4⟩:=h2 h
  unfold C7
  simp only
  rw [h1,h,if_pos (show ((0:Nat):Int)=0 from rfl),h4,ec,ed,en,Gr,hp,if_pos rfl,Ar]
theorem Y2 (pts:List Nat) (n i b:Nat) (f:Bool):E8 [] pts n i b f=(pts,0):=by rw [E8];rfl
theorem Cf {s:By} (hs:s≠[]) (pts:List Nat) (n i b:Nat) (f:Bool) (h:(B9 b s i 1 0).2.2≠0):E8 s pts n i b f=([],(B9 b s i 1 0).2.2):=by
 rw [E8,dif_neg hs]
 grind
theorem Ae {s:By} (hs:s≠[]) (pts:List Nat) (n i b:Nat) (f:Bool) (h:(B9 b s i 1 0).2.2=0):E8 s pts n i b f =
  if O4 (n+(B9 b s i 1 0).1 / (pts.length+1)) then (if 256<pts.length+1 then ([],3) else E8 (B9 b s i 1 0).2.1 (O2 pts ((B9 b s i 1 0).1 % (pts.length+1)) (n+(B9 b s i 1 0).1 / (pts.length+1))) (n+(B9 b s i 1 0).1 / (pts.length+1)) ((B9 b s i 1 0).1 % (pts.length+1)+1) (L2 ((B9 b s i 1 0).1-i) (pts.length+1) f) false) else ([],2):=by
 rw [E8,dif_neg hs]
 simp only
 rw [dif_pos h]
theorem V0 (l:List Nat) (i n:Nat):(O2 l i n).length=l.length+1:=by
 unfold O2
 grind
theorem ZX:∀ (r:Nat) (s:By) (pts:List Nat) (n i b f:Nat) (st:Bool),s.length<=r->r<f->s.length<=1000000->pts.length<=256->n<=1114111->i<=1000->b<=500->
  ((E8 s pts n i b (!st)).2=0->∃ s' n' i' b' st',∀ (R:Type) (k0:Int->LL->By->Int->Int->Int->Bool->Option R) (k1:LL->By->Int->Int->Int->Bool->Option R),N0 LF f (A9 pts) s (n:Int) (i:Int) (b:Int) st k0 k1=k1 (A9 (E8 s pts n i b (!st)).1) s' n' i' b' st')/\
  ((E8 s pts n i b (!st)).2≠0->(E8 s pts n i b (!st)).1=[]/\∃ l s' n' i' b' st',∀ (R:Type) (k0:Int->LL->By->Int->Int->Int->Bool->Option R) (k1:LL->By->Int->Int->Int->Bool->Option R),N0 LF f (A9 pts) s (n:Int) (i:Int) (b:Int) st k0 k1=k0 ((E8 s pts n i b (!st)).2:Nat) l s' n' i' b' st'):=by
 intro r
 induction r with
 | zero=>
  intro s pts n i b f st h hf _ _ _ _ _
  obtain ⟨f,rfl⟩:∃ m,f=m+1:=⟨f-1,by omega⟩
  have hs:s=[]:=List.length_eq_zero_iff.1 (by omega)
  subst hs
  rw [Y2]
  refine ⟨λ_=>⟨[],n,i,b,st,λR k0 k1=>?_⟩,λh=>absurd rfl h⟩
  rw [N0]
  rfl
 | succ r ih=>
  intro s pts n i b f st h hf h1 h2 h3 h4 h5
  obtain ⟨f,rfl⟩:∃ m,f=m+1:=⟨f-1,by omega⟩
  by_cases hs:s=[]
  ·subst hs
   rw [Y2]
   refine ⟨λ_=>⟨[],n,i,b,st,λR k0 k1=>?_⟩,λh=>absurd rfl h⟩
   rw [N0]
   rfl
  ·have start:∀ (R:Type) (k0:Int->LL->By->Int->Int->Int->Bool->Option R) (k1:LL->By->Int->Int->Int->Bool->Option R),N0 LF (f+1) (A9 pts) s (n:Int) (i:Int) (b:Int) st k0 k1 =
     cond ((C7 ⟨s,n,i,b,st,A9 pts⟩).1 != 0) (k0 (C7 ⟨s,n,i,b,st,A9 pts⟩).1 (C7 ⟨s,n,i,b,st,A9 pts⟩).2.l (C7 ⟨s,n,i,b,st,A9 pts⟩).2.rest (C7 ⟨s,n,i,b,st,A9 pts⟩).2.n (C7 ⟨s,n,i,b,st,A9 pts⟩).2.i (C7 ⟨s,n,i,b,st,A9 pts⟩).2.b (C7 ⟨s,n,i,b,st,A9 pts⟩).2.st)
      (N0 LF f (C7 ⟨s,n,i,b,st,A9 pts⟩).2.l (C7 ⟨s,n,i,b,st,A9 pts⟩).2.rest (C7 ⟨s,n,i,b,st,A9 pts⟩).2.n (C7 ⟨s,n,i,b,st,A9 pts⟩).2.i (C7 ⟨s,n,i,b,st,A9 pts⟩).2.b (C7 ⟨s,n,i,b,st,A9 pts⟩).2.st k0 k1):=by
    intro R k0 k1
    rw [N0]
    rw [show (s==([]:By))=false from beq_eq_false_iff_ne.2 hs,WZ,L0,L0,L0,B6,Nat.ble_eq_true_of_le (show pts.length<=100000 by omega)]
    rfl
   obtain ⟨d1,d2,d3⟩:=Bc8 s pts n i b st
   have hok:=Bj4 s pts n i b st
   generalize C7 ⟨s,n,i,b,st,A9 pts⟩=D at *
   by_cases he:(B9 b s i 1 0).2.2=0
   ·rw [Ae hs pts n i b (!st) he]
    obtain ⟨m1,m2⟩:=FT b s i
    obtain ⟨m3,m4⟩:=m2 he
    have hE:Xh (b:Int) s (i:Int)=0:=by rw [m1,he];rfl
    obtain ⟨q1,q2,q3⟩:=Mx b s i 1 0 (by omega) (by omega) (by omega) hE
    have q1':(i:Int)<=Lx (b:Int) s (i:Int):=q1
    have q2':Lx (b:Int) s (i:Int)<=1099511627776:=q2
    have q3':(Xi (b:Int) s (i:Int)).length<s.length:=q3
    rw [m4] at q1' q2'
    rw [m3] at q3'
    cases hp:O4 (n+(B9 b s i 1 0).1 / (pts.length+1)) with
    | false=>
     rw [if_neg (by simp)]
     refine ⟨λh=>by simp at h,λ_=>⟨rfl,D.2.l,D.2.rest,D.2.n,D.2.i,D.2.b,D.2.st,λR k0 k1=>?_⟩⟩
     ·rw [start,d2 he hp]
      rfl
    | true=>
     rw [if_pos rfl]
     by_cases hc:256<pts.length+1
     ·rw [if_pos hc]
      refine ⟨λh=>by simp at h,λ_=>⟨rfl,D.2.l,D.2.rest,D.2.n,D.2.i,D.2.b,D.2.st,λR k0 k1=>?_⟩⟩
      rw [start,d3 he hp hc]
      rfl
     ·rw [if_neg hc]
      have hok:=hok he (by omega) hp hc
      have hn':n+(B9 b s i 1 0).1 / (pts.length+1)<=1114111:=by
       unfold O4 at hp
       simp_all
      have hmod:=Nat.mod_lt (B9 b s i 1 0).1 (show 0<pts.length+1 by omega)
      have had:=Hq ((B9 b s i 1 0).1-i) (pts.length+1) (!st) (by omega)
      have:=ih (B9 b s i 1 0).2.1 (O2 pts ((B9 b s i 1 0).1 % (pts.length+1)) (n+(B9 b s i 1 0).1 / (pts.length+1))) (n+(B9 b s i 1 0).1 / (pts.length+1)) ((B9 b s i 1 0).1 % (pts.length+1)+1) (L2 ((B9 b s i 1 0).1-i) (pts.length+1) (!st)) f true (by omega) (by omega) (by omega) (by rw [V0];omega) hn' (by omega) had
      obtain ⟨p1,p2⟩:=this
      refine ⟨λh=>?_,λh=>?_⟩
      ·obtain ⟨s',n',i',b',st',e⟩:=p1 h
       refine ⟨s',n',i',b',st',λR k0 k1=>?_⟩
       rw [start,hok]
       exact e R k0 k1
      ·obtain ⟨pe,l,s',n',i',b',st',e⟩:=p2 h
       refine ⟨pe,l,s',n',i',b',st',λR k0 k1=>?_⟩
       rw [start,hok]
       exact e R k0 k1
   ·rw [Cf hs pts n i b (!st) he]
    refine ⟨λh=>absurd h he,λ_=>⟨rfl,D.2.l,D.2.rest,D.2.n,D.2.i,D.2.b,D.2.st,λR k0 k1=>?_⟩⟩
    rw [start,d1 he,show (((B9 b s i 1 0).2.2:Int) != 0)=true by rw [bne_iff_ne];omega]
    rfl
theorem Fk (l:List Nat):Rj l=A9 l:=rfl
theorem QO {R:Type} {k0:Unit->Option R} {k1:By->Option R} (s:By) (hs:s.length<=1000000):∀ (r i n:Nat),i+r=s.length->r<n->
  Gq LF n s (s.length:Int) (i:Int) k0 k1=if (s.drop i).any (λb=>Nat.ble 128 b.toNat) then k0 () else k1 s:=by
 intro r
 induction r with
 | zero=>
  intro i n hi hn
  obtain ⟨n,rfl⟩:∃ m,n=m+1:=⟨n-1,by omega⟩
  rw [Gq]
  rw [A6,List.drop_of_length_le (by omega)]
  rfl
 | succ r ih=>
  intro i n hi hn
  obtain ⟨n,rfl⟩:∃ m,n=m+1:=⟨n-1,by omega⟩
  rw [Gq]
  have e1:A1 ((i:Int)+1)=((i+1:Nat):Int):=by rw [A3];rfl
  rw [A7,I8,G9,I3 s i (by omega),e1,List.any_cons]
  simp only [cond_true]
  generalize s.getD i 0=b
  by_cases h:128<=b.toNat
  ·rw [A6,Nat.ble_eq_true_of_le h]
   rfl
  ·have:Nat.ble 128 b.toNat=false:=by rw [Bool.eq_false_iff,ne_eq,Nat.ble_eq];exact h
   rw [A7,this,Bool.false_or]
   exact ih (i+1) n (by omega) (by omega)
theorem ZW {R:Type} {k0:By->Int->LL->Option R} (s:By) (hs:s.length<=1000000) (k:Nat) (hk:k<=s.length):∀ (r i n:Nat) (l:List Nat),i+r=k->r<n->l.length=i->
  Dn LF n s (k:Int) (i:Int) (A9 l) k0=k0 s (k:Int) (A9 (l++((s.take k).drop i).map (·.toNat))):=by
 intro r
 induction r with
 | zero=>
  intro i n l hi hn hl
  obtain ⟨n,rfl⟩:∃ m,n=m+1:=⟨n-1,by omega⟩
  rw [Dn]
  rw [A6,List.drop_of_length_le (by rw [List.length_take];omega)]
  simp
 | succ r ih=>
  intro i n l hi hn hl
  obtain ⟨n,rfl⟩:∃ m,n=m+1:=⟨n-1,by omega⟩
  rw [Dn]
  have e1:A1 ((i:Int)+1)=((i+1:Nat):Int):=by rw [A3];rfl
  have hd:(s.take k).drop i=s.getD i 0::(s.take k).drop (i+1):=by
   rw [I3 (s.take k) i (by rw [List.length_take];omega)]
   congr 1
   rw [List.getD_eq_getElem?_getD,List.getD_eq_getElem?_getD,List.getElem?_take_of_lt (by omega)]
  rw [A7,I8,G9,hd,B6,E2 (by omega),e1]
  simp only [cond_true]
  generalize s.getD i 0=b
  have hb:=b.toNat_lt
  have e2:A1 (b.toNat:Int)=(b.toNat:Int):=A3
  have hrow:A9 l++[[SV.int .i64 (A1 (b.toNat:Int))]]=A9 (l++[b.toNat]):=by rw [e2,Fj];rfl
  rw [hrow,ih (i+1) n _ (by omega) (by omega) (by simp;omega)]
  simp
theorem Ij:∀ s:By,D8 s<=s.length-1
 | []=>by simp [D8]
 | b::r=>by
  have:=Ij r
  unfold D8
  grind
theorem QP (s:By) (h0:A4 s.length=true):(∃ e,J3 s=([],e)/\∀ (R:Type) (k0:Int->Option R) (k1:Int->LL->By->Int->Int->Int->Bool->Option R) (k2:LL->By->Int->Int->Int->Bool->Option R),Oc LF s k0 k1 k2=k0 (e:Nat))\/
  (∃ e l s' n' i' b' st',J3 s=([],e)/\∀ (R:Type) (k0:Int->Option R) (k1:Int->LL->By->Int->Int->Int->Bool->Option R) (k2:LL->By->Int->Int->Int->Bool->Option R),Oc LF s k0 k1 k2=k1 (e:Nat) l s' n' i' b' st')\/
  ((J3 s).2=0/\∃ s' n' i' b' st',∀ (R:Type) (k0:Int->Option R) (k1:Int->LL->By->Int->Int->Int->Bool->Option R) (k2:LL->By->Int->Int->Int->Bool->Option R),Oc LF s k0 k1 k2=k2 (A9 (J3 s).1) s' n' i' b' st'):=by
 have hLF:=E5
 unfold J3
 by_cases hl:1024<s.length
 ·rw [if_pos hl]
  refine .inl ⟨3,rfl,λR k0 k1 k2=>?_⟩
  unfold Oc
  rw [A7]
  rfl
 ·rw [if_neg hl]
  have asc:=λ(R:Type) (K0:Unit->Option R) (K1:By->Option R)=>QO (k0:=K0) (k1:=K1) s (by omega) s.length 0 LF (by omega) (by omega)
  rw [List.drop_zero] at asc
  cases ha:s.any (λb=>Nat.ble 128 b.toNat) with
  | true=>
   rw [if_pos rfl]
   refine .inl ⟨4,rfl,λR k0 k1 k2=>?_⟩
   unfold Oc
   rw [A6,cond_false]
   refine Eq.trans (asc R _ _) ?_
   rw [ha,if_pos rfl]
   rfl
  | false=>
   rw [if_neg (by simp)]
   obtain ⟨d1,d2⟩:=Ii s
   have hlt:=Ij s
   have key:∀ (pts:List Nat) (t:By),pts.length<=256->t.length<=1024->(∀ (R:Type) (k0:Int->Option R) (k1:Int->LL->By->Int->Int->Int->Bool->Option R) (k2:LL->By->Int->Int->Int->Bool->Option R),Oc LF s k0 k1 k2=N0 LF LF (A9 pts) t 128 0 72 false k1 k2)->
     (∃ e l s' n' i' b' st',E8 t pts 128 0 72 true=([],e)/\∀ (R:Type) (k0:Int->Option R) (k1:Int->LL->By->Int->Int->Int->Bool->Option R) (k2:LL->By->Int->Int->Int->Bool->Option R),Oc LF s k0 k1 k2=k1 (e:Nat) l s' n' i' b' st')\/
     ((E8 t pts 128 0 72 true).2=0/\∃ s' n' i' b' st',∀ (R:Type) (k0:Int->Option R) (k1:Int->LL->By->Int->Int->Int->Bool->Option R) (k2:LL->By->Int->Int->Int->Bool->Option R),Oc LF s k0 k1 k2=k2 (A9 (E8 t pts 128 0 72 true).1) s' n' i' b' st'):=by
    intro pts t hp ht he
    obtain ⟨p1,p2⟩:=ZX t.length t pts 128 0 72 LF false (Nat.le_refl _) (by omega) (by omega) hp (by omega) (by omega) (by omega)
    rw [Bool.not_false] at p1 p2
    by_cases hz:(E8 t pts 128 0 72 true).2=0
    ·obtain ⟨s',n',i',b',st',e⟩:=p1 hz
     exact .inr ⟨hz,s',n',i',b',st',λR k0 k1 k2=>by rw [he];exact e R k1 k2⟩
    ·obtain ⟨pe,l,s',n',i',b',st',e⟩:=p2 hz
     exact .inl ⟨_,l,s',n',i',b',st',Prod.ext pe rfl,λR k0 k1 k2=>by rw [he];exact e R k1 k2⟩
   have hu:u8n 45=45:=rfl
   have top:∀ (R:Type) (k0:Int->Option R) (k1:Int->LL->By->Int->Int->Int->Bool->Option R) (k2:LL->By->Int->Int->Int->Bool->Option R),Oc LF s k0 k1 k2 =
     cond (ltI 0 (G0 45 s)) (Dn LF LF s (G0 45 s) 0 [] (λs'5 k'6 l'7=>cond (N3 (A1 (k'6+1)) (s'5.length:Int) s'5.length)
      (vl (cut s'5 (A1 (k'6+1)) (s'5.length:Int)) λs'8=>cond (ltI 256 (l'7.length:Int)) (k1 3 l'7 s'8 128 0 72 false) (N0 LF LF l'7 s'8 128 0 72 false k1 k2)) none))
      (N0 LF LF [] s 128 0 72 false k1 k2):=by
    intro R k0 k1 k2
    unfold Oc
    rw [A6,cond_false]
    refine Eq.trans (asc R _ _) ?_
    rw [ha,if_neg (by simp),h0,hu]
    rfl
   by_cases hd:0<D8 s
   ·have hmem:45∈s:=by
     apply Classical.byContradiction
     intro h
     have:=(d2 h).2
     omega
    have hI:=d1 hmem
    generalize D8 s=m at *
    have hcopy:=λ(R:Type) (K:By->Int->LL->Option R)=>ZW (k0:=K) s (by omega) m (by omega) m 0 LF [] (by omega) (by omega) rfl
    rw [List.drop_zero] at hcopy
    have e1:A1 ((m:Int)+1)=((m+1:Nat):Int):=by rw [A3];rfl
    have hlen:((s.take m).map (·.toNat)).length=m:=by rw [List.length_map,List.length_take];omega
    have top2:∀ (R:Type) (k0:Int->Option R) (k1:Int->LL->By->Int->Int->Int->Bool->Option R) (k2:LL->By->Int->Int->Int->Bool->Option R),Oc LF s k0 k1 k2 =
      cond (ltI 256 (m:Int)) (k1 3 (A9 ((s.take m).map (·.toNat))) (s.drop (m+1)) 128 0 72 false) (N0 LF LF (A9 ((s.take m).map (·.toNat))) (s.drop (m+1)) 128 0 72 false k1 k2):=by
     intro R k0 k1 k2
     rw [top,hI,A7,cond_true]
     refine Eq.trans (hcopy R _) ?_
     rw [e1,P5,Mt,List.take_length,List.nil_append,B6,hlen]
     rfl
    by_cases h256:256<m
    ·rw [if_pos h256]
     refine .inr (.inl ⟨3,A9 ((s.take m).map (·.toNat)),s.drop (m+1),128,0,72,false,rfl,λR k0 k1 k2=>?_⟩)
     rw [top2,A7]
     rfl
    ·rw [if_neg h256,if_neg (show ¬ m=0 by omega)]
     exact .inr (key _ (s.drop (m+1)) (by rw [hlen];omega) (by rw [List.length_drop];omega) (λR k0 k1 k2=>by rw [top2,A6];rfl))
   ·have hz:D8 s=0:=by omega
    have hI:¬ 0<G0 45 s:=by
     by_cases hm:45∈s
     all_goals grind
    rw [hz,G4,if_pos rfl]
    refine .inr (key [] s (by simp) (by omega) (λR k0 k1 k2=>?_))
    rw [top,A6]
    rfl
theorem Ny (l:List Nat):(A9 l).isEmpty=l.isEmpty:=by cases l<;>rfl
theorem A33 (s:By) (h0:A4 s.length=true):∃ r H,Oc LF s (λr0=>rv (.tup [.fl 0,.s (.int .i64 r0)]) [.arr true 3 1 []]) (λr0 l1 s2 n3 n4 n5 b6=>rv (.tup [.fl 2,.s (.int .i64 r0)]) [.arr true 3 1 l1,.box [.s (.str s2),.fl 0,.s (.int .i64 n3),.s (.int .i64 n4),.s (.int .i64 n5),.s (.bool b6)],.arr true 3 1 []]) (λl0 s1 n2 n3 n4 b5=>rv (.tup [.fl 0,.s (.int .i64 (0:Int))]) [.arr true 3 1 l0,.box [.s (.str s1),.fl 0,.s (.int .i64 n2),.s (.int .i64 n3),.s (.int .i64 n4),.s (.bool b5)]])=rv r H/\
  r.stab [1,0] H = .tup [.s (.sl (J3 s).1.isEmpty (J3 s).1.isEmpty 1 (Rj (J3 s).1)),.s (.int .i64 ((J3 s).2:Nat))]:=by
 rcases QP s h0 with ⟨e,h1,h2⟩ | ⟨e,l,s',n',i',b',st',h1,h2⟩ | ⟨h1,s',n',i',b',st',h2⟩
 ·refine ⟨_,_,h2 _ _ _ _,?_⟩
  rw [h1]
  rfl
 ·refine ⟨_,_,h2 _ _ _ _,?_⟩
  rw [h1]
  rfl
 ·refine ⟨_,_,h2 _ _ _ _,?_⟩
  rw [h1,Fk]
  simp [PV.stab,Ib,Qw,PV.snap,H9,Ny]
theorem Vz (l:List Nat):Q5 (l.map λn:Nat=>(n:Int))=Ay l:=by
 have h1:(l.map λn:Nat=>(n:Int)).all ptI=l.all O4:=by
  rw [List.all_map]
  congr 1
 have h2:(l.map λn:Nat=>(n:Int)).map Int.toNat=l:=by
  rw [List.map_map]
  exact (List.map_congr_left λa _=>by simp).trans (List.map_id l)
 unfold Q5
 rw [List.length_map,h1,h2]
 by_cases h:256<l.length
 ·rw [if_pos h];unfold Ay;rw [if_pos h]
 ·rw [if_neg h]
  cases hp:l.all O4 with
  | true=>rw [if_pos rfl]
  | false=>
   rw [if_neg (by simp)]
   unfold Ay
   grind
theorem Vy (l:List Nat):(A9 l).map elI=l.map λn:Nat=>(n:Int):=by
 unfold A9
 rw [List.map_map]
 exact List.map_congr_left λa _=>rfl
theorem Eb (l:List Nat):(A9 l).all Ig=true:=by
 unfold A9
 rw [List.all_map,List.all_eq_true]
 intro x _
 rfl
theorem PT {R:Type} {k0:Unit->Option R} {k1:By->Bool->LL->Bool->Option R} (s:By) (z:Bool) (p:List Nat) (hp:p.length<=1000000000):∀ (r i n:Nat) (b:Bool),i+r=p.length->r<n->
  Q6 LF n s z (A9 p) b (p.length:Int) (i:Int) k0 k1=if (p.drop i).any (λp=>Nat.ble 65 p&&Nat.ble p 90) then k0 () else k1 s z (A9 p) (b && !((p.drop i).any λp=>Nat.ble 128 p)):=by
 intro r
 induction r with
 | zero=>
  intro i n b hi hn
  obtain ⟨n,rfl⟩:∃ m,n=m+1:=⟨n-1,by omega⟩
  rw [Q6]
  rw [A6,List.drop_of_length_le (by omega)]
  simp
 | succ r ih=>
  intro i n b hi hn
  obtain ⟨n,rfl⟩:∃ m,n=m+1:=⟨n-1,by omega⟩
  rw [Q6]
  have e1:A1 ((i:Int)+1)=((i+1:Nat):Int):=by rw [A3];rfl
  have hd:p.drop i=p.getD i 0::p.drop (i+1):=by
   rw [List.getD_eq_getElem?_getD,List.getElem?_eq_getElem (by omega),Option.getD_some,List.getElem_cons_drop]
  rw [A7,B6,I8,Int.toNat_natCast,Jz (by omega),Qx _ _ (by omega),hd,List.any_cons,List.any_cons,e1]
  simp only [cond_true,vl]
  generalize p.getD i 0=q
  have go:∀ c:Bool,Q6 LF n s z (A9 p) c (p.length:Int) ((i+1:Nat):Int) k0 k1=_:=λc=>ih (i+1) n c (by omega) (by omega)
  by_cases h1:q<65
  ·rw [A7,show Nat.ble 65 q=false by rw [Bool.eq_false_iff,ne_eq,Nat.ble_eq];omega]
   have h2:Nat.ble 128 q=false:=by rw [Bool.eq_false_iff,ne_eq,Nat.ble_eq];omega
   rw [show ltI (q:Int) (128:Int)=true from A7,h2]
   simp only [Bool.not_true,cond_false,Bool.false_and,Bool.false_or]
   cases b<;>simp only [cond_true,cond_false]<;>rw [go]
  ·rw [A6,show Nat.ble 65 q=true by rw [Nat.ble_eq];omega]
   simp only [Bool.not_false,cond_true,Bool.true_and]
   by_cases h2:90<q
   ·rw [A7,show Nat.ble q 90=false by rw [Bool.eq_false_iff,ne_eq,Nat.ble_eq];omega]
    simp only [Bool.not_true,cond_false,Bool.false_or]
    by_cases h3:q<128
    ·rw [show ltI (q:Int) (128:Int)=true from A7,show Nat.ble 128 q=false by rw [Bool.eq_false_iff,ne_eq,Nat.ble_eq];omega]
     cases b<;>simp only [cond_true,cond_false,Bool.false_or]<;>rw [go]
    ·rw [show ltI (q:Int) (128:Int)=false from A6,show Nat.ble 128 q=true by rw [Nat.ble_eq];omega]
     cases b<;>simp only [cond_true,cond_false,Bool.true_or,Bool.not_true,Bool.and_false]<;>rw [go]<;>simp
   ·rw [A6,show Nat.ble q 90=true by rw [Nat.ble_eq];omega]
    simp
theorem OG:∀ (m:Nat) (s:By) (pts:List Nat) (n i b:Nat) (f:Bool),s.length<=m->pts.length<=256->(E8 s pts n i b f).1.length<=256:=by
 intro m
 induction m with
 | zero=>
  intro s pts n i b f hs hp
  obtain rfl:=List.length_eq_zero_iff.1 (Nat.le_zero.1 hs)
  rw [Y2]
  exact hp
 | succ m ih=>
  intro s pts n i b f hs hp
  by_cases h:s=[]
  ·grind
  ·by_cases hq:(B9 b s i 1 0).2.2=0
   ·rw [Ae h _ _ _ _ _ hq]
    have hlt:=Jo b s i 1 0 hq
    split
    ·split
     ·grind
     ·rename_i h2
      exact ih _ _ _ _ _ _ (by omega) (by rw [V0];omega)
    grind
   ·rw [Cf h _ _ _ _ _ hq]
    grind
theorem IO (s:By):(J3 s).1.length<=256:=by
 unfold J3
 split
 ·grind
 ·split
  ·grind
  ·split
   ·grind
   ·rename_i h
    exact OG _ _ _ _ _ _ _ (Nat.le_refl _) (by rw [List.length_map,List.length_take];omega)
theorem PU {R:Type} {k0:Bool->Option R} (s:By) (h0:A4 s.length=true):WC LF s k0=k0 (Z6 s):=by
 have hLF:=E5
 unfold WC Z6
 rw [h0,cond_true]
 by_cases h:(J3 s).2=0
 ·have e:(((J3 s).2:Int) != (0:Int))=false:=by rw [h];rfl
  rw [e,cond_false,Fk,B6,h]
  have hl:=IO s
  refine Eq.trans (PT s _ (J3 s).1 (by omega) (J3 s).1.length 0 LF true (by omega) (by omega)) ?_
  rw [List.drop_zero]
  cases h1:(J3 s).1.any (λp=>Nat.ble 65 p&&Nat.ble p 90) with
  | true=>simp
  | false=>
   rw [if_neg (by simp),Eb,Vy,Vz]
   simp only [cond_true,vl,Bool.true_and,Bool.not_false]
   cases h2:(J3 s).1.any (λp=>Nat.ble 128 p) with
   | false=>simp
   | true=>
    simp only [Bool.not_true,Bool.not_false,cond_true,Bool.and_true,beq_self_eq_true,Bool.true_and]
    by_cases h3:(Ay (J3 s).1).2=0
    all_goals grind
 grind
theorem ZK {R:Type} {k0:Unit->Option R} {k1:By->Option R} (s:By) (hs:s.length<=1000000000):∀ (r i n:Nat),i+r=s.length->r<n->
  M5 LF n s (s.length:Int) (i:Int) k0 k1=if (s.drop i).all P9 then k1 s else k0 ():=by
 intro r
 induction r with
 | zero=>
  intro i n hi hn
  obtain ⟨n,rfl⟩:∃ m,n=m+1:=⟨n-1,by omega⟩
  rw [M5]
  rw [A6,List.drop_of_length_le (by omega)]
  rfl
 | succ r ih=>
  intro i n hi hn
  obtain ⟨n,rfl⟩:∃ m,n=m+1:=⟨n-1,by omega⟩
  rw [M5]
  have e1:A1 ((i:Int)+1)=((i+1:Nat):Int):=by rw [A3];rfl
  rw [A7,I8,G9,I3 s i (by omega),e1,List.all_cons]
  simp only [cond_true]
  rw [ih (i+1) n (by omega) (by omega)]
  generalize s.getD i 0=b
  have hb:=Sm b
  have q1:((b.toNat:Int) != 45) = !(b==45):=congrArg _ (T0 b 45 (by omega))
  have q2:((b.toNat:Int) != 95) = !(b==95):=congrArg _ (T0 b 95 (by omega))
  rw [q1,q2]
  have t:∀ {x:Bool},P9 b=x->(if (P9 b&&(s.drop (i+1)).all P9)=true then k1 s else k0 ())=if (x&&(s.drop (i+1)).all P9)=true then k1 s else k0 ():=λh=>by rw [h]
  cases hl:P9 b with
  | true=>
   rw [hb] at hl
   simp only [Bool.true_and]
   by_cases h1:b=45
   ·subst h1
    simp (disch:=decide) [ltI]
   ·by_cases h2:b=95
    ·subst h2
     simp (disch:=decide) [ltI]
    ·rcases hl with hl | hl | hl | hl
     ·rw [show ltI (b.toNat:Int) 97=false from A6,show ltI (122:Int) b.toNat=false from A6];rfl
     ·rw [show ltI (b.toNat:Int) 97=true from A7,show ltI (b.toNat:Int) 48=false from A6,show ltI (57:Int) b.toNat=false from A6];rfl
     ·exact absurd hl h1
     ·exact absurd hl h2
  | false=>
   have hn:¬ ((97<=b.toNat/\b.toNat<=122)\/(48<=b.toNat/\b.toNat<=57)\/b=45\/b=95):=λh=>by rw [hb.2 h] at hl;cases hl
   have n1:(b==45)=false:=by simpa using λh=>hn (.inr (.inr (.inl h)))
   have n2:(b==95)=false:=by simpa using λh=>hn (.inr (.inr (.inr h)))
   rw [n1,n2]
   simp only [Bool.not_false,cond_true,Bool.false_and,Bool.false_eq_true,if_false]
   by_cases h1:b.toNat<48
   ·rw [show ltI (b.toNat:Int) 97=true from A7,show ltI (b.toNat:Int) 48=true from A7];rfl
   ·by_cases h2:b.toNat<97
    ·rw [show ltI (b.toNat:Int) 97=true from A7,show ltI (b.toNat:Int) 48=false from A6,show ltI (57:Int) b.toNat=true from A7];rfl
    ·rw [show ltI (b.toNat:Int) 97=false from A6,show ltI (122:Int) b.toNat=true from A7,show ltI (b.toNat:Int) 48=false from A6,show ltI (57:Int) b.toNat=true from A7];rfl
theorem ZL {R:Type} {k0:Bool->Option R} (s:By) (h0:A4 s.length=true):A16 LF s k0=k0 (K2 s):=by
 have hs:=L8 h0
 have hLF:=E5
 unfold A16 K2
 by_cases h1:s=[]
 ·simp_all
 ·have hl:0<s.length:=List.length_pos_iff.2 h1
  have he:s.isEmpty=false:=by simpa using h1
  rw [A6,cond_false,he]
  by_cases h2:63<s.length
  ·rw [A7,show Nat.ble s.length 63=false by rw [Bool.eq_false_iff,ne_eq,Nat.ble_eq];omega]
   rfl
  ·rw [A6,cond_false,show Nat.ble s.length 63=true by rw [Nat.ble_eq];omega,I8]
   have q1:(bAt s 0==(45:Int))=(s.getD 0 0==45):=by rw [Hr];exact T0 _ 45 (by omega)
   have e1:A1 ((s.length:Int)-1)=((s.length-1:Nat):Int):=by rw [A3];omega
   rw [q1,e1]
   simp only [cond_true,vl]
   rw [I8,G9,show ((((s.getD (s.length-1) 0).toNat:Nat):Int)==45)=(s.getD (s.length-1) 0==45) from T0 _ 45 (by omega)]
   cases h3:(s.getD 0 0==45) with
   | true=>
    grind
   | false=>
    rw [show (s.getD 0 0 != 45)=true by unfold bne;rw [h3];rfl]
    simp only [cond_true,cond_false]
    cases h4:(s.getD (s.length-1) 0==45) with
    | true=>
     grind
    | false=>
     rw [show (s.getD (s.length-1) 0 != 45)=true by unfold bne;rw [h4];rfl]
     simp only [cond_false]
     refine Eq.trans (ZK s hs s.length 0 LF (by omega) (by omega)) ?_
     rw [List.drop_zero]
     cases h5:s.all P9 with
     | false=>simp
     | true=>
      rw [if_pos rfl,h0,cond_true]
      simp only [Bool.not_false,Bool.true_and,Bool.and_true]
      show cond (!(xnB.isPrefixOf s)) _ _=_
      cases h6:xnB.isPrefixOf s with
      | false=>rfl
      | true=>
       have hc:Vw s xnB=s.drop 4:=by unfold Vw;rw [h6];rfl
       show cond (A4 (Vw s xnB).length) (k0 (Z6 (Vw s xnB))) none=_
       rw [hc,I7 (by rw [List.length_drop];omega)]
       rfl
theorem OP (pts:List Nat) (basic:Nat) (hl:pts.length<=256) (hb:basic<=256) (hall:∀ p∈pts,p<=1114111):∀ (f n:Nat) (s:BZ),s.done=pts.countP (λp=>decide (p<n))->s.delta<=300->s.bias<=500->s.out.length+20*(pts.length-s.done)<=80000->n<=1114112->
  (L6 pts basic f n s).out.length<=80000:=by
 intro f
 have hLF:=E5
 induction f with
 | zero=>intro n s hd h1 h2 h3 h4;unfold L6;omega
 | succ f ih=>
  intro n s hd h1 h2 h3 h4
  have hcl:pts.countP (λp=>decide (p<n))<=pts.length:=List.countP_le_length
  by_cases hlt:s.done<pts.length
  ·obtain ⟨p0,hp0,hp1⟩:=OC (n:=n) (l:=pts) (by omega)
   obtain ⟨g1,g2,g3⟩:=Aj n pts 1114112
   have g4:=g3 p0 hp0 hp1
   have g5:=hall p0 hp0
   have hmem:E9 n pts 1114112∈pts/\n<=E9 n pts 1114112:=by grind
   have he:L6 pts basic (f+1) n s=L6 pts basic f (E9 n pts 1114112+1) { F0 (E9 n pts 1114112) basic pts { s with delta:=s.delta+(E9 n pts 1114112-n)*(s.done+1) } with delta:=(F0 (E9 n pts 1114112) basic pts { s with delta:=s.delta+(E9 n pts 1114112-n)*(s.done+1) }).delta+1 }:=by
    rw [L6,if_pos hlt]
   rw [he]
   generalize E9 n pts 1114112=m at *
   have hmul:(m-n)*(s.done+1)<=1114112*256:=Nat.mul_le_mul (by omega) (by omega)
   have hin:=WM false false pts basic m (by omega) hl pts.length 0 LF { s with delta:=s.delta+(m-n)*(s.done+1) } (by omega) (by omega) (by simp only;omega) h2 (by simp only;omega) (by simp only;omega) hb
   rw [List.drop_zero] at hin
   obtain ⟨_,q2,q3,q4,q5⟩:=hin
   have hcnt:0<pts.countP (· == m):=List.countP_pos_iff.2 ⟨m,hmem.1,by simp⟩
   rw [if_pos hcnt] at q5
   have hstep:=Mq hmem.2 pts g3
   generalize F0 m basic pts { s with delta:=s.delta+(m-n)*(s.done+1) } = s' at *
   simp only at q3 q4
   have hcl2:pts.countP (λp=>decide (p<m+1))<=pts.length:=List.countP_le_length
   exact ih (m+1) { s' with delta:=s'.delta+1 } (by simp only;omega) (by simp only;omega) q2 (by simp only;omega) (by omega)
  ·rw [L6,if_neg hlt];omega
theorem Aj5 (p:List Nat):(Ay p).1.length<=80000:=by
 unfold Ay
 split
 ·grind
 ·rename_i h
  split
  ·grind
  ·rename_i h2
   have hp:∀ q∈p,q<=1114111:=λq hq=>by
    have h2:p.all O4=true:=by simpa using h2
    have:=List.all_eq_true.1 h2 q hq
    simp only [O4,Bool.and_eq_true,Nat.ble_eq] at this
    omega
   have hbl:=Lh p
   have hbc:p.countP (λq=>decide (q<128))<=p.length:=List.countP_le_length
   refine OP p _ (by omega) (by omega) hp 256 128 _ hbl (by simp) (by simp) ?_ (by omega)
   grind
theorem FN {b:UInt8} (h:128<=b.toNat):Ej b=b:=by
 rcases Gk b with ⟨_,e⟩ | ⟨_,e⟩ | ⟨_,h2,_⟩
 all_goals omega
theorem FO {b:UInt8} (h:b.toNat<128):(Ej b).toNat<128:=by
 rcases Gk b with ⟨_,e⟩ | ⟨_,e⟩ | ⟨_,h2,e⟩
 all_goals grind
theorem XS (n:Nat) (b0 b1 b2 b3:UInt8) (h:128<=b0.toNat):Lib.decodeN n b0.toNat (Ej b1).toNat (Ej b2).toNat (Ej b3).toNat=Lib.decodeN n b0.toNat b1.toNat b2.toNat b3.toNat:=by
 have k1:∀ b:UInt8,b.toNat / 64=2->Ej b=b:=λb hb=>FN (by omega)
 have k2:∀ b:UInt8,¬ b.toNat / 64=2->¬ (Ej b).toNat / 64=2:=λb hb h=>by
  by_cases h2:128<=b.toNat
  ·rw [FN h2] at h;exact hb h
  ·have:=FO (b:=b) (by omega)
   omega
 unfold Lib.decodeN
 grind
theorem Aw8 (l:By) (hne:l≠[]):(Lib.decodeL (D9 l)).2=(Lib.decodeL l).2/\(¬ ((Lib.decodeL l).1=65533/\(Lib.decodeL l).2=1)->¬ ((Lib.decodeL (D9 l)).1=65533/\(Lib.decodeL (D9 l)).2=1)):=by
 cases l with
 | nil=>exact absurd rfl hne
 | cons b t=>
  by_cases hb:b.toNat<128
  ·have e1:=Lib.decodeL_ascii b t hb
   have e2:Lib.decodeL (D9 (b::t))=((Ej b).toNat,1):=Lib.decodeL_ascii (Ej b) (D9 t) (FO hb)
   rw [e1,e2]
   refine ⟨rfl,λ_ h=>?_⟩
   have:=FO hb
   omega
  ·have e:Lib.decodeL (D9 (b::t))=Lib.decodeL (b::t):=by
    rw [Lib.decodeL_N,Lib.decodeL_N,Jw,Gl,Gl,Gl,Gl]
    have e0:Ej ((b::t).getD 0 0)=b:=FN (b:=b) (show 128<=b.toNat by omega)
    rw [e0]
    exact XS (b::t).length b ((b::t).getD 1 0) ((b::t).getD 2 0) ((b::t).getD 3 0) (show 128<=b.toNat by omega)
   grind
theorem AX:∀ (f:Nat) (l:By),(S7 f l).isSome=true->(S7 f (D9 l)).isSome=true
 | 0,_,_=>rfl
 | f+1,l,h=>by
  unfold S7 at h ⊢
  by_cases hl:l=[]
  ·subst hl;rfl
  ·rw [if_neg hl] at h
   rw [if_neg (by rw [AP];exact hl)]
   obtain ⟨d1,d2⟩:=Aw8 l hl
   split at h
   ·cases h
   ·rename_i hv
    rw [if_neg (d2 hv),Option.isSome_map,d1,PQ]
    rw [Option.isSome_map] at h
    exact AX f _ h
theorem Ap1 {l:By} (h:(Cr l).isSome=true):(Cr (D9 l)).isSome=true:=by
 unfold Cr at h ⊢
 rw [Jw]
 exact AX _ _ h
theorem YO (t:By) (ht:t.length<=1000000000):∀ (f pos:Nat) (P q:List Nat) (n:Nat),pos<=t.length->t.length-pos<=f->f<n->P.length<=pos->S7 f (t.drop pos)=some q->
  ∃ m,∀ (R:Type) (k0:LL->By->Nat->Option R),Az LF n (A9 P) t pos k0=k0 (A9 (P++q)) t m:=by
 intro f
 induction f with
 | zero=>
  intro pos P q n h1 h2 h3 h4 h5
  obtain ⟨n,rfl⟩:∃ m,n=m+1:=⟨n-1,by omega⟩
  simp only [S7,Option.some.injEq] at h5
  subst h5
  refine ⟨pos,λR k0=>?_⟩
  rw [Az]
  rw [decide_eq_false (by omega),cond_false,List.append_nil]
 | succ f ih=>
  intro pos P q n h1 h2 h3 h4 h5
  obtain ⟨n,rfl⟩:∃ m,n=m+1:=⟨n-1,by omega⟩
  by_cases hp:pos<t.length
  ·have hne:t.drop pos≠[]:=by rw [ne_eq,<-List.length_eq_zero_iff,List.length_drop];omega
   have hd:=Lib.decodeL_drop ⟨t.toArray⟩ pos
   have hd':Utf8.decode ⟨List.toArray t⟩ pos=Lib.decodeL (t.drop pos):=by rw [<-hd]
   unfold S7 at h5
   rw [if_neg hne] at h5
   split at h5
   ·cases h5
   ·have hw:=Lib.decodeL_width (t.drop pos)
    have hle:=Lib.decodeL_le (t.drop pos) hne
    have hr:=Lib.decodeL_rune (t.drop pos)
    rw [List.length_drop] at hle
    rw [List.drop_drop] at h5
    generalize Lib.decodeL (t.drop pos)=dd at *
    obtain ⟨c,wd⟩:=dd
    simp only at *
    cases hq:S7 f (t.drop (pos+wd)) with
    | none=>rw [hq] at h5;cases h5
    | some q'=>
     rw [hq] at h5
     simp only [Option.map_some,Option.some.injEq] at h5
     subst h5
     obtain ⟨m,e⟩:=ih (pos+wd) (P++[c]) q' n (by omega) (by omega) (by omega) (by simp;omega) hq
     refine ⟨m,λR k0=>?_⟩
     rw [Az]
     rw [decide_eq_true hp,cond_true,hd',B6,E2 (by omega)]
     simp only [vl,cond_true]
     have e1:A1 (c:Int)=(c:Int):=A3
     have hrow:A9 P++[[SV.int .i64 (A1 (c:Int))]]=A9 (P++[c]):=by rw [e1,Fj];rfl
     rw [hrow,e,List.append_assoc]
     rfl
  ·have hnil:t.drop pos=[]:=by rw [<-List.length_eq_zero_iff,List.length_drop];omega
   unfold S7 at h5
   rw [hnil,if_pos rfl] at h5
   simp only [Option.some.injEq] at h5
   subst h5
   refine ⟨pos,λR k0=>?_⟩
   rw [Az]
   rw [decide_eq_false hp,cond_false,List.append_nil]
theorem PD (s:By) (h0:A4 s.length=true):(∀ (R:Type) (k0:By->Int->Option R) (k1:By->Int->LL->By->Nat->Option R),JN LF s k0 k1=k0 (Jd s).1 ((Jd s).2:Nat))\/
  (∃ l t m,∀ (R:Type) (k0:By->Int->Option R) (k1:By->Int->LL->By->Nat->Option R),JN LF s k0 k1=k1 (Jd s).1 ((Jd s).2:Nat) l t m):=by
 have hs:=L8 h0
 have hLF:=E5
 unfold Jd
 cases hp:Cr s with
 | none=>
  refine .inl λR k0 k1=>?_
  unfold JN
  rw [h0,hp]
  rfl
 | some p=>
  have hrc:=Yb hp
  have top:∀ (R:Type) (k0:By->Int->Option R) (k1:By->Int->LL->By->Nat->Option R),JN LF s k0 k1=cond (ltI 256 (p.length:Int)) (k0 [] 3) (cond (ltI (p.length:Int) (s.length:Int)) (Az LF LF [] (D9 s) 0 (λl'5 s'6 m'7=>cond (List.all l'5 Ig)
      (cond (((Q5 (List.map elI l'5)).2:Int) != (0:Int))
       (k1 ([]:List UInt8) 14 l'5 s'6 m'7)
       (cond (IK 4 (List.length ((Q5 (List.map elI l'5))).1))
        (cond (A4 (List.length (xnB++((Q5 (List.map elI l'5))).1)))
         (cond (not (K2 (xnB++((Q5 (List.map elI l'5))).1)))
         (k1 ([]:List UInt8) 14 l'5 s'6 m'7)
         (k1 (xnB++((Q5 (List.map elI l'5))).1) 0 l'5 s'6 m'7))
         (none))
        (none)))
      (none)))
     (cond (A4 (List.length (D9 s)))
      (cond (not (K2 (D9 s)))
      (k0 ([]:List UInt8) 14)
      (k0 (D9 s) 0))
      (none))):=by
   intro R k0 k1
   unfold JN
   rw [h0,hp,hrc]
   rfl
  simp only
  by_cases h1:256<p.length
  ·rw [if_pos h1]
   refine .inl λR k0 k1=>?_
   rw [top,A7]
   rfl
  ·rw [if_neg h1]
   by_cases h2:p.length<s.length
   ·rw [if_pos h2]
    have hlow:=Ap1 (l:=s) (by rw [hp];rfl)
    cases hq:Cr (D9 s) with
    | none=>rw [hq] at hlow;cases hlow
    | some q=>
     have hll:=Jw s
     obtain ⟨m,e⟩:=YO (D9 s) (by omega) (D9 s).length 0 [] q LF (by omega) (by omega) (by omega) (by simp) (by rw [List.drop_zero];exact hq)
     refine .inr ⟨A9 q,D9 s,m,λR k0 k1=>?_⟩
     rw [top,A6,cond_false,A7,cond_true]
     refine Eq.trans (e R _) ?_
     have hel:=Aj5 q
     rw [List.nil_append,Eb,Vy,Vz,cond_true,VC (by omega),cond_true,I7 (by rw [List.length_append];simp only [xnB,List.length_cons,List.length_nil];omega),cond_true]
     simp only
     by_cases h3:(Ay q).2=0
     ·rw [h3,if_pos rfl]
      cases h4:K2 (xnB++(Ay q).1) with
      | true=>rfl
      | false=>rfl
     ·rw [if_neg h3]
      have:(((Ay q).2:Int) != (0:Int))=true:=by simpa using h3
      rw [this]
      rfl
   ·rw [if_neg h2]
    refine .inl λR k0 k1=>?_
    rw [top,A6,cond_false,A6,cond_false,I7 (by rw [Jw];exact hs),cond_true]
    cases K2 (D9 s)<;>rfl
theorem Az5 (s:By) (h0:A4 s.length=true):∃ r H,JN LF s (λr0 r1=>rv (.tup [.s (.str r0),.s (.int .i64 r1)]) []) (λr0 r1 l2 s3 m4=>rv (.tup [.s (.str r0),.s (.int .i64 r1)]) [.arr true 3 1 l2,.iter s3 m4])=rv r H/\
  r.stab [0,0] H = .tup [.s (.str (Jd s).1),.s (.int .i64 ((Jd s).2:Nat))]:=by
 rcases PD s h0 with h | ⟨l,t,m,h⟩
 ·exact ⟨_,_,h _ _ _,rfl⟩
 ·exact ⟨_,_,h _ _ _,rfl⟩
theorem YC {R:Type} {k0:Int->Option R} (b:Int) (h0:inR b 256=true):Al0 LF b k0=k0 (Hz (u8n b)):=by
 simp only [inR,Bool.and_eq_true,decide_eq_true_eq] at h0
 have hc:b=((u8n b).toNat:Int):=by
  unfold u8n
  simp
  omega
 generalize u8n b=c at *
 subst hc
 have hbt:=c.toNat_lt
 unfold Al0
 simp only [Nj,Ni,vl,Hz]
 rcases Jp c with ⟨h1,h2,e⟩ | ⟨h1,h2,e⟩ | ⟨h1,h2,e⟩ | ⟨h1,h2,h3,e⟩
 ·have e2:A1 (wu8 ((c.toNat:Int)-48))=((dig c:Nat):Int):=by
   rw [R3,A3];omega
  rw [Ar]
  simp (disch:=omega) only [C0,E0,Bool.not_true,Bool.not_false,cond_false,cond_true,e2]
 ·have e2:A1 (A1 (wu8 ((c.toNat:Int)-97))+10)=((dig c:Nat):Int):=by
   rw [R3,D0 (n:=(c.toNat:Int)-97) (by omega) (by omega),A3];omega
  rw [Ar]
  simp (disch:=omega) only [C0,E0,Bool.not_true,Bool.not_false,cond_false,cond_true,e2]
 ·have e2:A1 (A1 (wu8 ((c.toNat:Int)-65))+10)=((dig c:Nat):Int):=by
   rw [R3,D0 (n:=(c.toNat:Int)-65) (by omega) (by omega),A3];omega
  rw [Ar]
  simp (disch:=omega) only [C0,E0,Bool.not_true,Bool.not_false,cond_false,cond_true,e2]
 ·rw [e,if_neg (by decide)]
  by_cases c1:c.toNat<48
  ·simp (disch:=omega) only [C0,E0,Bool.not_true,Bool.not_false,cond_false,cond_true]
  ·by_cases c2:c.toNat<65
   ·simp (disch:=omega) only [C0,E0,Bool.not_true,Bool.not_false,cond_false,cond_true]
   ·by_cases c3:c.toNat<97
    ·simp (disch:=omega) only [C0,E0,Bool.not_true,Bool.not_false,cond_false,cond_true]
    ·simp (disch:=omega) only [C0,E0,Bool.not_true,Bool.not_false,cond_false,cond_true]
theorem A31 {b:UInt8} (r:By) (h:b≠37):Ek (b::r)=(Ek r).map (b::·):=by
 conv=>lhs;unfold Ek
 grind
theorem Ao6 (x y:UInt8) (r:By):Ek (37::x::y::r)=if dig x<16/\dig y<16 then (Ek r).map (UInt8.ofNat (16*dig x+dig y)::·) else none:=by
 conv=>lhs;unfold Ek
 grind
theorem Aj1 (x:UInt8):ltI (Hz x) 0 = !(decide (dig x<16)):=by
 unfold Hz
 by_cases h:dig x<16
 ·simp_all
 ·rw [if_neg h,A7,decide_eq_false h];rfl
theorem YB (s:By) (hs:s.length<=1000000000):∀ (m i n:Nat) (acc:By),i<=s.length->s.length-i<=m->m<n->acc.length<=i->
  (∀ t,Ek (s.drop i)=some t->∀ (R:Type) (k0:LL->Option R) (k1:LL->Option R),M9 LF n s (i:Int) (acc.map C9) k0 k1=k1 ((acc++t).map C9))/\
  (Ek (s.drop i)=none->∃ l,∀ (R:Type) (k0:LL->Option R) (k1:LL->Option R),M9 LF n s (i:Int) (acc.map C9) k0 k1=k0 l):=by
 intro m
 induction m with
 | zero=>
  intro i n acc hi hm hn ha
  obtain ⟨n,rfl⟩:∃ m,n=m+1:=⟨n-1,by omega⟩
  rw [List.drop_of_length_le (by omega)]
  refine ⟨λt ht R k0 k1=>?_,λh=>(by cases h)⟩
  simp only [Ek,Option.some.injEq] at ht
  subst ht
  rw [M9]
  rw [A6,List.append_nil]
  rfl
 | succ m ih=>
  intro i n acc hi hm hn ha
  obtain ⟨n,rfl⟩:∃ m,n=m+1:=⟨n-1,by omega⟩
  by_cases hlt:i<s.length
  ·have e1:A1 ((i:Int)+1)=((i+1:Nat):Int):=by rw [A3];rfl
   have e2:A1 ((i:Int)+2)=((i+2:Nat):Int):=by rw [A3];rfl
   have e3:A1 (((i+2:Nat):Int)+1)=((i+3:Nat):Int):=by rw [A3];omega
   have hal:(acc.map C9).length=acc.length:=List.length_map _
   have hrow:∀ b:UInt8,acc.map C9++[[SV.int .u8 (b.toNat:Int)]]=(acc++[b]).map C9:=λb=>by rw [List.map_append];rfl
   have q1:(((s.getD i 0).toNat:Int) != 37) = !(s.getD i 0==37):=congrArg _ (T0 _ 37 (by omega))
   rw [I3 s i hlt]
   by_cases h37:s.getD i 0=37
   ·by_cases h3:i+2<s.length
    ·rw [I3 s (i+1) (by omega),I3 s (i+1+1) (by omega),h37,Ao6]
     obtain ⟨i1,i2⟩:=ih (i+3) n (acc++[UInt8.ofNat (16*dig (s.getD (i+1) 0)+dig (s.getD (i+2) 0))]) (by omega) (by omega) (by omega) (by simp;omega)
     have top:∀ (R:Type) (k0:LL->Option R) (k1:LL->Option R),M9 LF (n+1) s (i:Int) (acc.map C9) k0 k1=cond (decide (dig (s.getD (i+1) 0)<16)&&decide (dig (s.getD (i+2) 0)<16)) (M9 LF n s ((i+3:Nat):Int) ((acc++[UInt8.ofNat (16*dig (s.getD (i+1) 0)+dig (s.getD (i+2) 0))]).map C9) k0 k1) (k0 (acc.map C9)):=by
      intro R k0 k1
      rw [M9]
      rw [A7,I8,G9,q1,h37,hal,e2,A7,e1,I8,I8,G9,G9]
      simp only [cond_true,vl,Bool.not_true,cond_false,beq_self_eq_true,TU,Pe,Aj1,E2 (show acc.length+1<=68719476736 by omega),e3]
      generalize s.getD (i+1) 0=x at *
      generalize s.getD (i+2) 0=y at *
      by_cases hx:dig x<16
      ·by_cases hy:dig y<16
       ·have w1:Hz x=(dig x:Int):=by unfold Hz;rw [if_pos hx]
        have w2:Hz y=(dig y:Int):=by unfold Hz;rw [if_pos hy]
        have w3:A1 ((16:Int)*(dig x:Int))=((16*dig x:Nat):Int):=by rw [A3];omega
        have w4:A1 (((16*dig x:Nat):Int)+(dig y:Int))=((16*dig x+dig y:Nat):Int):=by rw [A3];omega
        have w5:wu8 ((16*dig x+dig y:Nat):Int)=((UInt8.ofNat (16*dig x+dig y)).toNat:Int):=by
         rw [R3]
         simp
         omega
        grind
       grind
      grind
     by_cases hd:dig (s.getD (i+1) 0)<16/\dig (s.getD (i+2) 0)<16
     ·rw [if_pos hd]
      have hc:(decide (dig (s.getD (i+1) 0)<16)&&decide (dig (s.getD (i+2) 0)<16))=true:=by rw [decide_eq_true hd.1,decide_eq_true hd.2];rfl
      refine ⟨λt ht R k0 k1=>?_,λh=>?_⟩
      ·cases hq:Ek (s.drop (i+3)) with
       | none=>rw [show i+1+1+1=i+3 from rfl,hq] at ht;cases ht
       | some q=>
        rw [show i+1+1+1=i+3 from rfl,hq] at ht
        simp only [Option.map_some,Option.some.injEq] at ht
        subst ht
        rw [top,hc,cond_true,i1 q hq,List.append_assoc]
        rfl
      ·cases hq:Ek (s.drop (i+3)) with
       | some q=>rw [show i+1+1+1=i+3 from rfl,hq] at h;cases h
       | none=>
        obtain ⟨l,e⟩:=i2 hq
        exact ⟨l,λR k0 k1=>by rw [top,hc,cond_true,e]⟩
     ·rw [if_neg hd]
      have hc:(decide (dig (s.getD (i+1) 0)<16)&&decide (dig (s.getD (i+2) 0)<16))=false:=by grind
      exact ⟨λt h=>(by cases h),λ_=>⟨_,λR k0 k1=>by rw [top,hc,cond_false]⟩⟩
    ·have hnone:Ek (s.getD i 0::s.drop (i+1))=none:=by
      rw [h37]
      cases hd:s.drop (i+1) with
      | nil=>rfl
      | cons x r=>
       cases r with
       | nil=>rfl
       | cons y r'=>
        exfalso
        have:=congrArg List.length hd
        rw [List.length_drop,List.length_cons,List.length_cons] at this
        omega
     rw [hnone]
     refine ⟨λt h=>(by cases h),λ_=>⟨acc.map C9,λR k0 k1=>?_⟩⟩
     rw [M9]
     rw [A7,I8,G9,q1,h37,e2,A6]
     rfl
   ·rw [A31 _ h37]
    obtain ⟨i1,i2⟩:=ih (i+1) n (acc++[s.getD i 0]) (by omega) (by omega) (by omega) (by simp;omega)
    have hb37:(s.getD i 0==37)=false:=by simpa using h37
    have top:∀ (R:Type) (k0:LL->Option R) (k1:LL->Option R),M9 LF (n+1) s (i:Int) (acc.map C9) k0 k1=M9 LF n s ((i+1:Nat):Int) ((acc++[s.getD i 0]).map C9) k0 k1:=by
     intro R k0 k1
     rw [M9]
     rw [A7,I8,G9,q1,hb37,hal,E2 (by omega),e1,hrow]
     rfl
    refine ⟨λt ht R k0 k1=>?_,λh=>?_⟩
    ·cases hq:Ek (s.drop (i+1)) with
     | none=>rw [hq] at ht;cases ht
     | some q=>
      rw [hq] at ht
      simp only [Option.map_some,Option.some.injEq] at ht
      subst ht
      rw [top,i1 q hq,List.append_assoc]
      rfl
    ·cases hq:Ek (s.drop (i+1)) with
     | some q=>rw [hq] at h;cases h
     | none=>
      obtain ⟨l,e⟩:=i2 hq
      exact ⟨l,λR k0 k1=>by rw [top,e]⟩
  ·rw [List.drop_of_length_le (by omega)]
   refine ⟨λt ht R k0 k1=>?_,λh=>(by cases h)⟩
   simp only [Ek,Option.some.injEq] at ht
   subst ht
   rw [M9]
   rw [A6,List.append_nil]
   rfl
theorem Ay3 (s:By) (h0:A4 s.length=true):∃ r H,Ak9 LF s (λr0 r1 l2=>rv (.tup [.s (.str r0),.s (.bool r1)]) [.arr false 5 1 l2])=rv r H/\
  r.stab [0,0] H = .tup [.s (.str (Be8 s)),.s (.bool (Ek s).isSome)]:=by
 have hs:=L8 h0
 have hLF:=E5
 have hroom:((decide ((0:Int)<=(s.length:Int)))&&(E4 (Int.toNat (s.length:Int))))=true:=by
  rw [Int.toNat_natCast,E2 (by omega),decide_eq_true (by omega)];rfl
 obtain ⟨p1,p2⟩:=YB s hs s.length 0 LF [] (by omega) (by omega) (by omega) (by simp)
 rw [List.drop_zero] at p1 p2
 unfold Be8
 cases hp:Ek s with
 | none=>
  obtain ⟨l,e⟩:=p2 hp
  refine ⟨.tup [.s (.str []),.s (.bool false)],[.arr false 5 1 l],?_,rfl⟩
  unfold Ak9
  rw [hroom,cond_true]
  exact e _ _ _
 | some t=>
  refine ⟨.tup [.s (.str t),.s (.bool true)],[.arr false 5 1 (t.map C9)],?_,rfl⟩
  unfold Ak9
  rw [hroom,cond_true]
  refine Eq.trans (p1 t hp _ _ _) ?_
  rw [List.nil_append,Ew,Fi]
  rfl
theorem JG {R:Type} {k0 k1:Unit->Option R}:∀ l:List By,(∀ x∈l,x.length<=1000000000)->Wl LF l k0 k1=if l.all K2 then k0 () else k1 ()
 | [],_=>rfl
 | x::r,h=>by
  rw [JF]
  unfold Tn
  rw [I7 (h x (by simp)),cond_true,List.all_cons]
  have ih:=JG (k0:=k0) (k1:=k1) r (λy hy=>h y (by simp [hy]))
  grind
theorem Bd5 (s:By) (h0:A4 s.length=true):∃ r H,hvn LF s (λ_=>rv (.s (.bool false)) [.box [.s (.bool false)]]) (λr0 b1=>rv (.s (.bool r0)) [.box [.s (.bool b1)],.box [.bad],.box [.bad],.box [.bad]])=rv r H/\r.stab [] H = .s (.bool (D6 s)):=by
 have hs:=L8 h0
 unfold hvn FH D6
 by_cases h1:253<s.length
 ·rw [A7,show Nat.ble s.length 253=false by rw [Bool.eq_false_iff,ne_eq,Nat.ble_eq];omega]
  exact ⟨_,_,rfl,rfl⟩
 ·rw [A6,cond_false,h0,cond_true,show Nat.ble s.length 253=true by rw [Nat.ble_eq];omega]
  cases h2:N1 s with
  | true=>exact ⟨_,_,rfl,rfl⟩
  | false=>
   rw [cond_false,show ((1:Nat)==1&&(0:Int)==(0:Int))=true from rfl,show ([46]:By).getD 0 0=46 from rfl,Bool.and_true,cond_true,JG _ (λx hx=>by have:=(Kd hx).2;omega)]
   cases h3:(pcs 46 s).all K2 with
   | true=>exact ⟨_,_,rfl,rfl⟩
   | false=>exact ⟨_,_,rfl,rfl⟩
theorem PX {R:Type} {k0:By->By->Int->Option R} (t p:By) (n:Int):An3 LF t p n k0=k0 t p n:=rfl
theorem Ac7 {R:Type} {k0:By->By->Option R} (t p:By):Bf3 LF t p k0=k0 t p:=rfl
theorem YG {R:Type} {k0:By->Option R} (t:By):Bd2 LF t k0=k0 t:=rfl
theorem XQ {c:UInt8} {s:By} (h:c∉s):Lib.cut s [c]=(s,[],false):=by
 unfold Lib.cut
 rw [Lt h,if_neg (by decide)]
theorem Ai8 {c:UInt8} {p r:By} (h:c∉p):Lib.cut (p++c::r) [c]=(p,r,true):=by
 unfold Lib.cut
 rw [Rb h,Ar,Int.toNat_natCast,List.take_left,List.length_singleton]
 simp_all
theorem TN {σ R:Type} (yh:Yh σ) (c:UInt8):∀ (m:Nat) (t:By) (n:Nat) (s s':σ),t.length<=m->t.length<=1000000000->m<n->P4 yh ((pcs c t).map λx=>([.s (.str x)]:List PV)) s=some s'->
  ∃ t' , (∃ s0:σ,∃ b:Bool,yh [.s (.str t')] s0=some (b,s')/\∀ (k0 k1:By->By->Int->σ->Option R),N2 yh LF n [c] t 0 s k0 k1=k0 [c] t' 0 s0)\/(∀ (k0 k1:By->By->Int->σ->Option R),N2 yh LF n [c] t 0 s k0 k1=k1 [c] t' 0 s'):=by
 intro m
 induction m with
 | zero=>
  intro t n s s' ht ht2 hn h
  obtain rfl:=List.length_eq_zero_iff.1 (Nat.le_zero.1 ht)
  obtain ⟨n,rfl⟩:∃ m,n=m+1:=⟨n-1,by omega⟩
  rw [Iw (by simp)] at h
  simp only [List.map_cons,List.map_nil,P4] at h
  refine ⟨[],.inl ⟨s,?_⟩⟩
  have e:∀ (k0 k1:By->By->Int->σ->Option R),N2 yh LF (n+1) [c] [] 0 s k0 k1=k0 [c] [] 0 s:=λk0 k1=>by
   rw [N2]
   rw [Lt (by simp)]
   rfl
  cases hy:yh [.s (.str [])] s with
  | none=>rw [hy] at h;cases h
  | some q=>
   obtain ⟨b,s1⟩:=q
   rw [hy] at h
   have:s1=s':=by cases b<;>simpa using h
   subst this
   exact ⟨b,rfl,e⟩
 | succ m ih=>
  intro t n s s' ht ht2 hn h
  obtain ⟨n,rfl⟩:∃ m,n=m+1:=⟨n-1,by omega⟩
  rcases Dw c t with hc | ⟨p,r,rfl,hc⟩
  ·rw [Iw hc] at h
   simp only [List.map_cons,List.map_nil,P4] at h
   refine ⟨t,.inl ⟨s,?_⟩⟩
   have e:∀ (k0 k1:By->By->Int->σ->Option R),N2 yh LF (n+1) [c] t 0 s k0 k1=k0 [c] t 0 s:=λk0 k1=>by
    rw [N2]
    rw [Lt hc,I7 ht2]
    rfl
   cases hy:yh [.s (.str t)] s with
   | none=>rw [hy] at h;cases h
   | some q=>
    obtain ⟨b,s1⟩:=q
    rw [hy] at h
    have:s1=s':=by cases b<;>simpa using h
    subst this
    exact ⟨b,rfl,e⟩
  ·rw [Ts hc] at h
   simp only [List.map_cons,P4] at h
   have hlen:(p++c::r).length=p.length+r.length+1:=by rw [List.length_append,List.length_cons];omega
   have e1:A1 ((p.length:Int)+0)=((p.length:Nat):Int):=by rw [A3];omega
   have e2:A1 ((p.length:Int)+(([c]:By).length:Int))=((p.length+1:Nat):Int):=by
    rw [D0 (by simp;omega) (by simp;omega)];simp
   have e3:cut (p++c::r) 0 (p.length:Int)=p:=by rw [Ad,Int.toNat_natCast,List.take_left]
   have e4:cut (p++c::r) ((p.length+1:Nat):Int) ((p++c::r).length:Int)=r:=by
    rw [M3,Int.toNat_natCast,show p++c::r=(p++[c])++r by simp,List.drop_left' (by simp)]
   have top:∀ (k0 k1:By->By->Int->σ->Option R),N2 yh LF (n+1) [c] (p++c::r) 0 s k0 k1=ydK (yh [.s (.str p)] s) λb s1=>cond (not b) (k1 [c] (p++c::r) 0 s1) (N2 yh LF n [c] r 0 s1 k0 k1):=λk0 k1=>by
    rw [N2]
    rw [Rb hc,I7 ht2,cond_true,A6,cond_false]
    simp only [vl,e1,e2,e3,e4]
    rw [P5,cond_true,P5]
    rfl
   cases hy:yh [.s (.str p)] s with
   | none=>rw [hy] at h;cases h
   | some q=>
    obtain ⟨b,s1⟩:=q
    rw [hy] at h top
    cases b with
    | false=>
     have:s1=s':=by simpa using h
     subst this
     exact ⟨p++c::r,.inr λk0 k1=>by rw [top];rfl⟩
    | true=>
     simp only at h
     obtain ⟨t',⟨s0,b,e,f⟩ | f⟩:=ih r n s1 s' (by omega) (by omega) (by omega) h
     ·exact ⟨t',.inl ⟨s0,b,e,λk0 k1=>by rw [top];exact f k0 k1⟩⟩
     ·exact ⟨t',.inr λk0 k1=>by rw [top];exact f k0 k1⟩
theorem TO {σ R:Type} (yh:Yh σ) (p t:By) (n:Int) (s s':σ) (h:(A4 t.length&&(p.length==1&&n==0))=true) (hr:P4 yh ((pcs (p.getD 0 0) t).map λx=>([.s (.str x)]:List PV)) s=some s') :
  ∃ t',∀ (k0:By->By->Int->σ->Option R),LJ yh LF p t n s k0=k0 p t' n s':=by
 have hLF:=E5
 simp only [Bool.and_eq_true,beq_iff_eq] at h
 obtain ⟨h1,h2,rfl⟩:=h
 obtain ⟨c,rfl⟩:=List.length_eq_one_iff.1 h2
 have ht:=L8 h1
 obtain ⟨t',⟨s0,b,e,f⟩ | f⟩:=TN (R:=R) yh c t.length t LF s s' (Nat.le_refl _) ht (by omega) hr
 ·refine ⟨t',λk0=>?_⟩
  unfold LJ
  rw [show (((([c]:By).length:Nat):Int)==0)=false from rfl,cond_false]
  refine Eq.trans (f _ _) ?_
  rw [e]
  rfl
 ·refine ⟨t',λk0=>?_⟩
  unfold LJ
  rw [show (((([c]:By).length:Nat):Int)==0)=false from rfl,cond_false]
  exact f _ _
theorem Wk {σ R:Type} (yh:Yh σ):∀ (l:List By) (t:By) (n:Nat) (s s':σ),VN t->pcs 46 t=l->l.length<n->P4 yh ((X4 l).map λx=>([.s (.str x)]:List PV)) s=some s'->
  ∃ t',∀ (k0:By->σ->Option R),W4 yh LF n t s k0=k0 t' s'
 | [],t,n,s,s',hv,hp,hn,hr=>absurd hp (Iv 46 t)
 | [x],t,n,s,s',hv,hp,hn,hr=>by
  obtain ⟨n,rfl⟩:∃ m,n=m+1:=⟨n-1,by omega⟩
  simp only [X4,List.map_nil,P4,Option.some.injEq] at hr
  subst hr
  have hno:(46:UInt8)∉t:=by
   intro h
   have h1:=Gp 46 t
   rw [hp] at h1
   have:=List.count_pos_iff.2 h
   simp at h1
   omega
  refine ⟨t,λk0=>?_⟩
  rw [W4]
  rw [XQ hno,I7 (by have:=hv.le;omega)]
  rfl
 | x::y::r,t,n,s,s',hv,hp,hn,hr=>by
  obtain ⟨n,rfl⟩:∃ m,n=m+1:=⟨n-1,by omega⟩
  obtain ⟨q1,q2,q3⟩:=hv.super hp
  have hx:(46:UInt8)∉x:=(Kd (s:=t) (x:=x) (by rw [hp];simp)).1
  simp only [X4,List.map_cons,P4] at hr
  have top:∀ (k0:By->σ->Option R),W4 yh LF (n+1) t s k0=ydK (yh [.s (.str (Lib.join (y::r) [46]))] s) λb s1=>cond (not b) (k0 t s1) (W4 yh LF n (Lib.join (y::r) [46]) s1 k0):=λk0=>by
   rw [W4]
   have:Lib.cut t [46]=(x,Lib.join (y::r) [46],true):=by rw [q1];exact Ai8 hx
   rw [this,I7 (by have:=hv.le;omega)]
   rfl
  cases hy:yh [.s (.str (Lib.join (y::r) [46]))] s with
  | none=>rw [hy] at hr;cases hr
  | some q=>
   obtain ⟨b,s1⟩:=q
   rw [hy] at hr top
   cases b with
   | false=>
    have:s1=s':=by simpa using hr
    subst this
    exact ⟨t,λk0=>by rw [top];rfl⟩
   | true=>
    simp only at hr
    obtain ⟨t',f⟩:=Wk yh (y::r) (Lib.join (y::r) [46]) n s1 s' q2 q3 (by simp only [List.length_cons] at hn ⊢;omega) hr
    exact ⟨t',λk0=>by rw [top];exact f k0⟩
theorem PA {σ R:Type} (yh:Yh σ) (t:By) (s s':σ) (h:A4 t.length=true) (hr:P4 yh ((I1 t).map λx=>([.s (.str x)]:List PV)) s=some s') :
  ∃ t',∀ (k0:By->σ->Option R),JC yh LF t s k0=k0 t' s':=by
 have hLF:=E5
 have ht:=L8 h
 unfold I1 at hr
 cases hv:D6 t with
 | false=>
  rw [hv] at hr
  simp only [Bool.false_eq_true,if_false,List.map_nil,P4,Option.some.injEq] at hr
  subst hr
  refine ⟨t,λk0=>?_⟩
  unfold JC
  rw [h,hv]
  rfl
 | true=>
  rw [hv,if_pos rfl] at hr
  have hpl:=Gp 46 t
  have hcl:=Fb 46 t
  obtain ⟨t',f⟩:=Wk (R:=R) yh _ t LF s s' (Gy.1 hv) rfl (by omega) hr
  refine ⟨t',λk0=>?_⟩
  unfold JC
  rw [h,hv]
  exact f _
def Tru (x:Option (PV × List Blk × Unit)):Prop:=∃ H,x=some (.s (.bool true),H,())
theorem Aj7 {els:LL} (h:∀ el∈els,Ty.ofL [.str,.bool] el):els.all K3=true:=by
 rw [List.all_eq_true]
 intro el he
 have:=h el he
 simp only [Ty.ofL,Ty.of] at this
 obtain ⟨_,_,rfl,⟨l,rfl,_⟩,_,_,rfl,⟨b,rfl⟩,rfl⟩:=this
 rfl
theorem Ag1 {P:Program} {t:Nat} {v:PV} (h:Ub P t v) (e:Dx P 20 t=some [.slice [.str,.bool]]) (ha:Mj P t=false):∃ z l,v = .s (.sl z false 2 l)/\l.all K3=true/\Io z l=true:=by
 obtain ⟨x,rfl,h5⟩:=UW h e ha
 simp only [Ty.of,List.length_cons,List.length_nil] at h5
 rcases h5 with rfl | ⟨els,rfl,hl,hall⟩
 ·exact ⟨true,[],rfl,rfl,rfl⟩
 ·exact ⟨false,els,rfl,Aj7 hall,rfl⟩
theorem Ac4 {n:Int} {l:LL} (hn:n<=1000) (h:Md n l=true):l.all smE=true/\A4 l.length=true:=by
 unfold Md at h
 rw [Bool.and_eq_true,List.all_eq_true] at h
 refine ⟨List.all_eq_true.2 λel he=>?_,?_⟩
 ·have:=h.2 el he
  rw [Ap] at this
  unfold smE
  exact I7 (by simp at this;omega)
 ·have:=h.1
  rw [Ap] at this
  exact I7 (by simp at this;omega)
end
section
open Go Go.Op
set_option maxRecDepth 100000
theorem Ab1 {R:Type} (z t:Bool) (E:List Ent) (s:By) (k0:By->Bool->Option R) (hs:(F8 E).all smE=true) (h1:A4 s.length=true) (hl:E.length<=1000000000):∀ (r i m:Nat) (b:Ent),i+r=E.length->r<m->
  Kh LF m z t (F8 E) s (i:Int) b.1 b.2 k0=k0 ((E.drop i).foldl (λb e=>if Db s e&&Nat.blt b.1.length e.1.length then e else b) b).1 ((E.drop i).foldl (λb e=>if Db s e&&Nat.blt b.1.length e.1.length then e else b) b).2
 | 0,i,m,b,hi,hm=>by
  obtain ⟨m,rfl⟩:∃ q,m=q+1:=⟨m-1,by omega⟩
  rw [Kh,E0 (by rw [C8];omega),List.drop_of_length_le (by omega)]
  rfl
 | r+1,i,m,b,hi,hm=>by
  obtain ⟨m,rfl⟩:∃ q,m=q+1:=⟨m-1,by omega⟩
  have hlt:i<E.length:=by omega
  have e2:A1 ((i:Int)+1)=((i+1:Nat):Int):=by rw [A3];rfl
  rw [Kh,C0 (by rw [C8];omega),M8 (by omega) (by rw [C8];omega),Int.toNat_natCast,Jy hlt,Ir hlt,Gf hlt,OS hlt,Ow hs hlt,h1,e2,Cg noE hlt,List.foldl_cons]
  simp only [cond_true]
  have ih:=λb=>Ab1 z t E s k0 hs h1 hl r (i+1) m b (by omega) (by omega)
  have eb:ltI (b.1.length:Int) ((E.getD i noE).1.length:Int)=Nat.blt b.1.length (E.getD i noE).1.length:=by
   rw [Ap,Bool.eq_iff_iff,decide_eq_true_eq,Nat.blt_eq]
   omega
  rw [eb,show Bj9 (E.getD i noE).1 (E.getD i noE).2=E.getD i noE from rfl]
  cases c1:Db s (E.getD i noE) with
  | false=>exact ih b
  | true=>
   cases c2:Nat.blt b.1.length (E.getD i noE).1.length with
   | false=>exact ih b
   | true=>exact ih (E.getD i noE)
theorem AI {R:Type} (z t:Bool) (T:List Ent) (k0 k1:Unit->Option R) (hl:T.length<=1000000000):∀ (r i m:Nat),i+r=T.length->r<m->
  Gi LF m z t (F8 T) (i:Int) k0 k1=cond ((F8 (T.drop i)).all λel=>!ltI 300 (elS el).length) (k1 ()) (k0 ())
 | 0,i,m,hi,hm=>by
  obtain ⟨m,rfl⟩:∃ q,m=q+1:=⟨m-1,by omega⟩
  rw [Gi,E0 (by rw [C8];omega),List.drop_of_length_le (by omega)]
  rfl
 | r+1,i,m,hi,hm=>by
  obtain ⟨m,rfl⟩:∃ q,m=q+1:=⟨m-1,by omega⟩
  have hlt:i<T.length:=by omega
  have e2:A1 ((i:Int)+1)=((i+1:Nat):Int):=by rw [A3];rfl
  rw [Gi,C0 (by rw [C8];omega),M8 (by omega) (by rw [C8];omega),Int.toNat_natCast,Ir hlt,Gf hlt,e2,AI z t T k0 k1 hl r (i+1) m (by omega) (by omega),Cg noE hlt]
  simp only [cond_true]
  show _=cond ((!ltI 300 ((T.getD i noE).1.length:Nat))&&(F8 (T.drop (i+1))).all λel=>!ltI 300 (elS el).length) (k1 ()) (k0 ())
  cases ltI 300 ((T.getD i noE).1.length:Nat)<;>rfl
theorem YN {R:Type} {k0:Bool->Option R} (z t:Bool) (l:LL) (n:Int) (h0:l.all K3=true) (hn:ltI n 1001=true):Az1 LF z t l n k0=k0 (Md n l):=by
 have hLF:=E5
 rw [Ap,decide_eq_true_eq] at hn
 have hr:=Df h0
 generalize hE:l.map B5=T at hr
 subst hr
 unfold Az1 Md
 cases c:ltI n ((F8 T).length:Nat) with
 | true=>rfl
 | false=>
  rw [Ap,decide_eq_false_iff_not,C8] at c
  have:=AI z t T (λ_=>k0 false) (λ_=>k0 true) (by omega) T.length 0 LF (by omega) (by omega)
  rw [List.drop_zero] at this
  refine this.trans ?_
  rw [Bool.not_false,Bool.true_and]
  cases (F8 T).all λel=>!ltI 300 (elS el).length<;>rfl
theorem Aj6 (l:List Ent):(F8 l).all K3=true:=by
 rw [List.all_eq_true]
 intro x hx
 obtain ⟨e,_,rfl⟩:=List.mem_map.1 hx
 rfl
theorem Bd6 {l:LL} (h0:l.all K3=true) (h1:l.all smE=true):(F8 (isE (l.map B5))).all smE=true:=by
 rw [Df h0] at h1
 rw [List.all_eq_true] at h1 ⊢
 intro x hx
 obtain ⟨e,he,rfl⟩:=List.mem_map.1 hx
 exact h1 _ (List.mem_map.2 ⟨e,Nl.1 he,rfl⟩)
theorem YL {l:LL} (h:A4 l.length=true):A4 (F8 (isE (l.map B5))).length=true:=by
 rw [C8,(Ie _).length_eq,List.length_map]
 exact h
end
section
open Go Go.Proofs
set_option maxRecDepth 100000
section
variable {σ R : Type} (lf : Nat) (cl : D1) (yh : Yh σ) (s : σ) (k : Out -> St σ -> Option R)
noncomputable def Al5 {R:Type} (lf n:Nat) (a_z0 a_t1:Bool) (a2:LL) (b_z3 b_t4:Bool) (b5:LL) (i6:Int) (k0:Unit->Option R) (k1:Unit->Option R):Option R:=match n with | 0=>none | n+1=>cond (ltI i6 (a2.length:Int)) (cond (inR i6 a2.length) (cond (okE ⟨true,true,[.str,.bool]⟩ a2 (Int.toNat i6) 0) (cond (inR i6 b5.length) (cond (okE ⟨true,true,[.str,.bool]⟩ b5 (Int.toNat i6) 0) (cond (not (((gX a2 (Int.toNat i6) 0)==(gX b5 (Int.toNat i6) 0))&&(((gY a2 (Int.toNat i6) 1)==(gY b5 (Int.toNat i6) 1))&&true))) (k0 ()) (Al5 lf n a_z0 a_t1 a2 b_z3 b_t4 b5 (A1 (i6+1)) k0 k1)) none) none) none) none) (k1 ())
noncomputable abbrev Dc:Code:=E3 Tryz.f8
noncomputable def U6 (lf:Nat):Cfg:=C2 lf [8] (A5 [(9,[0,0,2,2,0,0,0])]) [(12,MO),(22,Pl),(26,MS),(30,MQ),(32,DN),(19,DM)] (A5 [(15,[4]),(10,[0,0,5,0,0,0]),(14,[0,0,5,0,0,0]),(13,[4]),(12,[0,0,5,0,0,0,0,76]),(11,[0,0,5,0,0,0,0]),(9,[0,0,5,0,0,0,31]),(8,[0,0,5,0,0,0]),(7,[0,0,5,0,0]),(6,[0,0,5,0]),(5,[4]),(4,[0,0,3,21]),(3,[0,0,3,0]),(2,[4]),(1,[0,0,17]),(0,[0,0])]) [12,22,32,19] (A5 [(0,[8,0]),(1,[0,0,5,0,0,0])]) (some [4]) [] [] []
noncomputable def FQ {R:Type} (l_z0 l_t1:Bool) (l2:LL) (name3:By) (ok4 found5:Bool) (i6:Int) (s8:By) (b9:Bool) (k0:Bool->Bool->LL->By->Bool->Bool->Int->By->Bool->Option R):Option R:=cond found5 (k0 l_z0 l_t1 l2 name3 ok4 true i6 s8 b9) (cond (inR i6 l2.length) (cond (okE ⟨true,true,[.str,.bool]⟩ l2 (Int.toNat i6) 0) (k0 l_z0 l_t1 l2 name3 ok4 (((gX l2 (Int.toNat i6) 0)==s8)&&(((gY l2 (Int.toNat i6) 1)==b9)&&true)) i6 s8 b9) none) none)
abbrev Xb (b:Code):Prop:=∀ (k:Out->St σ->Option R) l_z0 l_t1 l2 name3 ok4 found5 i6 b7 s8 b9,B0 (U6 lf) cl yh b ⟨gp [(0,.s (.sl l_z0 l_t1 2 l2)),(0,pS name3),(5,.ptr 0 0 0),(0,pB ok4),(0,pB found5),(0,pI i6),(0,pB true),(76,pB b7)] 18,[.box [pS s8,pB b9]],s⟩ k=FQ l_z0 l_t1 l2 name3 ok4 found5 i6 s8 b9 (λl_z0 l_t1 l2 name3 ok4 found5 i6 s7 b8=>k .normal ⟨gp [(0,.s (.sl l_z0 l_t1 2 l2)),(0,pS name3),(5,.ptr 0 0 0),(0,pB ok4),(0,pB found5),(0,pI i6)] 96,[.box [pS s7,pB b8]],s⟩)
theorem AQ:Xb (R:=R) lf cl yh s (cd [1,1,1,1,1,1,0,1,0,0,1,0,0,1,1] Dc):=by
 intro k l_z0 l_t1 l2 name3 ok4 found5 i6 b7 s8 b9;unfold FQ;kernel_rfl
noncomputable def FR {R:Type} (l_z0 l_t1:Bool) (l2:LL) (name3:By) (ok4 found5:Bool) (i6:Int) (s7:By) (b8:Bool) (k0:(List Blk)->Option R) (k1:Bool->Bool->LL->By->Bool->Bool->Int->By->Bool->Option R):Option R:=cond (not ok4) (k0 [(Blk.box [(PV.s (SV.str s7)),(PV.s (SV.bool b8))])]) (cond (inR i6 l2.length) (cond (okE Gw l2 (Int.toNat i6) 0) (cond (ltI (s7.length:Int) (↑(List.length (gX l2 (Int.toNat i6) 0)):Int)) (k0 [(Blk.box [(PV.s (SV.str s7)),(PV.s (SV.bool b8))])]) (FQ l_z0 l_t1 l2 name3 ok4 found5 i6 s7 b8 (λl_z'4 l_t'5 l'6 name'7 ok'8 found'9 i'10 s'11 b'12=>k1 l_z'4 l_t'5 l'6 name'7 ok'8 found'9 i'10 s'11 b'12))) none) none)
abbrev Nu (b:Code):Prop:=∀ (k:Out->St σ->Option R) l_z0 l_t1 l2 name3 ok4 found5 i6 s7 b8,B0 (U6 lf) cl yh b ⟨gp [(0,.s (.sl l_z0 l_t1 2 l2)),(0,pS name3),(5,.ptr 0 0 0),(0,pB ok4),(0,pB found5),(0,pI i6),(0,pB true)] 95,[.box [pS s7,pB b8]],s⟩ k=FR l_z0 l_t1 l2 name3 ok4 found5 i6 s7 b8 (λH0=>k .ret ⟨gp [(4,pB false)] 102,H0,s⟩) (λl_z0 l_t1 l2 name3 ok4 found5 i6 s7 b8=>k .normal ⟨gp [(0,.s (.sl l_z0 l_t1 2 l2)),(0,pS name3),(5,.ptr 0 0 0),(0,pB ok4),(0,pB found5),(0,pI i6)] 96,[.box [pS s7,pB b8]],s⟩)
theorem ZE (b_111111010010011:Code) (h_lpx_j0:Xb (R:=R) lf cl yh s b_111111010010011):Nu (R:=R) lf cl yh s (cd [1,1,1,1,1,1,0,1,0,0,1,0,0,1] (Q2 [1,1,1,1,1,1,0,1,0,0,1,0,0,1,1] b_111111010010011 Dc)):=by
 intro k l_z0 l_t1 l2 name3 ok4 found5 i6 s7 b8;unfold FR;exact (Eq.trans (by kernel_rfl) (A0 rfl (A0 (A0 (A0 rfl ((h_lpx_j0 k l_z0 l_t1 l2 name3 ok4 found5 i6 (ltI (s7.length:Int) (↑(List.length (gX l2 (Int.toNat i6) 0)):Int)) s7 b8).trans (by kernel_rfl))) rfl) rfl)))
theorem ZF:Nu (R:=R) lf cl yh s (cd [1,1,1,1,1,1,0,1,0,0,1,0,0,1] Dc):=by
 intro k l_z0 l_t1 l2 name3 ok4 found5 i6 s7 b8;exact Eq.trans (by kernel_rfl) (ZE lf cl yh s (cd [1,1,1,1,1,1,0,1,0,0,1,0,0,1,1] Dc) (AQ lf cl yh s) k l_z0 l_t1 l2 name3 ok4 found5 i6 s7 b8)
noncomputable def Xc {R:Type} (l_z0 l_t1:Bool) (l2:LL) (name3:By) (ok4 found5:Bool) (i6:Int) (covers7:Bool) (s9:By) (b10:Bool) (k0:Bool->Bool->LL->By->Bool->Bool->Int->By->Bool->Option R):Option R:=cond found5 (k0 l_z0 l_t1 l2 name3 ok4 true i6 s9 b10) (cond covers7 (cond (inR i6 l2.length) (cond (okE ⟨true,true,[.str,.bool]⟩ l2 (Int.toNat i6) 0) (k0 l_z0 l_t1 l2 name3 ok4 (((gX l2 (Int.toNat i6) 0)==s9)&&(((gY l2 (Int.toNat i6) 1)==b10)&&true)) i6 s9 b10) none) none) (k0 l_z0 l_t1 l2 name3 ok4 false i6 s9 b10))
abbrev JY (b:Code):Prop:=∀ (k:Out->St σ->Option R) l_z0 l_t1 l2 name3 ok4 found5 i6 covers7 b8 s9 b10,B0 (U6 lf) cl yh b ⟨gp [(0,.s (.sl l_z0 l_t1 2 l2)),(0,pS name3),(5,.ptr 0 0 0),(0,pB ok4),(0,pB found5),(0,pI i6),(0,pB covers7),(76,pB b8)] 18,[.box [pS s9,pB b10]],s⟩ k=Xc l_z0 l_t1 l2 name3 ok4 found5 i6 covers7 s9 b10 (λl_z0 l_t1 l2 name3 ok4 found5 i6 s7 b8=>k .normal ⟨gp [(0,.s (.sl l_z0 l_t1 2 l2)),(0,pS name3),(5,.ptr 0 0 0),(0,pB ok4),(0,pB found5),(0,pI i6)] 96,[.box [pS s7,pB b8]],s⟩)
theorem ZG:JY (R:=R) lf cl yh s (cd [1,1,1,1,1,1,0,1,0,0,1,0,0,1,1] Dc):=by
 intro k l_z0 l_t1 l2 name3 ok4 found5 i6 covers7 b8 s9 b10;unfold Xc;kernel_rfl
noncomputable def Rh {R:Type} (l_z0 l_t1:Bool) (l2:LL) (name3:By) (ok4 found5:Bool) (i6:Int) (covers7:Bool) (s8:By) (b9:Bool) (k0:(List Blk)->Option R) (k1:Bool->Bool->LL->By->Bool->Bool->Int->By->Bool->Option R):Option R:=cond covers7 (cond (not ok4) (k0 [(Blk.box [(PV.s (SV.str s8)),(PV.s (SV.bool b9))])]) (cond (inR i6 l2.length) (cond (okE Gw l2 (Int.toNat i6) 0) (cond (ltI (s8.length:Int) (↑(List.length (gX l2 (Int.toNat i6) 0)):Int)) (k0 [(Blk.box [(PV.s (SV.str s8)),(PV.s (SV.bool b9))])]) (Xc l_z0 l_t1 l2 name3 ok4 found5 i6 covers7 s8 b9 (λl_z'24 l_t'25 l'26 name'27 ok'28 found'29 i'30 s'31 b'32=>k1 l_z'24 l_t'25 l'26 name'27 ok'28 found'29 i'30 s'31 b'32))) none) none)) (Xc l_z0 l_t1 l2 name3 ok4 found5 i6 covers7 s8 b9 (λl_z'33 l_t'34 l'35 name'36 ok'37 found'38 i'39 s'40 b'41=>k1 l_z'33 l_t'34 l'35 name'36 ok'37 found'38 i'39 s'40 b'41))
abbrev Nv (b:Code):Prop:=∀ (k:Out->St σ->Option R) l_z0 l_t1 l2 name3 ok4 found5 i6 covers7 s8 b9,B0 (U6 lf) cl yh b ⟨gp [(0,.s (.sl l_z0 l_t1 2 l2)),(0,pS name3),(5,.ptr 0 0 0),(0,pB ok4),(0,pB found5),(0,pI i6),(0,pB covers7)] 95,[.box [pS s8,pB b9]],s⟩ k=Rh l_z0 l_t1 l2 name3 ok4 found5 i6 covers7 s8 b9 (λH0=>k .ret ⟨gp [(4,pB false)] 102,H0,s⟩) (λl_z0 l_t1 l2 name3 ok4 found5 i6 s7 b8=>k .normal ⟨gp [(0,.s (.sl l_z0 l_t1 2 l2)),(0,pS name3),(5,.ptr 0 0 0),(0,pB ok4),(0,pB found5),(0,pI i6)] 96,[.box [pS s7,pB b8]],s⟩)
theorem ZH (b_111111010010011:Code) (h_lpx_j0:Xb (R:=R) lf cl yh s b_111111010010011) (h_lpx_j2:JY (R:=R) lf cl yh s b_111111010010011):Nv (R:=R) lf cl yh s (cd [1,1,1,1,1,1,0,1,0,0,1,0,0,1] (Q2 [1,1,1,1,1,1,0,1,0,0,1,0,0,1,1] b_111111010010011 Dc)):=by
 intro k l_z0 l_t1 l2 name3 ok4 found5 i6 covers7 s8 b9;unfold Rh;exact (Eq.trans (by kernel_rfl) (A0 (A0 rfl (A0 (A0 (A0 rfl ((h_lpx_j2 k l_z0 l_t1 l2 name3 ok4 found5 i6 covers7 (ltI (s8.length:Int) (↑(List.length (gX l2 (Int.toNat i6) 0)):Int)) s8 b9).trans (by kernel_rfl))) rfl) rfl)) ((h_lpx_j2 k l_z0 l_t1 l2 name3 ok4 found5 i6 covers7 false s8 b9).trans (by kernel_rfl))))
theorem ZI:Nv (R:=R) lf cl yh s (cd [1,1,1,1,1,1,0,1,0,0,1,0,0,1] Dc):=by
 intro k l_z0 l_t1 l2 name3 ok4 found5 i6 covers7 s8 b9;exact Eq.trans (by kernel_rfl) (ZH lf cl yh s (cd [1,1,1,1,1,1,0,1,0,0,1,0,0,1,1] Dc) (AQ lf cl yh s) (ZG lf cl yh s) k l_z0 l_t1 l2 name3 ok4 found5 i6 covers7 s8 b9)
noncomputable def Cm {R:Type} (lf n:Nat) (l_z0 l_t1:Bool) (l2:LL) (name3:By) (ok4 found5:Bool) (i6:Int) (s7:By) (b8:Bool) (k0:(List Blk)->Option R) (k1:Bool->Bool->By->Bool->Option R):Option R:=match n with | 0=>none | n+1=>cond (ltI i6 (l2.length:Int)) (cond (A4 name3.length) (cond (D6 name3) (cond (inR i6 l2.length) (cond (okE Gw l2 (Int.toNat i6) 0) (cond ((gX l2 (Int.toNat i6) 0)==name3) (FR l_z0 l_t1 l2 name3 ok4 found5 i6 s7 b8 (λH'13=>k0 H'13) (λl_z'14 l_t'15 l'16 name'17 ok'18 found'19 i'20 s'21 b'22=>vl (A1 (i'20+1)) λn'23=>Cm lf n l_z'14 l_t'15 l'16 name'17 ok'18 found'19 n'23 s'21 b'22 k0 k1)) (cond (inR i6 l2.length) (cond (okE ⟨true,false,[.bool]⟩ l2 (Int.toNat i6) 1) (cond (gY l2 (Int.toNat i6) 1) (cond (inR i6 l2.length) (cond (okE Gw l2 (Int.toNat i6) 0) (cond (A4 (List.length (gX l2 (Int.toNat i6) 0))) (cond (A4 name3.length) (Rh l_z0 l_t1 l2 name3 ok4 found5 i6 (F5 (gX l2 (Int.toNat i6) 0) name3) s7 b8 (λH'42=>k0 H'42) (λl_z'43 l_t'44 l'45 name'46 ok'47 found'48 i'49 s'50 b'51=>vl (A1 (i'49+1)) λn'52=>Cm lf n l_z'43 l_t'44 l'45 name'46 ok'47 found'48 n'52 s'50 b'51 k0 k1)) none) none) none) none) (Rh l_z0 l_t1 l2 name3 ok4 found5 i6 false s7 b8 (λH'53=>k0 H'53) (λl_z'54 l_t'55 l'56 name'57 ok'58 found'59 i'60 s'61 b'62=>vl (A1 (i'60+1)) λn'63=>Cm lf n l_z'54 l_t'55 l'56 name'57 ok'58 found'59 n'63 s'61 b'62 k0 k1))) none) none)) none) none) (Rh l_z0 l_t1 l2 name3 ok4 found5 i6 false s7 b8 (λH'64=>k0 H'64) (λl_z'65 l_t'66 l'67 name'68 ok'69 found'70 i'71 s'72 b'73=>vl (A1 (i'71+1)) λn'74=>Cm lf n l_z'65 l_t'66 l'67 name'68 ok'69 found'70 n'74 s'72 b'73 k0 k1))) none) (k1 ok4 found5 s7 b8)
theorem AR (b_11111101001001:Code) (h_lpx_j1:Nu (R:=R) lf cl yh s b_11111101001001) (h_lpx_j3:Nv (R:=R) lf cl yh s b_11111101001001) (n:Nat) (l_z0 l_t1:Bool) (l2:LL) (name3:By) (ok4 found5:Bool) (i6:Int) (s7:By) (b8:Bool):E6 1 ((U6 lf).keep 9) (bd (U6 lf) cl yh (cd [1,1,1,1,1,1,0,1,0,0] (Q2 [1,1,1,1,1,1,0,1,0,0,1,0,0,1] b_11111101001001 Dc))) n ⟨gp [(0,.s (.sl l_z0 l_t1 2 l2)),(0,pS name3),(5,.ptr 0 0 0),(0,pB ok4),(0,pB found5),(0,pI i6)] 96,[.box [pS s7,pB b8]],s⟩ k =
 Cm lf n l_z0 l_t1 l2 name3 ok4 found5 i6 s7 b8 (λH0=>k .ret ⟨gp [(4,pB false)] 102,H0,s⟩) (λok0 found1 s2 b3=>k (.exit 0) ⟨gp [(8,pB ok0),(0,pB found1)] 97,[.box [pS s2,pB b3]],s⟩):=by
 induction n generalizing l_z0 l_t1 l2 name3 ok4 found5 i6 s7 b8 with
 | zero=>rfl
 | succ n ih=>rw [Cm];exact let K0:=(G5 1 (H5 (U6 lf) cl yh (cd [1,1,1,1,1,1,0,1,0,0,1,1] Dc) (lpK 1 ((U6 lf).keep 9) (bd (U6 lf) cl yh (cd [1,1,1,1,1,1,0,1,0,0] (Q2 [1,1,1,1,1,1,0,1,0,0,1,0,0,1] b_11111101001001 Dc))) n k)));(Eq.trans (by kernel_rfl) (A0 (A0 (A0 (A0 (A0 (A0 ((h_lpx_j1 K0 l_z0 l_t1 l2 name3 ok4 found5 i6 s7 b8).trans (congr (congr rfl (by kernel_rfl)) (fx9 λl_z'14 l_t'15 l'16 name'17 ok'18 found'19 i'20 s'21 b'22=>(Eq.trans (by kernel_rfl) (A8 λn'23=>(ih l_z'14 l_t'15 l'16 name'17 ok'18 found'19 n'23 s'21 b'22)))))) (A0 (A0 (A0 (A0 (A0 (A0 (A0 ((h_lpx_j3 K0 l_z0 l_t1 l2 name3 ok4 found5 i6 (F5 (gX l2 (Int.toNat i6) 0) name3) s7 b8).trans (congr (congr rfl (by kernel_rfl)) (fx9 λl_z'43 l_t'44 l'45 name'46 ok'47 found'48 i'49 s'50 b'51=>(Eq.trans (by kernel_rfl) (A8 λn'52=>(ih l_z'43 l_t'44 l'45 name'46 ok'47 found'48 n'52 s'50 b'51)))))) rfl) rfl) rfl) rfl) ((h_lpx_j3 K0 l_z0 l_t1 l2 name3 ok4 found5 i6 false s7 b8).trans (congr (congr rfl (by kernel_rfl)) (fx9 λl_z'54 l_t'55 l'56 name'57 ok'58 found'59 i'60 s'61 b'62=>(Eq.trans (by kernel_rfl) (A8 λn'63=>(ih l_z'54 l_t'55 l'56 name'57 ok'58 found'59 n'63 s'61 b'62))))))) rfl) rfl)) rfl) rfl) ((h_lpx_j3 K0 l_z0 l_t1 l2 name3 ok4 found5 i6 false s7 b8).trans (congr (congr rfl (by kernel_rfl)) (fx9 λl_z'65 l_t'66 l'67 name'68 ok'69 found'70 i'71 s'72 b'73=>(Eq.trans (by kernel_rfl) (A8 λn'74=>(ih l_z'65 l_t'66 l'67 name'68 ok'69 found'70 n'74 s'72 b'73))))))) rfl) rfl))
noncomputable def lpx {R:Type} (lf:Nat) (l_z0 l_t1:Bool) (l2:LL) (name3:By) (k0:Bool->(List Blk)->Option R):Option R:=cond (List.all l2 K3) (cond (ltI 60 1001) (cond (not (Md (60:Int) l2)) (k0 true []) (cond (ltI 400 (name3.length:Int)) (k0 true []) (cond (List.all l2 K3) (cond (List.all l2 smE) (cond (A4 l2.length) (cond (Io l_z0 l2) (cond ((Kn (List.map B5 l2))==0) (cond (List.all (F8 (isE (List.map B5 l2))) K3) (cond (List.all (F8 (isE (List.map B5 l2))) smE) (cond (A4 (List.length (F8 (isE (List.map B5 l2))))) (cond (A4 name3.length) (vl (((Ag (List.map B5 (F8 (isE (List.map B5 l2)))) name3)).1).1 λs'2=>Cm lf lf l_z0 l_t1 l2 name3 ((Ag (List.map B5 (F8 (isE (List.map B5 l2)))) name3)).2 false 0 s'2 (((Ag (List.map B5 (F8 (isE (List.map B5 l2)))) name3)).1).2 (λH'75=>k0 false H'75) (λok'76 found'77 s'78 b'79=>cond (found'77==ok'76) (k0 true [(Blk.box [(PV.s (SV.str s'78)),(PV.s (SV.bool b'79))])]) (k0 false [(Blk.box [(PV.s (SV.str s'78)),(PV.s (SV.bool b'79))])]))) none) none) none) none) (vl (↑(Kn (List.map B5 l2)):Int) λn'3=>cond (n'3 != 0) (k0 true []) (cond (A4 name3.length) (Cm lf lf l_z0 l_t1 l2 name3 false false 0 ([]:List UInt8) false (λH'80=>k0 false H'80) (λok'81 found'82 s'83 b'84=>cond (found'82==ok'81) (k0 true [(Blk.box [(PV.s (SV.str s'83)),(PV.s (SV.bool b'84))])]) (k0 false [(Blk.box [(PV.s (SV.str s'83)),(PV.s (SV.bool b'84))])]))) none))) none) none) none) none))) none) none
theorem Be2 (b_11111101001001:Code) (h_lpx_j1:Nu (R:=PV × List Blk × σ) lf cl yh s b_11111101001001) (h_lpx_j3:Nv (R:=PV × List Blk × σ) lf cl yh s b_11111101001001) (l_z0 l_t1:Bool) (l2:LL) (name3:By):B0 (U6 lf) cl yh (cd [] (Q2 [1,1,1,1,1,1,0,1,0,0,1,0,0,1] b_11111101001001 Dc)) ⟨[.s (.sl l_z0 l_t1 2 l2),pS name3]++tps 105,[],s⟩ (I4 (U6 lf) Tryz.f8)=lpx lf l_z0 l_t1 l2 name3 (λr0 H1=>some (pB r0,H1,s)):=by
 unfold lpx;exact let K0:=(G5 0 (H5 (U6 lf) cl yh (cd [1,1,1,1,1,1,1] Dc) (I4 (U6 lf) Tryz.f8)));(Eq.trans (by kernel_rfl) (A0 (A0 (A0 rfl (A0 rfl (A0 (A0 (A0 (A0 (A0 (A0 (A0 (A0 (A0 (A8 λs'2=>((AR lf cl yh s K0 b_11111101001001 h_lpx_j1 h_lpx_j3 lf l_z0 l_t1 l2 name3 ((Ag (List.map B5 (F8 (isE (List.map B5 l2)))) name3)).2 false 0 s'2 (((Ag (List.map B5 (F8 (isE (List.map B5 l2)))) name3)).1).2).trans (by kernel_rfl))) rfl) rfl) rfl) rfl) (A8 λn'3=>(A0 rfl (A0 ((AR lf cl yh s K0 b_11111101001001 h_lpx_j1 h_lpx_j3 lf l_z0 l_t1 l2 name3 false false 0 ([]:List UInt8) false).trans (by kernel_rfl)) rfl)))) rfl) rfl) rfl) rfl))) rfl) rfl))
theorem Be3 (d:Nat) (l_z0 l_t1 l2 name3):evC (U6 lf) (d+1) σ yh 8 [.s (.sl l_z0 l_t1 2 l2),pS name3] [] s=lpx lf l_z0 l_t1 l2 name3 (λr0 H1=>some (pB r0,H1,s)):=
 (evE (fn:=Tryz.f8) (by kernel_rfl)).trans (Eq.trans (by kernel_rfl) (Be2 lf (evC (U6 lf) d) yh s (cd [1,1,1,1,1,1,0,1,0,0,1,0,0,1] Dc) (ZF lf (evC (U6 lf) d) yh s) (ZI lf (evC (U6 lf) d) yh s) l_z0 l_t1 l2 name3))
end
theorem Xd {R:Type} (z t:Bool) (E:List Ent) (s:By) (ok:Bool) (x:Ent) (k0:List Blk->Option R) (k1:Bool->Bool->By->Bool->Option R) (hs:(F8 E).all smE=true) (h1:A4 s.length=true) (hl:E.length<=1000000000)
  (hno:∀ y∈E,Db s y=true->ok=true/\y.1.length<=x.1.length):∀ (r i m:Nat) (found:Bool),i+r=E.length->r<m->
  Cm LF m z t (F8 E) s ok found (i:Int) x.1 x.2 k0 k1=k1 ok (found || (E.drop i).any λy=>Db s y&&(y==x)) x.1 x.2
 | 0,i,m,found,hi,hm=>by
  obtain ⟨m,rfl⟩:∃ q,m=q+1:=⟨m-1,by omega⟩
  rw [Cm,E0 (by rw [C8];omega),List.drop_of_length_le (by omega),List.any_nil,Bool.or_false]
  rfl
 | r+1,i,m,found,hi,hm=>by
  obtain ⟨m,rfl⟩:∃ q,m=q+1:=⟨m-1,by omega⟩
  have hlt:i<E.length:=by omega
  have e2:A1 ((i:Int)+1)=((i+1:Nat):Int):=by rw [A3];rfl
  have ih:=λfound=>Xd z t E s ok x k0 k1 hs h1 hl hno r (i+1) m found (by omega) (by omega)
  have hin:inR (i:Int) (F8 E).length=true:=M8 (by omega) (by rw [C8];omega)
  have oB:okE ⟨true,false,[.bool]⟩ (F8 E) i 1=true:=by unfold okE;rw [Fd hlt];simp [hlt,okS,Qs,SV.has]
  rw [Cm,C0 (by rw [C8];omega),Cg noE hlt,List.any_cons]
  unfold FR FQ Rh Xc
  simp only [hin,Int.toNat_natCast,Jy hlt,Ir hlt,oB,Gf hlt,OS hlt,Ow hs hlt,h1,e2,cond_true,vl,ih]
  have hy:E.getD i noE∈E:=by
   rw [List.getD_eq_getElem?_getD,List.getElem?_eq_getElem hlt]
   exact List.getElem_mem hlt
  have hc:=hno _ hy
  have hlen:Db s (E.getD i noE)=true->ltI (x.1.length:Int) ((E.getD i noE).1.length:Int)=false:=λh=>by
   have:=(hc h).2
   rw [Ap,decide_eq_false_iff_not]
   omega
  have heq:((E.getD i noE)==x)=(((E.getD i noE).1==x.1)&&(((E.getD i noE).2==x.2)&&true)):=by rw [Bool.and_true];rfl
  rw [heq]
  generalize E.getD i noE=y at hc hlen ⊢
  have hcov:Db s y=(D6 s&&((y.1==s) || (y.2&&F5 y.1 s))):=rfl
  rw [hcov] at hc hlen ⊢
  revert hc hlen
  cases D6 s with
  | false=>intro _ _;cases found<;>simp
  | true=>
   cases (y.1==s) with
   | true=>
    intro hc hlen
    rw [(hc rfl).1,hlen rfl]
    cases found<;>simp
   | false=>
    cases y.2 with
    | false=>intro _ _;cases found<;>simp
    | true=>
     cases F5 y.1 s with
     | false=>intro _ _;cases found<;>simp
     | true=>
      intro hc hlen
      rw [(hc rfl).1,hlen rfl]
      cases found<;>simp
theorem An2 (lz:Bool) (l:LL) (s:By) (hl:l.all K3=true) (hlz:Io lz l=true) :
  Tru (evC (U6 LF) 1 Unit noY 8 [.s (.sl lz false 2 l),pS s] [] ()):=by
 refine Eq.subst (motive:=Tru) (Be3 (σ:=Unit) LF noY () 0 lz false l s).symm ?_
 have hLF:=E5
 unfold lpx
 rw [hl]
 simp only [cond_true,show ltI 60 1001=true from rfl]
 cases c2:Md 60 l with
 | false=>exact ⟨_,rfl⟩
 | true=>
 rw [Bool.not_true,cond_false]
 by_cases c3:(400:Int)<s.length
 ·rw [C0 c3];exact ⟨_,rfl⟩
 obtain ⟨s3,s4⟩:=Ac4 (by decide) c2
 have gs:A4 s.length=true:=I7 (by omega)
 rw [A6,s3,s4,hlz]
 simp only [cond_true,cond_false,vl]
 cases c5:(Kn (List.map B5 l)==0) with
 | false=>
  have:Kn (List.map B5 l)≠0:=by simpa using c5
  rw [show (((Kn (List.map B5 l):Nat):Int) != 0)=true by rw [bne_iff_ne];omega]
  exact ⟨_,rfl⟩
 | true=>
 have hn:=eq_of_beq c5
 simp only [Aj6,Bd6 hl s3,YL s4,Nc,gs,cond_true]
 have hr:=Df hl
 have hlen:=L8 s4
 generalize hE:List.map B5 l=E at hr hn ⊢
 subst hr
 rw [C8] at hlen
 rcases A22 hn s with ⟨x,hx,e,c,k⟩ | ⟨e,k⟩
 ·rw [e]
  have run:=Xd lz false E s true x (λH'75=>some (PV.s (.bool false),H'75,())) (λok'76 found'77 s'78 b'79=>cond (found'77==ok'76) (some (PV.s (.bool true),[.box [pS s'78,pB b'79]],())) (some (PV.s (.bool false),[.box [pS s'78,pB b'79]],()))) s3 gs hlen (λy hy hc=>⟨rfl,k y hy hc⟩) E.length 0 LF false (by omega) (by omega)
  refine Eq.subst (motive:=Tru) run.symm ?_
  rw [List.drop_zero,Bool.false_or,List.any_eq_true.2 ⟨x,hx,by rw [c];simp⟩]
  exact ⟨_,rfl⟩
 ·rw [e]
  have run:=Xd lz false E s false noE (λH'75=>some (PV.s (.bool false),H'75,())) (λok'76 found'77 s'78 b'79=>cond (found'77==ok'76) (some (PV.s (.bool true),[.box [pS s'78,pB b'79]],())) (some (PV.s (.bool false),[.box [pS s'78,pB b'79]],()))) s3 gs hlen (λy hy hc=>by rw [k y hy] at hc;cases hc) E.length 0 LF false (by omega) (by omega)
  refine Eq.subst (motive:=Tru) run.symm ?_
  rw [List.drop_zero,Bool.false_or,show (E.any λy=>Db s y&&(y==noE))=false by rw [List.any_eq_false];intro y hy;rw [k y hy];simp]
  exact ⟨_,rfl⟩
theorem A13 (args:List PV) (h:Fs Tryz.prog [23,9] args):∃ d Hc,evC (U6 LF) d Unit noY 8 args [] ()=some (.s (.bool true),Hc,()):=by
 obtain ⟨v3,q3,rfl,h3,v4',q4,rfl,h4,rfl⟩:=h
 obtain ⟨lz,l,rfl,hl,hlz⟩:=Ag1 h3 (by kernel_rfl) (by kernel_rfl)
 obtain ⟨s,rfl,_⟩:=Aw0 h4 (by kernel_rfl) (by kernel_rfl)
 exact ⟨1,An2 lz l s hl hlz⟩
section
theorem BX:B1 Tryz.prog GX 181 Ev:=λargs ret Hc h=>by
 have:I5 (Ev args)=none:=by unfold Ev Uc;split<;>rfl
 rw [this] at h;cases h
theorem At9:B1 Tryz.prog GX 154 MU:=xf [] (NT LF) CV rfl trivial rfl (by kernel_rfl) follows λargs=>by
 unfold CV;split
 ·rename_i s p;exact λh0=>⟨rfl,rfl,rfl,_,_,(A12 LF noY () 0 s p).trans (ZC s p h0),rfl⟩
 ·trivial
theorem At2:B1 Tryz.prog GX 112 MM:=xf [] (NO LF) CG rfl ⟨At9,trivial⟩ rfl (by kernel_rfl) follows λargs=>by
 unfold CG;split
 ·rename_i s p;exact λh0=>⟨rfl,rfl,rfl,_,_,(Ay8 LF noY () 0 s p).trans (YF s p h0),rfl⟩
 ·trivial
theorem Bh1:B1 Tryz.prog GX 180 Ae9:=xf [] (NU LF) CX rfl trivial rfl (by kernel_rfl) follows λargs=>by
 unfold CX;split
 ·rename_i s p;exact λh0=>⟨rfl,rfl,rfl,_,_,(A15 LF noY () 0 s p).trans (ZJ s p h0),rfl⟩
 ·trivial
theorem A83:B1 Tryz.prog GX 157 UM:=xf [] (EP LF) Um rfl ⟨Bh1,trivial⟩ rfl (by kernel_rfl) follows λargs=>by
 unfold Um;split
 ·rename_i s p;exact λh0=>⟨rfl,rfl,rfl,_,_,(An5 LF noY () 0 s p).trans (PY s p h0),rfl⟩
 ·trivial
theorem A91:B1 Tryz.prog GX 115 UT:=xf [] (EU LF) Vb rfl ⟨A83,trivial⟩ rfl (by kernel_rfl) follows λargs=>by
 unfold Vb;split
 ·rename_i s p;exact λh0=>⟨rfl,rfl,rfl,_,_,(As0 LF noY () 0 s p).trans (TR s p h0),rfl⟩
 ·trivial
theorem A76:B1 Tryz.prog GX 169 UG:=xf [0,0] (EL LF) Ue rfl ⟨At9,trivial⟩ rfl (by kernel_rfl) follows λargs=>by
 unfold Ue;split
 ·rename_i s p;exact λh0=>⟨rfl,rfl,rfl,_,_,(Al8 LF noY () 0 s p).trans (PJ s p h0),rfl⟩
 ·trivial
theorem Bg2:B1 Tryz.prog GX 130 Ae3:=xf [0,0] (NM LF) CA rfl ⟨A76,trivial⟩ rfl (by kernel_rfl) follows λargs=>by
 unfold CA;split
 ·rename_i s p;exact λh0=>⟨rfl,rfl,rfl,_,_,(Aw6 LF noY () 0 s p).trans (XP s p h0),rfl⟩
 ·trivial
theorem At0:B1 Tryz.prog GX 158 HO:=xf [1] (Ab LF) Pm rfl ⟨BX,Au6,UB,trivial⟩ rfl (by kernel_rfl) follows λargs=>by
 unfold Pm;split
 ·rename_i s p v n;exact λh0=>λh1=>λh2=>λh3=>(let ⟨rr,hH,ee,qq⟩:=JA s p v n h0 h1 h2 h3;⟨rfl,rfl,rfl,rr,hH,(AC LF noY () 0 s p v n).trans ee,qq⟩)
 ·trivial
theorem Au9:B1 Tryz.prog GX 117 HS:=xf [1] (Vp LF) Px rfl ⟨At0,trivial⟩ rfl (by kernel_rfl) follows λargs=>by
 unfold Px;split
 ·rename_i s p;exact λh0=>λh1=>⟨rfl,rfl,rfl,_,_,(Ac8 LF noY () 0 s p).trans (LN s p h0 h1),rfl⟩
 ·trivial
theorem At8:B1 Tryz.prog GX 111 MT:=xf [] (Lo LF) CU rfl trivial rfl (by kernel_rfl) follows λargs=>by
 unfold CU;split
 ·rename_i s;exact λh0=>⟨rfl,rfl,rfl,_,_,(A10 LF noY () 0 s).trans (ZA s h0),rfl⟩
 ·trivial
theorem At1:B1 Tryz.prog GX 127 ML:=xf [] (NN LF) CF rfl ⟨At2,trivial⟩ rfl (by kernel_rfl) follows λargs=>by
 unfold CF;split
 ·rename_i s;exact λh0=>⟨rfl,rfl,rfl,_,_,(Ay7 LF noY () 0 s).trans (YD s h0),rfl⟩
 ·trivial
theorem As9:B1 Tryz.prog GX 129 MK:=xf [0,0] (P3 LF) CB rfl trivial rfl (by kernel_rfl) follows λargs=>by
 unfold CB;split
 ·rename_i s base;exact λh0=>λh1=>⟨rfl,rfl,rfl,_,_,(Ax2 LF noY () 0 s base).trans (XU s base h0 h1),rfl⟩
 ·trivial
theorem Bl5:B1 Tryz.prog GX 128 A99:=xf [0,0] (Ah9 LF) MV rfl ⟨At1,As9,trivial⟩ rfl (by kernel_rfl) follows λargs=>by
 unfold MV;split
 ·rename_i s;exact λh0=>⟨rfl,rfl,rfl,_,_,(Be4 LF noY () 0 s).trans (Ao2 s h0),rfl⟩
 ·trivial
theorem A84:B1 Tryz.prog GX 126 UN:=xf [1] (EQ LF) Un rfl ⟨Au9,trivial⟩ rfl (by kernel_rfl) follows λargs=>by
 unfold Un;split
 ·rename_i s;exact λh0=>⟨rfl,rfl,rfl,_,_,(Ao5 LF noY () 0 s).trans (QM s h0),rfl⟩
 ·trivial
theorem BY:B1 Tryz.prog GX 93 Jg:=xf [] (Qj LF) Kx rfl ⟨A84,At1,Bl5,As9,trivial⟩ rfl (by kernel_rfl) follows λargs=>by
 unfold Kx;split
 ·rename_i s;exact λh0=>⟨rfl,rfl,rfl,_,_,(QE LF noY () 0 s).trans (FU s h0),rfl⟩
 ·trivial
theorem Ad9:B1 Tryz.prog GX 101 Zh:=xf [] (Y0 LF) Ky rfl trivial rfl (by kernel_rfl) follows λargs=>by
 unfold Ky;split
 ·rename_i s;exact λh0=>⟨rfl,rfl,rfl,_,_,(RK LF noY () 0 s).trans (GG s h0),rfl⟩
 ·trivial
theorem MH:B1 Tryz.prog GX 53 Uy:=xf [1] (Cb LF) Pw rfl trivial rfl (by kernel_rfl) follows λargs=>by
 unfold Pw;split
 ·rename_i s c;exact λh0=>λh1=>(let ⟨rr,hH,ee,qq⟩:=LC s c h0 h1;⟨rfl,rfl,rfl,rr,hH,(Ac1 LF noY () 0 s c).trans ee,qq⟩)
 ·trivial
theorem Bh8:B1 Tryz.prog GX 145 Af4:=xf [] (Ee LF) DK rfl trivial rfl (by kernel_rfl) follows λargs=>by
 unfold DK;split
 ·rename_i b;exact λh0=>⟨rfl,rfl,rfl,_,_,(A45 LF noY () 0 b).trans (Aa6 b h0),rfl⟩
 ·trivial
theorem Bi0:B1 Tryz.prog GX 102 Af6:=xf [0,0] (K7 LF) DP rfl ⟨Bh8,trivial⟩ rfl (by kernel_rfl) follows λargs=>by
 unfold DP;split
 ·rename_i s;exact λh0=>⟨rfl,rfl,rfl,_,_,(A54 LF noY () 0 s).trans (Ab2 s h0),rfl⟩
 ·trivial
theorem Au4:B1 Tryz.prog GX 100 HQ:=xf [1] (Vn LF) Pu rfl ⟨MH,trivial⟩ rfl (by kernel_rfl) follows λargs=>by
 unfold Pu;split
 ·rename_i s;exact λh0=>⟨rfl,rfl,rfl,_,_,(Ab5 LF noY () 0 s).trans (KT s h0),rfl⟩
 ·trivial
theorem UA:B1 Tryz.prog GX 68 Uu:=xf [] (Ls LF) Hp rfl ⟨Au4,Ad9,Bi0,trivial⟩ rfl (by kernel_rfl) follows λargs=>by
 unfold Hp;split
 ·rename_i s;exact λh0=>⟨rfl,rfl,rfl,_,_,(KR LF noY () 0 s).trans (Zc s h0),rfl⟩
 ·trivial
theorem Ad8:B1 Tryz.prog GX 158 Pn:=by
 refine B1.fix (pf:=Kw) _ (N9 (C₀:=Ab LF) (K6.ok (l:=[(181,Ev),(182,NB),(108,Uz)]) rfl ⟨BX,Au6,UB,trivial⟩) (F7 rfl (by kernel_rfl)) follows ?_)
 intro args ret Hc h
 unfold Kw at h
 split at h
 ·rename_i s p v n
  obtain ⟨h0,h⟩:=C4 h
  obtain ⟨h1,h⟩:=C4 h
  obtain ⟨h2,h⟩:=C4 h
  obtain ⟨h3,h⟩:=C4 h
  obtain ⟨rfl,rfl⟩:=I2 h
  have e:=(AC LF noY () 0 s p v n).trans (Wi s p v n h0 h1 h2 h3)
  exact ⟨rfl,1,_,[],e,rfl,rfl⟩
 ·cases h
theorem Ae0:B1 Tryz.prog GX 117 Zi:=by
 refine B1.fix (pf:=Kz) _ (N9 (C₀:=Ql LF) (K6.ok (l:=[(158,Pn)]) rfl ⟨Ad8,trivial⟩) (F7 rfl (by kernel_rfl)) follows ?_)
 intro args ret Hc h
 unfold Kz at h
 split at h
 ·rename_i s p
  obtain ⟨h0,h⟩:=C4 h
  obtain ⟨h1,h⟩:=C4 h
  obtain ⟨rfl,rfl⟩:=I2 h
  have e:=(TP LF noY () 0 s p).trans (GU s p h0 h1)
  exact ⟨rfl,1,_,[],e,rfl,rfl⟩
 ·cases h
end
section
theorem ME:B1 Tryz.prog GX 184 Ho:=xf [] (Vm LF) Ps rfl trivial rfl (by kernel_rfl) follows λargs=>by
 unfold Ps;split
 ·rename_i n;exact ⟨rfl,rfl,rfl,_,_,(ZZ LF noY () 0 n).trans (KI n ),rfl⟩
 ·trivial
theorem MD:B1 Tryz.prog GX 186 Hn:=xf [] (Q3 LF) Pr rfl trivial rfl (by kernel_rfl) follows λargs=>by
 unfold Pr;split
 ·rename_i d c f;exact λh0=>λh1=>λh2=>⟨rfl,rfl,rfl,_,_,(ZQ LF noY () 0 d c f).trans (KF d c f h0 h1 h2),rfl⟩
 ·trivial
theorem Bh6:B1 Tryz.prog GX 195 MW:=xf [] (NX LF) DG rfl trivial rfl (by kernel_rfl) follows λargs=>by
 unfold DG;split
 ·rename_i d;exact λh0=>⟨rfl,rfl,rfl,_,_,(A35 LF noY () 0 d).trans (ZY d h0),rfl⟩
 ·trivial
theorem Bh7:B1 Tryz.prog GX 202 MZ:=xf [] (Ed LF) DJ rfl trivial rfl (by kernel_rfl) follows λargs=>by
 unfold DJ;split
 ·rename_i b;exact λh0=>⟨rfl,rfl,rfl,_,_,(A43 LF noY () 0 b).trans (Aa2 b h0),rfl⟩
 ·trivial
end
section
theorem Au2:B1 Tryz.prog GX 194 Uo:=by
 refine B1.fix (pf:=DI) _ (N9 (C₀:=NY LF) (K6.ok (l:=[]) rfl trivial) (F7 rfl (by kernel_rfl)) follows ?_)
 intro args ret Hc h
 unfold DI at h
 split at h
 ·rename_i b
  obtain ⟨rfl,rfl⟩:=I2 h
  have e:=(A38 LF noY () 0 b).trans (Aa0 b )
  exact ⟨rfl,1,_,[],e,rfl,rfl⟩
 ·cases h
theorem XE:Rw Tryz.prog GX 201 Jh:=by
 refine Bl (C₀:=ER LF) (K6.ok (l:=[]) rfl trivial) (F7 rfl (by kernel_rfl)) follows ?_
 intro args H ret Hc h
 unfold Jh at h
 split at h
 ·rename_i k b
  obtain ⟨h0,h⟩:=C4 h
  obtain ⟨h1,h⟩:=C4 h
  obtain ⟨rfl,rfl⟩:=I2 h
  refine ⟨rfl,rfl,λσ yh s=>?_⟩
  have e:=(Ap0 LF yh s 0 k b).trans (QZ k b h0 h1)
  exact ⟨1,_,e,rfl⟩
 ·cases h
theorem Bi3:Rw Tryz.prog GX 185 DD:=by
 refine Bl (C₀:=Qk LF) (Eu (lx:=[(194,Uo),(195,MW)]) (ly:=[(201,Jh)]) (ls:=[]) rfl rfl rfl ⟨Au2,Bh6,trivial⟩ ⟨XE,trivial⟩ trivial) (F7 rfl (by kernel_rfl)) follows ?_
 intro args H ret Hc h
 unfold DD at h
 split at h
 ·rename_i q b z l
  obtain ⟨h0,h⟩:=C4 h
  obtain ⟨h1,h⟩:=C4 h
  obtain ⟨h2,h⟩:=C4 h
  obtain ⟨rfl,rfl⟩:=I2 h
  obtain ⟨x0,x1,e0⟩:=ZS q b z l h0 h1 h2
  exact ⟨rfl,rfl,λσ yh s=>⟨1,_,(A28 LF yh s 0 q b z l).trans (e0 _ _),rfl⟩⟩
 ·cases h
theorem Au1:B1 Tryz.prog GX 161 MY:=by
 refine B1.fix (pf:=DH) _ (M7 [0,0] (C₀:=L3 LF) (Eu (lx:=[(184,Ho),(186,Hn)]) (ly:=[(185,DD)]) (ls:=[]) rfl rfl rfl ⟨ME,MD,trivial⟩ ⟨Bi3,trivial⟩ trivial) (F7 rfl (by kernel_rfl)) follows ?_)
 intro args ret Hc h
 unfold DH at h
 split at h
 ·rename_i p_z p_t p
  obtain ⟨h0,h⟩:=C4 h
  obtain ⟨rfl,rfl⟩:=I2 h
  obtain ⟨rr,hH,ee,qq⟩:=A37 p_z p_t p h0
  exact ⟨rfl,rfl,rfl,1,rr,hH,(A36 LF noY () 0 p_z p_t p).trans ee,qq⟩
 ·cases h
end
section
theorem Bi2:Rw Tryz.prog GX 198 CC:=by
 refine Bl (C₀:=Qi LF) (Eu (lx:=[(194,Uo),(202,MZ)]) (ly:=[(201,Jh)]) (ls:=[]) rfl rfl rfl ⟨Au2,Bh7,trivial⟩ ⟨XE,trivial⟩ trivial) (F7 rfl (by kernel_rfl)) follows ?_
 intro args H ret Hc h
 unfold CC at h
 split at h
 ·rename_i rest n i b st z l
  obtain ⟨h0,h⟩:=C4 h
  obtain ⟨h1,h⟩:=C4 h
  obtain ⟨h2,h⟩:=C4 h
  obtain ⟨rfl,rfl⟩:=I2 h
  obtain ⟨x0,e0⟩:=XW rest n i b st z l h0 h1 h2
  exact ⟨rfl,rfl,λσ yh s=>⟨1,_,(Ax3 LF yh s 0 rest n i b st z l).trans (e0 _ _),rfl⟩⟩
 ·cases h
theorem At3:B1 Tryz.prog GX 142 HP:=xf [] (Ca LF) Pp rfl trivial rfl (by kernel_rfl) follows λargs=>by
 unfold Pp;split
 ·rename_i s c;exact λh0=>λh1=>⟨rfl,rfl,rfl,_,_,(YK LF noY () 0 s c).trans (JI s c h0 h1),rfl⟩
 ·trivial
theorem XD:B1 Tryz.prog GX 97 Tk:=xf [] (EK LF) Ud rfl ⟨At3,trivial⟩ rfl (by kernel_rfl) follows λargs=>by
 unfold Ud;split
 ·rename_i s c;exact λh0=>λh1=>⟨rfl,rfl,rfl,_,_,(Al7 LF noY () 0 s c).trans (PG s c h0 h1),rfl⟩
 ·trivial
end
end
section
open Go Go.Proofs Go.Sort
set_option maxRecDepth 100000
theorem Yf {C:Cfg} {σ:Type} {I:σ->(Nat->Prop)->(Nat->Prop)->World->Prop} (hI:HI I) {Γ:Ctx} {Φ:Nat->Prop} {w w':World} {z v1:Bool} {E e1 s1:Nat} {l l' m:LL} {s:σ} (g cap:Nat) (Vs:List Value) (cur:Array Value)
  (hnf:Gc C E=false) (hH:HR Γ [.arr z E 1 l,.arr v1 e1 s1 m] w) (hi:I s Γ.St Φ w) (hd:∀ b g,Γ.nm b=some g->¬ Φ g)
  (hown:Γ.nm 0=some g\/g=w.heap.size) (hgl:g<w'.heap.size) (hoth:∀ k,k<w.heap.size->Γ.nm 0≠some k->w'.heap[k]? = w.heap[k]?) (hsz:w.heap.size<=w'.heap.size) (h1:w'.os=w.os) (h2:w'.tape=w.tape) (h3:w'.output=w.output)
  (hrow:w'.heap[g]? = some (.cells cur E (0,0))) (hE:Els Γ.St w' 1 l' Vs) (hl':l'≠[]) (hc:∀ q,q<Vs.length->cur[q]? = Vs[q]?) (hl:Vs.length<=cur.size) (hcap:l'.length<=cap) (hm:cap<=maxLen) (hcs:cur.size=cap) :
  Aa C I Γ [.arr z E 1 l,.arr v1 e1 s1 m] w Φ (.fl 0) [.arr z E 1 l',.arr v1 e1 s1 m] s (.slice (some ⟨g,0,none⟩) l'.length cap) w':=by
 have hblt:0<[Blk.arr z E 1 l,.arr v1 e1 s1 m].length:=by simp
 have hng:(Γ.re 0 (some g)).nm 0=some g:=by simp [Ctx.re]
 have hnf':¬ Ei C (A2 [Blk.arr z E 1 l,.arr v1 e1 s1 m] 0):=by simp [A2,Blk.shp,Ei,hnf]
 have hk:([Blk.arr z E 1 l,.arr v1 e1 s1 m].map (Blk.kill 0)).set 0 (.arr z E 1 l')=[.arr z E 1 l',.arr v1 e1 s1 m]:=rfl
 have hgS:¬ Γ.St g:=by
  rcases hown with h | h
  ·exact (hH.lt 0 g h).2.2
  ·intro hs
   have:=hH.stlt g hs
   omega
 obtain ⟨q1,q2,q3⟩:=GI (C:=C) (y:=.arr z E 1 l') (ng:=some g) (w':=w') hH hblt hnf' (λk hk=>by
   simp only [Option.some.injEq] at hk;subst hk
   refine ⟨hgl,hgS,λc hc hc2=>?_⟩
   rcases hown with h | h
   ·exact hc (hH.inj c 0 _ hc2 h)
   ·have:=(hH.lt c _ hc2).2.1
    omega)
  (λk hk=>by
   simp only [Option.some.injEq] at hk;subst hk
   rcases hown with h | h
   ·exact .inl h
   ·exact .inr (by omega)) hoth hsz h1 h2 h3
  (BR.els hng hrow hE (by rintro ⟨_,h⟩;exact hl' h) hc hl) rfl
 rw [hk] at q1 q2
 refine ⟨_,Φ,q1.lift Φ,q2,?_,λc hc=>?_,?_,λb g' hb=>?_⟩
 ·refine .fl 0 g z E 1 l'.length cap rfl (λ_ h=>hl' (List.length_eq_zero_iff.1 h)) hng hcap hm ?_
  simp only [World.shape?,hrow,hcs,Nat.mul_one]
 ·simp only [PV.nms,List.mem_singleton] at hc
  subst hc
  simp
 ·refine hI.mono s Γ.St Φ w Γ.St w' hi (λ_ h=>h) (λk hk hp=>(hI.foot _ _ _ _ hi k hp).2 hk) (λk hk=>Nat.lt_of_lt_of_le (hH.stlt k hk) hsz) (λk hk=>?_) hsz h1 h2 h3
  rcases hk with hk | hk
  ·exact hoth k (hH.stlt k hk) (λh=>(hH.lt 0 k h).2.2 hk)
  ·exact hoth k (hI.foot _ _ _ _ hi k hk).1 (λh=>hd 0 k h hk)
 ·simp only [Ctx.re] at hb
  split at hb
  ·simp only [Option.some.injEq] at hb
   subst hb
   rcases hown with h | h
   ·exact hd 0 _ h
   ·intro hp
    have:=(hI.foot _ _ _ _ hi _ hp).1
    omega
  ·exact hd b g' hb
theorem X3 {w:World} {g o e:Nat} {vs:List Value} {cur:Array Value} (hg:w.heap[g]? = some (.cells cur e (0,0))) (hle:o+vs.length<=cur.size) (h1:∀ v∈vs,v.oneCell'=true) :
  (w.setCells g o vs).heap[g]? = some (.cells (F1 cur.toList o vs).toArray e (0,0))/\(∀ k,k≠g->(w.setCells g o vs).heap[k]? = w.heap[k]?)/\(w.setCells g o vs).heap.size=w.heap.size/\(w.setCells g o vs).os=w.os/\(w.setCells g o vs).tape=w.tape/\(w.setCells g o vs).output=w.output:=by
 obtain ⟨w',r1,r2,r3,r4,r5,r6,r7,_⟩:=G6 (P:=Tryz.prog) (o:=o) hg hle h1
 have hcell:∀ j,j<vs.length->∃ v,w.cell? ⟨g,o+0+j,none⟩=some v:=λj hj=>by
  refine ⟨cur[o+j]'(by omega),?_⟩
  simp [World.cell?,hg,Array.getElem?_eq_getElem (show o+j<cur.size by omega)]
 have r:=run_storeCells_cells (P:=Tryz.prog) g o vs 0 w (λj hj=>by obtain ⟨v,h⟩:=hcell j hj;rw [h];rfl) (λj hj=>by simp [World.frozen?,hg]) h1
 rw [r] at r1
 simp only [Nat.add_zero,Result.ok.injEq,true_and] at r1
 rw [r1]
 exact ⟨r2,r3,r4,r5,r6,r7⟩
theorem Wm {St:Nat->Prop} {w:World} {l:LL} {cs:List Value} {i:Nat} {n:Int} (h:Els St w 1 l cs) (hi:i<=l.length):Els St w 1 (Gg l i n) (cs.take i++Value.int .i64 n::cs.drop i):=by
 have hlen:=h.1
 rw [Nat.mul_one] at hlen
 have h1:Els St w 1 (l.take i) (cs.take i):=by
  refine ⟨by rw [List.length_take,List.length_take,hlen,Nat.mul_one],λj hj=>?_⟩
  rw [List.length_take] at hj
  rw [List.getElem_take]
  obtain ⟨a,b⟩:=h.2 j (by omega)
  refine ⟨a,λk hk=>?_⟩
  obtain ⟨U,e,v⟩:=b k hk
  exact ⟨U,by rw [List.getElem?_take_of_lt (by omega)];exact e,v⟩
 have h2:Els St w 1 [[SV.int .i64 n]] [Value.int .i64 n]:=by
  refine ⟨rfl,λj hj=>?_⟩
  have:j=0:=by simpa using hj
  subst this
  refine ⟨rfl,λk hk=>?_⟩
  have:k=0:=by simpa using hk
  subst this
  exact ⟨_,rfl,.int _ _⟩
 have h3:Els St w 1 (l.drop i) (cs.drop i):=by
  refine ⟨by rw [List.length_drop,List.length_drop,hlen,Nat.mul_one],λj hj=>?_⟩
  rw [List.length_drop] at hj
  rw [List.getElem_drop]
  obtain ⟨a,b⟩:=h.2 (i+j) (by omega)
  refine ⟨a,λk hk=>?_⟩
  obtain ⟨U,e,v⟩:=b k hk
  exact ⟨U,by rw [List.getElem?_drop];rw [show i+(j*1+k)=(i+j)*1+k by omega];exact e,v⟩
 have:=(h1.append h2).append h3
 unfold Gg
 simpa using this
theorem Wn (l:LL) (i:Nat) (n:Int) (h:i<=l.length):(Gg l i n).length=l.length+1:=by
 unfold Gg
 rw [List.length_append,List.length_cons,List.length_take,List.length_drop]
 omega
theorem FL (l:LL) (i:Nat) (n:Int):Gg l i n≠[]:=by
 unfold Gg
 simp
theorem Bi4:Rw Tryz.prog GX 199 DY:=by
 intro C hP hG σ I yh yv hI hy args H s ret Hc hpf Γ Φ w Vs hyv hH hg hi hd hc hn
 unfold DY at hpf
 split at hpf
 ·rename_i i z l nn
  obtain ⟨h0,hpf⟩:=C4 hpf
  obtain ⟨h1,hpf⟩:=C4 hpf
  obtain ⟨rfl,rfl⟩:=I2 hpf
  obtain ⟨i0,i1⟩:=K9.1 h0
  obtain ⟨i,rfl⟩:=Int.eq_ofNat_of_zero_le i0
  have hl:=Nat.le_of_ble_eq_true h1
  have hil:i<=l.length:=by
   have:(i:Int)<((l.length+1:Nat):Int):=i1
   omega
  obtain ⟨S,X0,V,rfl,hs,hx,hv⟩:=hc.arr3
  obtain rfl:=hx.inv_int
  have hnf:Gc C 3=false:=by
   unfold Gc Cfg.sh
   rw [hP]
   kernel_rfl
  obtain ⟨g1,cur1,n1,n2,n3,n4,n5⟩:=hH.arr' (b:=1) rfl (by simp)
  have hvs:∃ cap,V = .slice (some ⟨g1,0,none⟩) 1 cap:=by
   cases hv with
   | flv _ e sz h=>simp [A2,Blk.shp] at h
   | fl _ g v e sz n cap h hv' hg' hcap hm hs'=>
    rw [n1] at hg'
    simp only [Option.some.injEq] at hg'
    subst hg'
    simp only [A2,List.getElem?_cons_succ,List.getElem?_cons_zero,Option.map_some,Blk.shp,Option.some.injEq,Shp.arr.injEq] at h
    obtain ⟨_,_,_,h4⟩:=h
    subst h4
    exact ⟨cap,rfl⟩
  obtain ⟨cap1,rfl⟩:=hvs
  obtain ⟨V1,p1,p2⟩:=n5 0 (by simp) 0 (by simp)
  have p3:V1 = .int .i64 nn:=by cases p2;rfl
  subst p3
  have hvcell:∀ j v,[Value.int .i64 nn][j]? = some v->w.cell? ⟨g1,0+j,none⟩=some v:=by
   intro j v hj
   have:j=0:=by
    have:=(List.getElem?_eq_some_iff.1 hj).1
    simpa using this
   subst this
   simp only [List.getElem?_cons_zero,Option.some.injEq] at hj
   subst hj
   simpa [World.cell?,n2] using p1
  have hv1:∀ v∈[Value.int .i64 nn],v.oneCell'=true:=by simp [Value.oneCell']
  rw [Int.toNat_natCast]
  refine Z9 (fn:=Tryz.f199) (by kernel_rfl) (by kernel_rfl) (by kernel_rfl) ?_
  have grownEnd:∀ (base:Option Addr) (c:Nat) (cs:List Value),l.length<=c->c<l.length+1->cs.length=l.length->(base=none->l.length=0)->(∀ a,base=some a->∀ j v,cs[j]? = some v->w.cell? (a.add j)=some v)->Els Γ.St w 1 l cs->
    Calls Tryz.prog 199 #[.slice base l.length c,.int .i64 (l.length:Int),.slice (some ⟨g1,0,none⟩) 1 cap1] w λe w'=>∃ V,e = .returned V/\Aa C I Γ [.arr z 3 1 l,.arr false 3 1 [[SV.int .i64 nn]]] w Φ (.fl 0) [.arr z 3 1 (Gg l l.length nn),.arr false 3 1 [[SV.int .i64 nn]]] s V w':=by
   intro base c cs a1 a2 a3 a4 a5 a6
   refine (Any2.slices_Insert_int_end_grow Tryz.lays2_21 base l.length c g1 0 1 cap1 cs [.int .i64 nn] w (by omega) a1 a2 (by omega) a3 rfl a4 a5 hvcell hv1).mono ?_
   rintro e w' ⟨rfl,rfl⟩
   refine ⟨_,rfl,?_⟩
   obtain ⟨hge,hle⟩:=Di (w:=w) (need:=l.length+1) (cap:=c) (e:=3) (by omega)
   have hE:=Wm (n:=nn) a6 (Nat.le_refl l.length)
   have hcsl:cs.take l.length++Value.int .i64 nn::cs.drop l.length=cs++[Value.int .i64 nn]:=by
    rw [List.take_of_length_le (by omega),List.drop_of_length_le (by omega)]
   rw [hcsl] at hE
   have hlen:=Wn l l.length nn (Nat.le_refl _)
   obtain ⟨r1,r2⟩:=Qy (olds:=cs) (Vs:=[Value.int .i64 nn]) (z:=(Value.int .i64 0).cells) (k:=grownCap w (l.length+1) c 3) (n:=l.length) (m:=1) (size:=1) rfl (by omega) rfl hge
   have hrowE:(cs.toArray++[Value.int .i64 nn].toArray)=(cs++[Value.int .i64 nn]).toArray:=by simp
   rw [hrowE] at r1 r2
   have key:∀ (row:Array Value) (kc:Nat),row.size=kc->(∀ q,q<(cs++[Value.int .i64 nn]).length->row[q]? = (cs++[Value.int .i64 nn])[q]?)->l.length+1<=kc->kc<=maxLen->
     Aa C I Γ [.arr z 3 1 l,.arr false 3 1 [[SV.int .i64 nn]]] w Φ (.fl 0) [.arr z 3 1 (Gg l l.length nn),.arr false 3 1 [[SV.int .i64 nn]]] s (.slice (some ⟨w.heap.size,0,none⟩) (l.length+1) kc) (w.drew.alloc (.cells row 3)):=by
    intro row kc b1 b2 b3 b4
    have hwh:(w.drew.alloc (.cells row 3)).heap=w.heap.push (.cells row 3):=rfl
    have:=Yf (C:=C) (w':=w.drew.alloc (.cells row 3)) (l':=Gg l l.length nn) hI w.heap.size kc (cs++[Value.int .i64 nn]) row hnf hH hi hd (.inr rfl) (by rw [hwh];simp) (λk hk _=>F3 hwh hk) (by rw [hwh];simp) rfl rfl rfl (F2 hwh) (hE.mono (λg hg=>F3 hwh (hH.stlt g hg)) (λ_ h=>h)) (FL _ _ _) b2 (by rw [b1,List.length_append,List.length_singleton];omega) (by rw [hlen];exact b3) b4 b1
    rw [hlen] at this
    exact this
   exact key _ _ (r1.trans (Nat.mul_one _)) r2 hge hle
  have two:∀ (row:Array Value) (cs:List Value),cs.length=l.length->i<l.length->l.length+1<=row.size->(∀ q,q<i->row[q]? = cs[q]?)->
    ∀ q,q<(cs.take i++Value.int .i64 nn::cs.drop i).length->(F1 (F1 row.toList i [Value.int .i64 nn]) (i+1) (cs.drop i)).toArray[q]? = (cs.take i++Value.int .i64 nn::cs.drop i)[q]?:=by
   intro row cs a1 a2 a3 a4 q hq
   have hq':q<l.length+1:=by
    rw [List.length_append,List.length_cons,List.length_take,List.length_drop] at hq
    omega
   have ht:(cs.take i).length=i:=by rw [List.length_take];omega
   have hrl:row.toList.length=row.size:=Array.length_toList
   simp only [List.getElem?_toArray]
   rw [J1 _ _ _ (by rw [B8,List.length_drop,hrl];omega),J1 _ _ _ (by rw [List.length_singleton,hrl];omega)]
   by_cases h1:q<i
   ·rw [G4,G4,List.getElem?_append_left (by omega),List.getElem?_take_of_lt h1]
    simpa using a4 q h1
   ·by_cases h2:q=i
    ·subst h2
     rw [G4,if_pos (by rw [List.length_singleton];omega),List.getElem?_append_right (by omega),ht,Nat.sub_self]
     rfl
    ·rw [if_pos (by rw [List.length_drop];omega),List.getElem?_append_right (by omega),ht,show q-i=(q-(i+1))+1 by omega,List.getElem?_cons_succ]
  have grownMid:∀ (g c:Nat) (cs:List Value),i<l.length->l.length<=c->c<l.length+1->cs.length=l.length->(∀ j v,cs[j]? = some v->w.cell? ⟨g,0+j,none⟩=some v)->(∀ v∈cs,v.oneCell'=true)->Els Γ.St w 1 l cs->
    Calls Tryz.prog 199 #[.slice (some ⟨g,0,none⟩) l.length c,.int .i64 (i:Int),.slice (some ⟨g1,0,none⟩) 1 cap1] w λe w'=>∃ V,e = .returned V/\Aa C I Γ [.arr z 3 1 l,.arr false 3 1 [[SV.int .i64 nn]]] w Φ (.fl 0) [.arr z 3 1 (Gg l i nn),.arr false 3 1 [[SV.int .i64 nn]]] s V w':=by
   intro g c cs hi' a1 a2 a3 a4 a5 a6
   refine (Any2.slices_Insert_int_grow Tryz.lays2_21 g 0 l.length c i g1 0 1 cap1 cs [.int .i64 nn] w hi' (by omega) a1 a2 (by omega) a3 rfl a4 hvcell a5 hv1).mono ?_
   rintro e w' ⟨rfl,rfl⟩
   refine ⟨_,rfl,?_⟩
   obtain ⟨hge,hle⟩:=Di (w:=w) (need:=l.length+1) (cap:=c) (e:=3) (by omega)
   have hE:=Wm (n:=nn) a6 hil
   have hlen:=Wn l i nn hil
   have key:∀ (row:Array Value) (kc:Nat),row.size=kc->(∀ q,q<i->row[q]? = cs[q]?)->l.length+1<=kc->kc<=maxLen->
     Aa C I Γ [.arr z 3 1 l,.arr false 3 1 [[SV.int .i64 nn]]] w Φ (.fl 0) [.arr z 3 1 (Gg l i nn),.arr false 3 1 [[SV.int .i64 nn]]] s (.slice (some ⟨w.heap.size,0,none⟩) (l.length+1) kc) (((w.alloc (.cells row 3)).drew.setCells w.heap.size i [Value.int .i64 nn]).drew.setCells w.heap.size (i+1) (cs.drop i)):=by
    intro row kc b1 b2 b3 b4
    have hwh:(w.alloc (.cells row 3)).drew.heap=w.heap.push (.cells row 3):=rfl
    obtain ⟨c1,c2,c3,c4,c5,c6⟩:=X3 (w:=(w.alloc (.cells row 3)).drew) (o:=i) (vs:=[Value.int .i64 nn]) (F2 hwh) (by rw [List.length_singleton];omega) hv1
    generalize hw1:(w.alloc (.cells row 3)).drew.setCells w.heap.size i [Value.int .i64 nn]=w1 at *
    have hs1:(F1 row.toList i [Value.int .i64 nn]).toArray.size=kc:=by rw [List.size_toArray,B8];simpa using b1
    obtain ⟨d1,d2,d3,d4,d5,d6⟩:=X3 (w:=w1.drew) (o:=i+1) (vs:=cs.drop i) c1 (by rw [hs1,List.length_drop];omega) (λv hv=>a5 v (List.mem_of_mem_drop hv))
    have hoth:∀ k,k<w.heap.size->(w1.drew.setCells w.heap.size (i+1) (cs.drop i)).heap[k]? = w.heap[k]?:=λk hk=>by
     rw [d2 k (by omega)]
     exact (c2 k (by omega)).trans (F3 hwh hk)
    have hsz:(w1.drew.setCells w.heap.size (i+1) (cs.drop i)).heap.size=w.heap.size+1:=by
     rw [d3]
     show w1.heap.size=_
     rw [c3,hwh]
     simp
    have:=Yf (C:=C) (w':=w1.drew.setCells w.heap.size (i+1) (cs.drop i)) (l':=Gg l i nn) hI w.heap.size kc (cs.take i++Value.int .i64 nn::cs.drop i) _ hnf hH hi hd (.inr rfl) (by rw [hsz];omega) (λk hk _=>hoth k hk) (by rw [hsz];omega) (d4.trans c4) (d5.trans c5) (d6.trans c6) d1 (hE.mono (λg hg=>hoth g (hH.stlt g hg)) (λ_ h=>h)) (FL _ _ _) (two row cs a3 hi' (by omega) b2) (by rw [List.size_toArray,B8,List.length_append,List.length_cons,List.length_take,List.length_drop];simp only [List.size_toArray,B8] at hs1 ⊢;omega) (by rw [hlen];exact b3) b4 (by rw [List.size_toArray,B8];simpa using hs1)
    rw [hlen] at this
    exact this
   have hz1:(Value.int .i64 0).cells.size=1:=rfl
   have ht:(cs.take i).length=i:=by rw [List.length_take];omega
   refine key _ _ ?_ (λq hq=>?_) hge hle
   ·simp only [Array.size_append,List.size_toArray,size_zeroCells,hz1,Nat.mul_one,ht]
    have:l.length+1<=grownCap w (l.length+1) c 3:=hge
    show i+(l.length+1-i)+(grownCap w (l.length+1) c 3-(l.length+1))=grownCap w (l.length+1) c 3
    omega
   ·rw [Array.getElem?_append_left (by simp only [Array.size_append,List.size_toArray,ht];omega),Array.getElem?_append_left (by simp only [List.size_toArray,ht];omega),List.getElem?_toArray,List.getElem?_take_of_lt hq]
  have two':∀ (row:Array Value) (cs:List Value),cs.length=l.length->i<l.length->l.length+1<=row.size->(∀ q,q<i->row[q]? = cs[q]?)->
    ∀ q,q<(cs.take i++Value.int .i64 nn::cs.drop i).length->(F1 (F1 row.toList (i+1) (cs.drop i)) i [Value.int .i64 nn]).toArray[q]? = (cs.take i++Value.int .i64 nn::cs.drop i)[q]?:=by
   intro row cs a1 a2 a3 a4 q hq
   have hq':q<l.length+1:=by
    rw [List.length_append,List.length_cons,List.length_take,List.length_drop] at hq
    omega
   have ht:(cs.take i).length=i:=by rw [List.length_take];omega
   have hrl:row.toList.length=row.size:=Array.length_toList
   simp only [List.getElem?_toArray]
   rw [J1 _ _ _ (by rw [B8,List.length_singleton,hrl];omega),J1 _ _ _ (by rw [List.length_drop,hrl];omega)]
   by_cases h1:q<i
   ·rw [G4,G4,List.getElem?_append_left (by omega),List.getElem?_take_of_lt h1]
    simpa using a4 q h1
   ·by_cases h2:q=i
    ·subst h2
     rw [if_pos (by rw [List.length_singleton];omega),List.getElem?_append_right (by omega),ht,Nat.sub_self]
     rfl
    ·rw [if_neg (by rw [List.length_singleton];omega),if_pos (by rw [List.length_drop];omega),List.getElem?_append_right (by omega),ht,show q-i=(q-(i+1))+1 by omega,List.getElem?_cons_succ]
  cases hs with
  | flv _ e2 sz2 h'=>
   simp only [A2,List.getElem?_cons_zero,Option.map_some,Blk.shp,Option.some.injEq,Shp.arr.injEq] at h'
   obtain ⟨q1,q2,q3,h4⟩:=h'
   obtain rfl:=List.length_eq_zero_iff.1 h4
   obtain rfl:i=0:=by simpa using hil
   exact grownEnd none 0 [] (by simp) (by simp) rfl (λ_=>rfl) (λa h=>by cases h) ⟨rfl,λj hj=>by simp at hj⟩
  | fl _ g z' e2 sz2 n' cap h' hv' hg' hcap hm hs'=>
   simp only [A2,List.getElem?_cons_zero,Option.map_some,Blk.shp,Option.some.injEq,Shp.arr.injEq] at h'
   obtain ⟨rfl,rfl,rfl,rfl⟩:=h'
   have hne:¬ (z=true/\l=[]):=by rintro ⟨q1,q2⟩;exact hv' q1 (by rw [q2];rfl)
   obtain ⟨g',cur,hg2,hh,hsize,hlens,hels⟩:=hH.arr' (b:=0) rfl hne
   obtain rfl:g=g':=by
    rw [hg'] at hg2
    exact Option.some.inj hg2
   have hcs:cur.size=cap:=by
    have:=hs'
    simp only [World.shape?,hh,Option.some.injEq,Prod.mk.injEq,true_and,Nat.mul_one] at this
    exact this
   rw [Nat.mul_one] at hsize
   have hO:Els Γ.St w 1 l (cur.toList.take l.length):=by
    refine ⟨by rw [List.length_take,Array.length_toList (xs:=cur)];omega,λj hj=>⟨hlens j hj,λk hk=>?_⟩⟩
    obtain ⟨U,e1,u⟩:=hels j hj k hk
    refine ⟨U,?_,u⟩
    have hk':k<1:=by rw [<-hlens j hj];exact hk
    rw [List.getElem?_take,Ar]
    simpa using e1
   have hol:(cur.toList.take l.length).length=l.length:=by rw [List.length_take,Array.length_toList (xs:=cur)];omega
   have hcell:∀ j v,(cur.toList.take l.length)[j]? = some v->w.cell? ⟨g,0+j,none⟩=some v:=by
    intro j v hj
    have hj':j<l.length:=by
     have:=(List.getElem?_eq_some_iff.1 hj).1
     omega
    rw [List.getElem?_take,if_pos hj'] at hj
    simpa [World.cell?,hh] using hj
   have h1c:∀ v∈cur.toList.take l.length,v.oneCell'=true:=by
    intro v hv
    obtain ⟨j,hj,rfl⟩:=List.getElem_of_mem hv
    have hj':j<l.length:=by omega
    obtain ⟨_,u⟩:=hO.2 j hj'
    obtain ⟨U,e1,u2⟩:=u 0 (by rw [hlens j hj'];exact Nat.one_pos)
    rw [Nat.mul_one,Nat.add_zero,List.getElem?_eq_getElem hj] at e1
    cases e1
    exact u2.oneCell
   have hlen:=Wn l i nn hil
   have hE:=Wm (n:=nn) hO hil
   have hsome:∀ j,j<cap->(w.cell? ⟨g,j,none⟩).isSome=true:=by
    intro j hj
    simp only [World.cell?,hh]
    rw [Array.getElem?_eq_getElem (by omega)]
    rfl
   have hfrz:∀ j,w.frozen? ⟨g,j,none⟩=false:=λj=>by simp [World.frozen?,hh]
   have hng1:g1≠g:=λe=>by
    have:=hH.inj 1 0 g (by rw [<-e];exact n1) hg'
    omega
   have hmx:cap<=9223372036854775807:=by
    simp only [maxLen] at hm
    omega
   by_cases hroom:l.length+1<=cap
   ·have key:∀ (w':World) (row:List Value),w'.heap[g]? = some (.cells row.toArray 3 (0,0))->(∀ k,k≠g->w'.heap[k]? = w.heap[k]?)->w'.heap.size=w.heap.size->w'.os=w.os->w'.tape=w.tape->w'.output=w.output->row.length=cap->
      (∀ q,q<((cur.toList.take l.length).take i++Value.int .i64 nn::(cur.toList.take l.length).drop i).length->row.toArray[q]? = ((cur.toList.take l.length).take i++Value.int .i64 nn::(cur.toList.take l.length).drop i)[q]?)->
      Aa C I Γ [.arr z 3 1 l,.arr false 3 1 [[SV.int .i64 nn]]] w Φ (.fl 0) [.arr z 3 1 (Gg l i nn),.arr false 3 1 [[SV.int .i64 nn]]] s (.slice (some ⟨g,0,none⟩) (l.length+1) cap) w':=by
     intro w' row k1 k2 k3 k4 k5 k6 k7 k8
     have hgS:¬ Γ.St g:=(hH.lt 0 g hg').2.2
     have:=Yf (C:=C) (w':=w') (l':=Gg l i nn) hI g cap ((cur.toList.take l.length).take i++Value.int .i64 nn::(cur.toList.take l.length).drop i) row.toArray hnf hH hi hd (.inl hg') (by rw [k3];exact (hH.lt 0 g hg').2.1) (λk hk hk2=>k2 k (λe=>hk2 (e ▸ hg'))) (by omega) k4 k5 k6 k1
      (hE.mono (λk hk=>k2 k (λe=>hgS (e ▸ hk))) (λ_ h=>h)) (FL _ _ _) k8
      (by rw [List.size_toArray,k7,List.length_append,List.length_cons,List.length_take,List.length_drop,hol];omega) (by rw [hlen];exact hroom) hm (by rw [List.size_toArray,k7])
     rw [hlen] at this
     exact this
    by_cases hie:i=l.length
    ·subst hie
     refine (Any2.slices_Insert_int_end_room Tryz.lays2_21 g 0 l.length cap g1 0 1 cap1 [.int .i64 nn] w (by omega) hroom hmx rfl (λj hj=>hsome _ (by omega)) (λj hj=>hfrz _) hvcell hv1).mono ?_
     rintro e w' ⟨rfl,rfl⟩
     refine ⟨_,rfl,?_⟩
     obtain ⟨c1,c2,c3,c4,c5,c6⟩:=X3 (w:=w) (o:=0+l.length) (vs:=[Value.int .i64 nn]) hh (by rw [List.length_singleton];omega) hv1
     refine key _ _ c1 c2 c3 c4 c5 c6 (by rw [B8];simpa using hcs) (λq hq=>?_)
     rw [List.take_of_length_le (by omega),List.drop_of_length_le (by omega)] at hq ⊢
     rw [List.length_append,hol,List.length_singleton] at hq
     simp only [List.getElem?_toArray]
     rw [J1 _ _ _ (by rw [List.length_singleton,Array.length_toList (xs:=cur)];omega)]
     by_cases hq2:q<l.length
     ·rw [G4,List.getElem?_append_left (by omega),List.getElem?_take,if_pos hq2]
     ·obtain rfl:q=l.length:=by omega
      rw [if_pos (by rw [List.length_singleton];omega),List.getElem?_append_right (by omega),hol]
      simp
    ·have hi':i<l.length:=by omega
     refine (Any2.slices_Insert_int_shift Tryz.lays2_21 g 0 l.length cap i g1 0 1 cap1 (cur.toList.take l.length) [.int .i64 nn] w hi' (by omega) hroom hmx hng1 hol rfl hcell (λj hj=>hsome _ (by omega)) (λj hj=>hfrz _) hvcell h1c hv1 3 3 cur1.size cur.size (by simp [World.shape?,n2]) (by simp [World.shape?,hh]) (by omega) (by simp [World.frozen?,n2]) (by simp [World.frozen?,n2])).mono ?_
     rintro e w' ⟨rfl,rfl⟩
     refine ⟨_,rfl,?_⟩
     obtain ⟨c1,c2,c3,c4,c5,c6⟩:=X3 (w:=w.drew) (o:=0+(i+1)) (vs:=(cur.toList.take l.length).drop i) hh (by rw [List.length_drop,hol];omega) (λv hv=>h1c v (List.mem_of_mem_drop hv))
     generalize hw1:w.drew.setCells g (0+(i+1)) ((cur.toList.take l.length).drop i)=w1 at *
     have hs1:(F1 cur.toList (0+(i+1)) ((cur.toList.take l.length).drop i)).toArray.size=cap:=by rw [List.size_toArray,B8];simpa using hcs
     obtain ⟨d1,d2,d3,d4,d5,d6⟩:=X3 (w:=w1) (o:=0+i) (vs:=[Value.int .i64 nn]) c1 (by rw [hs1,List.length_singleton];omega) hv1
     refine key _ _ d1 (λk hk=>(d2 k hk).trans (c2 k hk)) (d3.trans c3) (d4.trans c4) (d5.trans c5) (d6.trans c6) (by rw [B8];simpa using hs1) ?_
     rw [Nat.zero_add,Nat.zero_add]
     exact two' cur _ hol hi' (by omega) (λq hq=>by rw [List.getElem?_take,Ar];simp)
   ·by_cases hie:i=l.length
    ·subst hie
     exact grownEnd (some ⟨g,0,none⟩) cap (cur.toList.take l.length) hcap (by omega) hol (λh=>by cases h) (λa h j v hj=>by
      obtain rfl:=Option.some.inj h
      rw [H6]
      exact hcell j v hj) hO
    ·exact grownMid g cap _ (by omega) hcap (by omega) hol hcell h1c hO
 ·cases hpf
end
section
open Go Go.Proofs
set_option maxRecDepth 100000
section
theorem A92:Rw Tryz.prog GX 189 Tj:=by
 refine Bl (C₀:=EJ LF) (Eu (lx:=[(186,Hn),(184,Ho)]) (ly:=[(198,CC),(199,DY)]) (ls:=[]) rfl rfl rfl ⟨MD,ME,trivial⟩ ⟨Bi2,Bi4,trivial⟩ trivial) (F7 rfl (by kernel_rfl)) follows ?_
 intro args H ret Hc h
 unfold Tj at h
 split at h
 ·rename_i rest n i b st z l
  obtain ⟨h0,h⟩:=C4 h
  obtain ⟨h1,h⟩:=C4 h
  obtain ⟨h2,h⟩:=C4 h
  obtain ⟨h3,h⟩:=C4 h
  obtain ⟨h4,h⟩:=C4 h
  obtain ⟨rfl,rfl⟩:=I2 h
  refine ⟨rfl,rfl,λσ yh s=>?_⟩
  have e:=(Aj3 LF yh s 0 rest n i b st z l).trans (ON rest n i b st z l h0 h1 h2 h3 h4)
  exact ⟨1,_,e,rfl⟩
 ·cases h
theorem Bh5:B1 Tryz.prog GX 170 Af3:=by
 refine B1.fix (pf:=DF) _ (M7 [1,0] (C₀:=S8 LF) (Eu (lx:=[(97,Tk)]) (ly:=[(189,Tj)]) (ls:=[]) rfl rfl rfl ⟨XD,trivial⟩ ⟨A92,trivial⟩ trivial) (F7 rfl (by kernel_rfl)) follows ?_)
 intro args ret Hc h
 unfold DF at h
 split at h
 ·rename_i s
  obtain ⟨h0,h⟩:=C4 h
  obtain ⟨rfl,rfl⟩:=I2 h
  obtain ⟨rr,hH,ee,qq⟩:=A33 s h0
  exact ⟨rfl,rfl,rfl,1,rr,hH,(A32 LF noY () 0 s).trans ee,qq⟩
 ·cases h
end
end
section
open Go Go.Proofs Go.Sort
set_option maxRecDepth 100000
theorem Av1:B1 Tryz.prog GX 159 HU:=by
 refine B1.fix (pf:=Pz) _ (N4 (fn:=Tryz.f159) (by kernel_rfl) (by kernel_rfl) (by kernel_rfl) ?_)
 intro args ret Hc h
 unfold Pz at h
 split at h
 ·rename_i s
  obtain ⟨h0,h⟩:=C4 h
  obtain ⟨rfl,rfl⟩:=I2 h
  refine ⟨rfl,rfl,λC hP hCG Γ w Vs hG hlt hc=>?_⟩
  obtain ⟨U,rfl,hu⟩:=hc.arr1
  obtain ⟨s',rfl,rfl⟩:=hu.inv_str
  have hs:=L8 h0
  refine (Any.utf8_ValidString Tryz.lays196 s' w (by simp at hs;omega) (Ay1 hG hCG)).mono ?_
  rintro e w' ⟨rfl,hb⟩
  rw [<-TW]
  exact ⟨_,rfl,hb,VP.mk_bool _⟩
 ·cases h
theorem Av0:B1 Tryz.prog GX 160 HT:=by
 refine B1.fix (pf:=Py) _ (N4 (fn:=Tryz.f160) (by kernel_rfl) (by kernel_rfl) (by kernel_rfl) ?_)
 intro args ret Hc h
 unfold Py at h
 split at h
 ·rename_i s
  obtain ⟨h0,h⟩:=C4 h
  obtain ⟨rfl,rfl⟩:=I2 h
  refine ⟨rfl,rfl,λC hP hCG Γ w Vs hG hlt hc=>?_⟩
  obtain ⟨U,rfl,hu⟩:=hc.arr1
  obtain ⟨s',rfl,rfl⟩:=hu.inv_str
  have hs:=L8 h0
  refine (Any.utf8_RuneCountInString Tryz.lays195 s' w (by simp at hs;omega)).mono ?_
  rintro e w' ⟨rfl,pos,rfl⟩
  rw [Lib.runeCountL_eq]
  exact ⟨_,rfl,NI _ _ _,VP.mk_int _ _⟩
 ·cases h
theorem A75:B1 Tryz.prog GX 107 Mh:=λargs ret Hc h=>by
 have:I5 (Mh args)=none:=by unfold Mh HN;split<;>rfl
 rw [this] at h;cases h
theorem XF:HM Tryz.prog GX 106 Mi:=by
 refine Sz (C₀:=T6 LF) ((K6.ok (l:=[(107,Mh),(108,Uz)]) rfl ⟨A75,UB,trivial⟩)) (F7 rfl (by kernel_rfl)) follows ?_
 intro args H L h σ yh s s' hr
 unfold Mi at h
 split at h
 ·rename_i p t n
  simp only [Option.some.injEq,Prod.mk.injEq] at h
  obtain ⟨h1,rfl⟩:=h
  obtain ⟨t',f⟩:=TO (R:=PV × List Blk × σ) yh p t n s s' h1 hr
  exact ⟨1,_,(Ar3 LF yh 0 p t n s).trans (f _)⟩
 ·cases h
end
section
open Go Go.Proofs
set_option maxRecDepth 100000
section
theorem A81:B1 Tryz.prog GX 131 UL:=xf [] (Fy LF) Uk rfl ⟨Bh5,Au1,trivial⟩ rfl (by kernel_rfl) follows λargs=>by
 unfold Uk;split
 ·rename_i s;exact λh0=>⟨rfl,rfl,rfl,_,_,(An1 LF noY () 0 s).trans (PU s h0),rfl⟩
 ·trivial
theorem Au0:B1 Tryz.prog GX 94 CY:=xf [] (Lp LF) CZ rfl ⟨Bg2,A81,trivial⟩ rfl (by kernel_rfl) follows λargs=>by
 unfold CZ;split
 ·rename_i s;exact λh0=>⟨rfl,rfl,rfl,_,_,(A17 LF noY () 0 s).trans (ZL s h0),rfl⟩
 ·trivial
theorem Bg6:B1 Tryz.prog GX 118 Ae6:=xf [0,0] (Hv LF) CJ rfl ⟨Av1,Av0,At8,Au1,Au0,trivial⟩ rfl (by kernel_rfl) follows λargs=>by
 unfold CJ;split
 ·rename_i s;exact λh0=>(let ⟨rr,hH,ee,qq⟩:=Az5 s h0;⟨rfl,rfl,rfl,rr,hH,(Az4 LF noY () 0 s).trans ee,qq⟩)
 ·trivial
theorem Bg4:B1 Tryz.prog GX 156 Ae5:=xf [] (Ec LF) CE rfl trivial rfl (by kernel_rfl) follows λargs=>by
 unfold CE;split
 ·rename_i b;exact λh0=>⟨rfl,rfl,rfl,_,_,(Ay5 LF noY () 0 b).trans (YC b h0),rfl⟩
 ·trivial
theorem Bg3:B1 Tryz.prog GX 114 Ae4:=xf [0,0] (Lj LF) CD rfl ⟨Bg4,trivial⟩ rfl (by kernel_rfl) follows λargs=>by
 unfold CD;split
 ·rename_i s;exact λh0=>(let ⟨rr,hH,ee,qq⟩:=Ay3 s h0;⟨rfl,rfl,rfl,rr,hH,(Ay2 LF noY () 0 s).trans ee,qq⟩)
 ·trivial
theorem A82:B1 Tryz.prog GX 81 CW:=by
 refine B1.fix (pf:=Ul) _ (N9 (C₀:=EO LF) (K6.ok (l:=[]) rfl trivial) (F7 rfl (by kernel_rfl)) follows ?_)
 intro args ret Hc h
 unfold Ul at h
 split at h
 ·rename_i t p n
  obtain ⟨rfl,rfl⟩:=I2 h
  have e:=(An4 LF noY () 0 t p n).trans (PX t p n )
  exact ⟨rfl,1,_,[],e,rfl,rfl⟩
 ·cases h
theorem Au8:B1 Tryz.prog GX 49 DZ:=by
 refine B1.fix (pf:=EA) _ (N9 (C₀:=OA LF) (K6.ok (l:=[(81,CW)]) rfl ⟨A82,trivial⟩) (F7 rfl (by kernel_rfl)) follows ?_)
 intro args ret Hc h
 unfold EA at h
 split at h
 ·rename_i t p
  obtain ⟨rfl,rfl⟩:=I2 h
  have e:=(A62 LF noY () 0 t p).trans (Ac7 t p )
  exact ⟨rfl,1,_,[],e,rfl,rfl⟩
 ·cases h
theorem Ba9:B1 Tryz.prog GX 59 UF:=by
 refine B1.fix (pf:=MN) _ (M7 [] (C₀:=Hu LF) (Eu (lx:=[(93,Jg),(49,DZ),(94,CY)]) (ly:=[]) (ls:=[(106,Mi)]) rfl rfl rfl ⟨BY,Au8,Au0,trivial⟩ trivial ⟨XF,trivial⟩) (F7 rfl (by kernel_rfl)) follows ?_)
 intro args ret Hc h
 unfold MN at h
 split at h
 ·rename_i s
  obtain ⟨h0,h⟩:=C4 h
  obtain ⟨rfl,rfl⟩:=I2 h
  obtain ⟨rr,hH,ee,qq⟩:=Bd5 s h0
  exact ⟨rfl,rfl,rfl,1,rr,hH,(Bd4 LF noY () 0 s).trans ee,qq⟩
 ·cases h
theorem TZ:B1 Tryz.prog GX 41 Po:=by
 refine B1.fix (pf:=CH) _ (N9 (C₀:=NP LF) (K6.ok (l:=[]) rfl trivial) (F7 rfl (by kernel_rfl)) follows ?_)
 intro args ret Hc h
 unfold CH at h
 split at h
 ·rename_i t
  obtain ⟨rfl,rfl⟩:=I2 h
  have e:=(Ay9 LF noY () 0 t).trans (YG t )
  exact ⟨rfl,1,_,[],e,rfl,rfl⟩
 ·cases h
end
section
theorem Bh3:B1 Tryz.prog GX 143 Af1:=xf [] (NW LF) DB rfl trivial rfl (by kernel_rfl) follows λargs=>by
 unfold DB;split
 ·rename_i s;exact ⟨rfl,rfl,rfl,_,_,(A21 LF noY () 0 s).trans (ZN s ),rfl⟩
 ·trivial
theorem Bh2:B1 Tryz.prog GX 144 Af0:=xf [] (NV LF) DA rfl trivial rfl (by kernel_rfl) follows λargs=>by
 unfold DA;split
 ·rename_i n;exact ⟨rfl,rfl,rfl,_,_,(A19 LF noY () 0 n).trans (ZM n ),rfl⟩
 ·trivial
theorem Bl1:B1 Tryz.prog GX 98 A95:=xf [] (Ah7 LF) MJ rfl ⟨Bh3,trivial⟩ rfl (by kernel_rfl) follows λargs=>by
 unfold MJ;split
 ·rename_i s p;exact ⟨rfl,rfl,rfl,_,_,(Bc4 LF noY () 0 s p).trans (Ai2 s p ),rfl⟩
 ·trivial
theorem Bl0:B1 Tryz.prog GX 99 A94:=xf [] (Ah6 LF) MI rfl ⟨Bh2,trivial⟩ rfl (by kernel_rfl) follows λargs=>by
 unfold MI;split
 ·rename_i n m;exact ⟨rfl,rfl,rfl,_,_,(Bc3 LF noY () 0 n m).trans (Ai1 n m ),rfl⟩
 ·trivial
theorem Bh4:B1 Tryz.prog GX 63 Af2:=xf [] (Lq LF) DE rfl ⟨XD,Bl1,Bl0,trivial⟩ rfl (by kernel_rfl) follows λargs=>by
 unfold DE;split
 ·rename_i s p;exact λh0=>λh1=>⟨rfl,rfl,rfl,_,_,(A30 LF noY () 0 s p).trans (ZU s p h0 h1),rfl⟩
 ·trivial
theorem Bh0:B1 Tryz.prog GX 58 Ae8:=xf [] (NS LF) CT rfl ⟨Ba9,trivial⟩ rfl (by kernel_rfl) follows λargs=>by
 unfold CT;split
 ·rename_i h b;exact λh0=>(let ⟨rr,hH,ee,qq⟩:=A07 h b h0;⟨rfl,rfl,rfl,rr,hH,(A06 LF noY () 0 h b).trans ee,qq⟩)
 ·trivial
theorem Bl4:B1 Tryz.prog GX 66 A98:=xf [] (Ah8 LF) MR rfl ⟨Bh4,trivial⟩ rfl (by kernel_rfl) follows λargs=>by
 unfold MR;split
 ·rename_i h b s;exact λh0=>λh1=>(let ⟨rr,hH,ee,qq⟩:=Be1 h b s h0 h1;⟨rfl,rfl,rfl,rr,hH,(Be0 LF noY () 0 h b s).trans ee,qq⟩)
 ·trivial
theorem Bg8:B1 Tryz.prog GX 92 Ae7:=xf [] (Lm LF) CQ rfl ⟨Bh0,trivial⟩ rfl (by kernel_rfl) follows λargs=>by
 unfold CQ;split
 ·rename_i l_z l_t l;exact λh0=>λh1=>λh2=>⟨rfl,rfl,rfl,_,_,(A04 LF noY () 0 l_z l_t l).trans (YW l_z l_t l h0 h1 h2),rfl⟩
 ·trivial
theorem At6:B1 Tryz.prog GX 57 CO:=xf [] (NR LF) CP rfl ⟨Bg8,trivial⟩ rfl (by kernel_rfl) follows λargs=>by
 unfold CP;split
 ·rename_i l_z l_t l;exact λh0=>λh1=>λh2=>⟨rfl,rfl,rfl,_,_,(A01 LF noY () 0 l_z l_t l).trans (YS l_z l_t l h0 h1 h2),rfl⟩
 ·trivial
theorem At5:B1 Tryz.prog GX 60 CM:=by
 refine B1.fix (pf:=CN) _ (N9 (C₀:=NQ LF) (K6.ok (l:=[]) rfl trivial) (F7 rfl (by kernel_rfl)) follows ?_)
 intro args ret Hc h
 unfold CN at h
 split at h
 ·rename_i l_z l_t l
  obtain ⟨h0,h⟩:=C4 h
  obtain ⟨h1,h⟩:=C4 h
  obtain ⟨rfl,rfl⟩:=I2 h
  have e:=(Az9 LF noY () 0 l_z l_t l).trans (YR l_z l_t l h0 h1)
  exact ⟨rfl,1,_,[],e,rfl,rfl⟩
 ·cases h
theorem At4:B1 Tryz.prog GX 65 MP:=xf [0,0] (Ll LF) CL rfl ⟨Bl4,trivial⟩ rfl (by kernel_rfl) follows λargs=>by
 unfold CL;split
 ·rename_i l_z l_t l q;exact λh0=>λh1=>λh2=>λh3=>⟨rfl,rfl,rfl,_,_,(Az7 LF noY () 0 l_z l_t l q).trans (YP l_z l_t l q h0 h1 h2 h3),rfl⟩
 ·trivial
end
end
section
open Go
theorem Sd {x:List By} (h:x≠[]):Qo [] x = -1/\Qo x []=1:=by
 cases x with
 | nil=>exact absurd rfl h
 | cons a r=>exact ⟨rfl,rfl⟩
theorem Nn (s:By):(G0 46 s = -1/\s.drop (G0 46 s+1).toNat=s/\rl s=[s])\/(0<=G0 46 s/\G0 46 s<s.length/\rl s=s.drop (G0 46 s+1).toNat::rl (s.take (G0 46 s).toNat)):=by
 rcases Y7 s with ⟨h1,h2⟩ | ⟨p,q,rfl,h1,h2⟩
 ·exact .inl ⟨h2,by rw [h2];rfl,Xx h1⟩
 ·refine .inr ⟨by omega,by rw [h2];simp;omega,?_⟩
  rw [h2,Xy p h1,show ((p.length:Int)+1).toNat=p.length+1 by omega,Int.toNat_natCast,List.take_left]
  congr 1
  simp
theorem Ai4 (a b:By) (i k:Int) (hi:i=G0 46 a) (hk:k=G0 46 b) :
  (T2 (a.drop (i+1).toNat) (b.drop (k+1).toNat)≠0->Q1 a b=T2 (a.drop (i+1).toNat) (b.drop (k+1).toNat))/\
  (T2 (a.drop (i+1).toNat) (b.drop (k+1).toNat)=0->(i<0\/k<0)->Q1 a b=EX (min i 0) (min k 0))/\
  (T2 (a.drop (i+1).toNat) (b.drop (k+1).toNat)=0->0<=i->0<=k->Q1 a b=Q1 (a.take i.toNat) (b.take k.toNat)):=by
 have hcmp:∀ x y:By,Q1 x y=Qo (rl x) (rl y):=λx y=>rfl
 rw [hcmp,hcmp]
 rcases Nn a with ⟨a1,a2,a3⟩ | ⟨a1,a2,a3⟩<;>rcases Nn b with ⟨b1,b2,b3⟩ | ⟨b1,b2,b3⟩<;>rw [<-hi] at a1 a2<;>rw [<-hk] at b1 b2
 ·rw [a2,b2,a3,b3]
  refine ⟨λh=>M0 h,λh _=>?_,λ_ h=>by omega⟩
  rw [U7 h,L9,a1,b1]
  rfl
 ·rw [<-hk] at b3
  rw [a2,a3,b3]
  refine ⟨λh=>M0 h,λh _=>?_,λ_ h=>by omega⟩
  rw [U7 h,L9,(Sd (WS _)).1,a1,Int.min_eq_right b1]
  rfl
 ·rw [<-hi] at a3
  rw [b2,b3,a3]
  refine ⟨λh=>M0 h,λh _=>?_,λ_ _ h=>by omega⟩
  rw [U7 h,L9,(Sd (WS _)).2,b1,Int.min_eq_right a1]
  rfl
 ·rw [<-hi] at a3
  rw [<-hk] at b3
  rw [a3,b3]
  refine ⟨λh=>M0 h,λh hn=>by omega,λh _ _=>?_⟩
  rw [U7 h,L9]
end
section
open Go Go.Proofs Go.RowKit
set_option maxRecDepth 100000
theorem Bf8 (x:ByteArray) (w:World):Calls Tryz.prog 143 #[.string x] w λe w'=>e = .returned (.bool false)/\w'=w:=by
 go_enter Tryz.func143,Tryz.ntmps143
 go_wp2
 go_ret
 exact ⟨by simp,rfl⟩
theorem Bf7 (x:Int) (w:World):Calls Tryz.prog 144 #[.int .i64 x] w λe w'=>e = .returned (.bool false)/\w'=w:=by
 go_enter Tryz.func144,Tryz.ntmps144
 go_wp2
 go_ret
 exact ⟨by simp,rfl⟩
theorem Aw4 (x y:Int):EX x y=if x<y then -1 else if y<x then 1 else 0:=by
 unfold EX
 rw [Ap,Ap]
 by_cases h:x<y<;>by_cases g:y<x<;>simp [h,g]
theorem Bk7 (x y:Int) (w:World):Calls Tryz.prog 99 #[.int .i64 x,.int .i64 y] w λe w'=>e = .returned (.int .i64 (EX x y))/\w'=w:=by
 have e7:∀ args w,(callFunc 144 args).run Tryz.prog w = .ok (.enter 144 args) w:=enters_of Tryz.func144 (by kernel_rfl) rfl
 go_enter Tryz.func99,Tryz.ntmps99
 go_wp2_with (go_at_fn 144;refine (Bf7 _ _).mono ?_;rintro e w' ⟨rfl,hw⟩;rw [hw])
 all_goals (go_ret;refine ⟨?_,rfl⟩;rw [Aw4];(repeat' split)<;>first | rfl | (exfalso;omega))
theorem Aw3 (x y:ByteArray):T2 x.data.toList y.data.toList=if Op.bytesLess x.toList y.toList=true then -1 else if (!x.toList==y.toList)=true then 1 else 0:=by
 rw [ByteArray.toList_eq,ByteArray.toList_eq,<-Mn]
 generalize x.data.toList=a
 generalize y.data.toList=b
 unfold T2
 cases h:bytesLess a b with
 | true=>rfl
 | false=>
  have e:(!a==b)=bytesLess b a:=by
   rw [R5] at h ⊢
   have h:=of_decide_eq_false h
   by_cases hab:a=b
   ·subst hab;simp
   ·have:b<a:=by
     apply Decidable.byContradiction
     intro g
     exact hab (List.le_antisymm (List.not_lt.1 g) (List.not_lt.1 h))
    simp [hab,this]
  rw [e]
  cases bytesLess b a<;>rfl
theorem Bk8 (x y:ByteArray) (w:World):Calls Tryz.prog 98 #[.string x,.string y] w λe w'=>e = .returned (.int .i64 (T2 x.data.toList y.data.toList))/\w'=w:=by
 have e7:∀ args w,(callFunc 143 args).run Tryz.prog w = .ok (.enter 143 args) w:=enters_of Tryz.func143 (by kernel_rfl) rfl
 go_enter Tryz.func98,Tryz.ntmps98
 go_wp2_with (go_at_fn 143;refine (Bf8 _ _).mono ?_;rintro e w' ⟨rfl,hw⟩;rw [hw])
 all_goals (go_ret;refine ⟨?_,rfl⟩;rw [Aw3];(try simp [*]))
theorem Al6 (s:ByteArray):Lib.lastIndexByte s 46=G0 46 s.data.toList:=by
 have hsz:s.size=s.data.toList.length:=by rw [Array.length_toList];rfl
 have hb:∀ j (hj:j<s.data.toList.length),((s.data[j]!).toNat:Int)=46↔s.data.toList[j]=46:=λj hj=>by
  have hj':j<s.data.size:=by simpa using hj
  rw [getElem!_pos s.data j hj',Array.getElem_toList]
  constructor
  ·intro h
   exact UInt8.toNat_inj.1 (show s.data[j].toNat=46 by omega)
  ·intro h
   rw [h]
   rfl
 rcases Lib.lastIndexByte_spec s 46 with ⟨e,hn⟩ | ⟨i,hi,e,hc,hn⟩
 ·rw [e]
  rcases Y7 s.data.toList with ⟨_,h2⟩ | ⟨p,q,h1,h2,h3⟩
  ·exact h2.symm
  ·have hp:p.length<s.data.toList.length:=by rw [h1];simp
   exact absurd ((hb p.length hp).2 (by simp [h1])) (hn p.length (by omega))
 ·rw [e]
  have hi':i<s.data.toList.length:=by omega
  have hci:=(hb i hi').1 hc
  rcases Y7 s.data.toList with ⟨h1,_⟩ | ⟨p,q,h1,h2,h3⟩
  ·exact absurd (hci ▸ List.getElem_mem hi') h1
  ·rw [h3]
   have hp:p.length<s.data.toList.length:=by rw [h1];simp
   have hcp:=(hb p.length hp).2 (by simp [h1])
   by_cases h4:i<p.length
   ·exact absurd hcp (hn p.length h4 (by omega))
   ·by_cases h5:p.length<i
    ·refine absurd ?_ h2
     have:s.data.toList[i]? = some 46:=by rw [List.getElem?_eq_getElem hi',hci]
     rw [h1,List.getElem?_append_right (by omega),show i-p.length=(i-p.length-1)+1 by omega,List.getElem?_cons_succ] at this
     exact List.mem_of_getElem? this
    ·omega
theorem As4 (s:ByteArray) (hs:s.size<4611686018427387904) (w:World):Calls Tryz.prog 97 #[.string s,.int .u8 46] w λe w'=>e = .returned (.int .i64 (G0 46 s.data.toList))/\w'=w:=by
 rw [<-Al6]
 exact Any.strings_LastIndexByte Tryz.lays149 s 46 hs w
theorem LS (s:ByteArray) (l:Int) (h0:0<=l) (h1:l<=s.size) (w:World):(Instr.sliceAt 9 (.string s) (some (.int .i64 l)) none none).run Tryz.prog w = .ok (.string (s.extract l.toNat s.size)) w:=by
 simp [Instr.sliceAt,Instr.slice,run_underlying Tryz.underlying9,Instr.sliceBounds,run_sliceBound,Result.andThen,h0,h1]
theorem Ar5 (s:ByteArray) (l:Int) (h0:0<=l) (h1:l<=s.size) (w:World):(Instr.sliceAt 9 (.string s) none (some (.int .i64 l)) none).run Tryz.prog w = .ok (.string (s.extract 0 l.toNat)) w:=by
 simp [Instr.sliceAt,Instr.slice,run_underlying Tryz.underlying9,Instr.sliceBounds,run_sliceBound,Result.andThen,h0,h1]
theorem IT (s:ByteArray) (n:Nat):(s.extract n s.size).data.toList=s.data.toList.drop n:=by
 rw [ByteArray.data_extract,Array.toList_extract]
 simp only [List.extract]
 exact List.take_of_length_le (by rw [List.length_drop,Array.length_toList];exact Nat.le_refl _)
theorem Aj9 (s:ByteArray) (n:Nat):(s.extract 0 n).data.toList=s.data.toList.take n:=by
 rw [ByteArray.data_extract,Array.toList_extract]
 simp [List.extract]
set_option maxHeartbeats 4000000 in theorem Bg0 (a b:ByteArray) (ha:a.size<=1000000000) (hb:b.size<=1000000000) (w:World):Calls Tryz.prog 63 #[.string a,.string b] w λe w'=>e = .returned (.int .i64 (Q1 a.data.toList b.data.toList))/\∃ q,w'=w.drewN q:=by
 have eL:∀ args w,(callFunc 97 args).run Tryz.prog w = .ok (.enter 97 args) w:=enters_of Tryz.func97 (by kernel_rfl) rfl
 have eS:∀ args w,(callFunc 98 args).run Tryz.prog w = .ok (.enter 98 args) w:=enters_of Tryz.func98 (by kernel_rfl) rfl
 have eI:∀ args w,(callFunc 99 args).run Tryz.prog w = .ok (.enter 99 args) w:=enters_of Tryz.func99 (by kernel_rfl) rfl
 go_enter Tryz.func63,Tryz.ntmps63
 go_wp2
 go_step3
 go_wp2
 try go_step3
 try go_wp2
 go_loopw [0,1] (λva vb wr=>∃ (x y:ByteArray) (n:Nat),va = .string x/\vb = .string y/\x.size<=1000000000/\y.size<=1000000000/\wr=w.drewN n/\Hid (Q1 a.data.toList b.data.toList=Q1 x.data.toList y.data.toList)) (λva _ _=>match va with | .string x=>x.size | _=>0)
 case atStart=>exact ⟨a,b,0,rfl,rfl,ha,hb,rfl,rfl⟩
 case round=>
  obtain ⟨x,y,n,rfl,rfl,hx,hy,hwr,hh⟩:=hrel
  obtain ⟨i,hi⟩:∃ i,i=G0 46 x.data.toList:=⟨_,rfl⟩
  obtain ⟨k,hk⟩:∃ k,k=G0 46 y.data.toList:=⟨_,rfl⟩
  have hxl:x.data.toList.length=x.size:=by rw [Array.length_toList];rfl
  have hyl:y.data.toList.length=y.size:=by rw [Array.length_toList];rfl
  have hi1:-1<=i/\i<x.size:=by rcases Nn x.data.toList with ⟨h,_⟩ | ⟨h,h',_⟩<;>omega
  have hk1:-1<=k/\k<y.size:=by rcases Nn y.data.toList with ⟨h,_⟩ | ⟨h,h',_⟩<;>omega
  obtain ⟨hi1,hi2⟩:=hi1
  obtain ⟨hk1,hk2⟩:=hk1
  have wx:∀ w,Calls Tryz.prog 97 #[.string x,.int .u8 46] w λe w'=>e = .returned (.int .i64 i)/\w'=w:=by rw [hi];exact As4 x (by omega)
  have wy:∀ w,Calls Tryz.prog 97 #[.string y,.int .u8 46] w λe w'=>e = .returned (.int .i64 k)/\w'=w:=by rw [hk];exact As4 y (by omega)
  have HI:Hid (i=G0 46 x.data.toList):=hi
  have HK:Hid (k=G0 46 y.data.toList):=hk
  have HW:Hid (wr=w.drewN n):=hwr
  clear hi hk hxl hyl hwr
  go_wp2_with (go_at_fn 97;refine (wx _).mono ?_;rintro e w' ⟨rfl,hw⟩;rw [hw])
  clear wx
  go_wp2_with (go_at_fn 97;refine (wy _).mono ?_;rintro e w' ⟨rfl,hw⟩;rw [hw])
  clear wy
  have ei:IntKind.i64.wrap (i+1)=i+1:=by simp [IntKind.wrap,IntKind.bits,IntKind.signed];omega
  have ek:IntKind.i64.wrap (k+1)=k+1:=by simp [IntKind.wrap,IntKind.bits,IntKind.signed];omega
  have s1:=LS x (i+1) (by omega) (by omega)
  have s2:=LS y (k+1) (by omega) (by omega)
  go_quiet (first | (go_at_call 98;exact Calls.quiet_of_same (Bk8 _ _ _)))
  rw [IT,IT]
  obtain ⟨c,hc⟩:∃ c,c=T2 (x.data.toList.drop (i+1).toNat) (y.data.toList.drop (k+1).toNat):=⟨_,rfl⟩
  rw [<-hc]
  have HC:Hid (c=T2 (x.data.toList.drop (i+1).toNat) (y.data.toList.drop (k+1).toNat)):=hc
  clear hc s1 s2 ei ek eS
  obtain ⟨w2,hw2⟩:∃ w2,w2=wr.drewN nq:=⟨_,rfl⟩
  rw [<-hw2]
  have HW2:Hid (w2=w.drewN (n+nq)):=by rw [hw2,HW.out,World.drewN_drewN];rfl
  clear hw2
  generalize n+nq=n2 at HW2
  have FIN:Hid (∀ v,v=Q1 x.data.toList y.data.toList->(Ending.returned (.int .i64 v)=Ending.returned (.int .i64 (Q1 a.data.toList b.data.toList))/\∃ m,w2=w.drewN m)):=λv hv=>⟨by rw [hh.out,hv],n2,HW2.out⟩
  have st:=Ai4 x.data.toList y.data.toList i k HI.out HK.out
  rw [<-HC.out] at st
  have ST:Hid (_/\_/\_):=st
  clear st
  go_wp2_with (go_at_fn 99;refine (Bk7 _ _ _).mono ?_;rintro e w' ⟨rfl,hw⟩;rw [hw])
  ·have hc0:c≠0:=by simpa using ‹(c != 0)=true›
   simp only [Exit.noGoto_ret]
   go_ret
   exact FIN.out _ (ST.out.1 hc0).symm
  ·have hc0:c=0:=by simpa using ‹(c != 0)=false›
   simp only [Exit.noGoto_ret]
   go_ret
   exact FIN.out _ (ST.out.2.1 hc0 (by omega)).symm
  ·have hc0:c=0:=by simpa using ‹(c != 0)=false›
   have s3:=Ar5 x i (by omega) (by omega)
   have s4:=Ar5 y k (by omega) (by omega)
   have E:=ST.out.2.2 hc0 (by omega) (by omega)
   have HE:Hid (Q1 x.data.toList y.data.toList=Q1 (x.data.toList.take i.toNat) (y.data.toList.take k.toNat)):=E
   clear E
   go_quiet (fail)
   go_wp2
   go_roundw
   case rel=>exact ⟨x.extract 0 i.toNat,y.extract 0 k.toNat,n2+nq,rfl,rfl,by simp [ByteArray.size_extract];omega,by simp [ByteArray.size_extract];omega,by rw [HW2.out,World.drewN_drewN],by rw [hh.out,HE.out,Aj9,Aj9];rfl⟩
   case measure=>simp [ByteArray.size_extract];omega
  ·have hc0:c=0:=by simpa using ‹(c != 0)=false›
   simp only [Exit.noGoto_ret]
   go_ret
   exact FIN.out _ (ST.out.2.1 hc0 (by omega)).symm
theorem Ak8 (w:World) (A B:Obj) (n:Nat):((w.alloc A).alloc B).drewN n=Sort.grow (w.drewN n) #[A,B]:=by
 have h:(w.heap.push A).push B=w.heap++#[A,B]:=by apply Array.toList_inj.1;simp
 show ({ (w.drewN n) with heap:=(w.heap.push A).push B }:World) = { (w.drewN n) with heap:=w.heap++#[A,B] }
 rw [h]
theorem Bf9 (a b:ByteArray) (p q:Bool) (ha:a.size<=1000000000) (hb:b.size<=1000000000) (w:World):Calls Tryz.prog 62 #[.agg #[.string a,.bool p],.agg #[.string b,.bool q]] w λe w'=>e = .returned (.int .i64 (Q1 a.data.toList b.data.toList))/\∃ n os,w'=Sort.grow (w.drewN n) os:=by
 have eC:∀ args w,(callFunc 63 args).run Tryz.prog w = .ok (.enter 63 args) w:=enters_of Tryz.func63 (by kernel_rfl) rfl
 go_enter Tryz.func62,Tryz.ntmps62
 go_wp2_with (go_at_fn 63;refine (Bg0 _ _ ha hb _).mono ?_;rintro e w' ⟨rfl,m0,hw⟩;rw [hw])
 go_ret
 refine ⟨rfl,m0,#[.cells #[.string a,.bool p] 63,.cells #[.string b,.bool q] 63],?_⟩
 exact Ak8 _ _ _ _
end
end Go.Proofs.YtelhbgonncceeaaGreatDoor.E
namespace Go.Proofs
open Go.Shelf
def Tryz.sortEnt_ren:Go.Shelf.Ren:=⟨fun | 6=>61 | 15=>96 | 14=>95 | 28=>140 | 29=>141 | 20=>132 | 21=>133 | 22=>134 | 23=>135 | 24=>136 | 25=>137 | 26=>138 | 27=>139 | 46=>171 | 47=>172 | 48=>173 | 49=>174 | 50=>175 | 57=>190 | n=>n,fun | 22=>23 | 24=>63 | 25=>103 | 3=>3 | 39=>139 | 0=>0 | 53=>24 | 55=>168 | 4=>4 | 46=>161 | 45=>160 | 50=>84 | 5=>5 | 9=>9 | 66=>182 | 70=>186 | 76=>201 | 77=>202 | n=>n,fun | n=>n⟩
theorem Tryz.sortEnt:Go.Proofs.SlLaysF0.n6 Tryz.prog Tryz.sortEnt_ren:={
 mixed:=by kernel_rfl
 f6:=⟨Tryz.f61.name,by decide,Tryz.func61.trans (congrArg some (by kernel_rfl))⟩
 f14:=⟨Tryz.f95.name,by decide,Tryz.func95.trans (congrArg some (by kernel_rfl))⟩
 f15:=Tryz.func96.trans (congrArg some (by kernel_rfl))
 f20:=⟨Tryz.f132.name,by decide,Tryz.func132.trans (congrArg some (by kernel_rfl))⟩
 f21:=⟨Tryz.f133.name,by decide,Tryz.func133.trans (congrArg some (by kernel_rfl))⟩
 f22:=⟨Tryz.f134.name,by decide,Tryz.func134.trans (congrArg some (by kernel_rfl))⟩
 f23:=⟨Tryz.f135.name,by decide,Tryz.func135.trans (congrArg some (by kernel_rfl))⟩
 f24:=⟨Tryz.f136.name,by decide,Tryz.func136.trans (congrArg some (by kernel_rfl))⟩
 f25:=⟨Tryz.f137.name,by decide,Tryz.func137.trans (congrArg some (by kernel_rfl))⟩
 f26:=⟨Tryz.f138.name,by decide,Tryz.func138.trans (congrArg some (by kernel_rfl))⟩
 f27:=⟨Tryz.f139.name,by decide,Tryz.func139.trans (congrArg some (by kernel_rfl))⟩
 f28:=Tryz.func140.trans (congrArg some (by kernel_rfl))
 f29:=Tryz.func141.trans (congrArg some (by kernel_rfl))
 f46:=⟨Tryz.f171.name,by decide,Tryz.func171.trans (congrArg some (by kernel_rfl))⟩
 f47:=Tryz.func172.trans (congrArg some (by kernel_rfl))
 f48:=Tryz.func173.trans (congrArg some (by kernel_rfl))
 f49:=⟨Tryz.f174.name,by decide,Tryz.func174.trans (congrArg some (by kernel_rfl))⟩
 f50:=⟨Tryz.f175.name,by decide,Tryz.func175.trans (congrArg some (by kernel_rfl))⟩
 f57:=⟨Tryz.f190.name,by decide,Tryz.func190.trans (congrArg some (by kernel_rfl))⟩
 t0:=Tryz.underlying0
 a0:=Tryz.isAgg0
 z0:=Tryz.sizeOf0
 v0:=Tryz.zeroValue0
 t3:=Tryz.underlying3
 a3:=Tryz.isAgg3
 z3:=Tryz.sizeOf3
 v3:=Tryz.zeroValue3
 t4:=Tryz.underlying4
 a4:=Tryz.isAgg4
 z4:=Tryz.sizeOf4
 v4:=Tryz.zeroValue4
 t5:=Tryz.underlying5
 a5:=Tryz.isAgg5
 z5:=Tryz.sizeOf5
 v5:=Tryz.zeroValue5
 t9:=Tryz.underlying9
 a9:=Tryz.isAgg9
 z9:=Tryz.sizeOf9
 v9:=Tryz.zeroValue9
 t22:=Tryz.underlying23
 a22:=Tryz.isAgg23
 z22:=Tryz.sizeOf23
 v22:=Tryz.zeroValue23
 t25:=Tryz.underlying103
 a25:=Tryz.isAgg103
 z25:=Tryz.sizeOf103
 v25:=Tryz.zeroValue103
 t39:=Tryz.underlying139
 a39:=Tryz.isAgg139
 z39:=Tryz.sizeOf139
 v39:=Tryz.zeroValue139
 t45:=Tryz.underlying160
 a45:=Tryz.isAgg160
 z45:=Tryz.sizeOf160
 v45:=Tryz.zeroValue160
 t46:=Tryz.underlying161
 a46:=Tryz.isAgg161
 z46:=Tryz.sizeOf161
 v46:=Tryz.zeroValue161
 t50:=Tryz.underlying84
 a50:=Tryz.isAgg84
 z50:=Tryz.sizeOf84
 v50:=Tryz.zeroValue84
 t53:=Tryz.underlying24
 a53:=Tryz.isAgg24
 z53:=Tryz.sizeOf24
 v53:=Tryz.zeroValue24
 t55:=Tryz.underlying168
 a55:=Tryz.isAgg168
 z55:=Tryz.sizeOf168
 v55:=Tryz.zeroValue168
 t66:=Tryz.underlying182
 a66:=Tryz.isAgg182
 z66:=Tryz.sizeOf182
 v66:=Tryz.zeroValue182
 t70:=Tryz.underlying186
 a70:=Tryz.isAgg186
 z70:=Tryz.sizeOf186
 v70:=Tryz.zeroValue186
 t76:=Tryz.underlying201
 a76:=Tryz.isAgg201
 z76:=Tryz.sizeOf201
 v76:=Tryz.zeroValue201
 t77:=Tryz.underlying202
 a77:=Tryz.isAgg202
 z77:=Tryz.sizeOf202
 v77:=Tryz.zeroValue202 }
end Go.Proofs
