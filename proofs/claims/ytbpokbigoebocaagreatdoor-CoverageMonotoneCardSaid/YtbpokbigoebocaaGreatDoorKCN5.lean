/-
  Putting a further pin, or setting IncludeSub, never makes a known host unknown, and later no unknown host becomes known, as its tied card says. Conditions: what the card itself names (the package-level variables that are listed, tied to the program's text).
-/
import Derived.Test.YtbpokbigoebocaaGreatDoorKCN4
import Derived.BigQuiet
import Derived.Deep.QuietTactic
import Derived.Ground.SlsfProg
import Derived.LoopTactic
import Derived.Shelf.Abstract
import Derived.Shelf.SlSortCmp.NoneTotal
import Derived.Shelf.SlSortCmp.WholeK
import Derived.Shelf.Strings.LastIndex
import Derived.Test.YtbpokbigoebocaaGreatDoorCards
import Derived.Test.YtbpokbigoebocaaGreatDoorProg
import Derived.Test.YtbpokbigoebocaaGreatDoorTie
import Derived.WalkKit
import Derived.WalkMore
namespace Go.Proofs.YtbpokbigoebocaaGreatDoor.E
set_option linter.all false
section
open Go Go.Op
set_option maxRecDepth 100000
theorem ZT {R:Type} {k0:Bool->Option R} (s:By):A51 LF s k0=k0 false:=by unfold A51;simp
theorem ZS {R:Type} {k0:Bool->Option R} (n:Int):A49 LF n k0=k0 false:=by unfold A49;simp
theorem Ak9 {R:Type} {k0:Int->Option R} (a b:By):ccs LF a b k0=k0 (R0 a b):=by
 unfold ccs R0
 cases h:bytesLess a b with
 | true=>rfl
 | false=>
  have e:(not (false || a==b))=bytesLess b a:=by
   rw [P8] at h ⊢
   have h:=of_decide_eq_false h
   by_cases hab:a=b
   ·subst hab;simp
   ·have:b<a:=by
     apply Decidable.byContradiction
     intro g
     exact hab (List.le_antisymm (List.not_lt.1 g) (List.not_lt.1 h))
    simp [hab,this]
  rw [e]
  cases bytesLess b a<;>rfl
theorem Ak8 {R:Type} {k0:Int->Option R} (a b:Int):cci LF a b k0=k0 (FX a b):=by
 unfold cci FX
 cases ltI a b<;>cases ltI b a<;>rfl
theorem X8:∀ s:By,((46:UInt8)∉s/\E5 46 s = -1)\/∃ p q,s=p++46::q/\(46:UInt8)∉q/\E5 46 s=(p.length:Int)
 | []=>.inl ⟨by simp,rfl⟩
 | b::r=>by
  rcases X8 r with ⟨h1,h2⟩ | ⟨p,q,h1,h2,h3⟩
  ·by_cases hb:b=46
   ·exact .inr ⟨[],r,by rw [hb];rfl,h1,by unfold E5;rw [h2,if_pos (by decide),if_pos hb];rfl⟩
   ·exact .inl ⟨by simp [h1];exact λe=>hb e.symm,by unfold E5;rw [h2,if_pos (by decide),if_neg hb]⟩
  ·refine .inr ⟨b::p,q,by rw [h1];rfl,h2,?_⟩
   unfold E5
   rw [h3,L7]
   simp
theorem Xj {s:By} (h:(46:UInt8)∉s):rl s=[s]:=by
 unfold rl pcs
 rw [Bb 46 s [] h]
 rfl
theorem Xk (p:By) {q:By} (h:(46:UInt8)∉q):rl (p++46::q)=q::rl p:=by
 unfold rl pcs
 rw [Ba,Bb 46 q [] h,List.reverse_append]
 rfl
theorem WW (s:By):rl s≠[]:=by
 unfold rl
 simpa using Kr 46 s
theorem T2 {a b:By} (h:R0 a b=0):a=b:=by
 unfold R0 at h
 cases h1:bytesLess a b with
 | true=>rw [h1] at h;cases h
 | false=>
  cases h2:bytesLess b a with
  | true=>rw [h1,h2] at h;cases h
  | false=>
   rw [P8] at h1 h2
   exact List.le_antisymm (List.not_lt.1 (of_decide_eq_false h2)) (List.not_lt.1 (of_decide_eq_false h1))
theorem Zt (a:By):bytesLess a a=false:=by rw [P8];simp
def Ph (x y:List By):Int:=cond (Wp x y) (-1) (cond (Wp y x) 1 0)
theorem K2 {a b:By} {x y:List By} (h:R0 a b≠0):Ph (a::x) (b::y)=R0 a b:=by
 have hne:a≠b:=λe=>h (by rw [e];unfold R0;rw [Zt];rfl)
 have e1:(a==b)=false:=by simpa using hne
 have e2:(b==a)=false:=by simpa using Ne.symm hne
 unfold Ph R0
 simp only [Wp,e1,e2,Bool.false_and,Bool.or_false]
theorem J9 {a:By} {x y:List By}:Ph (a::x) (a::y)=Ph x y:=by
 unfold Ph
 simp only [Wp,Zt,beq_self_eq_true,Bool.true_and,Bool.false_or]
theorem BY {R:Type} {k0:Int->Option R}:∀ (n:Nat) (a b:By),a.length<=1000000000->b.length<=1000000000->a.length<n->
  Iu LF n a b k0 (λi k=>k0 (FX (if ((0:Int)<i) then (0:Int) else i) (if ((0:Int)<k) then (0:Int) else k)))=k0 (J2 a b)
 | 0,a,b,_,_,h=>by omega
 | n+1,a,b,ha,hb,h=>by
  have e46:u8n (46:Int)=46:=rfl
  have hcmp:∀ x y:By,J2 x y=Ph (rl x) (rl y):=λx y=>rfl
  rw [Iu]
  simp only [vl,e46]
  rw [I5 ha,I5 hb,cond_true,cond_true,hcmp]
  rcases X8 a with ⟨a1,a2⟩ | ⟨p,q,rfl,a1,a2⟩<;>rcases X8 b with ⟨b1,b2⟩ | ⟨p',q',rfl,b1,b2⟩<;>rw [a2,b2]
  ·have e1:cut a (A5 (-1+1)) (a.length:Int)=a:=by rw [B1,P9];rfl
   have e2:cut b (A5 (-1+1)) (b.length:Int)=b:=by rw [B1,P9];rfl
   rw [e1,e2,V9 (by rw [B1];omega) (by rw [B1];omega),V9 (by rw [B1];omega) (by rw [B1];omega),cond_true,cond_true,Xj a1,Xj b1]
   by_cases hc:R0 a b=0
   ·rw [show (R0 a b != 0)=false by rw [hc];rfl,cond_false,C7,cond_true,T2 hc,J9];rfl
   ·rw [show (R0 a b != 0)=true by simpa using hc,cond_true,K2 hc]
  ·have e1:cut a (A5 (-1+1)) (a.length:Int)=a:=by rw [B1,P9];rfl
   have e2:cut (p'++46::q') (A5 ((p'.length:Int)+1)) ((p'++46::q').length:Int)=q':=by
    simp only [List.length_append,List.length_cons] at hb
    rw [B1,P9,show (((p'.length:Int)+1).toNat)=p'.length+1 by omega]
    simp
   have hl:(p'++46::q').length=p'.length+(q'.length+1):=by simp
   rw [e1,e2,V9 (by rw [B1];omega) (by rw [B1];omega),V9 (by rw [B1];omega) (by rw [B1];omega),cond_true,cond_true,Xj a1,Xk p' b1]
   by_cases hc:R0 a q'=0
   ·rw [show (R0 a q' != 0)=false by rw [hc];rfl,cond_false,C7,cond_true,T2 hc,J9,L7]
    have e3:(if (0:Int)<(p'.length:Int) then (0:Int) else (p'.length:Int))=0:=by split<;>omega
    rw [e3]
    have:Ph [] (rl p') = -1:=by
     unfold Ph
     cases hr:rl p' with
     | nil=>exact absurd hr (WW p')
     | cons x r=>rfl
    rw [this];rfl
   ·rw [show (R0 a q' != 0)=true by simpa using hc,cond_true,K2 hc]
  ·have e1:cut (p++46::q) (A5 ((p.length:Int)+1)) ((p++46::q).length:Int)=q:=by
    simp only [List.length_append,List.length_cons] at ha
    rw [B1,P9,show (((p.length:Int)+1).toNat)=p.length+1 by omega]
    simp
   have e2:cut b (A5 (-1+1)) (b.length:Int)=b:=by rw [B1,P9];rfl
   have hl:(p++46::q).length=p.length+(q.length+1):=by simp
   rw [e1,e2,V9 (by rw [B1];omega) (by rw [B1];omega),V9 (by rw [B1];omega) (by rw [B1];omega),cond_true,cond_true,Xj b1,Xk p a1]
   by_cases hc:R0 q b=0
   ·rw [show (R0 q b != 0)=false by rw [hc];rfl,cond_false,B6,cond_false,C7,cond_true,T2 hc,J9]
    have e3:(if (0:Int)<(p.length:Int) then (0:Int) else (p.length:Int))=0:=by split<;>omega
    rw [e3,L7]
    have:Ph (rl p) []=1:=by
     unfold Ph
     cases hr:rl p with
     | nil=>exact absurd hr (WW p)
     | cons x r=>rfl
    rw [this];rfl
   ·rw [show (R0 q b != 0)=true by simpa using hc,cond_true,K2 hc]
  ·have e1:cut (p++46::q) (A5 ((p.length:Int)+1)) ((p++46::q).length:Int)=q:=by
    simp only [List.length_append,List.length_cons] at ha
    rw [B1,P9,show (((p.length:Int)+1).toNat)=p.length+1 by omega]
    simp
   have e2:cut (p'++46::q') (A5 ((p'.length:Int)+1)) ((p'++46::q').length:Int)=q':=by
    simp only [List.length_append,List.length_cons] at hb
    rw [B1,P9,show (((p'.length:Int)+1).toNat)=p'.length+1 by omega]
    simp
   have hl:(p++46::q).length=p.length+(q.length+1):=by simp
   have hl':(p'++46::q').length=p'.length+(q'.length+1):=by simp
   rw [e1,e2,V9 (by rw [B1];omega) (by rw [B1];omega),V9 (by rw [B1];omega) (by rw [B1];omega),cond_true,cond_true,Xk p a1,Xk p' b1]
   by_cases hc:R0 q q'=0
   ·rw [show (R0 q q' != 0)=false by rw [hc];rfl,cond_false,B6,cond_false,B6,cond_false,V9,cond_true,V9,cond_true,T2 hc,J9,Gz,Gz,Int.toNat_natCast,Int.toNat_natCast,List.take_left,List.take_left,BY n p p' (by omega) (by omega) (by omega)]
    rfl
   ·rw [show (R0 q q' != 0)=true by simpa using hc,cond_true,K2 hc]
theorem Aa1 {R:Type} {k0:Int->Option R} (a b:By) (h0:A2 a.length=true) (h1:A2 b.length=true):A59 LF a b k0=k0 (J2 a b):=by
 have hLF:=K9
 have ha:=U0 h0
 unfold A59
 exact BY LF a b ha (U0 h1) (by omega)
theorem A70 (h:By) (b:Bool) (e:Int) (h0:A2 h.length=true):∃ r H,A68 LF h b e (λr0 s1 b2 n3=>rv (.s (.bool r0)) [.box [.s (.str s1),.s (.bool b2),.s (.int .i64 n3)]])=rv r H/\r.stab [] H = .s (.bool (Hp h e)):=by
 unfold A68 Hp
 rw [h0]
 cases E2 h with
 | false=>exact ⟨_,_,rfl,rfl⟩
 | true=>cases ltI e 0<;>exact ⟨_,_,rfl,rfl⟩
theorem Ab9 {R:Type} {k0:Bool->Option R} (n m:Int):Bi6 LF n m k0=k0 (not (ltI m n)):=rfl
theorem A40 (h:By) (b:Bool) (h0:A2 h.length=true):∃ r H,A38 LF h b (λr0 s1 b2=>rv (.s (.bool r0)) [.box [.s (.str s1),.s (.bool b2)]])=rv r H/\r.stab [] H = .s (.bool (not (E2 h))):=by
 unfold A38
 rw [h0]
 exact ⟨_,_,rfl,rfl⟩
theorem Bh4 (h:By) (b:Bool) (s:By) (h0:A2 h.length=true) (h1:A2 s.length=true):∃ r H,lgf LF h b s (λr0 s1 b2=>rv (.s (.int .i64 r0)) [.box [.s (.str s1),.s (.bool b2)]])=rv r H/\r.stab [] H = .s (.int .i64 (J2 h s)):=by
 unfold lgf
 rw [h0,h1]
 exact ⟨_,_,rfl,rfl⟩
theorem Bj4 (h:By) (b:Bool) (e:Int) (s:By) (h0:A2 h.length=true) (h1:A2 s.length=true):∃ r H,tff LF h b e s (λr0 s1 b2 n3=>rv (.s (.int .i64 r0)) [.box [.s (.str s1),.s (.bool b2),.s (.int .i64 n3)]])=rv r H/\r.stab [] H = .s (.int .i64 (J2 h s)):=by
 unfold tff
 rw [h0,h1]
 exact ⟨_,_,rfl,rfl⟩
theorem ZJ {R:Type} (z t:Bool) (l:List Ent) (hs:(G3 l).all smE=true) (k0:Int->Option R) (k1:Unit->Option R) (hl:l.length<=1000000000):∀ (r i m:Nat),i+r=l.length->r<m->
  Fv LF m z t (G3 l) (l.length:Int) (i:Int) k0 k1=match (l.drop i).findIdx? (λe=>!E2 e.1) with | some j=>k0 ((i+j:Nat):Int) | none=>k1 ():=by
 intro r
 induction r with
 | zero=>
  intro i m hi hm
  obtain ⟨m,rfl⟩:∃ q,m=q+1:=⟨m-1,by omega⟩
  rw [Fv,B6,List.drop_of_length_le (by omega)]
  rfl
 | succ r ih=>
  intro i m hi hm
  obtain ⟨m,rfl⟩:∃ q,m=q+1:=⟨m-1,by omega⟩
  have e1:A5 ((i:Int)+1)=((i+1:Nat):Int):=by rw [B1];rfl
  have hd:l.drop i=l.getD i noE::l.drop (i+1):=by
   rw [List.getD_eq_getElem?_getD,List.getElem?_eq_getElem (by omega),Option.getD_some,List.getElem_cons_drop]
  rw [Fv,C7,Q3 (by omega) (by rw [F0];omega),Int.toNat_natCast,Tp (by omega),Pn (by omega),IG hs (by omega),e1,hd,List.findIdx?_cons]
  simp only [cond_true]
  cases E2 (l.getD i noE).1 with
  | false=>simp
  | true=>
   rw [Bool.not_true,cond_false,ih (i+1) m (by omega) (by omega)]
   cases (l.drop (i+1)).findIdx? (λe=>!E2 e.1) with
   | none=>rfl
   | some j=>simp [Nat.add_assoc,Nat.add_comm 1 j]
theorem ZK {R:Type} {k0:Int->Option R} (z t:Bool) (l:LL) (h0:l.all E4=true) (h1:l.all smE=true) (h2:A2 l.length=true):A36 LF z t l k0=k0 (ixE (l.map A6)):=by
 have hLF:=K9
 have hl:=U0 h2
 rw [Ly h0] at h1 hl ⊢
 generalize l.map A6=q at h1 hl ⊢
 rw [F0] at hl
 unfold A36 ixE
 rw [F0,Th]
 refine (ZJ z t q h1 _ _ hl q.length 0 LF (by omega) (by omega)).trans ?_
 rw [List.drop_zero]
 cases q.findIdx? (λe=>!E2 e.1) with
 | none=>rfl
 | some j=>
  show k0 ((0+j:Nat):Int)=k0 (j:Int)
  rw [Nat.zero_add]
theorem Bh0 (l:List Ent):(!ltI (ixE l) 0)=OG l:=by
 unfold ixE OG
 cases h:l.findIdx? (λe=>!E2 e.1) with
 | none=>
  rw [List.findIdx?_eq_none_iff] at h
  show (!ltI (-1) 0)=_
  rw [C7]
  exact (List.any_eq_false.2 λx hx=>by rw [h x hx];simp).symm
 | some j=>
  show (!ltI (j:Int) 0)=_
  rw [B6]
  exact (List.any_eq_true.2 (by
   obtain ⟨hj,hp,_⟩:=List.findIdx?_eq_some_iff_getElem.1 h
   exact ⟨_,List.getElem_mem hj,hp⟩)).symm
theorem ZE {R:Type} {k0:Bool->Option R} (z t:Bool) (l:LL) (h0:l.all E4=true) (h1:l.all smE=true) (h2:A2 l.length=true):A33 LF z t l k0=k0 (OG (l.map A6)):=by
 unfold A33
 rw [h0,h1,h2,<-Bh0]
 rfl
theorem SX {z:Bool} {l:LL} (h:M0 z l=true) (hz:z=true):l=[]:=by
 subst hz
 simpa [M0] using h
theorem YW {R:Type} {k0:Bool->LL->Option R} (z t:Bool) (l:LL) (h0:A2 l.length=true) (h1:M0 z l=true):A30 LF z t l k0=k0 z l:=by
 unfold A30
 cases z with
 | true=>rw [SX h1 rfl];rfl
 | false=>
  have:=U0 h0
  rw [V5 (by omega)]
  rfl
theorem Ad5 {R:Type} {k0:Bool->LL->Option R} (z t:Bool) (l:LL) (h0:A2 l.length=true) (h1:M0 z l=true):A95 LF z t l k0=k0 z l:=by
 unfold A95
 cases z with
 | true=>rw [SX h1 rfl];rfl
 | false=>
  have:=U0 h0
  rw [V5 (by omega)]
  rfl
theorem Bo6 {a b:Nat} (h:a+b<=4000000000):A5 (Ac0 .u64 (Ae3 (A5 ((a:Int)+(b:Int)))) 1)=(((a+b) / 2:Nat):Int):=by
 have e1:A5 ((a:Int)+(b:Int))=((a+b:Nat):Int):=by rw [B1];omega
 have e2:Ae3 ((a+b:Nat):Int)=((a+b:Nat):Int):=XE (by omega) (by omega)
 have e3:Ac0 .u64 ((a+b:Nat):Int) 1=(((a+b) / 2:Nat):Int):=A87 .u64 (a+b) 1 (by decide)
 rw [e1,e2,e3,B1]
theorem BI {R:Type} (z t:Bool) (l:List Ent) (s:By) (hs:(G3 l).all smE=true) (h1:A2 s.length=true) (n:Int) (k0:Bool->Bool->LL->By->Int->Int->Option R) (hl:l.length<=1000000000):∀ (r i j m:Nat),j-i<=r->i<=j->j<=l.length->r<m->
  Dd LF m z t (G3 l) s n (i:Int) (j:Int) k0=k0 z t (G3 l) s n ((Ej (λi=>J2 ((l.map Prod.fst).getD i []) s) (r+1) i j:Nat):Int):=by
 intro r
 induction r with
 | zero=>
  intro i j m hr hi hj hm
  obtain ⟨m,rfl⟩:∃ q,m=q+1:=⟨m-1,by omega⟩
  rw [Dd,B6]
  unfold Ej
  rw [L7]
  rfl
 | succ r ih=>
  intro i j m hr hi hj hm
  obtain ⟨m,rfl⟩:∃ q,m=q+1:=⟨m-1,by omega⟩
  rw [Dd]
  by_cases hij:i<j
  ·have hh:(i+j) / 2<l.length:=by omega
   rw [C7,Ej,if_pos hij]
   simp only [vl,cond_true]
   rw [Bo6 (by omega),Q3 (by omega) (by rw [F0];omega),Int.toNat_natCast,Tp hh,Pn hh,IG hs hh,h1,Tk Prod.fst (d:=noE) hh]
   simp only [cond_true]
   have e1:A5 ((((i+j) / 2:Nat):Int)+1)=(((i+j) / 2+1:Nat):Int):=by rw [B1];rfl
   by_cases hc:J2 (l.getD ((i+j) / 2) noE).1 s<0
   ·rw [H5 hc,cond_true,if_pos hc,e1,ih _ _ m (by omega) (by omega) hj (by omega)]
   ·rw [L8 (by omega),cond_false,if_neg hc,ih _ _ m (by omega) (by omega) (by omega) (by omega)]
  ·rw [B6,Ej,if_neg hij]
   rfl
theorem YV {R:Type} {k0:Int->Bool->Option R} (z t:Bool) (l:LL) (s:By) (h0:l.all E4=true) (h1:l.all smE=true) (h2:A2 l.length=true) (h3:A2 s.length=true) :
  A28 LF z t l s k0=k0 (bsI ((l.map A6).map Prod.fst) s:Int) (bsB ((l.map A6).map Prod.fst) s):=by
 have hLF:=K9
 have hl:=U0 h2
 rw [Ly h0] at h1 hl ⊢
 generalize l.map A6=q at h1 hl ⊢
 rw [F0] at hl
 unfold A28
 rw [F0,Th]
 have hlo:=BI (R:=R) z t q s h1 h3 (q.length:Int)
 refine (BI z t q s h1 h3 _ _ hl q.length 0 q.length LF (by omega) (by omega) (by omega) (by omega)).trans ?_
 have hle:=(Ic (λi=>J2 ((q.map Prod.fst).getD i []) s) (q.length+1) 0 q.length (by omega)).2
 have e:bsI (q.map Prod.fst) s=Ej (λi=>J2 ((q.map Prod.fst).getD i []) s) (q.length+1) 0 q.length:=by unfold bsI;rw [List.length_map]
 rw [<-e] at hle ⊢
 unfold bsB
 generalize bsI (q.map Prod.fst) s=i at hle ⊢
 rw [List.length_map]
 by_cases hi:i<q.length
 ·simp only [vl]
  rw [C7,Q3 (by omega) (by rw [F0];omega),Int.toNat_natCast,Tp hi,Pn hi,IG h1 hi,h3,show Nat.blt i q.length=true from Ib.2 hi,Tk Prod.fst (d:=noE) hi,AP]
  rfl
 ·rw [B6,show Nat.blt i q.length=false by cases hb:Nat.blt i q.length with | false=>rfl | true=>exact absurd (Ib.1 hb) hi]
  rfl
theorem Ad2 {R:Type} (z t:Bool) (l:List I9) (s:By) (hs:(N1 l).all smE=true) (h1:A2 s.length=true) (n:Int) (k0:Bool->Bool->LL->By->Int->Int->Option R) (hl:l.length<=1000000000):∀ (r i j m:Nat),j-i<=r->i<=j->j<=l.length->r<m->
  Dl LF m z t (N1 l) s n (i:Int) (j:Int) k0=k0 z t (N1 l) s n ((Ej (λi=>J2 ((l.map Prod.fst).getD i []) s) (r+1) i j:Nat):Int):=by
 intro r
 induction r with
 | zero=>
  intro i j m hr hi hj hm
  obtain ⟨m,rfl⟩:∃ q,m=q+1:=⟨m-1,by omega⟩
  rw [Dl,B6]
  unfold Ej
  rw [L7]
  rfl
 | succ r ih=>
  intro i j m hr hi hj hm
  obtain ⟨m,rfl⟩:∃ q,m=q+1:=⟨m-1,by omega⟩
  rw [Dl]
  by_cases hij:i<j
  ·have hh:(i+j) / 2<l.length:=by omega
   rw [C7,Ej,if_pos hij]
   simp only [vl,cond_true]
   rw [Bo6 (by omega),Q3 (by omega) (by rw [K8];omega),Int.toNat_natCast,Tq hh,Po hh,Tx hs hh,h1,Tk Prod.fst (d:=noP) hh]
   simp only [cond_true]
   have e1:A5 ((((i+j) / 2:Nat):Int)+1)=(((i+j) / 2+1:Nat):Int):=by rw [B1];rfl
   by_cases hc:J2 (l.getD ((i+j) / 2) noP).1 s<0
   ·rw [H5 hc,cond_true,if_pos hc,e1,ih _ _ m (by omega) (by omega) hj (by omega)]
   ·rw [L8 (by omega),cond_false,if_neg hc,ih _ _ m (by omega) (by omega) (by omega) (by omega)]
  ·rw [B6,Ej,if_neg hij]
   rfl
theorem Ad3 {R:Type} {k0:Int->Bool->Option R} (z t:Bool) (l:LL) (s:By) (h0:l.all D1=true) (h1:l.all smE=true) (h2:A2 l.length=true) (h3:A2 s.length=true) :
  A92 LF z t l s k0=k0 (bsI ((l.map A4).map Prod.fst) s:Int) (bsB ((l.map A4).map Prod.fst) s):=by
 have hLF:=K9
 have hl:=U0 h2
 rw [Iv h0] at h1 hl ⊢
 generalize l.map A4=q at h1 hl ⊢
 rw [K8] at hl
 unfold A92
 rw [K8,WS]
 refine (Ad2 z t q s h1 h3 _ _ hl q.length 0 q.length LF (by omega) (by omega) (by omega) (by omega)).trans ?_
 have hle:=(Ic (λi=>J2 ((q.map Prod.fst).getD i []) s) (q.length+1) 0 q.length (by omega)).2
 have e:bsI (q.map Prod.fst) s=Ej (λi=>J2 ((q.map Prod.fst).getD i []) s) (q.length+1) 0 q.length:=by unfold bsI;rw [List.length_map]
 rw [<-e] at hle ⊢
 unfold bsB
 generalize bsI (q.map Prod.fst) s=i at hle ⊢
 rw [List.length_map]
 by_cases hi:i<q.length
 ·simp only [vl]
  rw [C7,Q3 (by omega) (by rw [K8];omega),Int.toNat_natCast,Tq hi,Po hi,Tx h1 hi,h3,show Nat.blt i q.length=true from Ib.2 hi,Tk Prod.fst (d:=noP) hi,AP]
  rfl
 ·rw [B6,show Nat.blt i q.length=false by cases hb:Nat.blt i q.length with | false=>rfl | true=>exact absurd (Ib.1 hb) hi]
  rfl
theorem As0 {l:List Ent} (h:(G3 l).all smE=true):∀ e∈l,e.1.length<=1000000000:=λe he=>by
 have:=List.all_eq_true.1 h (Sl e) (List.mem_map.2 ⟨e,he,rfl⟩)
 exact U0 this
end
section
open Go Go.Proofs
set_option maxRecDepth 100000
section
variable {σ R : Type} (lf : Nat) (cl : D0) (yh : Yh σ) (s : σ) (k : Out -> St σ -> Option R)
noncomputable abbrev Ai7:Code:=E6 Tryz.f12
noncomputable def Kg (lf:Nat):Cfg:=C0 lf [12] (A3 [(8,[2,0,0,0])]) [(22,DK),(25,DI)] (A3 [(12,[2,0]),(9,[4,0]),(11,[2,0]),(10,[4,0,26]),(8,[4,0,12]),(7,[4,0]),(6,[4]),(5,[4]),(4,[2,0]),(3,[0,9]),(2,[2,0]),(1,[0,7]),(0,[0])]) [22] (A3 [(0,[4]),(1,[4,0])]) (some [2,0]) [] [] [] (nt:=[(72,0,50,2)]) (Z:=[(26,Ny)])
noncomputable def Z1 {R:Type} (lf n:Nat) (i0:Int) (z1:Bool) (l2:LL) (k0:(List Blk)->Option R) (k1:Bool->LL->Option R):Option R:=match n with | 0=>none | n+1=>cond (ltI i0 (l2.length:Int)) (cond (inR i0 l2.length) (cond (okE Qm l2 (Int.toNat i0) 0) (cond (inR (A5 (i0-1)) l2.length) (cond (okE Qm l2 (Int.toNat (A5 (i0-1))) 0) (vl (gX l2 (Int.toNat (A5 (i0-1))) 0) λs'0=>cond ((gX l2 (Int.toNat i0) 0)==s'0) (k0 [(Blk.arr z1 50 2 l2)]) (Z1 lf n (A5 (i0+1)) z1 l2 k0 k1)) none) none) none) none) (k1 z1 l2)
theorem SC (n i0 z1 l2):H4 1 ((Kg lf).keep 8) (bd (Kg lf) cl yh (cd [1,1,1,1,1,0,1,0,0] Ai7)) n ⟨gp [(4,.fl 0),(0,pI i0)] 30,[.arr z1 50 2 l2],s⟩ k =
 Z1 lf n i0 z1 l2 (λH0=>k .ret ⟨gp [(2,.s (.nilp)),(0,pI (17:Int))] 32,H0,s⟩) (λz0 l1=>k (.exit 0) ⟨gp [(4,.fl 0)] 31,[.arr z0 50 2 l1],s⟩):=by
 induction n generalizing i0 z1 l2 with
 | zero=>rfl
 | succ n ih=>rw [Z1];simp only [<-ih];kernel_rfl
noncomputable def ZL {R:Type} (lf:Nat) (l_z0 l_t1:Bool) (l2:LL) (k0:Int->(List Blk)->Option R) (k1:Bool->LL->(List Blk)->Option R):Option R:=cond (ltI 1000 (l2.length:Int)) (k0 3 []) (cond (List.all l2 E4) (cond (List.all l2 smE) (cond (A2 l2.length) (cond (OG (List.map A6 l2)) (k0 14 []) (cond (A2 l2.length) (cond (M0 l_z0 l2) (cond ((List.all l2 E4)&&((List.all l2 smE)&&(A2 l2.length))) (Z1 lf lf 1 l_z0 (G3 (P4 (List.map A6 l2))) (λH'1=>k0 17 H'1) (λz'2 l'3=>k1 z'2 l'3 [])) none) none) none)) none) none) none)
theorem WG (d:Nat) (l_z0 l_t1 l2):evC (Kg lf) (d+1) σ yh 12 [.s (.sl l_z0 l_t1 2 l2)] [] s=ZL lf l_z0 l_t1 l2 (λr0 H1=>some (.tup [.s (.nilp),pI r0],H1,s)) (λz0 l1 H2=>some (.tup [.ptr 1 0 0,pI (0:Int)],(.arr z0 50 2 l1::.box [.fl 0]::H2),s)):=by
 refine (evE (fn:=Tryz.f12) (by kernel_rfl)).trans ?_
 generalize evC (Kg lf) d=cl
 unfold ZL;exact (Eq.trans (by kernel_rfl) (A0 rfl (A0 (A0 (A0 (A0 rfl (A0 (A0 (A0 ((SC lf cl yh s (O4 0 (P3 (Kg lf) cl yh (cd [1,1,1,1,1,1] Ai7) (J6 (Kg lf) Tryz.f12))) lf 1 l_z0 (G3 (P4 (List.map A6 l2)))).trans (by kernel_rfl)) rfl) rfl) rfl)) rfl) rfl) rfl)))
noncomputable abbrev Ap6 (l_z0 l_t1:Bool) (l2:LL):Option (PV × List Blk × Unit):=ZL LF l_z0 l_t1 l2 (λr0 H1=>some (.tup [.s (.nilp),pI r0],H1,())) (λz0 l1 H2=>some (.tup [.ptr 1 0 0,pI (0:Int)],(.arr z0 50 2 l1::.box [.fl 0]::H2),()))
noncomputable def FO (lf:Nat):Cfg:=C0 lf [19] (A3 []) [] (A3 [(3,[2,0]),(2,[2,0]),(1,[0,8]),(0,[0])]) [] (A3 []) (some [2,0]) [] [] [] (nt:=[(58,0,25,3)])
noncomputable def WU {R:Type} (lf:Nat) (n:Int) (k0:Unit->Option R) (k1:Int->Option R):Option R:=cond (ltI n 1) (k0 ()) (cond (ltI 1000 n) (k0 ()) (k1 n))
theorem Ar2 (d:Nat) (n):evC (FO lf) (d+1) σ yh 19 [pI n] [] s=WU lf n (λ_=>some (.tup [.s (.nilp),pI (2:Int)],[],s)) (λn0=>some (.tup [.ptr 1 0 0,pI (0:Int)],[.arr true 25 3 [],.box [.fl 0,pI n0]],s)):=by
 refine (evE (fn:=Tryz.f19) (by kernel_rfl)).trans ?_
 generalize evC (FO lf) d=cl
 unfold WU;kernel_rfl
noncomputable abbrev JK:Code:=E6 Tryz.f11
noncomputable def Bw (lf:Nat):Cfg:=C0 lf [11] (A3 [(7,[0,3,0,0,17,0,0])]) [(19,EE),(15,Oc),(20,Ob),(21,EQ)] (A3 [(15,[4,0]),(14,[6]),(13,[0,5,17,0,0]),(10,[4,0]),(12,[4,0]),(11,[0,5,17,0,0,8]),(9,[0,5,1,0,14,0,0,4]),(8,[0,5,1,0,14,0,0]),(7,[0,5,17,0,0,0]),(6,[0,5,17,0,0]),(3,[4,0]),(5,[4,0]),(4,[0,5,12]),(2,[0,0,4,0,7]),(1,[0,0,4,0]),(0,[0,0])]) [15,20] (A3 [(1,[0,5]),(2,[0,5,17,0,0]),(3,[0,5,17,0,0]),(0,[0,5])]) (some [4,0]) [] [] []
noncomputable def Q1 {R:Type} (lf n:Nat) (pins_z0 pins_t1:Bool) (pins2:LL) (n3 n4:Int) (l5:LL) (n6:Int) (k0:Int->LL->Int->By->Bool->Int->Option R) (k1:Bool->Bool->LL->LL->Int->Option R):Option R:=match n with | 0=>none | n+1=>cond (ltI n4 n3) (cond (inR n4 pins2.length) (cond (okE ⟨true,true,[.str,.bool,.int .i64]⟩ pins2 (Int.toNat n4) 0) (vl (gX pins2 (Int.toNat n4) 0) λs'2=>vl (gE pins2 (Int.toNat n4) 2) λn'3=>cond (A2 s'2.length) (cond (not (Hp s'2 n'3)) (k0 1 l5 n6 s'2 (gY pins2 (Int.toNat n4) 1) n'3) (cond (ltI 0 n4) (cond (inR (A5 (n4-1)) pins2.length) (cond (okE Qm pins2 (Int.toNat (A5 (n4-1))) 0) (vl (gX pins2 (Int.toNat (A5 (n4-1))) 0) λs'4=>cond (A2 s'4.length) (cond (A2 s'2.length) (cond (not (ltI (J2 s'4 s'2) (0:Int))) (k0 8 l5 n6 s'2 (gY pins2 (Int.toNat n4) 1) n'3) (Q1 lf n pins_z0 pins_t1 pins2 n3 (A5 (n4+1)) l5 n6 k0 k1)) none) none) none) none) (Q1 lf n pins_z0 pins_t1 pins2 n3 (A5 (n4+1)) l5 n6 k0 k1))) none) none) none) (k1 pins_z0 pins_t1 pins2 l5 n6)
theorem HY (n pins_z0 pins_t1 pins2 n3 n4 l5 n6):H4 2 ((Bw lf).keep 7) (bd (Bw lf) cl yh (cd [1,1,1,0,1,0,0] JK)) n ⟨gp [(0,.s (.sl pins_z0 pins_t1 3 pins2)),(5,.ptr 1 0 0),(17,.s (.sl pins_z0 pins_t1 3 pins2)),(0,pI n3),(0,pI n4)] 30,[.arr true 25 3 l5,.box [.fl 0,pI n6]],s⟩ k =
 Q1 lf n pins_z0 pins_t1 pins2 n3 n4 l5 n6 (λn0 l1 n2 s3 b4 n5=>k .ret ⟨gp [(4,.s (.nilp)),(0,pI n0)] 51,[.arr true 25 3 l1,.box [.fl 0,pI n2],.box [pS s3,pB b4,pI n5]],s⟩) (λpins_z0 pins_t1 pins2 l3 n4=>k (.exit 1) ⟨gp [(0,.s (.sl pins_z0 pins_t1 3 pins2)),(5,.ptr 1 0 0)] 50,[.arr true 25 3 l3,.box [.fl 0,pI n4]],s⟩):=by
 induction n generalizing pins_z0 pins_t1 pins2 n3 n4 l5 n6 with
 | zero=>rfl
 | succ n ih=>rw [Q1];simp only [<-ih];kernel_rfl
noncomputable def Qd {R:Type} (lf:Nat) (t_z t_t:Bool) (t:LL) (cp:Int) (k0:LL->Int->Option R) (k1:Int->LL->Int->By->Bool->Int->Option R) (k2:LL->Int->Bool->LL->Option R):Option R:=cond ((ltI 0 cp)&&(ltI cp 1001)) (cond (ltI cp (t.length:Int)) (k0 List.nil cp) (Q1 lf lf t_z t_t t (t.length:Int) 0 List.nil cp (λn'5 l'6 n'7 s'8 b'9 n'10=>k1 n'5 l'6 n'7 s'8 b'9 n'10) (λpins_z'11 pins_t'12 pins'13 l'14 n'15=>cond (A2 pins'13.length) (cond (M0 pins_z'11 pins'13) (k2 l'14 n'15 pins_z'11 pins'13) none) none))) none
theorem Qe (d:Nat) (t_z t_t t cp):evC (Bw lf) (d+1) σ yh 11 [.s (.sl t_z t_t 3 t),pI cp] [] s=Qd lf t_z t_t t cp (λl0 n1=>some (.tup [.s (.nilp),pI (11:Int)],[.arr true 25 3 l0,.box [.fl 0,pI n1]],s)) (λr0 l1 n2 s3 b4 n5=>some (.tup [.s (.nilp),pI r0],[.arr true 25 3 l1,.box [.fl 0,pI n2],.box [pS s3,pB b4,pI n5]],s)) (λl0 n1 z2 l3=>some (.tup [.ptr 1 0 0,pI (0:Int)],[.arr true 25 3 l0,.box [.fl 2,pI n1],.arr z2 25 3 l3],s)):=by
 refine (evE (fn:=Tryz.f11) (by kernel_rfl)).trans ?_
 generalize evC (Bw lf) d=cl
 unfold Qd;exact (Eq.trans (by kernel_rfl) (A0 (A0 rfl ((HY lf cl yh s (O4 1 (P3 (Bw lf) cl yh (cd [1,1,1,1] JK) (J6 (Bw lf) Tryz.f11))) lf t_z t_t t (t.length:Int) 0 List.nil cp).trans (by kernel_rfl))) rfl))
noncomputable def FI (lf:Nat):Cfg:=C0 lf [45] (A3 []) [(69,NQ)] (A3 [(6,[4,0]),(5,[4,0]),(4,[0,3,1,14]),(3,[0,3,1,0]),(2,[4,0]),(1,[0,0,2,4]),(0,[0,0,2])]) [69] (A3 []) (some [4,0]) [] [] []
noncomputable def WE {R:Type} (lf:Nat) (lz lt:Bool) (l:LL) (q:By) (k0:By->Bool->Bool->By->Bool->Option R):Option R:=cond (List.all l E4) (cond (List.all l smE) (cond (A2 l.length) (cond (A2 q.length) (vl (↑(bsI (List.map Prod.fst (List.map A6 l)) q):Int) λn'1=>cond (not (bsB (List.map Prod.fst (List.map A6 l)) q)) (k0 ([]:List UInt8) false false ([]:List UInt8) false) (cond (inR n'1 l.length) (cond (okE ⟨true,true,[.str,.bool]⟩ l (Int.toNat n'1) 0) (k0 (gX l (Int.toNat n'1) 0) (gY l (Int.toNat n'1) 1) true (gX l (Int.toNat n'1) 0) (gY l (Int.toNat n'1) 1)) none) none)) none) none) none) none
theorem Ap1 (d:Nat) (lz lt l q):evC (FI lf) (d+1) σ yh 45 [.s (.sp [[.sl lz lt 2 l]] 0 0),pS q] [] s=WE lf lz lt l q (λr0 r1 r2 s3 b4=>some (.tup [.agg [pS r0,pB r1],pB r2],[.box [pS s3,pB b4]],s)):=by
 refine (evE (fn:=Tryz.f45) (by kernel_rfl)).trans ?_
 generalize evC (FI lf) d=cl
 unfold WE;kernel_rfl
noncomputable abbrev WF (lz lt:Bool) (l:LL) (q:By):Option (PV × List Blk × Unit):=WE LF lz lt l q (λr0 r1 r2 s3 b4=>some (.tup [.agg [pS r0,pB r1],pB r2],[.box [pS s3,pB b4]],()))
noncomputable def FJ (lf:Nat):Cfg:=C0 lf [45] (A3 []) [] (A3 [(6,[4,0]),(5,[4,0]),(4,[0,3,1,14]),(3,[0,3,1,0]),(2,[4,0]),(1,[0,0,2,4]),(0,[0,0,2])]) [] (A3 []) (some [4,0]) [] [] []
noncomputable def Ap3 {R:Type} (lf:Nat) (q:By) (k0:Unit->Option R):Option R:=k0 ()
theorem Ap4 (d:Nat) (q):evC (FJ lf) (d+1) σ yh 45 [.s (.nilp),pS q] [] s=Ap3 lf q (λ_=>some (.tup [.agg [pS ([]:List UInt8),pB false],pB false],[.box [pS ([]:List UInt8),pB false]],s)):=by
 refine (evE (fn:=Tryz.f45) (by kernel_rfl)).trans ?_
 generalize evC (FJ lf) d=cl
 unfold Ap3;kernel_rfl
noncomputable abbrev A35 (q:By):Option (PV × List Blk × Unit):=Ap3 LF q (λ_=>some (.tup [.agg [pS ([]:List UInt8),pB false],pB false],[.box [pS ([]:List UInt8),pB false]],()))
noncomputable def FP (lf:Nat):Cfg:=C0 lf [14] (A3 []) [(31,OA)] (A3 [(3,[4,0]),(2,[4,0]),(1,[0,0,5]),(0,[0,0])]) [31] (A3 []) (some [4,0]) [] [] []
noncomputable def XA {R:Type} (lf:Nat) (tz tt:Bool) (t:LL) (cp:Int) (q:By) (k0:Int->Bool->Option R):Option R:=cond (List.all t D1) (cond (List.all t smE) (cond (A2 t.length) (cond (A2 q.length) (vl (↑(bsI (List.map Prod.fst (List.map A4 t)) q):Int) λn'0=>k0 n'0 (bsB (List.map Prod.fst (List.map A4 t)) q)) none) none) none) none
theorem As8 (d:Nat) (tz tt t cp q):evC (FP lf) (d+1) σ yh 14 [.s (.sp [[.sl tz tt 3 t,.int .i64 cp]] 0 0),pS q] [] s=XA lf tz tt t cp q (λr0 r1=>some (.tup [pI r0,pB r1],[],s)):=by
 refine (evE (fn:=Tryz.f14) (by kernel_rfl)).trans ?_
 generalize evC (FP lf) d=cl
 unfold XA;kernel_rfl
noncomputable def FQ (lf:Nat):Cfg:=C0 lf [14] (A3 []) [] (A3 [(3,[4,0]),(2,[4,0]),(1,[0,0,5]),(0,[0,0])]) [] (A3 []) (some [4,0]) [] [] []
noncomputable def As9 {R:Type} (lf:Nat) (q:By) (k0:Unit->Option R):Option R:=k0 ()
theorem At0 (d:Nat) (q):evC (FQ lf) (d+1) σ yh 14 [.s (.nilp),pS q] [] s=As9 lf q (λ_=>some (.tup [pI (0:Int),pB false],[],s)):=by
 refine (evE (fn:=Tryz.f14) (by kernel_rfl)).trans ?_
 generalize evC (FQ lf) d=cl
 unfold As9;kernel_rfl
noncomputable def FR (lf:Nat):Cfg:=C0 lf [9] (A3 []) [(14,Up)] (A3 [(4,[4,0]),(3,[4,0]),(2,[0,3,1,8]),(1,[0,3,1,0]),(0,[0,0,2])]) [14] (A3 []) (some [4,0]) [] [] []
noncomputable def XB {R:Type} (lf:Nat) (tz tt:Bool) (t:LL) (cp:Int) (q:By) (k0:By->Bool->Int->Bool->By->Bool->Int->Option R):Option R:=cond (List.all t D1) (cond (List.all t smE) (cond (A2 t.length) (cond (A2 q.length) (vl (↑(bsI (List.map Prod.fst (List.map A4 t)) q):Int) λn'1=>cond (not (bsB (List.map Prod.fst (List.map A4 t)) q)) (k0 ([]:List UInt8) false 0 false ([]:List UInt8) false 0) (cond (inR n'1 t.length) (cond (okE ⟨true,true,[.str,.bool,.int .i64]⟩ t (Int.toNat n'1) 0) (k0 (gX t (Int.toNat n'1) 0) (gY t (Int.toNat n'1) 1) (gE t (Int.toNat n'1) 2) true (gX t (Int.toNat n'1) 0) (gY t (Int.toNat n'1) 1) (gE t (Int.toNat n'1) 2)) none) none)) none) none) none) none
theorem At1 (d:Nat) (tz tt t cp q):evC (FR lf) (d+1) σ yh 9 [.s (.sp [[.sl tz tt 3 t,.int .i64 cp]] 0 0),pS q] [] s=XB lf tz tt t cp q (λr0 r1 r2 r3 s4 b5 n6=>some (.tup [.agg [pS r0,pB r1,pI r2],pB r3],[.box [pS s4,pB b5,pI n6]],s)):=by
 refine (evE (fn:=Tryz.f9) (by kernel_rfl)).trans ?_
 generalize evC (FR lf) d=cl
 unfold XB;kernel_rfl
noncomputable abbrev XC (tz tt:Bool) (t:LL) (cp:Int) (q:By):Option (PV × List Blk × Unit):=XB LF tz tt t cp q (λr0 r1 r2 r3 s4 b5 n6=>some (.tup [.agg [pS r0,pB r1,pI r2],pB r3],[.box [pS s4,pB b5,pI n6]],()))
noncomputable def FS (lf:Nat):Cfg:=C0 lf [9] (A3 []) [(14,Up)] (A3 [(4,[4,0]),(3,[4,0]),(2,[0,3,1,8]),(1,[0,3,1,0]),(0,[0,0,2])]) [14] (A3 []) (some [4,0]) [] [] []
noncomputable def At3 {R:Type} (lf:Nat) (q:By) (k0:Unit->Option R):Option R:=k0 ()
theorem At4 (d:Nat) (q):evC (FS lf) (d+1) σ yh 9 [.s (.nilp),pS q] [] s=At3 lf q (λ_=>some (.tup [.agg [pS ([]:List UInt8),pB false,pI (0:Int)],pB false],[.box [pS ([]:List UInt8),pB false,pI (0:Int)]],s)):=by
 refine (evE (fn:=Tryz.f9) (by kernel_rfl)).trans ?_
 generalize evC (FS lf) d=cl
 unfold At3;kernel_rfl
noncomputable abbrev A97 (q:By):Option (PV × List Blk × Unit):=At3 LF q (λ_=>some (.tup [.agg [pS ([]:List UInt8),pB false,pI (0:Int)],pB false],[.box [pS ([]:List UInt8),pB false,pI (0:Int)]],()))
noncomputable abbrev EZ:Code:=E6 Tryz.f29
noncomputable def Dx (lf:Nat):Cfg:=C0 lf [29] (A3 []) [(9,Jy),(44,EI),(45,Ug)] (A3 [(7,[10,0]),(6,[10,0]),(5,[3,0,5,42]),(4,[3,0,5,3,0]),(3,[10,0]),(2,[2,0,0,5,25]),(1,[0,1,0,0,5,1,0]),(0,[0,0,0,0,0,5])]) [44] (A3 []) (some [10,0]) [] [] []
noncomputable def Sx {R:Type} (l2:LL) (name3:By) (exact4 b5:Bool) (s6:By) (n7:Int) (k0:Bool->Int->By->Bool->By->Bool->Int->By->Bool->Option R):Option R:=cond (List.all l2 E4) (cond (List.all l2 smE) (cond (A2 l2.length) (cond (A2 name3.length) (vl (((L3 (List.map A6 l2) name3)).1).1 λs'9=>cond ((L3 (List.map A6 l2) name3)).2 (cond exact4 (k0 true 2 name3 exact4 s6 b5 n7 s'9 (((L3 (List.map A6 l2) name3)).1).2) (cond (((L3 (List.map A6 l2) name3)).1).2 (k0 true 2 name3 exact4 s6 b5 n7 s'9 (((L3 (List.map A6 l2) name3)).1).2) (k0 false 0 ([]:List UInt8) false s6 b5 n7 s'9 (((L3 (List.map A6 l2) name3)).1).2))) (k0 false 0 ([]:List UInt8) false s6 b5 n7 s'9 (((L3 (List.map A6 l2) name3)).1).2)) none) none) none) none
abbrev Zu (b:Code):Prop:=∀ (k:Out->St σ->Option R) l_z0 l_t1 l2 name3 exact4 b5 s6 n7,B0 (Dx lf) cl yh b ⟨gp [(2,.s (.sp [[.sl l_z0 l_t1 2 l2]] 0 0)),(0,pS name3),(0,pB exact4),(5,.ptr 0 0 0),(25,pB b5)] 21,[.box [pI (0:Int),pS ([]:List UInt8),pB false],.box [pS s6,pB b5,pI n7]],s⟩ k=Sx l2 name3 exact4 b5 s6 n7 (λb0 n1 s2 b3 s4 b5 n6 s7 b8=>k .ret ⟨gp [(10,.ptr 0 0 0),(0,pB b0)] 46,[.box [pI n1,pS s2,pB b3],.box [pS s4,pB b5,pI n6],.box [pS s7,pB b8]],s⟩)
theorem PM:Zu (R:=R) lf cl yh s (cd [1,1] EZ):=by
 intro k l_z0 l_t1 l2 name3 exact4 b5 s6 n7;unfold Sx;kernel_rfl
noncomputable def Lh {R:Type} (l2:LL) (name3:By) (exact4:Bool) (s5:By) (b6:Bool) (n7:Int) (k0:Bool->Int->By->Bool->By->Bool->Int->By->Bool->Option R):Option R:=cond (List.all l2 E4) (cond (List.all l2 smE) (cond (A2 l2.length) (cond (A2 name3.length) (vl (((L3 (List.map A6 l2) name3)).1).1 λs'20=>cond ((L3 (List.map A6 l2) name3)).2 (cond exact4 (k0 true 2 name3 exact4 s5 b6 n7 s'20 (((L3 (List.map A6 l2) name3)).1).2) (cond (((L3 (List.map A6 l2) name3)).1).2 (k0 true 2 name3 exact4 s5 b6 n7 s'20 (((L3 (List.map A6 l2) name3)).1).2) (k0 false 0 ([]:List UInt8) false s5 b6 n7 s'20 (((L3 (List.map A6 l2) name3)).1).2))) (k0 false 0 ([]:List UInt8) false s5 b6 n7 s'20 (((L3 (List.map A6 l2) name3)).1).2)) none) none) none) none
abbrev Zv (b:Code):Prop:=∀ (k:Out->St σ->Option R) l_z0 l_t1 l2 name3 exact4 s5 b6 n7,B0 (Dx lf) cl yh b ⟨gp [(2,.s (.sp [[.sl l_z0 l_t1 2 l2]] 0 0)),(0,pS name3),(0,pB exact4),(5,.ptr 0 0 0),(25,pB false)] 21,[.box [pI (0:Int),pS ([]:List UInt8),pB false],.box [pS s5,pB b6,pI n7]],s⟩ k=Lh l2 name3 exact4 s5 b6 n7 (λb0 n1 s2 b3 s4 b5 n6 s7 b8=>k .ret ⟨gp [(10,.ptr 0 0 0),(0,pB b0)] 46,[.box [pI n1,pS s2,pB b3],.box [pS s4,pB b5,pI n6],.box [pS s7,pB b8]],s⟩)
theorem PN:Zv (R:=R) lf cl yh s (cd [1,1] EZ):=by
 intro k l_z0 l_t1 l2 name3 exact4 s5 b6 n7;unfold Lh;kernel_rfl
noncomputable def Ak2 {R:Type} (lf:Nat) (now:Int) (tz tt:Bool) (t:LL) (cp:Int) (lz lt:Bool) (l:LL) (u:By) (ex:Bool) (k0:By->Bool->By->Bool->Int->Option R) (k1:Int->By->Bool->Bool->By->Bool->Int->By->Bool->Option R):Option R:=cond (List.all t D1) (cond (List.all t smE) (cond (A2 t.length) (cond (A2 u.length) (vl (((E0 (List.map A4 t) u)).1).1 λs'6=>vl ((((E0 (List.map A4 t) u)).1).2).2 λn'7=>cond ((E0 (List.map A4 t) u)).2 (cond (not (not (ltI now n'7))) (cond ex (k0 u ex s'6 ((((E0 (List.map A4 t) u)).1).2).1 n'7) (cond ((((E0 (List.map A4 t) u)).1).2).1 (k0 u ex s'6 ((((E0 (List.map A4 t) u)).1).2).1 n'7) (Sx l u ex ((((E0 (List.map A4 t) u)).1).2).1 s'6 n'7 (λb'10 n'11 s'12 b'13 s'14 b'15 n'16 s'17 b'18=>k1 n'11 s'12 b'13 b'10 s'14 b'15 n'16 s'17 b'18)))) (Lh l u ex s'6 ((((E0 (List.map A4 t) u)).1).2).1 n'7 (λb'21 n'22 s'23 b'24 s'25 b'26 n'27 s'28 b'29=>k1 n'22 s'23 b'24 b'21 s'25 b'26 n'27 s'28 b'29))) (Lh l u ex s'6 ((((E0 (List.map A4 t) u)).1).2).1 n'7 (λb'30 n'31 s'32 b'33 s'34 b'35 n'36 s'37 b'38=>k1 n'31 s'32 b'33 b'30 s'34 b'35 n'36 s'37 b'38))) none) none) none) none
theorem Ax5 (b_11:Code) (h_catA_j0:Zu (R:=PV × List Blk × σ) lf cl yh s b_11) (h_catA_j1:Zv (R:=PV × List Blk × σ) lf cl yh s b_11) (now:Int) (tz tt:Bool) (t:LL) (cp:Int) (lz lt:Bool) (l:LL) (u:By) (ex:Bool):B0 (Dx lf) cl yh (cd [] (U1 [1,1] b_11 EZ)) ⟨[pI now,.s (.sp [[.sl tz tt 3 t,.int .i64 cp]] 0 0),.s (.sp [[.sl lz lt 2 l]] 0 0),pS u,pB ex]++tps 53,[],s⟩ (J6 (Dx lf) Tryz.f29)=Ak2 lf now tz tt t cp lz lt l u ex (λr0 r1 s2 b3 n4=>some (.tup [.agg [pI (1:Int),pS r0,pB r1],pB true],[.box [pI (1:Int),pS r0,pB r1],.box [pS s2,pB b3,pI n4]],s)) (λr0 r1 r2 r3 s4 b5 n6 s7 b8=>some (.tup [.agg [pI r0,pS r1,pB r2],pB r3],[.box [pI r0,pS r1,pB r2],.box [pS s4,pB b5,pI n6],.box [pS s7,pB b8]],s)):=by
 unfold Ak2;exact let K0:=(J6 (Dx lf) Tryz.f29);(Eq.trans (by kernel_rfl) (A0 (A0 (A0 (A0 (B9 λs'6=>(B9 λn'7=>(A0 (A0 (A0 rfl (A0 rfl ((h_catA_j0 K0 lz lt l u ex ((((E0 (List.map A4 t) u)).1).2).1 s'6 n'7).trans (by kernel_rfl)))) ((h_catA_j1 K0 lz lt l u ex s'6 ((((E0 (List.map A4 t) u)).1).2).1 n'7).trans (by kernel_rfl))) ((h_catA_j1 K0 lz lt l u ex s'6 ((((E0 (List.map A4 t) u)).1).2).1 n'7).trans (by kernel_rfl))))) rfl) rfl) rfl) rfl))
theorem Ax6 (d:Nat) (now tz tt t cp lz lt l u ex):evC (Dx lf) (d+1) σ yh 29 [pI now,.s (.sp [[.sl tz tt 3 t,.int .i64 cp]] 0 0),.s (.sp [[.sl lz lt 2 l]] 0 0),pS u,pB ex] [] s=Ak2 lf now tz tt t cp lz lt l u ex (λr0 r1 s2 b3 n4=>some (.tup [.agg [pI (1:Int),pS r0,pB r1],pB true],[.box [pI (1:Int),pS r0,pB r1],.box [pS s2,pB b3,pI n4]],s)) (λr0 r1 r2 r3 s4 b5 n6 s7 b8=>some (.tup [.agg [pI r0,pS r1,pB r2],pB r3],[.box [pI r0,pS r1,pB r2],.box [pS s4,pB b5,pI n6],.box [pS s7,pB b8]],s)):=
 (evE (fn:=Tryz.f29) (by kernel_rfl)).trans (Eq.trans (by kernel_rfl) (Ax5 lf (evC (Dx lf) d) yh s (cd [1,1] EZ) (PM lf (evC (Dx lf) d) yh s) (PN lf (evC (Dx lf) d) yh s) now tz tt t cp lz lt l u ex))
noncomputable abbrev Ak3 (now:Int) (tz tt:Bool) (t:LL) (cp:Int) (lz lt:Bool) (l:LL) (u:By) (ex:Bool):Option (PV × List Blk × Unit):=Ak2 LF now tz tt t cp lz lt l u ex (λr0 r1 s2 b3 n4=>some (.tup [.agg [pI (1:Int),pS r0,pB r1],pB true],[.box [pI (1:Int),pS r0,pB r1],.box [pS s2,pB b3,pI n4]],())) (λr0 r1 r2 r3 s4 b5 n6 s7 b8=>some (.tup [.agg [pI r0,pS r1,pB r2],pB r3],[.box [pI r0,pS r1,pB r2],.box [pS s4,pB b5,pI n6],.box [pS s7,pB b8]],()))
noncomputable def ON (lf:Nat):Cfg:=C0 lf [29] (A3 []) [(9,Jy),(45,Ug)] (A3 [(7,[10,0]),(6,[10,0]),(5,[3,0,5,42]),(4,[3,0,5,3,0]),(3,[10,0]),(2,[2,0,0,5,25]),(1,[0,1,0,0,5,1,0]),(0,[0,0,0,0,0,5])]) [] (A3 []) (some [10,0]) [] [] []
noncomputable def Ax8 {R:Type} (lf:Nat) (now:Int) (lz lt:Bool) (l:LL) (u:By) (ex:Bool) (k0:Int->By->Bool->Bool->Int->By->Bool->Option R):Option R:=cond (List.all l E4) (cond (List.all l smE) (cond (A2 l.length) (cond (A2 u.length) (vl (((L3 (List.map A6 l) u)).1).1 λs'1=>cond ((L3 (List.map A6 l) u)).2 (cond ex (k0 2 u ex true 2 s'1 (((L3 (List.map A6 l) u)).1).2) (cond (((L3 (List.map A6 l) u)).1).2 (k0 2 u ex true 2 s'1 (((L3 (List.map A6 l) u)).1).2) (k0 0 ([]:List UInt8) false false 0 s'1 (((L3 (List.map A6 l) u)).1).2))) (k0 0 ([]:List UInt8) false false 0 s'1 (((L3 (List.map A6 l) u)).1).2)) none) none) none) none
theorem Ax9 (d:Nat) (now lz lt l u ex):evC (ON lf) (d+1) σ yh 29 [pI now,.s (.nilp),.s (.sp [[.sl lz lt 2 l]] 0 0),pS u,pB ex] [] s=Ax8 lf now lz lt l u ex (λr0 r1 r2 r3 n4 s5 b6=>some (.tup [.agg [pI r0,pS r1,pB r2],pB r3],[.box [pI n4,pS r1,pB r2],.box [pS ([]:List UInt8),pB false,pI (0:Int)],.box [pS s5,pB b6]],s)):=by
 refine (evE (fn:=Tryz.f29) (by kernel_rfl)).trans ?_
 generalize evC (ON lf) d=cl
 unfold Ax8;kernel_rfl
noncomputable abbrev Ak4 (now:Int) (lz lt:Bool) (l:LL) (u:By) (ex:Bool):Option (PV × List Blk × Unit):=Ax8 LF now lz lt l u ex (λr0 r1 r2 r3 n4 s5 b6=>some (.tup [.agg [pI r0,pS r1,pB r2],pB r3],[.box [pI n4,pS r1,pB r2],.box [pS ([]:List UInt8),pB false,pI (0:Int)],.box [pS s5,pB b6]],()))
noncomputable abbrev FC:Code:=E6 Tryz.f29
noncomputable def Dy (lf:Nat):Cfg:=C0 lf [29] (A3 []) [(9,Jy),(44,EI),(45,Ug)] (A3 [(7,[10,0]),(6,[10,0]),(5,[3,0,5,42]),(4,[3,0,5,3,0]),(3,[10,0]),(2,[2,0,0,5,25]),(1,[0,1,0,0,5,1,0]),(0,[0,0,0,0,0,5])]) [44] (A3 []) (some [10,0]) [] [] []
noncomputable def Sy {R:Type} (b2:Bool) (s3:By) (n4:Int) (k0:By->Bool->Int->Option R):Option R:=k0 s3 b2 n4
abbrev Zw (b:Code):Prop:=∀ (k:Out->St σ->Option R) name0 exact1 b2 s3 n4,B0 (Dy lf) cl yh b ⟨gp [(2,.s (.nilp)),(0,pS name0),(0,pB exact1),(5,.ptr 0 0 0),(25,pB b2)] 21,[.box [pI (0:Int),pS ([]:List UInt8),pB false],.box [pS s3,pB b2,pI n4]],s⟩ k=Sy b2 s3 n4 (λs0 b1 n2=>k .ret ⟨gp [(10,.ptr 0 0 0),(0,pB false)] 46,[.box [pI (0:Int),pS ([]:List UInt8),pB false],.box [pS s0,pB b1,pI n2],.box [pS ([]:List UInt8),pB false]],s⟩)
theorem PO:Zw (R:=R) lf cl yh s (cd [1,1] FC):=by
 intro k name0 exact1 b2 s3 n4;unfold Sy;kernel_rfl
noncomputable def Li {R:Type} (s2:By) (b3:Bool) (n4:Int) (k0:By->Bool->Int->Option R):Option R:=k0 s2 b3 n4
abbrev Zx (b:Code):Prop:=∀ (k:Out->St σ->Option R) name0 exact1 s2 b3 n4,B0 (Dy lf) cl yh b ⟨gp [(2,.s (.nilp)),(0,pS name0),(0,pB exact1),(5,.ptr 0 0 0),(25,pB false)] 21,[.box [pI (0:Int),pS ([]:List UInt8),pB false],.box [pS s2,pB b3,pI n4]],s⟩ k=Li s2 b3 n4 (λs0 b1 n2=>k .ret ⟨gp [(10,.ptr 0 0 0),(0,pB false)] 46,[.box [pI (0:Int),pS ([]:List UInt8),pB false],.box [pS s0,pB b1,pI n2],.box [pS ([]:List UInt8),pB false]],s⟩)
theorem PP:Zx (R:=R) lf cl yh s (cd [1,1] FC):=by
 intro k name0 exact1 s2 b3 n4;unfold Li;kernel_rfl
noncomputable def Ak5 {R:Type} (lf:Nat) (now:Int) (tz tt:Bool) (t:LL) (cp:Int) (u:By) (ex:Bool) (k0:By->Bool->By->Bool->Int->Option R) (k1:By->Bool->Int->Option R):Option R:=cond (List.all t D1) (cond (List.all t smE) (cond (A2 t.length) (cond (A2 u.length) (vl (((E0 (List.map A4 t) u)).1).1 λs'6=>vl ((((E0 (List.map A4 t) u)).1).2).2 λn'7=>cond ((E0 (List.map A4 t) u)).2 (cond (not (not (ltI now n'7))) (cond ex (k0 u ex s'6 ((((E0 (List.map A4 t) u)).1).2).1 n'7) (cond ((((E0 (List.map A4 t) u)).1).2).1 (k0 u ex s'6 ((((E0 (List.map A4 t) u)).1).2).1 n'7) (Sy ((((E0 (List.map A4 t) u)).1).2).1 s'6 n'7 (λs'8 b'9 n'10=>k1 s'8 b'9 n'10)))) (Li s'6 ((((E0 (List.map A4 t) u)).1).2).1 n'7 (λs'11 b'12 n'13=>k1 s'11 b'12 n'13))) (Li s'6 ((((E0 (List.map A4 t) u)).1).2).1 n'7 (λs'14 b'15 n'16=>k1 s'14 b'15 n'16))) none) none) none) none
theorem Ay1 (b_11:Code) (h_catC_j0:Zw (R:=PV × List Blk × σ) lf cl yh s b_11) (h_catC_j1:Zx (R:=PV × List Blk × σ) lf cl yh s b_11) (now:Int) (tz tt:Bool) (t:LL) (cp:Int) (u:By) (ex:Bool):B0 (Dy lf) cl yh (cd [] (U1 [1,1] b_11 FC)) ⟨[pI now,.s (.sp [[.sl tz tt 3 t,.int .i64 cp]] 0 0),.s (.nilp),pS u,pB ex]++tps 53,[],s⟩ (J6 (Dy lf) Tryz.f29)=Ak5 lf now tz tt t cp u ex (λr0 r1 s2 b3 n4=>some (.tup [.agg [pI (1:Int),pS r0,pB r1],pB true],[.box [pI (1:Int),pS r0,pB r1],.box [pS s2,pB b3,pI n4]],s)) (λs0 b1 n2=>some (.tup [.agg [pI (0:Int),pS ([]:List UInt8),pB false],pB false],[.box [pI (0:Int),pS ([]:List UInt8),pB false],.box [pS s0,pB b1,pI n2],.box [pS ([]:List UInt8),pB false]],s)):=by
 unfold Ak5;exact let K0:=(J6 (Dy lf) Tryz.f29);(Eq.trans (by kernel_rfl) (A0 (A0 (A0 (A0 (B9 λs'6=>(B9 λn'7=>(A0 (A0 (A0 rfl (A0 rfl ((h_catC_j0 K0 u ex ((((E0 (List.map A4 t) u)).1).2).1 s'6 n'7).trans (by kernel_rfl)))) ((h_catC_j1 K0 u ex s'6 ((((E0 (List.map A4 t) u)).1).2).1 n'7).trans (by kernel_rfl))) ((h_catC_j1 K0 u ex s'6 ((((E0 (List.map A4 t) u)).1).2).1 n'7).trans (by kernel_rfl))))) rfl) rfl) rfl) rfl))
theorem Ay2 (d:Nat) (now tz tt t cp u ex):evC (Dy lf) (d+1) σ yh 29 [pI now,.s (.sp [[.sl tz tt 3 t,.int .i64 cp]] 0 0),.s (.nilp),pS u,pB ex] [] s=Ak5 lf now tz tt t cp u ex (λr0 r1 s2 b3 n4=>some (.tup [.agg [pI (1:Int),pS r0,pB r1],pB true],[.box [pI (1:Int),pS r0,pB r1],.box [pS s2,pB b3,pI n4]],s)) (λs0 b1 n2=>some (.tup [.agg [pI (0:Int),pS ([]:List UInt8),pB false],pB false],[.box [pI (0:Int),pS ([]:List UInt8),pB false],.box [pS s0,pB b1,pI n2],.box [pS ([]:List UInt8),pB false]],s)):=
 (evE (fn:=Tryz.f29) (by kernel_rfl)).trans (Eq.trans (by kernel_rfl) (Ay1 lf (evC (Dy lf) d) yh s (cd [1,1] FC) (PO lf (evC (Dy lf) d) yh s) (PP lf (evC (Dy lf) d) yh s) now tz tt t cp u ex))
noncomputable abbrev Ak6 (now:Int) (tz tt:Bool) (t:LL) (cp:Int) (u:By) (ex:Bool):Option (PV × List Blk × Unit):=Ak5 LF now tz tt t cp u ex (λr0 r1 s2 b3 n4=>some (.tup [.agg [pI (1:Int),pS r0,pB r1],pB true],[.box [pI (1:Int),pS r0,pB r1],.box [pS s2,pB b3,pI n4]],())) (λs0 b1 n2=>some (.tup [.agg [pI (0:Int),pS ([]:List UInt8),pB false],pB false],[.box [pI (0:Int),pS ([]:List UInt8),pB false],.box [pS s0,pB b1,pI n2],.box [pS ([]:List UInt8),pB false]],()))
noncomputable def OO (lf:Nat):Cfg:=C0 lf [29] (A3 []) [(9,Jy),(45,Ug)] (A3 [(7,[10,0]),(6,[10,0]),(5,[3,0,5,42]),(4,[3,0,5,3,0]),(3,[10,0]),(2,[2,0,0,5,25]),(1,[0,1,0,0,5,1,0]),(0,[0,0,0,0,0,5])]) [] (A3 []) (some [10,0]) [] [] []
noncomputable def Ay4 {R:Type} (lf:Nat) (now:Int) (u:By) (ex:Bool) (k0:Unit->Option R):Option R:=k0 ()
theorem Ay5 (d:Nat) (now u ex):evC (OO lf) (d+1) σ yh 29 [pI now,.s (.nilp),.s (.nilp),pS u,pB ex] [] s=Ay4 lf now u ex (λ_=>some (.tup [.agg [pI (0:Int),pS ([]:List UInt8),pB false],pB false],[.box [pI (0:Int),pS ([]:List UInt8),pB false],.box [pS ([]:List UInt8),pB false,pI (0:Int)],.box [pS ([]:List UInt8),pB false]],s)):=by
 refine (evE (fn:=Tryz.f29) (by kernel_rfl)).trans ?_
 generalize evC (OO lf) d=cl
 unfold Ay4;kernel_rfl
noncomputable abbrev Ak7 (now:Int) (u:By) (ex:Bool):Option (PV × List Blk × Unit):=Ay4 LF now u ex (λ_=>some (.tup [.agg [pI (0:Int),pS ([]:List UInt8),pB false],pB false],[.box [pI (0:Int),pS ([]:List UInt8),pB false],.box [pS ([]:List UInt8),pB false,pI (0:Int)],.box [pS ([]:List UInt8),pB false]],()))
noncomputable abbrev Oj:Code:=E6 Tryz.f13
noncomputable def Bn (lf:Nat):Cfg:=C0 lf [13] (A3 []) [(28,Dt),(29,La),(30,Dr)] (A3 [(12,[8]),(11,[8,0]),(10,[4,0,0,1,0,3,33]),(9,[4,0,0,1,0,3,0]),(8,[4,0,0,1,0,2]),(7,[4,0,0,1,0,27]),(6,[8]),(5,[4,0,0,0,0,0,0,22]),(4,[4,0,0,0,0,0,0,0]),(3,[8]),(2,[4,0,0,0,0,0,12]),(1,[4,0,0,0,0,0]),(0,[4,0,0,0,0])]) [28] (A3 [(0,[8,0]),(1,[4,0,0,1,0])]) (some [8]) [] [(46,U3)] []
noncomputable def Lk {R:Type} (lf:Nat) (x'4:By) (xs:List By) (self:Int->Bool->Bool->LL->Int->Bool->Bool->LL->Int->By->Int->Int->Int->Int->Int->Int->Int->Int->Int->Int->By->Bool->Option R) (n0:Int) (z1 t2:Bool) (l3:LL) (n4:Int) (z5 t6:Bool) (l7:LL) (n8v:Int) (s9:By) (n10 n11 n12 n13 n14 n15 n16 n17 n18 n19:Int) (s20:By) (b21:Bool) (k0:Int->Bool->Bool->LL->Int->Bool->Bool->LL->Int->By->Int->Int->Int->Int->Int->Int->Int->Int->Int->Int->By->Bool->Option R) (k1:Int->Bool->Bool->LL->Int->Bool->Bool->LL->Int->By->Int->Int->Int->Int->Int->Int->Int->Int->Int->Int->By->Bool->Int->By->Bool->Option R):Option R:=cond (List.all l3 D1) (cond (List.all l3 smE) (cond (A2 l3.length) (cond (List.all l7 E4) (cond (List.all l7 smE) (cond (A2 l7.length) (cond (A2 x'4.length) (vl (((atV n0 (List.map A4 l3) (List.map A6 l7) x'4 false)).1).1 λn'5=>vl ((((atV n0 (List.map A4 l3) (List.map A6 l7) x'4 false)).1).2).1 λs'6=>cond ((atV n0 (List.map A4 l3) (List.map A6 l7) x'4 false)).2 (k1 n0 z1 t2 l3 n4 z5 t6 l7 n8v s9 n10 n11 n12 n13 n14 n15 n16 n17 n18 n'5 s'6 ((((atV n0 (List.map A4 l3) (List.map A6 l7) x'4 false)).1).2).2 n19 s20 b21) (self n0 z1 t2 l3 n4 z5 t6 l7 n8v s9 n10 n11 n12 n13 n14 n15 n16 n17 n18 n19 s20 b21)) none) none) none) none) none) none) none
noncomputable def Lj {R:Type} (lf:Nat) (L:List By) (n0:Int) (z1 t2:Bool) (l3:LL) (n4:Int) (z5 t6:Bool) (l7:LL) (n8v:Int) (s9:By) (n10 n11 n12 n13 n14 n15 n16 n17 n18 n19:Int) (s20:By) (b21:Bool) (k0:Int->Bool->Bool->LL->Int->Bool->Bool->LL->Int->By->Int->Int->Int->Int->Int->Int->Int->Int->Int->Int->By->Bool->Option R) (k1:Int->Bool->Bool->LL->Int->Bool->Bool->LL->Int->By->Int->Int->Int->Int->Int->Int->Int->Int->Int->Int->By->Bool->Int->By->Bool->Option R):Option R:=Ab3 (α:=Int->Bool->Bool->LL->Int->Bool->Bool->LL->Int->By->Int->Int->Int->Int->Int->Int->Int->Int->Int->Int->By->Bool->Option R) (λn0 z1 t2 l3 n4 z5 t6 l7 n8v s9 n10 n11 n12 n13 n14 n15 n16 n17 n18 n19 s20 b21=>k0 n0 z1 t2 l3 n4 z5 t6 l7 n8v s9 n10 n11 n12 n13 n14 n15 n16 n17 n18 n19 s20 b21) (λx'4 xs self n0 z1 t2 l3 n4 z5 t6 l7 n8v s9 n10 n11 n12 n13 n14 n15 n16 n17 n18 n19 s20 b21=>Lk lf x'4 xs self n0 z1 t2 l3 n4 z5 t6 l7 n8v s9 n10 n11 n12 n13 n14 n15 n16 n17 n18 n19 s20 b21 k0 k1) L n0 z1 t2 l3 n4 z5 t6 l7 n8v s9 n10 n11 n12 n13 n14 n15 n16 n17 n18 n19 s20 b21
theorem Zz {R:Type} (lf:Nat) (x'4:By) (xs:List By) (n0:Int) (z1 t2:Bool) (l3:LL) (n4:Int) (z5 t6:Bool) (l7:LL) (n8v:Int) (s9:By) (n10 n11 n12 n13 n14 n15 n16 n17 n18 n19:Int) (s20:By) (b21:Bool) (k0:Int->Bool->Bool->LL->Int->Bool->Bool->LL->Int->By->Int->Int->Int->Int->Int->Int->Int->Int->Int->Int->By->Bool->Option R) (k1:Int->Bool->Bool->LL->Int->Bool->Bool->LL->Int->By->Int->Int->Int->Int->Int->Int->Int->Int->Int->Int->By->Bool->Int->By->Bool->Option R):Lj lf (x'4::xs) n0 z1 t2 l3 n4 z5 t6 l7 n8v s9 n10 n11 n12 n13 n14 n15 n16 n17 n18 n19 s20 b21 k0 k1=Lk lf x'4 xs (λn0 z1 t2 l3 n4 z5 t6 l7 n8v s9 n10 n11 n12 n13 n14 n15 n16 n17 n18 n19 s20 b21=>Lj lf xs n0 z1 t2 l3 n4 z5 t6 l7 n8v s9 n10 n11 n12 n13 n14 n15 n16 n17 n18 n19 s20 b21 k0 k1) n0 z1 t2 l3 n4 z5 t6 l7 n8v s9 n10 n11 n12 n13 n14 n15 n16 n17 n18 n19 s20 b21 k0 k1:=rfl
theorem PS (L:List By) (n0:Int) (z1 t2:Bool) (l3:LL) (n4:Int) (z5 t6:Bool) (l7:LL) (n8v:Int) (s9:By) (n10 n11 n12 n13 n14 n15 n16 n17 n18 n19:Int) (s20:By) (b21:Bool):L5 #[38] (gp [(4,.ptr 0 0 0),(0,.ptr 1 0 0),(0,.ptr 2 0 0),(1,.ptr 4 0 0),(0,.ptr 5 0 0),(27,.fnr (Fn.func 46) [] [.bad])] 12) (bd (Bn lf) cl yh (cd [1,0,1,1,1,1,0,1,0,0] Oj)) (bd (Bn lf) cl yh (cd [1,0,1,1,1,1,0,1,0,1] Oj)) (L.map (λ(x'4:By)=>([pS x'4]:List PV))) [.box [pI n0],.box [.s (.sp [[.sl z1 t2 3 l3,.int .i64 n4]] 0 0)],.box [.s (.sp [[.sl z5 t6 2 l7]] 0 0)],.box [pI n8v,pS s9,p32 n10,p16 n11,p16 n12,p16 n13,p16 n14,p16 n15,p16 n16,p16 n17,p16 n18],.box [pI (0:Int),pS ([]:List UInt8),pB false],.box [pI (0:Int),pS ([]:List UInt8),pB false],.box [pI n19,pS s20,pB b21],.dead] s (rgK (gp [(4,.ptr 0 0 0),(0,.ptr 1 0 0),(0,.ptr 2 0 0),(1,.ptr 4 0 0),(0,.ptr 5 0 0),(27,.fnr (Fn.func 46) [] [.bad])] 12) (λH=>N2 H [7] [.box [.bad]]) k) =
 Lj lf L n0 z1 t2 l3 n4 z5 t6 l7 n8v s9 n10 n11 n12 n13 n14 n15 n16 n17 n18 n19 s20 b21 (λn0 z1 t2 l3 n4 z5 t6 l7 n8v s9 n10 n11 n12 n13 n14 n15 n16 n17 n18 n19 s20 b21=>k .normal ⟨gp [(4,.ptr 0 0 0),(0,.ptr 1 0 0),(0,.ptr 2 0 0),(1,.ptr 4 0 0),(0,.ptr 5 0 0),(27,.fnr (Fn.func 46) [] [.bad])] 12,[.box [pI n0],.box [.s (.sp [[.sl z1 t2 3 l3,.int .i64 n4]] 0 0)],.box [.s (.sp [[.sl z5 t6 2 l7]] 0 0)],.box [pI n8v,pS s9,p32 n10,p16 n11,p16 n12,p16 n13,p16 n14,p16 n15,p16 n16,p16 n17,p16 n18],.box [pI (0:Int),pS ([]:List UInt8),pB false],.box [pI (0:Int),pS ([]:List UInt8),pB false],.box [pI n19,pS s20,pB b21],.box [.bad]],s⟩) (λn0 z1 t2 l3 n4 z5 t6 l7 n8v s9 n10 n11 n12 n13 n14 n15 n16 n17 n18 n19 s20 b21 n22 s23 b24=>k (.exit 0) ⟨gp [(4,.ptr 0 0 0),(0,.ptr 1 0 0),(0,.ptr 2 0 0),(1,.ptr 4 0 0),(0,.ptr 5 0 0),(27,.fnr (Fn.func 46) [] [.bad])] 12,[.box [pI n0],.box [.s (.sp [[.sl z1 t2 3 l3,.int .i64 n4]] 0 0)],.box [.s (.sp [[.sl z5 t6 2 l7]] 0 0)],.box [pI n8v,pS s9,p32 n10,p16 n11,p16 n12,p16 n13,p16 n14,p16 n15,p16 n16,p16 n17,p16 n18],.box [pI (0:Int),pS ([]:List UInt8),pB false],.box [pI n19,pS s20,pB b21],.box [pI n22,pS s23,pB b24],.box [.bad]],s⟩):=by
 induction L generalizing n0 z1 t2 l3 n4 z5 t6 l7 n8v s9 n10 n11 n12 n13 n14 n15 n16 n17 n18 n19 s20 b21 with
 | nil=>rfl
 | cons x'4 xs ih=>rw [Zz];unfold Lk;exact (Eq.trans (by kernel_rfl) (A0 (A0 (A0 (A0 (A0 (A0 (A0 (B9 λn'5=>(B9 λs'6=>(A0 rfl (ih n0 z1 t2 l3 n4 z5 t6 l7 n8v s9 n10 n11 n12 n13 n14 n15 n16 n17 n18 n19 s20 b21)))) rfl) rfl) rfl) rfl) rfl) rfl) rfl))
noncomputable def Sz {R:Type} (lf:Nat) (n0:Int) (z1 t2:Bool) (l3:LL) (n4:Int) (z5 t6:Bool) (l7:LL) (n8v:Int) (s9:By) (n10 n11 n12 n13 n14 n15 n16 n17 n18 n19:Int) (s20:By) (b21:Bool) (k0:Int->Bool->Bool->LL->Int->Bool->Bool->LL->Int->By->Int->Int->Int->Int->Int->Int->Int->Int->Int->Int->By->Bool->Option R) (k1:Int->Bool->Bool->LL->Int->Bool->Bool->LL->Int->By->Int->Int->Int->Int->Int->Int->Int->Int->Int->Int->By->Bool->Int->By->Bool->Option R):Option R:=cond (A2 s9.length) (Lj lf (E3 s9) n0 z1 t2 l3 n4 z5 t6 l7 n8v s9 n10 n11 n12 n13 n14 n15 n16 n17 n18 n19 s20 b21 k0 k1) none
abbrev Zy (b:Code):Prop:=∀ (k:Out->St σ->Option R) n0 z1 t2 l3 n4 z5 t6 l7 n8v s9 n10 n11 n12 n13 n14 n15 n16 n17 n18 n19 s20 b21,B0 (Bn lf) cl yh b ⟨gp [(4,.ptr 0 0 0),(0,.ptr 1 0 0),(0,.ptr 2 0 0),(1,.ptr 4 0 0),(0,.ptr 5 0 0),(27,.fnr (Fn.func 46) [] [.ptr 7 0 0])] 12,[.box [pI n0],.box [.s (.sp [[.sl z1 t2 3 l3,.int .i64 n4]] 0 0)],.box [.s (.sp [[.sl z5 t6 2 l7]] 0 0)],.box [pI n8v,pS s9,p32 n10,p16 n11,p16 n12,p16 n13,p16 n14,p16 n15,p16 n16,p16 n17,p16 n18],.box [pI (0:Int),pS ([]:List UInt8),pB false],.box [pI (0:Int),pS ([]:List UInt8),pB false],.box [pI n19,pS s20,pB b21],.box [pS s9]],s⟩ k=Sz lf n0 z1 t2 l3 n4 z5 t6 l7 n8v s9 n10 n11 n12 n13 n14 n15 n16 n17 n18 n19 s20 b21 (λn0 z1 t2 l3 n4 z5 t6 l7 n8v s9 n10 n11 n12 n13 n14 n15 n16 n17 n18 n19 s20 b21=>k .normal ⟨gp [(4,.ptr 0 0 0),(0,.ptr 1 0 0),(0,.ptr 2 0 0),(1,.ptr 4 0 0),(0,.ptr 5 0 0),(27,.fnr (Fn.func 46) [] [.bad])] 12,[.box [pI n0],.box [.s (.sp [[.sl z1 t2 3 l3,.int .i64 n4]] 0 0)],.box [.s (.sp [[.sl z5 t6 2 l7]] 0 0)],.box [pI n8v,pS s9,p32 n10,p16 n11,p16 n12,p16 n13,p16 n14,p16 n15,p16 n16,p16 n17,p16 n18],.box [pI (0:Int),pS ([]:List UInt8),pB false],.box [pI (0:Int),pS ([]:List UInt8),pB false],.box [pI n19,pS s20,pB b21],.box [.bad]],s⟩) (λn0 z1 t2 l3 n4 z5 t6 l7 n8v s9 n10 n11 n12 n13 n14 n15 n16 n17 n18 n19 s20 b21 n22 s23 b24=>k (.exit 0) ⟨gp [(4,.ptr 0 0 0),(0,.ptr 1 0 0),(0,.ptr 2 0 0),(1,.ptr 4 0 0),(0,.ptr 5 0 0),(27,.fnr (Fn.func 46) [] [.bad])] 12,[.box [pI n0],.box [.s (.sp [[.sl z1 t2 3 l3,.int .i64 n4]] 0 0)],.box [.s (.sp [[.sl z5 t6 2 l7]] 0 0)],.box [pI n8v,pS s9,p32 n10,p16 n11,p16 n12,p16 n13,p16 n14,p16 n15,p16 n16,p16 n17,p16 n18],.box [pI (0:Int),pS ([]:List UInt8),pB false],.box [pI n19,pS s20,pB b21],.box [pI n22,pS s23,pB b24],.box [.bad]],s⟩)
theorem PQ:Zy (R:=R) lf cl yh s (cd [1,0,1,1,1,1,0,1,0] Oj):=by
 intro k n0 z1 t2 l3 n4 z5 t6 l7 n8v s9 n10 n11 n12 n13 n14 n15 n16 n17 n18 n19 s20 b21;unfold Sz;exact ((KE [1,0,1,1,1,1,0,1,0] (by kernel_rfl)).trans (by kernel_rfl)).trans (Ch (PS lf cl yh s k (E3 s9) n0 z1 t2 l3 n4 z5 t6 l7 n8v s9 n10 n11 n12 n13 n14 n15 n16 n17 n18 n19 s20 b21))
noncomputable def Al0 {R:Type} (lf:Nat) (now:Int) (tz tt:Bool) (t:LL) (cp:Int) (lz lt:Bool) (l:LL) (kd:Int) (nm:By) (v4 a0 a1 a2 a3 a4 a5 a6 a7:Int) (k0:Int->Bool->Bool->LL->Int->Bool->Bool->LL->Int->By->Int->Int->Int->Int->Int->Int->Int->Int->Int->Option R) (k1:Int->By->Bool->Int->Bool->Bool->LL->Int->Bool->Bool->LL->Int->By->Int->Int->Int->Int->Int->Int->Int->Int->Int->Option R) (k2:Int->By->Bool->Int->Bool->Bool->LL->Int->Bool->Bool->LL->Int->By->Int->Int->Int->Int->Int->Int->Int->Int->Int->Int->By->Bool->Int->By->Bool->Int->By->Bool->Option R):Option R:=cond (kd != 1) (k0 now tz tt t cp lz lt l kd nm v4 a0 a1 a2 a3 a4 a5 a6 a7) (cond (A2 nm.length) (cond (ltN v4 4294967296) (cond (ok8 a0 a1 a2 a3 a4 a5 a6 a7) (cond (not (Q9 (mkH kd nm v4 (n8 a0 a1 a2 a3 a4 a5 a6 a7)))) (k0 now tz tt t cp lz lt l kd nm v4 a0 a1 a2 a3 a4 a5 a6 a7) (cond (List.all t D1) (cond (List.all t smE) (cond (A2 t.length) (cond (List.all l E4) (cond (List.all l smE) (cond (A2 l.length) (cond (A2 nm.length) (vl (((atV now (List.map A4 t) (List.map A6 l) nm true)).1).1 λn'2=>vl ((((atV now (List.map A4 t) (List.map A6 l) nm true)).1).2).1 λs'3=>cond ((atV now (List.map A4 t) (List.map A6 l) nm true)).2 (k1 n'2 s'3 ((((atV now (List.map A4 t) (List.map A6 l) nm true)).1).2).2 now tz tt t cp lz lt l kd nm v4 a0 a1 a2 a3 a4 a5 a6 a7) (Sz lf now tz tt t cp lz lt l kd nm v4 a0 a1 a2 a3 a4 a5 a6 a7 n'2 s'3 ((((atV now (List.map A4 t) (List.map A6 l) nm true)).1).2).2 (λn'7 z'8 t'9 l'10 n'11 z'12 t'13 l'14 n'15 s'16 n'17 n'18 n'19 n'20 n'21 n'22 n'23 n'24 n'25 n'26 s'27 b'28=>k2 0 ([]:List UInt8) false n'7 z'8 t'9 l'10 n'11 z'12 t'13 l'14 n'15 s'16 n'17 n'18 n'19 n'20 n'21 n'22 n'23 n'24 n'25 0 ([]:List UInt8) false 0 ([]:List UInt8) false n'26 s'27 b'28) (λn'29 z'30 t'31 l'32 n'33 z'34 t'35 l'36 n'37 s'38 n'39 n'40 n'41 n'42 n'43 n'44 n'45 n'46 n'47 n'48 s'49 b'50 n'51 s'52 b'53=>k2 n'48 s'49 b'50 n'29 z'30 t'31 l'32 n'33 z'34 t'35 l'36 n'37 s'38 n'39 n'40 n'41 n'42 n'43 n'44 n'45 n'46 n'47 n'48 s'49 b'50 n'48 s'49 b'50 n'51 s'52 b'53))) none) none) none) none) none) none) none)) none) none) none)
theorem Ay7 (b_101111010:Code) (h_cfdA_e1:Zy (R:=PV × List Blk × σ) lf cl yh s b_101111010) (now:Int) (tz tt:Bool) (t:LL) (cp:Int) (lz lt:Bool) (l:LL) (kd:Int) (nm:By) (v4 a0 a1 a2 a3 a4 a5 a6 a7:Int):B0 (Bn lf) cl yh (cd [] (U1 [1,0,1,1,1,1,0,1,0] b_101111010 Oj)) ⟨[pI now,.s (.sp [[.sl tz tt 3 t,.int .i64 cp]] 0 0),.s (.sp [[.sl lz lt 2 l]] 0 0),.agg [pI kd,pS nm,p32 v4,p16 a0,p16 a1,p16 a2,p16 a3,p16 a4,p16 a5,p16 a6,p16 a7]]++tps 46,[],s⟩ (J6 (Bn lf) Tryz.f13)=Al0 lf now tz tt t cp lz lt l kd nm v4 a0 a1 a2 a3 a4 a5 a6 a7 (λn0 z1 t2 l3 n4 z5 t6 l7 n8v s9 n10 n11 n12 n13 n14 n15 n16 n17 n18=>some (.agg [pI (0:Int),pS ([]:List UInt8),pB false],[.box [pI n0],.box [.s (.sp [[.sl z1 t2 3 l3,.int .i64 n4]] 0 0)],.box [.s (.sp [[.sl z5 t6 2 l7]] 0 0)],.box [pI n8v,pS s9,p32 n10,p16 n11,p16 n12,p16 n13,p16 n14,p16 n15,p16 n16,p16 n17,p16 n18],.box [pI (0:Int),pS ([]:List UInt8),pB false],.box [pI (0:Int),pS ([]:List UInt8),pB false]],s)) (λr0 r1 r2 n3 z4 t5 l6 n7 z8 t9 l10 n11 s12 n13 n14 n15 n16 n17 n18 n19 n20 n21=>some (.agg [pI r0,pS r1,pB r2],[.box [pI n3],.box [.s (.sp [[.sl z4 t5 3 l6,.int .i64 n7]] 0 0)],.box [.s (.sp [[.sl z8 t9 2 l10]] 0 0)],.box [pI n11,pS s12,p32 n13,p16 n14,p16 n15,p16 n16,p16 n17,p16 n18,p16 n19,p16 n20,p16 n21],.box [pI r0,pS r1,pB r2],.box [pI (0:Int),pS ([]:List UInt8),pB false],.box [pI r0,pS r1,pB r2]],s)) (λr0 r1 r2 n3 z4 t5 l6 n7 z8 t9 l10 n11 s12 n13 n14 n15 n16 n17 n18 n19 n20 n21 n22 s23 b24 n25 s26 b27 n28 s29 b30=>some (.agg [pI r0,pS r1,pB r2],[.box [pI n3],.box [.s (.sp [[.sl z4 t5 3 l6,.int .i64 n7]] 0 0)],.box [.s (.sp [[.sl z8 t9 2 l10]] 0 0)],.box [pI n11,pS s12,p32 n13,p16 n14,p16 n15,p16 n16,p16 n17,p16 n18,p16 n19,p16 n20,p16 n21],.box [pI n22,pS s23,pB b24],.box [pI n25,pS s26,pB b27],.box [pI n28,pS s29,pB b30],.box [.bad]],s)):=by
 unfold Al0;exact (Eq.trans (by kernel_rfl) (A0 rfl (A0 (A0 (A0 (A0 rfl (A0 (A0 (A0 (A0 (A0 (A0 (A0 (B9 λn'2=>(B9 λs'3=>(A0 rfl ((h_cfdA_e1 (O4 0 (P3 (Bn lf) cl yh (cd [1,0,1,1,1,1,1] Oj) (J6 (Bn lf) Tryz.f13))) now tz tt t cp lz lt l kd nm v4 a0 a1 a2 a3 a4 a5 a6 a7 n'2 s'3 ((((atV now (List.map A4 t) (List.map A6 l) nm true)).1).2).2).trans (by kernel_rfl))))) rfl) rfl) rfl) rfl) rfl) rfl) rfl)) rfl) rfl) rfl)))
theorem Ay8 (d:Nat) (now tz tt t cp lz lt l kd nm v4 a0 a1 a2 a3 a4 a5 a6 a7):evC (Bn lf) (d+1) σ yh 13 [pI now,.s (.sp [[.sl tz tt 3 t,.int .i64 cp]] 0 0),.s (.sp [[.sl lz lt 2 l]] 0 0),.agg [pI kd,pS nm,p32 v4,p16 a0,p16 a1,p16 a2,p16 a3,p16 a4,p16 a5,p16 a6,p16 a7]] [] s=Al0 lf now tz tt t cp lz lt l kd nm v4 a0 a1 a2 a3 a4 a5 a6 a7 (λn0 z1 t2 l3 n4 z5 t6 l7 n8v s9 n10 n11 n12 n13 n14 n15 n16 n17 n18=>some (.agg [pI (0:Int),pS ([]:List UInt8),pB false],[.box [pI n0],.box [.s (.sp [[.sl z1 t2 3 l3,.int .i64 n4]] 0 0)],.box [.s (.sp [[.sl z5 t6 2 l7]] 0 0)],.box [pI n8v,pS s9,p32 n10,p16 n11,p16 n12,p16 n13,p16 n14,p16 n15,p16 n16,p16 n17,p16 n18],.box [pI (0:Int),pS ([]:List UInt8),pB false],.box [pI (0:Int),pS ([]:List UInt8),pB false]],s)) (λr0 r1 r2 n3 z4 t5 l6 n7 z8 t9 l10 n11 s12 n13 n14 n15 n16 n17 n18 n19 n20 n21=>some (.agg [pI r0,pS r1,pB r2],[.box [pI n3],.box [.s (.sp [[.sl z4 t5 3 l6,.int .i64 n7]] 0 0)],.box [.s (.sp [[.sl z8 t9 2 l10]] 0 0)],.box [pI n11,pS s12,p32 n13,p16 n14,p16 n15,p16 n16,p16 n17,p16 n18,p16 n19,p16 n20,p16 n21],.box [pI r0,pS r1,pB r2],.box [pI (0:Int),pS ([]:List UInt8),pB false],.box [pI r0,pS r1,pB r2]],s)) (λr0 r1 r2 n3 z4 t5 l6 n7 z8 t9 l10 n11 s12 n13 n14 n15 n16 n17 n18 n19 n20 n21 n22 s23 b24 n25 s26 b27 n28 s29 b30=>some (.agg [pI r0,pS r1,pB r2],[.box [pI n3],.box [.s (.sp [[.sl z4 t5 3 l6,.int .i64 n7]] 0 0)],.box [.s (.sp [[.sl z8 t9 2 l10]] 0 0)],.box [pI n11,pS s12,p32 n13,p16 n14,p16 n15,p16 n16,p16 n17,p16 n18,p16 n19,p16 n20,p16 n21],.box [pI n22,pS s23,pB b24],.box [pI n25,pS s26,pB b27],.box [pI n28,pS s29,pB b30],.box [.bad]],s)):=
 (evE (fn:=Tryz.f13) (by kernel_rfl)).trans (Eq.trans (by kernel_rfl) (Ay7 lf (evC (Bn lf) d) yh s (cd [1,0,1,1,1,1,0,1,0] Oj) (PQ lf (evC (Bn lf) d) yh s) now tz tt t cp lz lt l kd nm v4 a0 a1 a2 a3 a4 a5 a6 a7))
noncomputable abbrev Al1 (now:Int) (tz tt:Bool) (t:LL) (cp:Int) (lz lt:Bool) (l:LL) (kd:Int) (nm:By) (v4 a0 a1 a2 a3 a4 a5 a6 a7:Int):Option (PV × List Blk × Unit):=Al0 LF now tz tt t cp lz lt l kd nm v4 a0 a1 a2 a3 a4 a5 a6 a7 (λn0 z1 t2 l3 n4 z5 t6 l7 n8v s9 n10 n11 n12 n13 n14 n15 n16 n17 n18=>some (.agg [pI (0:Int),pS ([]:List UInt8),pB false],[.box [pI n0],.box [.s (.sp [[.sl z1 t2 3 l3,.int .i64 n4]] 0 0)],.box [.s (.sp [[.sl z5 t6 2 l7]] 0 0)],.box [pI n8v,pS s9,p32 n10,p16 n11,p16 n12,p16 n13,p16 n14,p16 n15,p16 n16,p16 n17,p16 n18],.box [pI (0:Int),pS ([]:List UInt8),pB false],.box [pI (0:Int),pS ([]:List UInt8),pB false]],())) (λr0 r1 r2 n3 z4 t5 l6 n7 z8 t9 l10 n11 s12 n13 n14 n15 n16 n17 n18 n19 n20 n21=>some (.agg [pI r0,pS r1,pB r2],[.box [pI n3],.box [.s (.sp [[.sl z4 t5 3 l6,.int .i64 n7]] 0 0)],.box [.s (.sp [[.sl z8 t9 2 l10]] 0 0)],.box [pI n11,pS s12,p32 n13,p16 n14,p16 n15,p16 n16,p16 n17,p16 n18,p16 n19,p16 n20,p16 n21],.box [pI r0,pS r1,pB r2],.box [pI (0:Int),pS ([]:List UInt8),pB false],.box [pI r0,pS r1,pB r2]],())) (λr0 r1 r2 n3 z4 t5 l6 n7 z8 t9 l10 n11 s12 n13 n14 n15 n16 n17 n18 n19 n20 n21 n22 s23 b24 n25 s26 b27 n28 s29 b30=>some (.agg [pI r0,pS r1,pB r2],[.box [pI n3],.box [.s (.sp [[.sl z4 t5 3 l6,.int .i64 n7]] 0 0)],.box [.s (.sp [[.sl z8 t9 2 l10]] 0 0)],.box [pI n11,pS s12,p32 n13,p16 n14,p16 n15,p16 n16,p16 n17,p16 n18,p16 n19,p16 n20,p16 n21],.box [pI n22,pS s23,pB b24],.box [pI n25,pS s26,pB b27],.box [pI n28,pS s29,pB b30],.box [.bad]],()))
noncomputable abbrev Ok:Code:=E6 Tryz.f13
noncomputable def Bo (lf:Nat):Cfg:=C0 lf [13] (A3 []) [(28,Dt),(29,La),(30,Dr)] (A3 [(12,[8]),(11,[8,0]),(10,[4,0,0,1,0,3,33]),(9,[4,0,0,1,0,3,0]),(8,[4,0,0,1,0,2]),(7,[4,0,0,1,0,27]),(6,[8]),(5,[4,0,0,0,0,0,0,22]),(4,[4,0,0,0,0,0,0,0]),(3,[8]),(2,[4,0,0,0,0,0,12]),(1,[4,0,0,0,0,0]),(0,[4,0,0,0,0])]) [28] (A3 [(0,[8,0]),(1,[4,0,0,1,0])]) (some [8]) [] [(46,U3)] []
noncomputable def Lm {R:Type} (lf:Nat) (x'4:By) (xs:List By) (self:Int->Bool->Bool->LL->Int->By->Int->Int->Int->Int->Int->Int->Int->Int->Int->Int->By->Bool->Option R) (n0:Int) (z1 t2:Bool) (l3:LL) (n4:Int) (s5:By) (n6 n7 n8v n9 n10 n11 n12 n13 n14 n15:Int) (s16:By) (b17:Bool) (k0:Int->Bool->Bool->LL->Int->By->Int->Int->Int->Int->Int->Int->Int->Int->Int->Int->By->Bool->Option R) (k1:Int->Bool->Bool->LL->Int->By->Int->Int->Int->Int->Int->Int->Int->Int->Int->Int->By->Bool->Int->By->Bool->Option R):Option R:=cond (List.all l3 E4) (cond (List.all l3 smE) (cond (A2 l3.length) (cond (A2 x'4.length) (vl (((atV n0 List.nil (List.map A6 l3) x'4 false)).1).1 λn'5=>vl ((((atV n0 List.nil (List.map A6 l3) x'4 false)).1).2).1 λs'6=>cond ((atV n0 List.nil (List.map A6 l3) x'4 false)).2 (k1 n0 z1 t2 l3 n4 s5 n6 n7 n8v n9 n10 n11 n12 n13 n14 n'5 s'6 ((((atV n0 List.nil (List.map A6 l3) x'4 false)).1).2).2 n15 s16 b17) (self n0 z1 t2 l3 n4 s5 n6 n7 n8v n9 n10 n11 n12 n13 n14 n15 s16 b17)) none) none) none) none
noncomputable def Ll {R:Type} (lf:Nat) (L:List By) (n0:Int) (z1 t2:Bool) (l3:LL) (n4:Int) (s5:By) (n6 n7 n8v n9 n10 n11 n12 n13 n14 n15:Int) (s16:By) (b17:Bool) (k0:Int->Bool->Bool->LL->Int->By->Int->Int->Int->Int->Int->Int->Int->Int->Int->Int->By->Bool->Option R) (k1:Int->Bool->Bool->LL->Int->By->Int->Int->Int->Int->Int->Int->Int->Int->Int->Int->By->Bool->Int->By->Bool->Option R):Option R:=Ab3 (α:=Int->Bool->Bool->LL->Int->By->Int->Int->Int->Int->Int->Int->Int->Int->Int->Int->By->Bool->Option R) (λn0 z1 t2 l3 n4 s5 n6 n7 n8v n9 n10 n11 n12 n13 n14 n15 s16 b17=>k0 n0 z1 t2 l3 n4 s5 n6 n7 n8v n9 n10 n11 n12 n13 n14 n15 s16 b17) (λx'4 xs self n0 z1 t2 l3 n4 s5 n6 n7 n8v n9 n10 n11 n12 n13 n14 n15 s16 b17=>Lm lf x'4 xs self n0 z1 t2 l3 n4 s5 n6 n7 n8v n9 n10 n11 n12 n13 n14 n15 s16 b17 k0 k1) L n0 z1 t2 l3 n4 s5 n6 n7 n8v n9 n10 n11 n12 n13 n14 n15 s16 b17
theorem AC {R:Type} (lf:Nat) (x'4:By) (xs:List By) (n0:Int) (z1 t2:Bool) (l3:LL) (n4:Int) (s5:By) (n6 n7 n8v n9 n10 n11 n12 n13 n14 n15:Int) (s16:By) (b17:Bool) (k0:Int->Bool->Bool->LL->Int->By->Int->Int->Int->Int->Int->Int->Int->Int->Int->Int->By->Bool->Option R) (k1:Int->Bool->Bool->LL->Int->By->Int->Int->Int->Int->Int->Int->Int->Int->Int->Int->By->Bool->Int->By->Bool->Option R):Ll lf (x'4::xs) n0 z1 t2 l3 n4 s5 n6 n7 n8v n9 n10 n11 n12 n13 n14 n15 s16 b17 k0 k1=Lm lf x'4 xs (λn0 z1 t2 l3 n4 s5 n6 n7 n8v n9 n10 n11 n12 n13 n14 n15 s16 b17=>Ll lf xs n0 z1 t2 l3 n4 s5 n6 n7 n8v n9 n10 n11 n12 n13 n14 n15 s16 b17 k0 k1) n0 z1 t2 l3 n4 s5 n6 n7 n8v n9 n10 n11 n12 n13 n14 n15 s16 b17 k0 k1:=rfl
theorem PW (L:List By) (n0:Int) (z1 t2:Bool) (l3:LL) (n4:Int) (s5:By) (n6 n7 n8v n9 n10 n11 n12 n13 n14 n15:Int) (s16:By) (b17:Bool):L5 #[38] (gp [(4,.ptr 0 0 0),(0,.ptr 1 0 0),(0,.ptr 2 0 0),(1,.ptr 4 0 0),(0,.ptr 5 0 0),(27,.fnr (Fn.func 46) [] [.bad])] 12) (bd (Bo lf) cl yh (cd [1,0,1,1,1,1,0,1,0,0] Ok)) (bd (Bo lf) cl yh (cd [1,0,1,1,1,1,0,1,0,1] Ok)) (L.map (λ(x'4:By)=>([pS x'4]:List PV))) [.box [pI n0],.box [.s (.nilp)],.box [.s (.sp [[.sl z1 t2 2 l3]] 0 0)],.box [pI n4,pS s5,p32 n6,p16 n7,p16 n8v,p16 n9,p16 n10,p16 n11,p16 n12,p16 n13,p16 n14],.box [pI (0:Int),pS ([]:List UInt8),pB false],.box [pI (0:Int),pS ([]:List UInt8),pB false],.box [pI n15,pS s16,pB b17],.dead] s (rgK (gp [(4,.ptr 0 0 0),(0,.ptr 1 0 0),(0,.ptr 2 0 0),(1,.ptr 4 0 0),(0,.ptr 5 0 0),(27,.fnr (Fn.func 46) [] [.bad])] 12) (λH=>N2 H [7] [.box [.bad]]) k) =
 Ll lf L n0 z1 t2 l3 n4 s5 n6 n7 n8v n9 n10 n11 n12 n13 n14 n15 s16 b17 (λn0 z1 t2 l3 n4 s5 n6 n7 n8v n9 n10 n11 n12 n13 n14 n15 s16 b17=>k .normal ⟨gp [(4,.ptr 0 0 0),(0,.ptr 1 0 0),(0,.ptr 2 0 0),(1,.ptr 4 0 0),(0,.ptr 5 0 0),(27,.fnr (Fn.func 46) [] [.bad])] 12,[.box [pI n0],.box [.s (.nilp)],.box [.s (.sp [[.sl z1 t2 2 l3]] 0 0)],.box [pI n4,pS s5,p32 n6,p16 n7,p16 n8v,p16 n9,p16 n10,p16 n11,p16 n12,p16 n13,p16 n14],.box [pI (0:Int),pS ([]:List UInt8),pB false],.box [pI (0:Int),pS ([]:List UInt8),pB false],.box [pI n15,pS s16,pB b17],.box [.bad]],s⟩) (λn0 z1 t2 l3 n4 s5 n6 n7 n8v n9 n10 n11 n12 n13 n14 n15 s16 b17 n18 s19 b20=>k (.exit 0) ⟨gp [(4,.ptr 0 0 0),(0,.ptr 1 0 0),(0,.ptr 2 0 0),(1,.ptr 4 0 0),(0,.ptr 5 0 0),(27,.fnr (Fn.func 46) [] [.bad])] 12,[.box [pI n0],.box [.s (.nilp)],.box [.s (.sp [[.sl z1 t2 2 l3]] 0 0)],.box [pI n4,pS s5,p32 n6,p16 n7,p16 n8v,p16 n9,p16 n10,p16 n11,p16 n12,p16 n13,p16 n14],.box [pI (0:Int),pS ([]:List UInt8),pB false],.box [pI n15,pS s16,pB b17],.box [pI n18,pS s19,pB b20],.box [.bad]],s⟩):=by
 induction L generalizing n0 z1 t2 l3 n4 s5 n6 n7 n8v n9 n10 n11 n12 n13 n14 n15 s16 b17 with
 | nil=>rfl
 | cons x'4 xs ih=>rw [AC];unfold Lm;exact (Eq.trans (by kernel_rfl) (A0 (A0 (A0 (A0 (B9 λn'5=>(B9 λs'6=>(A0 rfl (ih n0 z1 t2 l3 n4 s5 n6 n7 n8v n9 n10 n11 n12 n13 n14 n15 s16 b17)))) rfl) rfl) rfl) rfl))
noncomputable def Ta {R:Type} (lf:Nat) (n0:Int) (z1 t2:Bool) (l3:LL) (n4:Int) (s5:By) (n6 n7 n8v n9 n10 n11 n12 n13 n14 n15:Int) (s16:By) (b17:Bool) (k0:Int->Bool->Bool->LL->Int->By->Int->Int->Int->Int->Int->Int->Int->Int->Int->Int->By->Bool->Option R) (k1:Int->Bool->Bool->LL->Int->By->Int->Int->Int->Int->Int->Int->Int->Int->Int->Int->By->Bool->Int->By->Bool->Option R):Option R:=cond (A2 s5.length) (Ll lf (E3 s5) n0 z1 t2 l3 n4 s5 n6 n7 n8v n9 n10 n11 n12 n13 n14 n15 s16 b17 k0 k1) none
abbrev AB (b:Code):Prop:=∀ (k:Out->St σ->Option R) n0 z1 t2 l3 n4 s5 n6 n7 n8v n9 n10 n11 n12 n13 n14 n15 s16 b17,B0 (Bo lf) cl yh b ⟨gp [(4,.ptr 0 0 0),(0,.ptr 1 0 0),(0,.ptr 2 0 0),(1,.ptr 4 0 0),(0,.ptr 5 0 0),(27,.fnr (Fn.func 46) [] [.ptr 7 0 0])] 12,[.box [pI n0],.box [.s (.nilp)],.box [.s (.sp [[.sl z1 t2 2 l3]] 0 0)],.box [pI n4,pS s5,p32 n6,p16 n7,p16 n8v,p16 n9,p16 n10,p16 n11,p16 n12,p16 n13,p16 n14],.box [pI (0:Int),pS ([]:List UInt8),pB false],.box [pI (0:Int),pS ([]:List UInt8),pB false],.box [pI n15,pS s16,pB b17],.box [pS s5]],s⟩ k=Ta lf n0 z1 t2 l3 n4 s5 n6 n7 n8v n9 n10 n11 n12 n13 n14 n15 s16 b17 (λn0 z1 t2 l3 n4 s5 n6 n7 n8v n9 n10 n11 n12 n13 n14 n15 s16 b17=>k .normal ⟨gp [(4,.ptr 0 0 0),(0,.ptr 1 0 0),(0,.ptr 2 0 0),(1,.ptr 4 0 0),(0,.ptr 5 0 0),(27,.fnr (Fn.func 46) [] [.bad])] 12,[.box [pI n0],.box [.s (.nilp)],.box [.s (.sp [[.sl z1 t2 2 l3]] 0 0)],.box [pI n4,pS s5,p32 n6,p16 n7,p16 n8v,p16 n9,p16 n10,p16 n11,p16 n12,p16 n13,p16 n14],.box [pI (0:Int),pS ([]:List UInt8),pB false],.box [pI (0:Int),pS ([]:List UInt8),pB false],.box [pI n15,pS s16,pB b17],.box [.bad]],s⟩) (λn0 z1 t2 l3 n4 s5 n6 n7 n8v n9 n10 n11 n12 n13 n14 n15 s16 b17 n18 s19 b20=>k (.exit 0) ⟨gp [(4,.ptr 0 0 0),(0,.ptr 1 0 0),(0,.ptr 2 0 0),(1,.ptr 4 0 0),(0,.ptr 5 0 0),(27,.fnr (Fn.func 46) [] [.bad])] 12,[.box [pI n0],.box [.s (.nilp)],.box [.s (.sp [[.sl z1 t2 2 l3]] 0 0)],.box [pI n4,pS s5,p32 n6,p16 n7,p16 n8v,p16 n9,p16 n10,p16 n11,p16 n12,p16 n13,p16 n14],.box [pI (0:Int),pS ([]:List UInt8),pB false],.box [pI n15,pS s16,pB b17],.box [pI n18,pS s19,pB b20],.box [.bad]],s⟩)
theorem PU:AB (R:=R) lf cl yh s (cd [1,0,1,1,1,1,0,1,0] Ok):=by
 intro k n0 z1 t2 l3 n4 s5 n6 n7 n8v n9 n10 n11 n12 n13 n14 n15 s16 b17;unfold Ta;exact ((KE [1,0,1,1,1,1,0,1,0] (by kernel_rfl)).trans (by kernel_rfl)).trans (Ch (PW lf cl yh s k (E3 s5) n0 z1 t2 l3 n4 s5 n6 n7 n8v n9 n10 n11 n12 n13 n14 n15 s16 b17))
noncomputable def Al2 {R:Type} (lf:Nat) (now:Int) (lz lt:Bool) (l:LL) (kd:Int) (nm:By) (v4 a0 a1 a2 a3 a4 a5 a6 a7:Int) (k0:Int->Bool->Bool->LL->Int->By->Int->Int->Int->Int->Int->Int->Int->Int->Int->Option R) (k1:Int->By->Bool->Int->Bool->Bool->LL->Int->By->Int->Int->Int->Int->Int->Int->Int->Int->Int->Option R) (k2:Int->By->Bool->Int->Bool->Bool->LL->Int->By->Int->Int->Int->Int->Int->Int->Int->Int->Int->Int->By->Bool->Int->By->Bool->Int->By->Bool->Option R):Option R:=cond (kd != 1) (k0 now lz lt l kd nm v4 a0 a1 a2 a3 a4 a5 a6 a7) (cond (A2 nm.length) (cond (ltN v4 4294967296) (cond (ok8 a0 a1 a2 a3 a4 a5 a6 a7) (cond (not (Q9 (mkH kd nm v4 (n8 a0 a1 a2 a3 a4 a5 a6 a7)))) (k0 now lz lt l kd nm v4 a0 a1 a2 a3 a4 a5 a6 a7) (cond (List.all l E4) (cond (List.all l smE) (cond (A2 l.length) (cond (A2 nm.length) (vl (((atV now List.nil (List.map A6 l) nm true)).1).1 λn'2=>vl ((((atV now List.nil (List.map A6 l) nm true)).1).2).1 λs'3=>cond ((atV now List.nil (List.map A6 l) nm true)).2 (k1 n'2 s'3 ((((atV now List.nil (List.map A6 l) nm true)).1).2).2 now lz lt l kd nm v4 a0 a1 a2 a3 a4 a5 a6 a7) (Ta lf now lz lt l kd nm v4 a0 a1 a2 a3 a4 a5 a6 a7 n'2 s'3 ((((atV now List.nil (List.map A6 l) nm true)).1).2).2 (λn'7 z'8 t'9 l'10 n'11 s'12 n'13 n'14 n'15 n'16 n'17 n'18 n'19 n'20 n'21 n'22 s'23 b'24=>k2 0 ([]:List UInt8) false n'7 z'8 t'9 l'10 n'11 s'12 n'13 n'14 n'15 n'16 n'17 n'18 n'19 n'20 n'21 0 ([]:List UInt8) false 0 ([]:List UInt8) false n'22 s'23 b'24) (λn'25 z'26 t'27 l'28 n'29 s'30 n'31 n'32 n'33 n'34 n'35 n'36 n'37 n'38 n'39 n'40 s'41 b'42 n'43 s'44 b'45=>k2 n'40 s'41 b'42 n'25 z'26 t'27 l'28 n'29 s'30 n'31 n'32 n'33 n'34 n'35 n'36 n'37 n'38 n'39 n'40 s'41 b'42 n'40 s'41 b'42 n'43 s'44 b'45))) none) none) none) none)) none) none) none)
theorem Az0 (b_101111010:Code) (h_cfdB_e1:AB (R:=PV × List Blk × σ) lf cl yh s b_101111010) (now:Int) (lz lt:Bool) (l:LL) (kd:Int) (nm:By) (v4 a0 a1 a2 a3 a4 a5 a6 a7:Int):B0 (Bo lf) cl yh (cd [] (U1 [1,0,1,1,1,1,0,1,0] b_101111010 Ok)) ⟨[pI now,.s (.nilp),.s (.sp [[.sl lz lt 2 l]] 0 0),.agg [pI kd,pS nm,p32 v4,p16 a0,p16 a1,p16 a2,p16 a3,p16 a4,p16 a5,p16 a6,p16 a7]]++tps 46,[],s⟩ (J6 (Bo lf) Tryz.f13)=Al2 lf now lz lt l kd nm v4 a0 a1 a2 a3 a4 a5 a6 a7 (λn0 z1 t2 l3 n4 s5 n6 n7 n8v n9 n10 n11 n12 n13 n14=>some (.agg [pI (0:Int),pS ([]:List UInt8),pB false],[.box [pI n0],.box [.s (.nilp)],.box [.s (.sp [[.sl z1 t2 2 l3]] 0 0)],.box [pI n4,pS s5,p32 n6,p16 n7,p16 n8v,p16 n9,p16 n10,p16 n11,p16 n12,p16 n13,p16 n14],.box [pI (0:Int),pS ([]:List UInt8),pB false],.box [pI (0:Int),pS ([]:List UInt8),pB false]],s)) (λr0 r1 r2 n3 z4 t5 l6 n7 s8 n9 n10 n11 n12 n13 n14 n15 n16 n17=>some (.agg [pI r0,pS r1,pB r2],[.box [pI n3],.box [.s (.nilp)],.box [.s (.sp [[.sl z4 t5 2 l6]] 0 0)],.box [pI n7,pS s8,p32 n9,p16 n10,p16 n11,p16 n12,p16 n13,p16 n14,p16 n15,p16 n16,p16 n17],.box [pI r0,pS r1,pB r2],.box [pI (0:Int),pS ([]:List UInt8),pB false],.box [pI r0,pS r1,pB r2]],s)) (λr0 r1 r2 n3 z4 t5 l6 n7 s8 n9 n10 n11 n12 n13 n14 n15 n16 n17 n18 s19 b20 n21 s22 b23 n24 s25 b26=>some (.agg [pI r0,pS r1,pB r2],[.box [pI n3],.box [.s (.nilp)],.box [.s (.sp [[.sl z4 t5 2 l6]] 0 0)],.box [pI n7,pS s8,p32 n9,p16 n10,p16 n11,p16 n12,p16 n13,p16 n14,p16 n15,p16 n16,p16 n17],.box [pI n18,pS s19,pB b20],.box [pI n21,pS s22,pB b23],.box [pI n24,pS s25,pB b26],.box [.bad]],s)):=by
 unfold Al2;exact (Eq.trans (by kernel_rfl) (A0 rfl (A0 (A0 (A0 (A0 rfl (A0 (A0 (A0 (A0 (B9 λn'2=>(B9 λs'3=>(A0 rfl ((h_cfdB_e1 (O4 0 (P3 (Bo lf) cl yh (cd [1,0,1,1,1,1,1] Ok) (J6 (Bo lf) Tryz.f13))) now lz lt l kd nm v4 a0 a1 a2 a3 a4 a5 a6 a7 n'2 s'3 ((((atV now List.nil (List.map A6 l) nm true)).1).2).2).trans (by kernel_rfl))))) rfl) rfl) rfl) rfl)) rfl) rfl) rfl)))
theorem Az1 (d:Nat) (now lz lt l kd nm v4 a0 a1 a2 a3 a4 a5 a6 a7):evC (Bo lf) (d+1) σ yh 13 [pI now,.s (.nilp),.s (.sp [[.sl lz lt 2 l]] 0 0),.agg [pI kd,pS nm,p32 v4,p16 a0,p16 a1,p16 a2,p16 a3,p16 a4,p16 a5,p16 a6,p16 a7]] [] s=Al2 lf now lz lt l kd nm v4 a0 a1 a2 a3 a4 a5 a6 a7 (λn0 z1 t2 l3 n4 s5 n6 n7 n8v n9 n10 n11 n12 n13 n14=>some (.agg [pI (0:Int),pS ([]:List UInt8),pB false],[.box [pI n0],.box [.s (.nilp)],.box [.s (.sp [[.sl z1 t2 2 l3]] 0 0)],.box [pI n4,pS s5,p32 n6,p16 n7,p16 n8v,p16 n9,p16 n10,p16 n11,p16 n12,p16 n13,p16 n14],.box [pI (0:Int),pS ([]:List UInt8),pB false],.box [pI (0:Int),pS ([]:List UInt8),pB false]],s)) (λr0 r1 r2 n3 z4 t5 l6 n7 s8 n9 n10 n11 n12 n13 n14 n15 n16 n17=>some (.agg [pI r0,pS r1,pB r2],[.box [pI n3],.box [.s (.nilp)],.box [.s (.sp [[.sl z4 t5 2 l6]] 0 0)],.box [pI n7,pS s8,p32 n9,p16 n10,p16 n11,p16 n12,p16 n13,p16 n14,p16 n15,p16 n16,p16 n17],.box [pI r0,pS r1,pB r2],.box [pI (0:Int),pS ([]:List UInt8),pB false],.box [pI r0,pS r1,pB r2]],s)) (λr0 r1 r2 n3 z4 t5 l6 n7 s8 n9 n10 n11 n12 n13 n14 n15 n16 n17 n18 s19 b20 n21 s22 b23 n24 s25 b26=>some (.agg [pI r0,pS r1,pB r2],[.box [pI n3],.box [.s (.nilp)],.box [.s (.sp [[.sl z4 t5 2 l6]] 0 0)],.box [pI n7,pS s8,p32 n9,p16 n10,p16 n11,p16 n12,p16 n13,p16 n14,p16 n15,p16 n16,p16 n17],.box [pI n18,pS s19,pB b20],.box [pI n21,pS s22,pB b23],.box [pI n24,pS s25,pB b26],.box [.bad]],s)):=
 (evE (fn:=Tryz.f13) (by kernel_rfl)).trans (Eq.trans (by kernel_rfl) (Az0 lf (evC (Bo lf) d) yh s (cd [1,0,1,1,1,1,0,1,0] Ok) (PU lf (evC (Bo lf) d) yh s) now lz lt l kd nm v4 a0 a1 a2 a3 a4 a5 a6 a7))
noncomputable abbrev Al3 (now:Int) (lz lt:Bool) (l:LL) (kd:Int) (nm:By) (v4 a0 a1 a2 a3 a4 a5 a6 a7:Int):Option (PV × List Blk × Unit):=Al2 LF now lz lt l kd nm v4 a0 a1 a2 a3 a4 a5 a6 a7 (λn0 z1 t2 l3 n4 s5 n6 n7 n8v n9 n10 n11 n12 n13 n14=>some (.agg [pI (0:Int),pS ([]:List UInt8),pB false],[.box [pI n0],.box [.s (.nilp)],.box [.s (.sp [[.sl z1 t2 2 l3]] 0 0)],.box [pI n4,pS s5,p32 n6,p16 n7,p16 n8v,p16 n9,p16 n10,p16 n11,p16 n12,p16 n13,p16 n14],.box [pI (0:Int),pS ([]:List UInt8),pB false],.box [pI (0:Int),pS ([]:List UInt8),pB false]],())) (λr0 r1 r2 n3 z4 t5 l6 n7 s8 n9 n10 n11 n12 n13 n14 n15 n16 n17=>some (.agg [pI r0,pS r1,pB r2],[.box [pI n3],.box [.s (.nilp)],.box [.s (.sp [[.sl z4 t5 2 l6]] 0 0)],.box [pI n7,pS s8,p32 n9,p16 n10,p16 n11,p16 n12,p16 n13,p16 n14,p16 n15,p16 n16,p16 n17],.box [pI r0,pS r1,pB r2],.box [pI (0:Int),pS ([]:List UInt8),pB false],.box [pI r0,pS r1,pB r2]],())) (λr0 r1 r2 n3 z4 t5 l6 n7 s8 n9 n10 n11 n12 n13 n14 n15 n16 n17 n18 s19 b20 n21 s22 b23 n24 s25 b26=>some (.agg [pI r0,pS r1,pB r2],[.box [pI n3],.box [.s (.nilp)],.box [.s (.sp [[.sl z4 t5 2 l6]] 0 0)],.box [pI n7,pS s8,p32 n9,p16 n10,p16 n11,p16 n12,p16 n13,p16 n14,p16 n15,p16 n16,p16 n17],.box [pI n18,pS s19,pB b20],.box [pI n21,pS s22,pB b23],.box [pI n24,pS s25,pB b26],.box [.bad]],()))
noncomputable abbrev Ol:Code:=E6 Tryz.f13
noncomputable def Bp (lf:Nat):Cfg:=C0 lf [13] (A3 []) [(28,Dt),(29,La),(30,Dr)] (A3 [(12,[8]),(11,[8,0]),(10,[4,0,0,1,0,3,33]),(9,[4,0,0,1,0,3,0]),(8,[4,0,0,1,0,2]),(7,[4,0,0,1,0,27]),(6,[8]),(5,[4,0,0,0,0,0,0,22]),(4,[4,0,0,0,0,0,0,0]),(3,[8]),(2,[4,0,0,0,0,0,12]),(1,[4,0,0,0,0,0]),(0,[4,0,0,0,0])]) [28] (A3 [(0,[8,0]),(1,[4,0,0,1,0])]) (some [8]) [] [(46,U3)] []
noncomputable def Lo {R:Type} (lf:Nat) (x'4:By) (xs:List By) (self:Int->Bool->Bool->LL->Int->Int->By->Int->Int->Int->Int->Int->Int->Int->Int->Int->Int->By->Bool->Option R) (n0:Int) (z1 t2:Bool) (l3:LL) (n4 n5:Int) (s6:By) (n7 n8v n9 n10 n11 n12 n13 n14 n15 n16:Int) (s17:By) (b18:Bool) (k0:Int->Bool->Bool->LL->Int->Int->By->Int->Int->Int->Int->Int->Int->Int->Int->Int->Int->By->Bool->Option R) (k1:Int->Bool->Bool->LL->Int->Int->By->Int->Int->Int->Int->Int->Int->Int->Int->Int->Int->By->Bool->Int->By->Bool->Option R):Option R:=cond (List.all l3 D1) (cond (List.all l3 smE) (cond (A2 l3.length) (cond (A2 x'4.length) (vl (((atV n0 (List.map A4 l3) List.nil x'4 false)).1).1 λn'5=>vl ((((atV n0 (List.map A4 l3) List.nil x'4 false)).1).2).1 λs'6=>cond ((atV n0 (List.map A4 l3) List.nil x'4 false)).2 (k1 n0 z1 t2 l3 n4 n5 s6 n7 n8v n9 n10 n11 n12 n13 n14 n15 n'5 s'6 ((((atV n0 (List.map A4 l3) List.nil x'4 false)).1).2).2 n16 s17 b18) (self n0 z1 t2 l3 n4 n5 s6 n7 n8v n9 n10 n11 n12 n13 n14 n15 n16 s17 b18)) none) none) none) none
noncomputable def Ln {R:Type} (lf:Nat) (L:List By) (n0:Int) (z1 t2:Bool) (l3:LL) (n4 n5:Int) (s6:By) (n7 n8v n9 n10 n11 n12 n13 n14 n15 n16:Int) (s17:By) (b18:Bool) (k0:Int->Bool->Bool->LL->Int->Int->By->Int->Int->Int->Int->Int->Int->Int->Int->Int->Int->By->Bool->Option R) (k1:Int->Bool->Bool->LL->Int->Int->By->Int->Int->Int->Int->Int->Int->Int->Int->Int->Int->By->Bool->Int->By->Bool->Option R):Option R:=Ab3 (α:=Int->Bool->Bool->LL->Int->Int->By->Int->Int->Int->Int->Int->Int->Int->Int->Int->Int->By->Bool->Option R) (λn0 z1 t2 l3 n4 n5 s6 n7 n8v n9 n10 n11 n12 n13 n14 n15 n16 s17 b18=>k0 n0 z1 t2 l3 n4 n5 s6 n7 n8v n9 n10 n11 n12 n13 n14 n15 n16 s17 b18) (λx'4 xs self n0 z1 t2 l3 n4 n5 s6 n7 n8v n9 n10 n11 n12 n13 n14 n15 n16 s17 b18=>Lo lf x'4 xs self n0 z1 t2 l3 n4 n5 s6 n7 n8v n9 n10 n11 n12 n13 n14 n15 n16 s17 b18 k0 k1) L n0 z1 t2 l3 n4 n5 s6 n7 n8v n9 n10 n11 n12 n13 n14 n15 n16 s17 b18
theorem AF {R:Type} (lf:Nat) (x'4:By) (xs:List By) (n0:Int) (z1 t2:Bool) (l3:LL) (n4 n5:Int) (s6:By) (n7 n8v n9 n10 n11 n12 n13 n14 n15 n16:Int) (s17:By) (b18:Bool) (k0:Int->Bool->Bool->LL->Int->Int->By->Int->Int->Int->Int->Int->Int->Int->Int->Int->Int->By->Bool->Option R) (k1:Int->Bool->Bool->LL->Int->Int->By->Int->Int->Int->Int->Int->Int->Int->Int->Int->Int->By->Bool->Int->By->Bool->Option R):Ln lf (x'4::xs) n0 z1 t2 l3 n4 n5 s6 n7 n8v n9 n10 n11 n12 n13 n14 n15 n16 s17 b18 k0 k1=Lo lf x'4 xs (λn0 z1 t2 l3 n4 n5 s6 n7 n8v n9 n10 n11 n12 n13 n14 n15 n16 s17 b18=>Ln lf xs n0 z1 t2 l3 n4 n5 s6 n7 n8v n9 n10 n11 n12 n13 n14 n15 n16 s17 b18 k0 k1) n0 z1 t2 l3 n4 n5 s6 n7 n8v n9 n10 n11 n12 n13 n14 n15 n16 s17 b18 k0 k1:=rfl
theorem PY (L:List By) (n0:Int) (z1 t2:Bool) (l3:LL) (n4 n5:Int) (s6:By) (n7 n8v n9 n10 n11 n12 n13 n14 n15 n16:Int) (s17:By) (b18:Bool):L5 #[38] (gp [(4,.ptr 0 0 0),(0,.ptr 1 0 0),(0,.ptr 2 0 0),(1,.ptr 4 0 0),(0,.ptr 5 0 0),(27,.fnr (Fn.func 46) [] [.bad])] 12) (bd (Bp lf) cl yh (cd [1,0,1,1,1,1,0,1,0,0] Ol)) (bd (Bp lf) cl yh (cd [1,0,1,1,1,1,0,1,0,1] Ol)) (L.map (λ(x'4:By)=>([pS x'4]:List PV))) [.box [pI n0],.box [.s (.sp [[.sl z1 t2 3 l3,.int .i64 n4]] 0 0)],.box [.s (.nilp)],.box [pI n5,pS s6,p32 n7,p16 n8v,p16 n9,p16 n10,p16 n11,p16 n12,p16 n13,p16 n14,p16 n15],.box [pI (0:Int),pS ([]:List UInt8),pB false],.box [pI (0:Int),pS ([]:List UInt8),pB false],.box [pI n16,pS s17,pB b18],.dead] s (rgK (gp [(4,.ptr 0 0 0),(0,.ptr 1 0 0),(0,.ptr 2 0 0),(1,.ptr 4 0 0),(0,.ptr 5 0 0),(27,.fnr (Fn.func 46) [] [.bad])] 12) (λH=>N2 H [7] [.box [.bad]]) k) =
 Ln lf L n0 z1 t2 l3 n4 n5 s6 n7 n8v n9 n10 n11 n12 n13 n14 n15 n16 s17 b18 (λn0 z1 t2 l3 n4 n5 s6 n7 n8v n9 n10 n11 n12 n13 n14 n15 n16 s17 b18=>k .normal ⟨gp [(4,.ptr 0 0 0),(0,.ptr 1 0 0),(0,.ptr 2 0 0),(1,.ptr 4 0 0),(0,.ptr 5 0 0),(27,.fnr (Fn.func 46) [] [.bad])] 12,[.box [pI n0],.box [.s (.sp [[.sl z1 t2 3 l3,.int .i64 n4]] 0 0)],.box [.s (.nilp)],.box [pI n5,pS s6,p32 n7,p16 n8v,p16 n9,p16 n10,p16 n11,p16 n12,p16 n13,p16 n14,p16 n15],.box [pI (0:Int),pS ([]:List UInt8),pB false],.box [pI (0:Int),pS ([]:List UInt8),pB false],.box [pI n16,pS s17,pB b18],.box [.bad]],s⟩) (λn0 z1 t2 l3 n4 n5 s6 n7 n8v n9 n10 n11 n12 n13 n14 n15 n16 s17 b18 n19 s20 b21=>k (.exit 0) ⟨gp [(4,.ptr 0 0 0),(0,.ptr 1 0 0),(0,.ptr 2 0 0),(1,.ptr 4 0 0),(0,.ptr 5 0 0),(27,.fnr (Fn.func 46) [] [.bad])] 12,[.box [pI n0],.box [.s (.sp [[.sl z1 t2 3 l3,.int .i64 n4]] 0 0)],.box [.s (.nilp)],.box [pI n5,pS s6,p32 n7,p16 n8v,p16 n9,p16 n10,p16 n11,p16 n12,p16 n13,p16 n14,p16 n15],.box [pI (0:Int),pS ([]:List UInt8),pB false],.box [pI n16,pS s17,pB b18],.box [pI n19,pS s20,pB b21],.box [.bad]],s⟩):=by
 induction L generalizing n0 z1 t2 l3 n4 n5 s6 n7 n8v n9 n10 n11 n12 n13 n14 n15 n16 s17 b18 with
 | nil=>rfl
 | cons x'4 xs ih=>rw [AF];unfold Lo;exact (Eq.trans (by kernel_rfl) (A0 (A0 (A0 (A0 (B9 λn'5=>(B9 λs'6=>(A0 rfl (ih n0 z1 t2 l3 n4 n5 s6 n7 n8v n9 n10 n11 n12 n13 n14 n15 n16 s17 b18)))) rfl) rfl) rfl) rfl))
noncomputable def Tb {R:Type} (lf:Nat) (n0:Int) (z1 t2:Bool) (l3:LL) (n4 n5:Int) (s6:By) (n7 n8v n9 n10 n11 n12 n13 n14 n15 n16:Int) (s17:By) (b18:Bool) (k0:Int->Bool->Bool->LL->Int->Int->By->Int->Int->Int->Int->Int->Int->Int->Int->Int->Int->By->Bool->Option R) (k1:Int->Bool->Bool->LL->Int->Int->By->Int->Int->Int->Int->Int->Int->Int->Int->Int->Int->By->Bool->Int->By->Bool->Option R):Option R:=cond (A2 s6.length) (Ln lf (E3 s6) n0 z1 t2 l3 n4 n5 s6 n7 n8v n9 n10 n11 n12 n13 n14 n15 n16 s17 b18 k0 k1) none
abbrev AE (b:Code):Prop:=∀ (k:Out->St σ->Option R) n0 z1 t2 l3 n4 n5 s6 n7 n8v n9 n10 n11 n12 n13 n14 n15 n16 s17 b18,B0 (Bp lf) cl yh b ⟨gp [(4,.ptr 0 0 0),(0,.ptr 1 0 0),(0,.ptr 2 0 0),(1,.ptr 4 0 0),(0,.ptr 5 0 0),(27,.fnr (Fn.func 46) [] [.ptr 7 0 0])] 12,[.box [pI n0],.box [.s (.sp [[.sl z1 t2 3 l3,.int .i64 n4]] 0 0)],.box [.s (.nilp)],.box [pI n5,pS s6,p32 n7,p16 n8v,p16 n9,p16 n10,p16 n11,p16 n12,p16 n13,p16 n14,p16 n15],.box [pI (0:Int),pS ([]:List UInt8),pB false],.box [pI (0:Int),pS ([]:List UInt8),pB false],.box [pI n16,pS s17,pB b18],.box [pS s6]],s⟩ k=Tb lf n0 z1 t2 l3 n4 n5 s6 n7 n8v n9 n10 n11 n12 n13 n14 n15 n16 s17 b18 (λn0 z1 t2 l3 n4 n5 s6 n7 n8v n9 n10 n11 n12 n13 n14 n15 n16 s17 b18=>k .normal ⟨gp [(4,.ptr 0 0 0),(0,.ptr 1 0 0),(0,.ptr 2 0 0),(1,.ptr 4 0 0),(0,.ptr 5 0 0),(27,.fnr (Fn.func 46) [] [.bad])] 12,[.box [pI n0],.box [.s (.sp [[.sl z1 t2 3 l3,.int .i64 n4]] 0 0)],.box [.s (.nilp)],.box [pI n5,pS s6,p32 n7,p16 n8v,p16 n9,p16 n10,p16 n11,p16 n12,p16 n13,p16 n14,p16 n15],.box [pI (0:Int),pS ([]:List UInt8),pB false],.box [pI (0:Int),pS ([]:List UInt8),pB false],.box [pI n16,pS s17,pB b18],.box [.bad]],s⟩) (λn0 z1 t2 l3 n4 n5 s6 n7 n8v n9 n10 n11 n12 n13 n14 n15 n16 s17 b18 n19 s20 b21=>k (.exit 0) ⟨gp [(4,.ptr 0 0 0),(0,.ptr 1 0 0),(0,.ptr 2 0 0),(1,.ptr 4 0 0),(0,.ptr 5 0 0),(27,.fnr (Fn.func 46) [] [.bad])] 12,[.box [pI n0],.box [.s (.sp [[.sl z1 t2 3 l3,.int .i64 n4]] 0 0)],.box [.s (.nilp)],.box [pI n5,pS s6,p32 n7,p16 n8v,p16 n9,p16 n10,p16 n11,p16 n12,p16 n13,p16 n14,p16 n15],.box [pI (0:Int),pS ([]:List UInt8),pB false],.box [pI n16,pS s17,pB b18],.box [pI n19,pS s20,pB b21],.box [.bad]],s⟩)
theorem PX:AE (R:=R) lf cl yh s (cd [1,0,1,1,1,1,0,1,0] Ol):=by
 intro k n0 z1 t2 l3 n4 n5 s6 n7 n8v n9 n10 n11 n12 n13 n14 n15 n16 s17 b18;unfold Tb;exact ((KE [1,0,1,1,1,1,0,1,0] (by kernel_rfl)).trans (by kernel_rfl)).trans (Ch (PY lf cl yh s k (E3 s6) n0 z1 t2 l3 n4 n5 s6 n7 n8v n9 n10 n11 n12 n13 n14 n15 n16 s17 b18))
noncomputable def Al4 {R:Type} (lf:Nat) (now:Int) (tz tt:Bool) (t:LL) (cp kd:Int) (nm:By) (v4 a0 a1 a2 a3 a4 a5 a6 a7:Int) (k0:Int->Bool->Bool->LL->Int->Int->By->Int->Int->Int->Int->Int->Int->Int->Int->Int->Option R) (k1:Int->By->Bool->Int->Bool->Bool->LL->Int->Int->By->Int->Int->Int->Int->Int->Int->Int->Int->Int->Option R) (k2:Int->By->Bool->Int->Bool->Bool->LL->Int->Int->By->Int->Int->Int->Int->Int->Int->Int->Int->Int->Int->By->Bool->Int->By->Bool->Int->By->Bool->Option R):Option R:=cond (kd != 1) (k0 now tz tt t cp kd nm v4 a0 a1 a2 a3 a4 a5 a6 a7) (cond (A2 nm.length) (cond (ltN v4 4294967296) (cond (ok8 a0 a1 a2 a3 a4 a5 a6 a7) (cond (not (Q9 (mkH kd nm v4 (n8 a0 a1 a2 a3 a4 a5 a6 a7)))) (k0 now tz tt t cp kd nm v4 a0 a1 a2 a3 a4 a5 a6 a7) (cond (List.all t D1) (cond (List.all t smE) (cond (A2 t.length) (cond (A2 nm.length) (vl (((atV now (List.map A4 t) List.nil nm true)).1).1 λn'2=>vl ((((atV now (List.map A4 t) List.nil nm true)).1).2).1 λs'3=>cond ((atV now (List.map A4 t) List.nil nm true)).2 (k1 n'2 s'3 ((((atV now (List.map A4 t) List.nil nm true)).1).2).2 now tz tt t cp kd nm v4 a0 a1 a2 a3 a4 a5 a6 a7) (Tb lf now tz tt t cp kd nm v4 a0 a1 a2 a3 a4 a5 a6 a7 n'2 s'3 ((((atV now (List.map A4 t) List.nil nm true)).1).2).2 (λn'7 z'8 t'9 l'10 n'11 n'12 s'13 n'14 n'15 n'16 n'17 n'18 n'19 n'20 n'21 n'22 n'23 s'24 b'25=>k2 0 ([]:List UInt8) false n'7 z'8 t'9 l'10 n'11 n'12 s'13 n'14 n'15 n'16 n'17 n'18 n'19 n'20 n'21 n'22 0 ([]:List UInt8) false 0 ([]:List UInt8) false n'23 s'24 b'25) (λn'26 z'27 t'28 l'29 n'30 n'31 s'32 n'33 n'34 n'35 n'36 n'37 n'38 n'39 n'40 n'41 n'42 s'43 b'44 n'45 s'46 b'47=>k2 n'42 s'43 b'44 n'26 z'27 t'28 l'29 n'30 n'31 s'32 n'33 n'34 n'35 n'36 n'37 n'38 n'39 n'40 n'41 n'42 s'43 b'44 n'42 s'43 b'44 n'45 s'46 b'47))) none) none) none) none)) none) none) none)
theorem Az3 (b_101111010:Code) (h_cfdC_e1:AE (R:=PV × List Blk × σ) lf cl yh s b_101111010) (now:Int) (tz tt:Bool) (t:LL) (cp kd:Int) (nm:By) (v4 a0 a1 a2 a3 a4 a5 a6 a7:Int):B0 (Bp lf) cl yh (cd [] (U1 [1,0,1,1,1,1,0,1,0] b_101111010 Ol)) ⟨[pI now,.s (.sp [[.sl tz tt 3 t,.int .i64 cp]] 0 0),.s (.nilp),.agg [pI kd,pS nm,p32 v4,p16 a0,p16 a1,p16 a2,p16 a3,p16 a4,p16 a5,p16 a6,p16 a7]]++tps 46,[],s⟩ (J6 (Bp lf) Tryz.f13)=Al4 lf now tz tt t cp kd nm v4 a0 a1 a2 a3 a4 a5 a6 a7 (λn0 z1 t2 l3 n4 n5 s6 n7 n8v n9 n10 n11 n12 n13 n14 n15=>some (.agg [pI (0:Int),pS ([]:List UInt8),pB false],[.box [pI n0],.box [.s (.sp [[.sl z1 t2 3 l3,.int .i64 n4]] 0 0)],.box [.s (.nilp)],.box [pI n5,pS s6,p32 n7,p16 n8v,p16 n9,p16 n10,p16 n11,p16 n12,p16 n13,p16 n14,p16 n15],.box [pI (0:Int),pS ([]:List UInt8),pB false],.box [pI (0:Int),pS ([]:List UInt8),pB false]],s)) (λr0 r1 r2 n3 z4 t5 l6 n7 n8v s9 n10 n11 n12 n13 n14 n15 n16 n17 n18=>some (.agg [pI r0,pS r1,pB r2],[.box [pI n3],.box [.s (.sp [[.sl z4 t5 3 l6,.int .i64 n7]] 0 0)],.box [.s (.nilp)],.box [pI n8v,pS s9,p32 n10,p16 n11,p16 n12,p16 n13,p16 n14,p16 n15,p16 n16,p16 n17,p16 n18],.box [pI r0,pS r1,pB r2],.box [pI (0:Int),pS ([]:List UInt8),pB false],.box [pI r0,pS r1,pB r2]],s)) (λr0 r1 r2 n3 z4 t5 l6 n7 n8v s9 n10 n11 n12 n13 n14 n15 n16 n17 n18 n19 s20 b21 n22 s23 b24 n25 s26 b27=>some (.agg [pI r0,pS r1,pB r2],[.box [pI n3],.box [.s (.sp [[.sl z4 t5 3 l6,.int .i64 n7]] 0 0)],.box [.s (.nilp)],.box [pI n8v,pS s9,p32 n10,p16 n11,p16 n12,p16 n13,p16 n14,p16 n15,p16 n16,p16 n17,p16 n18],.box [pI n19,pS s20,pB b21],.box [pI n22,pS s23,pB b24],.box [pI n25,pS s26,pB b27],.box [.bad]],s)):=by
 unfold Al4;exact (Eq.trans (by kernel_rfl) (A0 rfl (A0 (A0 (A0 (A0 rfl (A0 (A0 (A0 (A0 (B9 λn'2=>(B9 λs'3=>(A0 rfl ((h_cfdC_e1 (O4 0 (P3 (Bp lf) cl yh (cd [1,0,1,1,1,1,1] Ol) (J6 (Bp lf) Tryz.f13))) now tz tt t cp kd nm v4 a0 a1 a2 a3 a4 a5 a6 a7 n'2 s'3 ((((atV now (List.map A4 t) List.nil nm true)).1).2).2).trans (by kernel_rfl))))) rfl) rfl) rfl) rfl)) rfl) rfl) rfl)))
theorem Az4 (d:Nat) (now tz tt t cp kd nm v4 a0 a1 a2 a3 a4 a5 a6 a7):evC (Bp lf) (d+1) σ yh 13 [pI now,.s (.sp [[.sl tz tt 3 t,.int .i64 cp]] 0 0),.s (.nilp),.agg [pI kd,pS nm,p32 v4,p16 a0,p16 a1,p16 a2,p16 a3,p16 a4,p16 a5,p16 a6,p16 a7]] [] s=Al4 lf now tz tt t cp kd nm v4 a0 a1 a2 a3 a4 a5 a6 a7 (λn0 z1 t2 l3 n4 n5 s6 n7 n8v n9 n10 n11 n12 n13 n14 n15=>some (.agg [pI (0:Int),pS ([]:List UInt8),pB false],[.box [pI n0],.box [.s (.sp [[.sl z1 t2 3 l3,.int .i64 n4]] 0 0)],.box [.s (.nilp)],.box [pI n5,pS s6,p32 n7,p16 n8v,p16 n9,p16 n10,p16 n11,p16 n12,p16 n13,p16 n14,p16 n15],.box [pI (0:Int),pS ([]:List UInt8),pB false],.box [pI (0:Int),pS ([]:List UInt8),pB false]],s)) (λr0 r1 r2 n3 z4 t5 l6 n7 n8v s9 n10 n11 n12 n13 n14 n15 n16 n17 n18=>some (.agg [pI r0,pS r1,pB r2],[.box [pI n3],.box [.s (.sp [[.sl z4 t5 3 l6,.int .i64 n7]] 0 0)],.box [.s (.nilp)],.box [pI n8v,pS s9,p32 n10,p16 n11,p16 n12,p16 n13,p16 n14,p16 n15,p16 n16,p16 n17,p16 n18],.box [pI r0,pS r1,pB r2],.box [pI (0:Int),pS ([]:List UInt8),pB false],.box [pI r0,pS r1,pB r2]],s)) (λr0 r1 r2 n3 z4 t5 l6 n7 n8v s9 n10 n11 n12 n13 n14 n15 n16 n17 n18 n19 s20 b21 n22 s23 b24 n25 s26 b27=>some (.agg [pI r0,pS r1,pB r2],[.box [pI n3],.box [.s (.sp [[.sl z4 t5 3 l6,.int .i64 n7]] 0 0)],.box [.s (.nilp)],.box [pI n8v,pS s9,p32 n10,p16 n11,p16 n12,p16 n13,p16 n14,p16 n15,p16 n16,p16 n17,p16 n18],.box [pI n19,pS s20,pB b21],.box [pI n22,pS s23,pB b24],.box [pI n25,pS s26,pB b27],.box [.bad]],s)):=
 (evE (fn:=Tryz.f13) (by kernel_rfl)).trans (Eq.trans (by kernel_rfl) (Az3 lf (evC (Bp lf) d) yh s (cd [1,0,1,1,1,1,0,1,0] Ol) (PX lf (evC (Bp lf) d) yh s) now tz tt t cp kd nm v4 a0 a1 a2 a3 a4 a5 a6 a7))
noncomputable abbrev Al5 (now:Int) (tz tt:Bool) (t:LL) (cp kd:Int) (nm:By) (v4 a0 a1 a2 a3 a4 a5 a6 a7:Int):Option (PV × List Blk × Unit):=Al4 LF now tz tt t cp kd nm v4 a0 a1 a2 a3 a4 a5 a6 a7 (λn0 z1 t2 l3 n4 n5 s6 n7 n8v n9 n10 n11 n12 n13 n14 n15=>some (.agg [pI (0:Int),pS ([]:List UInt8),pB false],[.box [pI n0],.box [.s (.sp [[.sl z1 t2 3 l3,.int .i64 n4]] 0 0)],.box [.s (.nilp)],.box [pI n5,pS s6,p32 n7,p16 n8v,p16 n9,p16 n10,p16 n11,p16 n12,p16 n13,p16 n14,p16 n15],.box [pI (0:Int),pS ([]:List UInt8),pB false],.box [pI (0:Int),pS ([]:List UInt8),pB false]],())) (λr0 r1 r2 n3 z4 t5 l6 n7 n8v s9 n10 n11 n12 n13 n14 n15 n16 n17 n18=>some (.agg [pI r0,pS r1,pB r2],[.box [pI n3],.box [.s (.sp [[.sl z4 t5 3 l6,.int .i64 n7]] 0 0)],.box [.s (.nilp)],.box [pI n8v,pS s9,p32 n10,p16 n11,p16 n12,p16 n13,p16 n14,p16 n15,p16 n16,p16 n17,p16 n18],.box [pI r0,pS r1,pB r2],.box [pI (0:Int),pS ([]:List UInt8),pB false],.box [pI r0,pS r1,pB r2]],())) (λr0 r1 r2 n3 z4 t5 l6 n7 n8v s9 n10 n11 n12 n13 n14 n15 n16 n17 n18 n19 s20 b21 n22 s23 b24 n25 s26 b27=>some (.agg [pI r0,pS r1,pB r2],[.box [pI n3],.box [.s (.sp [[.sl z4 t5 3 l6,.int .i64 n7]] 0 0)],.box [.s (.nilp)],.box [pI n8v,pS s9,p32 n10,p16 n11,p16 n12,p16 n13,p16 n14,p16 n15,p16 n16,p16 n17,p16 n18],.box [pI n19,pS s20,pB b21],.box [pI n22,pS s23,pB b24],.box [pI n25,pS s26,pB b27],.box [.bad]],()))
noncomputable abbrev Om:Code:=E6 Tryz.f13
noncomputable def Bq (lf:Nat):Cfg:=C0 lf [13] (A3 []) [(28,Dt),(29,La),(30,Dr)] (A3 [(12,[8]),(11,[8,0]),(10,[4,0,0,1,0,3,33]),(9,[4,0,0,1,0,3,0]),(8,[4,0,0,1,0,2]),(7,[4,0,0,1,0,27]),(6,[8]),(5,[4,0,0,0,0,0,0,22]),(4,[4,0,0,0,0,0,0,0]),(3,[8]),(2,[4,0,0,0,0,0,12]),(1,[4,0,0,0,0,0]),(0,[4,0,0,0,0])]) [28] (A3 [(0,[8,0]),(1,[4,0,0,1,0])]) (some [8]) [] [(46,U3)] []
noncomputable def Lq {R:Type} (lf:Nat) (x'4:By) (xs:List By) (self:Int->Int->By->Int->Int->Int->Int->Int->Int->Int->Int->Int->Int->By->Bool->Option R) (n0 n1:Int) (s2:By) (n3 n4 n5 n6 n7 n8v n9 n10 n11 n12:Int) (s13:By) (b14:Bool) (k0:Int->Int->By->Int->Int->Int->Int->Int->Int->Int->Int->Int->Int->By->Bool->Option R) (k1:Int->Int->By->Int->Int->Int->Int->Int->Int->Int->Int->Int->Int->By->Bool->Int->By->Bool->Option R):Option R:=cond (A2 x'4.length) (vl (((atV n0 List.nil List.nil x'4 false)).1).1 λn'5=>vl ((((atV n0 List.nil List.nil x'4 false)).1).2).1 λs'6=>cond ((atV n0 List.nil List.nil x'4 false)).2 (k1 n0 n1 s2 n3 n4 n5 n6 n7 n8v n9 n10 n11 n'5 s'6 ((((atV n0 List.nil List.nil x'4 false)).1).2).2 n12 s13 b14) (self n0 n1 s2 n3 n4 n5 n6 n7 n8v n9 n10 n11 n12 s13 b14)) none
noncomputable def Lp {R:Type} (lf:Nat) (L:List By) (n0 n1:Int) (s2:By) (n3 n4 n5 n6 n7 n8v n9 n10 n11 n12:Int) (s13:By) (b14:Bool) (k0:Int->Int->By->Int->Int->Int->Int->Int->Int->Int->Int->Int->Int->By->Bool->Option R) (k1:Int->Int->By->Int->Int->Int->Int->Int->Int->Int->Int->Int->Int->By->Bool->Int->By->Bool->Option R):Option R:=Ab3 (α:=Int->Int->By->Int->Int->Int->Int->Int->Int->Int->Int->Int->Int->By->Bool->Option R) (λn0 n1 s2 n3 n4 n5 n6 n7 n8v n9 n10 n11 n12 s13 b14=>k0 n0 n1 s2 n3 n4 n5 n6 n7 n8v n9 n10 n11 n12 s13 b14) (λx'4 xs self n0 n1 s2 n3 n4 n5 n6 n7 n8v n9 n10 n11 n12 s13 b14=>Lq lf x'4 xs self n0 n1 s2 n3 n4 n5 n6 n7 n8v n9 n10 n11 n12 s13 b14 k0 k1) L n0 n1 s2 n3 n4 n5 n6 n7 n8v n9 n10 n11 n12 s13 b14
theorem AI {R:Type} (lf:Nat) (x'4:By) (xs:List By) (n0 n1:Int) (s2:By) (n3 n4 n5 n6 n7 n8v n9 n10 n11 n12:Int) (s13:By) (b14:Bool) (k0:Int->Int->By->Int->Int->Int->Int->Int->Int->Int->Int->Int->Int->By->Bool->Option R) (k1:Int->Int->By->Int->Int->Int->Int->Int->Int->Int->Int->Int->Int->By->Bool->Int->By->Bool->Option R):Lp lf (x'4::xs) n0 n1 s2 n3 n4 n5 n6 n7 n8v n9 n10 n11 n12 s13 b14 k0 k1=Lq lf x'4 xs (λn0 n1 s2 n3 n4 n5 n6 n7 n8v n9 n10 n11 n12 s13 b14=>Lp lf xs n0 n1 s2 n3 n4 n5 n6 n7 n8v n9 n10 n11 n12 s13 b14 k0 k1) n0 n1 s2 n3 n4 n5 n6 n7 n8v n9 n10 n11 n12 s13 b14 k0 k1:=rfl
theorem QA (L:List By) (n0 n1:Int) (s2:By) (n3 n4 n5 n6 n7 n8v n9 n10 n11 n12:Int) (s13:By) (b14:Bool):L5 #[38] (gp [(4,.ptr 0 0 0),(0,.ptr 1 0 0),(0,.ptr 2 0 0),(1,.ptr 4 0 0),(0,.ptr 5 0 0),(27,.fnr (Fn.func 46) [] [.bad])] 12) (bd (Bq lf) cl yh (cd [1,0,1,1,1,1,0,1,0,0] Om)) (bd (Bq lf) cl yh (cd [1,0,1,1,1,1,0,1,0,1] Om)) (L.map (λ(x'4:By)=>([pS x'4]:List PV))) [.box [pI n0],.box [.s (.nilp)],.box [.s (.nilp)],.box [pI n1,pS s2,p32 n3,p16 n4,p16 n5,p16 n6,p16 n7,p16 n8v,p16 n9,p16 n10,p16 n11],.box [pI (0:Int),pS ([]:List UInt8),pB false],.box [pI (0:Int),pS ([]:List UInt8),pB false],.box [pI n12,pS s13,pB b14],.dead] s (rgK (gp [(4,.ptr 0 0 0),(0,.ptr 1 0 0),(0,.ptr 2 0 0),(1,.ptr 4 0 0),(0,.ptr 5 0 0),(27,.fnr (Fn.func 46) [] [.bad])] 12) (λH=>N2 H [7] [.box [.bad]]) k) =
 Lp lf L n0 n1 s2 n3 n4 n5 n6 n7 n8v n9 n10 n11 n12 s13 b14 (λn0 n1 s2 n3 n4 n5 n6 n7 n8v n9 n10 n11 n12 s13 b14=>k .normal ⟨gp [(4,.ptr 0 0 0),(0,.ptr 1 0 0),(0,.ptr 2 0 0),(1,.ptr 4 0 0),(0,.ptr 5 0 0),(27,.fnr (Fn.func 46) [] [.bad])] 12,[.box [pI n0],.box [.s (.nilp)],.box [.s (.nilp)],.box [pI n1,pS s2,p32 n3,p16 n4,p16 n5,p16 n6,p16 n7,p16 n8v,p16 n9,p16 n10,p16 n11],.box [pI (0:Int),pS ([]:List UInt8),pB false],.box [pI (0:Int),pS ([]:List UInt8),pB false],.box [pI n12,pS s13,pB b14],.box [.bad]],s⟩) (λn0 n1 s2 n3 n4 n5 n6 n7 n8v n9 n10 n11 n12 s13 b14 n15 s16 b17=>k (.exit 0) ⟨gp [(4,.ptr 0 0 0),(0,.ptr 1 0 0),(0,.ptr 2 0 0),(1,.ptr 4 0 0),(0,.ptr 5 0 0),(27,.fnr (Fn.func 46) [] [.bad])] 12,[.box [pI n0],.box [.s (.nilp)],.box [.s (.nilp)],.box [pI n1,pS s2,p32 n3,p16 n4,p16 n5,p16 n6,p16 n7,p16 n8v,p16 n9,p16 n10,p16 n11],.box [pI (0:Int),pS ([]:List UInt8),pB false],.box [pI n12,pS s13,pB b14],.box [pI n15,pS s16,pB b17],.box [.bad]],s⟩):=by
 induction L generalizing n0 n1 s2 n3 n4 n5 n6 n7 n8v n9 n10 n11 n12 s13 b14 with
 | nil=>rfl
 | cons x'4 xs ih=>rw [AI];unfold Lq;exact (Eq.trans (by kernel_rfl) (A0 (B9 λn'5=>(B9 λs'6=>(A0 rfl (ih n0 n1 s2 n3 n4 n5 n6 n7 n8v n9 n10 n11 n12 s13 b14)))) rfl))
noncomputable def Tc {R:Type} (lf:Nat) (n0 n1:Int) (s2:By) (n3 n4 n5 n6 n7 n8v n9 n10 n11 n12:Int) (s13:By) (b14:Bool) (k0:Int->Int->By->Int->Int->Int->Int->Int->Int->Int->Int->Int->Int->By->Bool->Option R) (k1:Int->Int->By->Int->Int->Int->Int->Int->Int->Int->Int->Int->Int->By->Bool->Int->By->Bool->Option R):Option R:=cond (A2 s2.length) (Lp lf (E3 s2) n0 n1 s2 n3 n4 n5 n6 n7 n8v n9 n10 n11 n12 s13 b14 k0 k1) none
abbrev AH (b:Code):Prop:=∀ (k:Out->St σ->Option R) n0 n1 s2 n3 n4 n5 n6 n7 n8v n9 n10 n11 n12 s13 b14,B0 (Bq lf) cl yh b ⟨gp [(4,.ptr 0 0 0),(0,.ptr 1 0 0),(0,.ptr 2 0 0),(1,.ptr 4 0 0),(0,.ptr 5 0 0),(27,.fnr (Fn.func 46) [] [.ptr 7 0 0])] 12,[.box [pI n0],.box [.s (.nilp)],.box [.s (.nilp)],.box [pI n1,pS s2,p32 n3,p16 n4,p16 n5,p16 n6,p16 n7,p16 n8v,p16 n9,p16 n10,p16 n11],.box [pI (0:Int),pS ([]:List UInt8),pB false],.box [pI (0:Int),pS ([]:List UInt8),pB false],.box [pI n12,pS s13,pB b14],.box [pS s2]],s⟩ k=Tc lf n0 n1 s2 n3 n4 n5 n6 n7 n8v n9 n10 n11 n12 s13 b14 (λn0 n1 s2 n3 n4 n5 n6 n7 n8v n9 n10 n11 n12 s13 b14=>k .normal ⟨gp [(4,.ptr 0 0 0),(0,.ptr 1 0 0),(0,.ptr 2 0 0),(1,.ptr 4 0 0),(0,.ptr 5 0 0),(27,.fnr (Fn.func 46) [] [.bad])] 12,[.box [pI n0],.box [.s (.nilp)],.box [.s (.nilp)],.box [pI n1,pS s2,p32 n3,p16 n4,p16 n5,p16 n6,p16 n7,p16 n8v,p16 n9,p16 n10,p16 n11],.box [pI (0:Int),pS ([]:List UInt8),pB false],.box [pI (0:Int),pS ([]:List UInt8),pB false],.box [pI n12,pS s13,pB b14],.box [.bad]],s⟩) (λn0 n1 s2 n3 n4 n5 n6 n7 n8v n9 n10 n11 n12 s13 b14 n15 s16 b17=>k (.exit 0) ⟨gp [(4,.ptr 0 0 0),(0,.ptr 1 0 0),(0,.ptr 2 0 0),(1,.ptr 4 0 0),(0,.ptr 5 0 0),(27,.fnr (Fn.func 46) [] [.bad])] 12,[.box [pI n0],.box [.s (.nilp)],.box [.s (.nilp)],.box [pI n1,pS s2,p32 n3,p16 n4,p16 n5,p16 n6,p16 n7,p16 n8v,p16 n9,p16 n10,p16 n11],.box [pI (0:Int),pS ([]:List UInt8),pB false],.box [pI n12,pS s13,pB b14],.box [pI n15,pS s16,pB b17],.box [.bad]],s⟩)
theorem PZ:AH (R:=R) lf cl yh s (cd [1,0,1,1,1,1,0,1,0] Om):=by
 intro k n0 n1 s2 n3 n4 n5 n6 n7 n8v n9 n10 n11 n12 s13 b14;unfold Tc;exact ((KE [1,0,1,1,1,1,0,1,0] (by kernel_rfl)).trans (by kernel_rfl)).trans (Ch (QA lf cl yh s k (E3 s2) n0 n1 s2 n3 n4 n5 n6 n7 n8v n9 n10 n11 n12 s13 b14))
noncomputable def Al6 {R:Type} (lf:Nat) (now kd:Int) (nm:By) (v4 a0 a1 a2 a3 a4 a5 a6 a7:Int) (k0:Int->Int->By->Int->Int->Int->Int->Int->Int->Int->Int->Int->Option R) (k1:Int->By->Bool->Int->Int->By->Int->Int->Int->Int->Int->Int->Int->Int->Int->Option R) (k2:Int->By->Bool->Int->Int->By->Int->Int->Int->Int->Int->Int->Int->Int->Int->Int->By->Bool->Int->By->Bool->Int->By->Bool->Option R):Option R:=cond (kd != 1) (k0 now kd nm v4 a0 a1 a2 a3 a4 a5 a6 a7) (cond (A2 nm.length) (cond (ltN v4 4294967296) (cond (ok8 a0 a1 a2 a3 a4 a5 a6 a7) (cond (not (Q9 (mkH kd nm v4 (n8 a0 a1 a2 a3 a4 a5 a6 a7)))) (k0 now kd nm v4 a0 a1 a2 a3 a4 a5 a6 a7) (cond (A2 nm.length) (vl (((atV now List.nil List.nil nm true)).1).1 λn'2=>vl ((((atV now List.nil List.nil nm true)).1).2).1 λs'3=>cond ((atV now List.nil List.nil nm true)).2 (k1 n'2 s'3 ((((atV now List.nil List.nil nm true)).1).2).2 now kd nm v4 a0 a1 a2 a3 a4 a5 a6 a7) (Tc lf now kd nm v4 a0 a1 a2 a3 a4 a5 a6 a7 n'2 s'3 ((((atV now List.nil List.nil nm true)).1).2).2 (λn'7 n'8 s'9 n'10 n'11 n'12 n'13 n'14 n'15 n'16 n'17 n'18 n'19 s'20 b'21=>k2 0 ([]:List UInt8) false n'7 n'8 s'9 n'10 n'11 n'12 n'13 n'14 n'15 n'16 n'17 n'18 0 ([]:List UInt8) false 0 ([]:List UInt8) false n'19 s'20 b'21) (λn'22 n'23 s'24 n'25 n'26 n'27 n'28 n'29 n'30 n'31 n'32 n'33 n'34 s'35 b'36 n'37 s'38 b'39=>k2 n'34 s'35 b'36 n'22 n'23 s'24 n'25 n'26 n'27 n'28 n'29 n'30 n'31 n'32 n'33 n'34 s'35 b'36 n'34 s'35 b'36 n'37 s'38 b'39))) none)) none) none) none)
theorem Az6 (b_101111010:Code) (h_cfdD_e1:AH (R:=PV × List Blk × σ) lf cl yh s b_101111010) (now kd:Int) (nm:By) (v4 a0 a1 a2 a3 a4 a5 a6 a7:Int):B0 (Bq lf) cl yh (cd [] (U1 [1,0,1,1,1,1,0,1,0] b_101111010 Om)) ⟨[pI now,.s (.nilp),.s (.nilp),.agg [pI kd,pS nm,p32 v4,p16 a0,p16 a1,p16 a2,p16 a3,p16 a4,p16 a5,p16 a6,p16 a7]]++tps 46,[],s⟩ (J6 (Bq lf) Tryz.f13)=Al6 lf now kd nm v4 a0 a1 a2 a3 a4 a5 a6 a7 (λn0 n1 s2 n3 n4 n5 n6 n7 n8v n9 n10 n11=>some (.agg [pI (0:Int),pS ([]:List UInt8),pB false],[.box [pI n0],.box [.s (.nilp)],.box [.s (.nilp)],.box [pI n1,pS s2,p32 n3,p16 n4,p16 n5,p16 n6,p16 n7,p16 n8v,p16 n9,p16 n10,p16 n11],.box [pI (0:Int),pS ([]:List UInt8),pB false],.box [pI (0:Int),pS ([]:List UInt8),pB false]],s)) (λr0 r1 r2 n3 n4 s5 n6 n7 n8v n9 n10 n11 n12 n13 n14=>some (.agg [pI r0,pS r1,pB r2],[.box [pI n3],.box [.s (.nilp)],.box [.s (.nilp)],.box [pI n4,pS s5,p32 n6,p16 n7,p16 n8v,p16 n9,p16 n10,p16 n11,p16 n12,p16 n13,p16 n14],.box [pI r0,pS r1,pB r2],.box [pI (0:Int),pS ([]:List UInt8),pB false],.box [pI r0,pS r1,pB r2]],s)) (λr0 r1 r2 n3 n4 s5 n6 n7 n8v n9 n10 n11 n12 n13 n14 n15 s16 b17 n18 s19 b20 n21 s22 b23=>some (.agg [pI r0,pS r1,pB r2],[.box [pI n3],.box [.s (.nilp)],.box [.s (.nilp)],.box [pI n4,pS s5,p32 n6,p16 n7,p16 n8v,p16 n9,p16 n10,p16 n11,p16 n12,p16 n13,p16 n14],.box [pI n15,pS s16,pB b17],.box [pI n18,pS s19,pB b20],.box [pI n21,pS s22,pB b23],.box [.bad]],s)):=by
 unfold Al6;exact (Eq.trans (by kernel_rfl) (A0 rfl (A0 (A0 (A0 (A0 rfl (A0 (B9 λn'2=>(B9 λs'3=>(A0 rfl ((h_cfdD_e1 (O4 0 (P3 (Bq lf) cl yh (cd [1,0,1,1,1,1,1] Om) (J6 (Bq lf) Tryz.f13))) now kd nm v4 a0 a1 a2 a3 a4 a5 a6 a7 n'2 s'3 ((((atV now List.nil List.nil nm true)).1).2).2).trans (by kernel_rfl))))) rfl)) rfl) rfl) rfl)))
theorem Az7 (d:Nat) (now kd nm v4 a0 a1 a2 a3 a4 a5 a6 a7):evC (Bq lf) (d+1) σ yh 13 [pI now,.s (.nilp),.s (.nilp),.agg [pI kd,pS nm,p32 v4,p16 a0,p16 a1,p16 a2,p16 a3,p16 a4,p16 a5,p16 a6,p16 a7]] [] s=Al6 lf now kd nm v4 a0 a1 a2 a3 a4 a5 a6 a7 (λn0 n1 s2 n3 n4 n5 n6 n7 n8v n9 n10 n11=>some (.agg [pI (0:Int),pS ([]:List UInt8),pB false],[.box [pI n0],.box [.s (.nilp)],.box [.s (.nilp)],.box [pI n1,pS s2,p32 n3,p16 n4,p16 n5,p16 n6,p16 n7,p16 n8v,p16 n9,p16 n10,p16 n11],.box [pI (0:Int),pS ([]:List UInt8),pB false],.box [pI (0:Int),pS ([]:List UInt8),pB false]],s)) (λr0 r1 r2 n3 n4 s5 n6 n7 n8v n9 n10 n11 n12 n13 n14=>some (.agg [pI r0,pS r1,pB r2],[.box [pI n3],.box [.s (.nilp)],.box [.s (.nilp)],.box [pI n4,pS s5,p32 n6,p16 n7,p16 n8v,p16 n9,p16 n10,p16 n11,p16 n12,p16 n13,p16 n14],.box [pI r0,pS r1,pB r2],.box [pI (0:Int),pS ([]:List UInt8),pB false],.box [pI r0,pS r1,pB r2]],s)) (λr0 r1 r2 n3 n4 s5 n6 n7 n8v n9 n10 n11 n12 n13 n14 n15 s16 b17 n18 s19 b20 n21 s22 b23=>some (.agg [pI r0,pS r1,pB r2],[.box [pI n3],.box [.s (.nilp)],.box [.s (.nilp)],.box [pI n4,pS s5,p32 n6,p16 n7,p16 n8v,p16 n9,p16 n10,p16 n11,p16 n12,p16 n13,p16 n14],.box [pI n15,pS s16,pB b17],.box [pI n18,pS s19,pB b20],.box [pI n21,pS s22,pB b23],.box [.bad]],s)):=
 (evE (fn:=Tryz.f13) (by kernel_rfl)).trans (Eq.trans (by kernel_rfl) (Az6 lf (evC (Bq lf) d) yh s (cd [1,0,1,1,1,1,0,1,0] Om) (PZ lf (evC (Bq lf) d) yh s) now kd nm v4 a0 a1 a2 a3 a4 a5 a6 a7))
noncomputable abbrev Al7 (now kd:Int) (nm:By) (v4 a0 a1 a2 a3 a4 a5 a6 a7:Int):Option (PV × List Blk × Unit):=Al6 LF now kd nm v4 a0 a1 a2 a3 a4 a5 a6 a7 (λn0 n1 s2 n3 n4 n5 n6 n7 n8v n9 n10 n11=>some (.agg [pI (0:Int),pS ([]:List UInt8),pB false],[.box [pI n0],.box [.s (.nilp)],.box [.s (.nilp)],.box [pI n1,pS s2,p32 n3,p16 n4,p16 n5,p16 n6,p16 n7,p16 n8v,p16 n9,p16 n10,p16 n11],.box [pI (0:Int),pS ([]:List UInt8),pB false],.box [pI (0:Int),pS ([]:List UInt8),pB false]],())) (λr0 r1 r2 n3 n4 s5 n6 n7 n8v n9 n10 n11 n12 n13 n14=>some (.agg [pI r0,pS r1,pB r2],[.box [pI n3],.box [.s (.nilp)],.box [.s (.nilp)],.box [pI n4,pS s5,p32 n6,p16 n7,p16 n8v,p16 n9,p16 n10,p16 n11,p16 n12,p16 n13,p16 n14],.box [pI r0,pS r1,pB r2],.box [pI (0:Int),pS ([]:List UInt8),pB false],.box [pI r0,pS r1,pB r2]],())) (λr0 r1 r2 n3 n4 s5 n6 n7 n8v n9 n10 n11 n12 n13 n14 n15 s16 b17 n18 s19 b20 n21 s22 b23=>some (.agg [pI r0,pS r1,pB r2],[.box [pI n3],.box [.s (.nilp)],.box [.s (.nilp)],.box [pI n4,pS s5,p32 n6,p16 n7,p16 n8v,p16 n9,p16 n10,p16 n11,p16 n12,p16 n13,p16 n14],.box [pI n15,pS s16,pB b17],.box [pI n18,pS s19,pB b20],.box [pI n21,pS s22,pB b23],.box [.bad]],()))
noncomputable def Ow (lf:Nat):Cfg:=C0 lf [8] (A3 []) [(13,IU)] (A3 [(1,[8]),(0,[0,0,0,4])]) [] (A3 []) (some [8]) [] [] []
noncomputable def Td {R:Type} (lf:Nat) (now:Int) (tz tt:Bool) (t:LL) (cp:Int) (lz lt:Bool) (l:LL) (kd:Int) (nm:By) (v4 a0 a1 a2 a3 a4 a5 a6 a7:Int) (k0:Bool->Int->By->Int->Int->Int->Int->Int->Int->Int->Int->Int->Option R):Option R:=cond (List.all t D1) (cond (List.all t smE) (cond (A2 t.length) (cond (List.all l E4) (cond (List.all l smE) (cond (A2 l.length) (cond (A2 nm.length) (cond (ltN v4 4294967296) (cond (ok8 a0 a1 a2 a3 a4 a5 a6 a7) (vl ((D2 now (List.map A4 t) (List.map A6 l) kd (mkH kd nm v4 (n8 a0 a1 a2 a3 a4 a5 a6 a7)))).1 λn'0=>vl (((D2 now (List.map A4 t) (List.map A6 l) kd (mkH kd nm v4 (n8 a0 a1 a2 a3 a4 a5 a6 a7)))).2).1 λs'1=>k0 (n'0 != 0) kd nm v4 a0 a1 a2 a3 a4 a5 a6 a7) none) none) none) none) none) none) none) none) none
theorem QB (d:Nat) (now tz tt t cp lz lt l kd nm v4 a0 a1 a2 a3 a4 a5 a6 a7):evC (Ow lf) (d+1) σ yh 8 [pI now,.s (.sp [[.sl tz tt 3 t,.int .i64 cp]] 0 0),.s (.sp [[.sl lz lt 2 l]] 0 0),.agg [pI kd,pS nm,p32 v4,p16 a0,p16 a1,p16 a2,p16 a3,p16 a4,p16 a5,p16 a6,p16 a7]] [] s=Td lf now tz tt t cp lz lt l kd nm v4 a0 a1 a2 a3 a4 a5 a6 a7 (λr0 n1 s2 n3 n4 n5 n6 n7 n8v n9 n10 n11=>some (pB r0,[.box [pI n1,pS s2,p32 n3,p16 n4,p16 n5,p16 n6,p16 n7,p16 n8v,p16 n9,p16 n10,p16 n11]],s)):=by
 refine (evE (fn:=Tryz.f8) (by kernel_rfl)).trans ?_
 generalize evC (Ow lf) d=cl
 unfold Td;kernel_rfl
noncomputable abbrev AL (now:Int) (tz tt:Bool) (t:LL) (cp:Int) (lz lt:Bool) (l:LL) (kd:Int) (nm:By) (v4 a0 a1 a2 a3 a4 a5 a6 a7:Int):Option (PV × List Blk × Unit):=Td LF now tz tt t cp lz lt l kd nm v4 a0 a1 a2 a3 a4 a5 a6 a7 (λr0 n1 s2 n3 n4 n5 n6 n7 n8v n9 n10 n11=>some (pB r0,[.box [pI n1,pS s2,p32 n3,p16 n4,p16 n5,p16 n6,p16 n7,p16 n8v,p16 n9,p16 n10,p16 n11]],()))
noncomputable def Ox (lf:Nat):Cfg:=C0 lf [8] (A3 []) [(13,IU)] (A3 [(1,[8]),(0,[0,0,0,4])]) [] (A3 []) (some [8]) [] [] []
noncomputable def Te {R:Type} (lf:Nat) (now:Int) (lz lt:Bool) (l:LL) (kd:Int) (nm:By) (v4 a0 a1 a2 a3 a4 a5 a6 a7:Int) (k0:Bool->Int->By->Int->Int->Int->Int->Int->Int->Int->Int->Int->Option R):Option R:=cond (List.all l E4) (cond (List.all l smE) (cond (A2 l.length) (cond (A2 nm.length) (cond (ltN v4 4294967296) (cond (ok8 a0 a1 a2 a3 a4 a5 a6 a7) (vl ((D2 now List.nil (List.map A6 l) kd (mkH kd nm v4 (n8 a0 a1 a2 a3 a4 a5 a6 a7)))).1 λn'0=>vl (((D2 now List.nil (List.map A6 l) kd (mkH kd nm v4 (n8 a0 a1 a2 a3 a4 a5 a6 a7)))).2).1 λs'1=>k0 (n'0 != 0) kd nm v4 a0 a1 a2 a3 a4 a5 a6 a7) none) none) none) none) none) none
theorem QD (d:Nat) (now lz lt l kd nm v4 a0 a1 a2 a3 a4 a5 a6 a7):evC (Ox lf) (d+1) σ yh 8 [pI now,.s (.nilp),.s (.sp [[.sl lz lt 2 l]] 0 0),.agg [pI kd,pS nm,p32 v4,p16 a0,p16 a1,p16 a2,p16 a3,p16 a4,p16 a5,p16 a6,p16 a7]] [] s=Te lf now lz lt l kd nm v4 a0 a1 a2 a3 a4 a5 a6 a7 (λr0 n1 s2 n3 n4 n5 n6 n7 n8v n9 n10 n11=>some (pB r0,[.box [pI n1,pS s2,p32 n3,p16 n4,p16 n5,p16 n6,p16 n7,p16 n8v,p16 n9,p16 n10,p16 n11]],s)):=by
 refine (evE (fn:=Tryz.f8) (by kernel_rfl)).trans ?_
 generalize evC (Ox lf) d=cl
 unfold Te;kernel_rfl
noncomputable abbrev AM (now:Int) (lz lt:Bool) (l:LL) (kd:Int) (nm:By) (v4 a0 a1 a2 a3 a4 a5 a6 a7:Int):Option (PV × List Blk × Unit):=Te LF now lz lt l kd nm v4 a0 a1 a2 a3 a4 a5 a6 a7 (λr0 n1 s2 n3 n4 n5 n6 n7 n8v n9 n10 n11=>some (pB r0,[.box [pI n1,pS s2,p32 n3,p16 n4,p16 n5,p16 n6,p16 n7,p16 n8v,p16 n9,p16 n10,p16 n11]],()))
noncomputable def Oy (lf:Nat):Cfg:=C0 lf [8] (A3 []) [(13,IU)] (A3 [(1,[8]),(0,[0,0,0,4])]) [] (A3 []) (some [8]) [] [] []
noncomputable def Tf {R:Type} (lf:Nat) (now:Int) (tz tt:Bool) (t:LL) (cp kd:Int) (nm:By) (v4 a0 a1 a2 a3 a4 a5 a6 a7:Int) (k0:Bool->Int->By->Int->Int->Int->Int->Int->Int->Int->Int->Int->Option R):Option R:=cond (List.all t D1) (cond (List.all t smE) (cond (A2 t.length) (cond (A2 nm.length) (cond (ltN v4 4294967296) (cond (ok8 a0 a1 a2 a3 a4 a5 a6 a7) (vl ((D2 now (List.map A4 t) List.nil kd (mkH kd nm v4 (n8 a0 a1 a2 a3 a4 a5 a6 a7)))).1 λn'0=>vl (((D2 now (List.map A4 t) List.nil kd (mkH kd nm v4 (n8 a0 a1 a2 a3 a4 a5 a6 a7)))).2).1 λs'1=>k0 (n'0 != 0) kd nm v4 a0 a1 a2 a3 a4 a5 a6 a7) none) none) none) none) none) none
theorem QG (d:Nat) (now tz tt t cp kd nm v4 a0 a1 a2 a3 a4 a5 a6 a7):evC (Oy lf) (d+1) σ yh 8 [pI now,.s (.sp [[.sl tz tt 3 t,.int .i64 cp]] 0 0),.s (.nilp),.agg [pI kd,pS nm,p32 v4,p16 a0,p16 a1,p16 a2,p16 a3,p16 a4,p16 a5,p16 a6,p16 a7]] [] s=Tf lf now tz tt t cp kd nm v4 a0 a1 a2 a3 a4 a5 a6 a7 (λr0 n1 s2 n3 n4 n5 n6 n7 n8v n9 n10 n11=>some (pB r0,[.box [pI n1,pS s2,p32 n3,p16 n4,p16 n5,p16 n6,p16 n7,p16 n8v,p16 n9,p16 n10,p16 n11]],s)):=by
 refine (evE (fn:=Tryz.f8) (by kernel_rfl)).trans ?_
 generalize evC (Oy lf) d=cl
 unfold Tf;kernel_rfl
noncomputable abbrev AN (now:Int) (tz tt:Bool) (t:LL) (cp kd:Int) (nm:By) (v4 a0 a1 a2 a3 a4 a5 a6 a7:Int):Option (PV × List Blk × Unit):=Tf LF now tz tt t cp kd nm v4 a0 a1 a2 a3 a4 a5 a6 a7 (λr0 n1 s2 n3 n4 n5 n6 n7 n8v n9 n10 n11=>some (pB r0,[.box [pI n1,pS s2,p32 n3,p16 n4,p16 n5,p16 n6,p16 n7,p16 n8v,p16 n9,p16 n10,p16 n11]],()))
noncomputable def Oz (lf:Nat):Cfg:=C0 lf [8] (A3 []) [(13,IU)] (A3 [(1,[8]),(0,[0,0,0,4])]) [] (A3 []) (some [8]) [] [] []
noncomputable def Tg {R:Type} (lf:Nat) (now kd:Int) (nm:By) (v4 a0 a1 a2 a3 a4 a5 a6 a7:Int) (k0:Bool->Int->By->Int->Int->Int->Int->Int->Int->Int->Int->Int->Option R):Option R:=cond (A2 nm.length) (cond (ltN v4 4294967296) (cond (ok8 a0 a1 a2 a3 a4 a5 a6 a7) (vl ((D2 now List.nil List.nil kd (mkH kd nm v4 (n8 a0 a1 a2 a3 a4 a5 a6 a7)))).1 λn'0=>vl (((D2 now List.nil List.nil kd (mkH kd nm v4 (n8 a0 a1 a2 a3 a4 a5 a6 a7)))).2).1 λs'1=>k0 (n'0 != 0) kd nm v4 a0 a1 a2 a3 a4 a5 a6 a7) none) none) none
theorem QI (d:Nat) (now kd nm v4 a0 a1 a2 a3 a4 a5 a6 a7):evC (Oz lf) (d+1) σ yh 8 [pI now,.s (.nilp),.s (.nilp),.agg [pI kd,pS nm,p32 v4,p16 a0,p16 a1,p16 a2,p16 a3,p16 a4,p16 a5,p16 a6,p16 a7]] [] s=Tg lf now kd nm v4 a0 a1 a2 a3 a4 a5 a6 a7 (λr0 n1 s2 n3 n4 n5 n6 n7 n8v n9 n10 n11=>some (pB r0,[.box [pI n1,pS s2,p32 n3,p16 n4,p16 n5,p16 n6,p16 n7,p16 n8v,p16 n9,p16 n10,p16 n11]],s)):=by
 refine (evE (fn:=Tryz.f8) (by kernel_rfl)).trans ?_
 generalize evC (Oz lf) d=cl
 unfold Tg;kernel_rfl
noncomputable abbrev AO (now kd:Int) (nm:By) (v4 a0 a1 a2 a3 a4 a5 a6 a7:Int):Option (PV × List Blk × Unit):=Tg LF now kd nm v4 a0 a1 a2 a3 a4 a5 a6 a7 (λr0 n1 s2 n3 n4 n5 n6 n7 n8v n9 n10 n11=>some (pB r0,[.box [pI n1,pS s2,p32 n3,p16 n4,p16 n5,p16 n6,p16 n7,p16 n8v,p16 n9,p16 n10,p16 n11]],()))
end
end
section
open Go Go.Op
set_option maxRecDepth 100000
theorem LV {l:List Ent} {i:Nat} (h:i<l.length):okE Qm (G3 l) i 0=true:=by unfold okE;rw [Hd h];simp [h,okS,Sl,SV.has,Qm]
theorem LW {l:List I9} {i:Nat} (h:i<l.length):okE Qm (N1 l) i 0=true:=by unfold okE;rw [Cj h];simp [h,okS,TU,SV.has,Qm]
theorem En {α:Type} (d:α) {l:List α} {i:Nat} (h:i<l.length):l.drop i=l.getD i d::l.drop (i+1):=by
 rw [List.getD_eq_getElem?_getD,List.getElem?_eq_getElem h,Option.getD_some,List.getElem_cons_drop]
theorem BK {R:Type} (z:Bool) (S:List Ent) (k0:List Blk->Option R) (k1:Bool->LL->Option R) (hl:S.length<=1000000000):∀ (r j m:Nat),j+1+r=S.length->r<m->
  Z1 LF m ((j+1:Nat):Int) z (G3 S) k0 k1=if EX (S.drop j) then k0 [.arr z 50 2 (G3 S)] else k1 z (G3 S)
 | 0,j,m,hj,hm=>by
  obtain ⟨m,rfl⟩:∃ q,m=q+1:=⟨m-1,by omega⟩
  rw [Z1,L8 (by rw [F0];omega),En noE (by omega),List.drop_of_length_le (i:=j+1) (by omega)]
  rfl
 | r+1,j,m,hj,hm=>by
  obtain ⟨m,rfl⟩:∃ q,m=q+1:=⟨m-1,by omega⟩
  have e1:A5 (((j+1:Nat):Int)-1)=(j:Int):=by rw [B1];omega
  have e2:A5 (((j+1:Nat):Int)+1)=((j+1+1:Nat):Int):=by rw [B1];rfl
  rw [Z1,H5 (by rw [F0];omega),Q3 (by omega) (by rw [F0];omega),Int.toNat_natCast,LV (by omega),e1,Q3 (by omega) (by rw [F0];omega),Int.toNat_natCast,LV (by omega),Pn (by omega),Pn (by omega),e2]
  simp only [cond_true,vl]
  rw [En noE (by omega:j<S.length),En noE (by omega:j+1<S.length)]
  unfold EX
  cases hq:((S.getD (j+1) noE).1==(S.getD j noE).1) with
  | true=>rfl
  | false=>
   rw [cond_false,BK z S k0 k1 hl r (j+1) m (by omega) (by omega),En noE (by omega:j+1<S.length),Bool.false_or]
theorem BL {R:Type} {k0:Int->List Blk->Option R} {k1:Bool->LL->List Blk->Option R} (z t:Bool) (l:LL) (h0:l.all E4=true) (h1:l.all smE=true) (h2:A2 l.length=true) (hz:M0 z l=true) :
  (Ex (l.map A6)=0->ZL LF z t l k0 k1=k1 z (G3 (isE (l.map A6))) [])/\(Ex (l.map A6)≠0->∃ H,ZL LF z t l k0 k1=k0 (Ex (l.map A6):Nat) H):=by
 have hLF:=K9
 have hl:=U0 h2
 have hr:=Ly h0
 generalize hE:l.map A6=E at hr
 subst hr
 rw [F0] at hl
 have hs:=As0 h1
 have hp:=(Cn hs).length_eq
 unfold ZL Ex
 rw [Th] at hE ⊢
 by_cases c1:1000<E.length
 ·rw [H5 (by rw [F0];omega),if_pos c1]
  exact ⟨λh=>(by cases h),λ_=>⟨_,rfl⟩⟩
 ·rw [L8 (by rw [F0];omega),if_neg c1,cond_false,h0,h1,h2]
  simp only [cond_true,Bool.and_self]
  cases c2:OG E with
  | true=>exact ⟨λh=>(by cases h),λ_=>⟨_,rfl⟩⟩
  | false=>
   rw [hz]
   simp only [cond_true,cond_false,Bool.false_eq_true,if_false]
   have key:Z1 LF LF 1 z (G3 (P4 E)) (λH=>k0 17 H) (λz l=>k1 z l [])=if Sk (E.map Prod.fst) then k0 17 [.arr z 50 2 (G3 (P4 E))] else k1 z (G3 (P4 E)) []:=by
    rw [<-Ah4 hs]
    by_cases c0:E.length=0
    ·have e0:P4 E=[]:=List.eq_nil_of_length_eq_zero (by omega)
     rw [e0]
     obtain ⟨m,hm⟩:∃ q,LF=q+1:=⟨LF-1,by omega⟩
     have:∀ m,m=LF->Z1 LF m 1 z (G3 []) (λH=>k0 17 H) (λz l=>k1 z l [])=k1 z (G3 []) []:=λm' hm'=>by
      obtain ⟨q,rfl⟩:∃ q,m'=q+1:=⟨m'-1,by omega⟩
      rw [Z1];rfl
     exact this LF rfl
    ·exact BK z (P4 E) (λH=>k0 17 H) (λz l=>k1 z l []) (by omega) (E.length-1) 0 LF (by omega) (by omega)
   rw [key]
   cases c3:Sk (E.map Prod.fst) with
   | true=>exact ⟨λh=>(by cases h),λ_=>⟨_,rfl⟩⟩
   | false=>
    rw [Ac2 hs c3]
    exact ⟨λ_=>rfl,λh=>absurd rfl h⟩
theorem Rt {R:Type} (z t:Bool) (T:List I9) (N:LL) (cp:Int) (k0:Int->LL->Int->By->Bool->Int->Option R) (k1:Bool->Bool->LL->LL->Int->Option R) (hs:(N1 T).all smE=true) (hl:T.length<=1000000000):∀ (r i m:Nat),i+r=T.length->r<m->
  (GS (if i=0 then none else some (T.getD (i-1) noP).1) (T.drop i)=0->Q1 LF m z t (N1 T) (T.length:Int) (i:Int) N cp k0 k1=k1 z t (N1 T) N cp)/\
  (GS (if i=0 then none else some (T.getD (i-1) noP).1) (T.drop i)≠0->∃ s b n,Q1 LF m z t (N1 T) (T.length:Int) (i:Int) N cp k0 k1=k0 ((GS (if i=0 then none else some (T.getD (i-1) noP).1) (T.drop i):Nat):Int) N cp s b n)
 | 0,i,m,hi,hm=>by
  obtain ⟨m,rfl⟩:∃ q,m=q+1:=⟨m-1,by omega⟩
  rw [Q1,L8 (by omega),List.drop_of_length_le (by omega)]
  exact ⟨λ_=>rfl,λh=>absurd rfl h⟩
 | r+1,i,m,hi,hm=>by
  obtain ⟨m,rfl⟩:∃ q,m=q+1:=⟨m-1,by omega⟩
  have hlt:i<T.length:=by omega
  have ih:=Rt z t T N cp k0 k1 hs hl r (i+1) m (by omega) (by omega)
  rw [if_neg (Nat.succ_ne_zero i),Nat.add_sub_cancel] at ih
  have e2:A5 ((i:Int)+1)=((i+1:Nat):Int):=by rw [B1];rfl
  rw [Q1,H5 (by omega),Q3 (by omega) (by rw [K8];omega),Int.toNat_natCast,Tq hlt,Po hlt,An9 hlt,An8 hlt,e2,En noP hlt]
  simp only [cond_true,vl]
  rw [Tx hs hlt,cond_true]
  unfold GS
  cases hv:Hp (T.getD i noP).1 (T.getD i noP).2.2 with
  | false=>exact ⟨λh=>(by cases h),λ_=>⟨_,_,_,rfl⟩⟩
  | true=>
   simp only [Bool.not_true,cond_false,if_true]
   by_cases h0:i=0
   ·subst h0
    rw [L8 (by omega),cond_false]
    exact ih
   ·have e1:A5 ((i:Int)-1)=((i-1:Nat):Int):=by rw [B1];omega
    rw [H5 (by omega),e1,Q3 (by omega) (by rw [K8];omega),Int.toNat_natCast,LW (by omega),Po (by omega),Tx hs (by omega:i-1<T.length),if_neg h0]
    simp only [cond_true]
    have ec:ltI (J2 (T.getD (i-1) noP).1 (T.getD i noP).1) 0=J5 (T.getD (i-1) noP).1 (T.getD i noP).1:=by rw [Q7];exact U4 _ _
    rw [ec]
    cases hn:J5 (T.getD (i-1) noP).1 (T.getD i noP).1 with
    | false=>exact ⟨λh=>(by cases h),λ_=>⟨_,_,_,rfl⟩⟩
    | true=>exact ih
theorem Ru {R:Type} {k0:LL->Int->Option R} {k1:Int->LL->Int->By->Bool->Int->Option R} {k2:LL->Int->Bool->LL->Option R} (z t:Bool) (l:LL) (cp:Int) (h0:l.all D1=true) (h1:l.all smE=true) (h2:A2 l.length=true) (hz:M0 z l=true) (hc:(ltI 0 cp&&ltI cp 1001)=true) :
  (U8 cp (l.map A4)=0->Qd LF z t l cp k0 k1 k2=k2 [] cp z l)/\(U8 cp (l.map A4)≠0->(U8 cp (l.map A4)=11/\Qd LF z t l cp k0 k1 k2=k0 [] cp)\/∃ s b n,Qd LF z t l cp k0 k1 k2=k1 (U8 cp (l.map A4):Nat) [] cp s b n):=by
 have hLF:=K9
 have hl:=U0 h2
 have hr:=Iv h0
 generalize hE:l.map A4=T at hr
 subst hr
 rw [K8] at hl
 unfold Qd U8
 rw [hc,cond_true,K8]
 cases c1:ltI cp (T.length:Nat) with
 | true=>exact ⟨λh=>(by cases h),λ_=>.inl ⟨rfl,rfl⟩⟩
 | false=>
  simp only [cond_false]
  have key:=Rt z t T [] cp (λn l m s b e=>k1 n l m s b e) (λz' t' p l n=>cond (A2 p.length) (cond (M0 z' p) (k2 l n z' p) none) none) h1 hl T.length 0 LF (by omega) (by omega)
  rw [if_pos rfl,List.drop_zero] at key
  refine ⟨λh=>?_,λh=>.inr (key.2 h)⟩
  refine (key.1 h).trans ?_
  rw [h2,hz]
  rfl
theorem WH (z t:Bool) (l:LL) (h0:l.all E4=true) (h1:l.all smE=true) (h2:A2 l.length=true) (hz:M0 z l=true) {b:Bool} (hb:(Ex (l.map A6)==0)=b) :
  ∃ r H,Ap6 z t l=rv r H/\r.stabQ [0,0] [2] H=cond b (.tup [.s (.sp [[.sl z z 2 (G3 (isE (l.map A6)))]] 0 0),pI 0]) (.tup [.s .nilp,pI (Ex (l.map A6):Nat)]):=by
 unfold Ap6
 cases b with
 | true=>
  refine ⟨_,_,(BL z t l h0 h1 h2 hz).1 (eq_of_beq hb),?_⟩
  have hzz:(z&&(G3 (isE (l.map A6))).isEmpty)=z:=by
   cases z with
   | false=>rfl
   | true=>rw [SX hz rfl];rfl
  show PV.tup [.s (.sp [[.sl (z&&(G3 (isE (l.map A6))).isEmpty) (z&&(G3 (isE (l.map A6))).isEmpty) 2 (G3 (isE (l.map A6)))]] 0 0),pI 0]=_
  rw [hzz];rfl
 | false=>
  obtain ⟨H,e⟩:=(BL z t l h0 h1 h2 hz).2 (by simpa using hb)
  exact ⟨_,_,e,rfl⟩
theorem TW {R:Type} {k0:Unit->Option R} {k1:Int->Option R} (n:Int) (h:(ltI 0 n&&ltI n 1001)=true):WU LF n k0 k1=k1 n:=by
 rw [Bool.and_eq_true,Q7,Q7,decide_eq_true_eq,decide_eq_true_eq] at h
 unfold WU
 rw [L8 (by omega),L8 (by omega)]
 rfl
theorem Aj3 {h:List By} {s:By} (H:bsB h s=true):bsI h s<h.length:=by
 unfold bsB at H
 rw [Bool.and_eq_true] at H
 exact Ib.1 H.1
theorem Ap2 (lz lt:Bool) (l:LL) (q:By) (h0:l.all E4=true) (h1:l.all smE=true) (h2:A2 l.length=true) (h3:A2 q.length=true) :
  ∃ r H,WF lz lt l q=rv r H/\r.stab [0,0] H = .tup [.agg [pS (L3 (l.map A6) q).1.1,pB (L3 (l.map A6) q).1.2],pB (L3 (l.map A6) q).2]:=by
 have hl:=U0 h2
 have hr:=Ly h0
 unfold WF WE
 rw [h0,h1,h2,h3]
 simp only [cond_true,vl]
 generalize hE:l.map A6=E at hr
 subst hr
 rw [F0] at hl ⊢
 unfold L3 Sm
 cases hb:bsB (E.map Prod.fst) q with
 | false=>exact ⟨_,_,rfl,rfl⟩
 | true=>
  have hlt:bsI (E.map Prod.fst) q<E.length:=by have:=Aj3 hb;rwa [List.length_map] at this
  rw [Bool.not_true,cond_false,Q3 (by omega) (by omega),Int.toNat_natCast,Tp hlt,Pn hlt,Bg2 hlt]
  exact ⟨_,_,rfl,rfl⟩
theorem Ap5 (q:By):∃ r H,A35 q=rv r H/\r.stab [0,0] H = .tup [.agg [pS [],pB false],pB false]:=⟨_,_,rfl,rfl⟩
theorem UR {R:Type} {k0:Int->Bool->Option R} (tz tt:Bool) (t:LL) (cp:Int) (q:By) (h0:t.all D1=true) (h1:t.all smE=true) (h2:A2 t.length=true) (h3:A2 q.length=true) :
  XA LF tz tt t cp q k0=k0 ((bsI ((t.map A4).map Prod.fst) q:Nat):Int) (bsB ((t.map A4).map Prod.fst) q):=by
 unfold XA
 rw [h0,h1,h2,h3]
 rfl
theorem US {R:Type} {k0:Unit->Option R} (q:By):As9 LF q k0=k0 ():=rfl
theorem At2 (tz tt:Bool) (t:LL) (cp:Int) (q:By) (h0:t.all D1=true) (h1:t.all smE=true) (h2:A2 t.length=true) (h3:A2 q.length=true) :
  ∃ r H,XC tz tt t cp q=rv r H/\r.stab [0,0] H = .tup [.agg [pS (E0 (t.map A4) q).1.1,pB (E0 (t.map A4) q).1.2.1,pI (E0 (t.map A4) q).1.2.2],pB (E0 (t.map A4) q).2]:=by
 have hl:=U0 h2
 have hr:=Iv h0
 unfold XC XB
 rw [h0,h1,h2,h3]
 simp only [cond_true,vl]
 generalize hE:t.map A4=T at hr
 subst hr
 rw [K8] at hl ⊢
 unfold E0 Sm
 cases hb:bsB (T.map Prod.fst) q with
 | false=>exact ⟨_,_,rfl,rfl⟩
 | true=>
  have hlt:bsI (T.map Prod.fst) q<T.length:=by have:=Aj3 hb;rwa [List.length_map] at this
  rw [Bool.not_true,cond_false,Q3 (by omega) (by omega),Int.toNat_natCast,Tq hlt,Po hlt,An9 hlt,An8 hlt]
  exact ⟨_,_,rfl,rfl⟩
theorem At5 (q:By):∃ r H,A97 q=rv r H/\r.stab [0,0] H = .tup [.agg [pS [],pB false,pI 0],pB false]:=⟨_,_,rfl,rfl⟩
abbrev A14 (v:Yk × Bool):PV:=.tup [.agg [pI v.1.1,pS v.1.2.1,pB v.1.2.2],pB v.2]
theorem KP (u:By):E0 [] u=(noP,false):=rfl
theorem KO (u:By):L3 [] u=(noE,false):=rfl
theorem Ax7 (now:Int) (tz tt:Bool) (t:LL) (cp:Int) (lz lt:Bool) (l:LL) (u:By) (ex:Bool) (h0:t.all D1=true) (h1:t.all smE=true) (h2:A2 t.length=true) (h3:l.all E4=true) (h4:l.all smE=true) (h5:A2 l.length=true) (h6:A2 u.length=true) :
  ∃ r H,Ak3 now tz tt t cp lz lt l u ex=rv r H/\r.stab [0,0] H=A14 (atV now (t.map A4) (l.map A6) u ex):=by
 unfold Ak3 Ak2 Sx Lh atV LN
 rw [h0,h1,h2,h3,h4,h5,h6]
 simp only [cond_true,vl,Bool.not_not]
 generalize E0 (t.map A4) u=p
 generalize L3 (l.map A6) u=e
 obtain ⟨⟨ph,pb,pe⟩,pk⟩:=p
 obtain ⟨⟨eh,eb⟩,ek⟩:=e
 cases pk<;>cases (ltI now pe)<;>cases ex<;>cases pb<;>cases ek<;>cases eb<;>exact ⟨_,_,rfl,rfl⟩
theorem Ay0 (now:Int) (lz lt:Bool) (l:LL) (u:By) (ex:Bool) (h3:l.all E4=true) (h4:l.all smE=true) (h5:A2 l.length=true) (h6:A2 u.length=true) :
  ∃ r H,Ak4 now lz lt l u ex=rv r H/\r.stab [0,0] H=A14 (atV now [] (l.map A6) u ex):=by
 unfold Ak4 Ax8 atV LN
 rw [h3,h4,h5,h6,KP]
 simp only [cond_true,vl]
 generalize L3 (l.map A6) u=e
 obtain ⟨⟨eh,eb⟩,ek⟩:=e
 cases ex<;>cases ek<;>cases eb<;>exact ⟨_,_,rfl,rfl⟩
theorem Ay3 (now:Int) (tz tt:Bool) (t:LL) (cp:Int) (u:By) (ex:Bool) (h0:t.all D1=true) (h1:t.all smE=true) (h2:A2 t.length=true) (h6:A2 u.length=true) :
  ∃ r H,Ak6 now tz tt t cp u ex=rv r H/\r.stab [0,0] H=A14 (atV now (t.map A4) [] u ex):=by
 unfold Ak6 Ak5 Sy Li atV LN
 rw [h0,h1,h2,h6,KO]
 simp only [cond_true,vl,Bool.not_not]
 generalize E0 (t.map A4) u=p
 obtain ⟨⟨ph,pb,pe⟩,pk⟩:=p
 cases pk<;>cases (ltI now pe)<;>cases ex<;>cases pb<;>exact ⟨_,_,rfl,rfl⟩
theorem Ay6 (now:Int) (u:By) (ex:Bool) (h6:A2 u.length=true):∃ r H,Ak7 now u ex=rv r H/\r.stab [0,0] H=A14 (atV now [] [] u ex):=by
 unfold Ak7 Ay4 atV
 rw [KP,KO]
 exact ⟨_,_,rfl,rfl⟩
theorem Bc {s:By} (h:A2 s.length=true):∀ u∈E3 s,A2 u.length=true:=λu hu=>by
 have:=(X1 (N6 s) u hu).2
 have:=U0 h
 exact WZ
abbrev gC3 (v:Yk):PV:=.agg [pI v.1,pS v.2.1,pB v.2.2]
theorem AA {R:Type} (now:Int) (tz tt:Bool) (t:LL) (cp:Int) (lz lt:Bool) (l:LL) (kd:Int) (nm:By) (v4 a0 a1 a2 a3 a4 a5 a6 a7:Int) (n:Int) (s:By) (b:Bool) (k0 k1:_) (h0:t.all D1=true) (h1:t.all smE=true) (h2:A2 t.length=true) (h3:l.all E4=true) (h4:l.all smE=true) (h5:A2 l.length=true):∀ L:List By,(∀ u∈L,A2 u.length=true)->
  Lj (R:=R) LF L now tz tt t cp lz lt l kd nm v4 a0 a1 a2 a3 a4 a5 a6 a7 n s b k0 k1=match L.find? λu=>(atV now (t.map A4) (l.map A6) u false).2 with
   | some u=>k1 now tz tt t cp lz lt l kd nm v4 a0 a1 a2 a3 a4 a5 a6 a7 (atV now (t.map A4) (l.map A6) u false).1.1 (atV now (t.map A4) (l.map A6) u false).1.2.1 (atV now (t.map A4) (l.map A6) u false).1.2.2 n s b
   | none=>k0 now tz tt t cp lz lt l kd nm v4 a0 a1 a2 a3 a4 a5 a6 a7 n s b
 | [],_=>rfl
 | x::r,hs=>by
  have ih:=AA now tz tt t cp lz lt l kd nm v4 a0 a1 a2 a3 a4 a5 a6 a7 n s b k0 k1 h0 h1 h2 h3 h4 h5 r λu hu=>hs u (by simp [hu])
  rw [Zz]
  unfold Lk
  rw [h0,h1,h2,h3,h4,h5,hs x (by simp),List.find?_cons]
  simp only [cond_true,vl]
  rw [ih]
  cases q1:(atV now (t.map A4) (l.map A6) x false).2<;>rfl
theorem Ay9 (now:Int) (tz tt:Bool) (t:LL) (cp:Int) (lz lt:Bool) (l:LL) (kd:Int) (nm:By) (v4 a0 a1 a2 a3 a4 a5 a6 a7:Int) (h0:t.all D1=true) (h1:t.all smE=true) (h2:A2 t.length=true) (h3:l.all E4=true) (h4:l.all smE=true) (h5:A2 l.length=true) (g0:A2 nm.length=true) (g1:ltN v4 4294967296=true) (g2:ok8 a0 a1 a2 a3 a4 a5 a6 a7=true):∃ r H,Al1 now tz tt t cp lz lt l kd nm v4 a0 a1 a2 a3 a4 a5 a6 a7=rv r H/\r.stab [] H=gC3 (D2 now (t.map A4) (l.map A6) kd (mkH kd nm v4 (n8 a0 a1 a2 a3 a4 a5 a6 a7))):=by
 unfold Al1 Al0 Sz D2
 by_cases hk:kd=1
 ·subst hk
  rw [show ((1:Int) != 1)=false from rfl,show ((1:Int)==1)=true from rfl,g0,g1,g2,h0,h1,h2,h3,h4,h5]
  simp only [cond_true,cond_false,vl]
  cases hv:Q9 (mkH 1 nm v4 (n8 a0 a1 a2 a3 a4 a5 a6 a7)) with
  | false=>exact ⟨_,_,rfl,rfl⟩
  | true=>
   simp only [Bool.not_true,cond_true,cond_false]
   show ∃ (r:PV) (H:List Blk),_/\r.stab [] H=gC3 (Z8 now (t.map A4) (l.map A6) nm)
   unfold Z8
   cases hg:(atV now (t.map A4) (l.map A6) nm true).2 with
   | true=>exact ⟨_,_,rfl,rfl⟩
   | false=>
    rw [cond_false,AA now tz tt t cp lz lt l 1 nm v4 a0 a1 a2 a3 a4 a5 a6 a7 _ _ _ _ _ h0 h1 h2 h3 h4 h5 _ (Bc g0),if_neg (by simp)]
    cases hf:(E3 nm).find? λu=>(atV now (t.map A4) (l.map A6) u false).2 with
    | none=>exact ⟨_,_,rfl,rfl⟩
    | some u=>exact ⟨_,_,rfl,rfl⟩
 ·rw [show (kd != 1)=true by simpa using hk,show (kd==1)=false by simpa using hk]
  exact ⟨_,_,rfl,rfl⟩
theorem QC (now:Int) (tz tt:Bool) (t:LL) (cp:Int) (lz lt:Bool) (l:LL) (kd:Int) (nm:By) (v4 a0 a1 a2 a3 a4 a5 a6 a7:Int) (h0:t.all D1=true) (h1:t.all smE=true) (h2:A2 t.length=true) (h3:l.all E4=true) (h4:l.all smE=true) (h5:A2 l.length=true) (g0:A2 nm.length=true) (g1:ltN v4 4294967296=true) (g2:ok8 a0 a1 a2 a3 a4 a5 a6 a7=true):∃ r H,AL now tz tt t cp lz lt l kd nm v4 a0 a1 a2 a3 a4 a5 a6 a7=rv r H/\r.stab [] H=pB ((D2 now (t.map A4) (l.map A6) kd (mkH kd nm v4 (n8 a0 a1 a2 a3 a4 a5 a6 a7))).1 != 0):=by
 unfold AL Td
 rw [h0,h1,h2,h3,h4,h5,g0,g1,g2]
 exact ⟨_,_,rfl,rfl⟩
theorem AD {R:Type} (now:Int) (lz lt:Bool) (l:LL) (kd:Int) (nm:By) (v4 a0 a1 a2 a3 a4 a5 a6 a7:Int) (n:Int) (s:By) (b:Bool) (k0 k1:_) (h3:l.all E4=true) (h4:l.all smE=true) (h5:A2 l.length=true):∀ L:List By,(∀ u∈L,A2 u.length=true)->
  Ll (R:=R) LF L now lz lt l kd nm v4 a0 a1 a2 a3 a4 a5 a6 a7 n s b k0 k1=match L.find? λu=>(atV now [] (l.map A6) u false).2 with
   | some u=>k1 now lz lt l kd nm v4 a0 a1 a2 a3 a4 a5 a6 a7 (atV now [] (l.map A6) u false).1.1 (atV now [] (l.map A6) u false).1.2.1 (atV now [] (l.map A6) u false).1.2.2 n s b
   | none=>k0 now lz lt l kd nm v4 a0 a1 a2 a3 a4 a5 a6 a7 n s b
 | [],_=>rfl
 | x::r,hs=>by
  have ih:=AD now lz lt l kd nm v4 a0 a1 a2 a3 a4 a5 a6 a7 n s b k0 k1 h3 h4 h5 r λu hu=>hs u (by simp [hu])
  rw [AC]
  unfold Lm
  rw [h3,h4,h5,hs x (by simp),List.find?_cons]
  simp only [cond_true,vl]
  rw [ih]
  cases q1:(atV now [] (l.map A6) x false).2<;>rfl
theorem Az2 (now:Int) (lz lt:Bool) (l:LL) (kd:Int) (nm:By) (v4 a0 a1 a2 a3 a4 a5 a6 a7:Int) (h3:l.all E4=true) (h4:l.all smE=true) (h5:A2 l.length=true) (g0:A2 nm.length=true) (g1:ltN v4 4294967296=true) (g2:ok8 a0 a1 a2 a3 a4 a5 a6 a7=true):∃ r H,Al3 now lz lt l kd nm v4 a0 a1 a2 a3 a4 a5 a6 a7=rv r H/\r.stab [] H=gC3 (D2 now [] (l.map A6) kd (mkH kd nm v4 (n8 a0 a1 a2 a3 a4 a5 a6 a7))):=by
 unfold Al3 Al2 Ta D2
 by_cases hk:kd=1
 ·subst hk
  rw [show ((1:Int) != 1)=false from rfl,show ((1:Int)==1)=true from rfl,g0,g1,g2,h3,h4,h5]
  simp only [cond_true,cond_false,vl]
  cases hv:Q9 (mkH 1 nm v4 (n8 a0 a1 a2 a3 a4 a5 a6 a7)) with
  | false=>exact ⟨_,_,rfl,rfl⟩
  | true=>
   simp only [Bool.not_true,cond_true,cond_false]
   show ∃ (r:PV) (H:List Blk),_/\r.stab [] H=gC3 (Z8 now [] (l.map A6) nm)
   unfold Z8
   cases hg:(atV now [] (l.map A6) nm true).2 with
   | true=>exact ⟨_,_,rfl,rfl⟩
   | false=>
    rw [cond_false,AD now lz lt l 1 nm v4 a0 a1 a2 a3 a4 a5 a6 a7 _ _ _ _ _ h3 h4 h5 _ (Bc g0),if_neg (by simp)]
    cases hf:(E3 nm).find? λu=>(atV now [] (l.map A6) u false).2 with
    | none=>exact ⟨_,_,rfl,rfl⟩
    | some u=>exact ⟨_,_,rfl,rfl⟩
 ·rw [show (kd != 1)=true by simpa using hk,show (kd==1)=false by simpa using hk]
  exact ⟨_,_,rfl,rfl⟩
theorem QE (now:Int) (lz lt:Bool) (l:LL) (kd:Int) (nm:By) (v4 a0 a1 a2 a3 a4 a5 a6 a7:Int) (h3:l.all E4=true) (h4:l.all smE=true) (h5:A2 l.length=true) (g0:A2 nm.length=true) (g1:ltN v4 4294967296=true) (g2:ok8 a0 a1 a2 a3 a4 a5 a6 a7=true):∃ r H,AM now lz lt l kd nm v4 a0 a1 a2 a3 a4 a5 a6 a7=rv r H/\r.stab [] H=pB ((D2 now [] (l.map A6) kd (mkH kd nm v4 (n8 a0 a1 a2 a3 a4 a5 a6 a7))).1 != 0):=by
 unfold AM Te
 rw [h3,h4,h5,g0,g1,g2]
 exact ⟨_,_,rfl,rfl⟩
theorem AG {R:Type} (now:Int) (tz tt:Bool) (t:LL) (cp:Int) (kd:Int) (nm:By) (v4 a0 a1 a2 a3 a4 a5 a6 a7:Int) (n:Int) (s:By) (b:Bool) (k0 k1:_) (h0:t.all D1=true) (h1:t.all smE=true) (h2:A2 t.length=true):∀ L:List By,(∀ u∈L,A2 u.length=true)->
  Ln (R:=R) LF L now tz tt t cp kd nm v4 a0 a1 a2 a3 a4 a5 a6 a7 n s b k0 k1=match L.find? λu=>(atV now (t.map A4) [] u false).2 with
   | some u=>k1 now tz tt t cp kd nm v4 a0 a1 a2 a3 a4 a5 a6 a7 (atV now (t.map A4) [] u false).1.1 (atV now (t.map A4) [] u false).1.2.1 (atV now (t.map A4) [] u false).1.2.2 n s b
   | none=>k0 now tz tt t cp kd nm v4 a0 a1 a2 a3 a4 a5 a6 a7 n s b
 | [],_=>rfl
 | x::r,hs=>by
  have ih:=AG now tz tt t cp kd nm v4 a0 a1 a2 a3 a4 a5 a6 a7 n s b k0 k1 h0 h1 h2 r λu hu=>hs u (by simp [hu])
  rw [AF]
  unfold Lo
  rw [h0,h1,h2,hs x (by simp),List.find?_cons]
  simp only [cond_true,vl]
  rw [ih]
  cases q1:(atV now (t.map A4) [] x false).2<;>rfl
theorem Az5 (now:Int) (tz tt:Bool) (t:LL) (cp:Int) (kd:Int) (nm:By) (v4 a0 a1 a2 a3 a4 a5 a6 a7:Int) (h0:t.all D1=true) (h1:t.all smE=true) (h2:A2 t.length=true) (g0:A2 nm.length=true) (g1:ltN v4 4294967296=true) (g2:ok8 a0 a1 a2 a3 a4 a5 a6 a7=true):∃ r H,Al5 now tz tt t cp kd nm v4 a0 a1 a2 a3 a4 a5 a6 a7=rv r H/\r.stab [] H=gC3 (D2 now (t.map A4) [] kd (mkH kd nm v4 (n8 a0 a1 a2 a3 a4 a5 a6 a7))):=by
 unfold Al5 Al4 Tb D2
 by_cases hk:kd=1
 ·subst hk
  rw [show ((1:Int) != 1)=false from rfl,show ((1:Int)==1)=true from rfl,g0,g1,g2,h0,h1,h2]
  simp only [cond_true,cond_false,vl]
  cases hv:Q9 (mkH 1 nm v4 (n8 a0 a1 a2 a3 a4 a5 a6 a7)) with
  | false=>exact ⟨_,_,rfl,rfl⟩
  | true=>
   simp only [Bool.not_true,cond_true,cond_false]
   show ∃ (r:PV) (H:List Blk),_/\r.stab [] H=gC3 (Z8 now (t.map A4) [] nm)
   unfold Z8
   cases hg:(atV now (t.map A4) [] nm true).2 with
   | true=>exact ⟨_,_,rfl,rfl⟩
   | false=>
    rw [cond_false,AG now tz tt t cp 1 nm v4 a0 a1 a2 a3 a4 a5 a6 a7 _ _ _ _ _ h0 h1 h2 _ (Bc g0),if_neg (by simp)]
    cases hf:(E3 nm).find? λu=>(atV now (t.map A4) [] u false).2 with
    | none=>exact ⟨_,_,rfl,rfl⟩
    | some u=>exact ⟨_,_,rfl,rfl⟩
 ·rw [show (kd != 1)=true by simpa using hk,show (kd==1)=false by simpa using hk]
  exact ⟨_,_,rfl,rfl⟩
theorem QH (now:Int) (tz tt:Bool) (t:LL) (cp:Int) (kd:Int) (nm:By) (v4 a0 a1 a2 a3 a4 a5 a6 a7:Int) (h0:t.all D1=true) (h1:t.all smE=true) (h2:A2 t.length=true) (g0:A2 nm.length=true) (g1:ltN v4 4294967296=true) (g2:ok8 a0 a1 a2 a3 a4 a5 a6 a7=true):∃ r H,AN now tz tt t cp kd nm v4 a0 a1 a2 a3 a4 a5 a6 a7=rv r H/\r.stab [] H=pB ((D2 now (t.map A4) [] kd (mkH kd nm v4 (n8 a0 a1 a2 a3 a4 a5 a6 a7))).1 != 0):=by
 unfold AN Tf
 rw [h0,h1,h2,g0,g1,g2]
 exact ⟨_,_,rfl,rfl⟩
theorem AJ {R:Type} (now:Int) (kd:Int) (nm:By) (v4 a0 a1 a2 a3 a4 a5 a6 a7:Int) (n:Int) (s:By) (b:Bool) (k0 k1:_):∀ L:List By,(∀ u∈L,A2 u.length=true)->
  Lp (R:=R) LF L now kd nm v4 a0 a1 a2 a3 a4 a5 a6 a7 n s b k0 k1=match L.find? λu=>(atV now [] [] u false).2 with
   | some u=>k1 now kd nm v4 a0 a1 a2 a3 a4 a5 a6 a7 (atV now [] [] u false).1.1 (atV now [] [] u false).1.2.1 (atV now [] [] u false).1.2.2 n s b
   | none=>k0 now kd nm v4 a0 a1 a2 a3 a4 a5 a6 a7 n s b
 | [],_=>rfl
 | x::r,hs=>by
  have ih:=AJ now kd nm v4 a0 a1 a2 a3 a4 a5 a6 a7 n s b k0 k1  r λu hu=>hs u (by simp [hu])
  rw [AI]
  unfold Lq
  rw [hs x (by simp),List.find?_cons]
  simp only [cond_true,vl]
  rw [ih]
  cases q1:(atV now [] [] x false).2<;>rfl
theorem Az8 (now:Int) (kd:Int) (nm:By) (v4 a0 a1 a2 a3 a4 a5 a6 a7:Int) (g0:A2 nm.length=true) (g1:ltN v4 4294967296=true) (g2:ok8 a0 a1 a2 a3 a4 a5 a6 a7=true):∃ r H,Al7 now kd nm v4 a0 a1 a2 a3 a4 a5 a6 a7=rv r H/\r.stab [] H=gC3 (D2 now [] [] kd (mkH kd nm v4 (n8 a0 a1 a2 a3 a4 a5 a6 a7))):=by
 unfold Al7 Al6 Tc D2
 by_cases hk:kd=1
 ·subst hk
  rw [show ((1:Int) != 1)=false from rfl,show ((1:Int)==1)=true from rfl,g0,g1,g2]
  simp only [cond_true,cond_false,vl]
  cases hv:Q9 (mkH 1 nm v4 (n8 a0 a1 a2 a3 a4 a5 a6 a7)) with
  | false=>exact ⟨_,_,rfl,rfl⟩
  | true=>
   simp only [Bool.not_true,cond_true,cond_false]
   show ∃ (r:PV) (H:List Blk),_/\r.stab [] H=gC3 (Z8 now [] [] nm)
   unfold Z8
   cases hg:(atV now [] [] nm true).2 with
   | true=>exact ⟨_,_,rfl,rfl⟩
   | false=>
    rw [cond_false,AJ now 1 nm v4 a0 a1 a2 a3 a4 a5 a6 a7 _ _ _ _ _  _ (Bc g0),if_neg (by simp)]
    cases hf:(E3 nm).find? λu=>(atV now [] [] u false).2 with
    | none=>exact ⟨_,_,rfl,rfl⟩
    | some u=>exact ⟨_,_,rfl,rfl⟩
 ·rw [show (kd != 1)=true by simpa using hk,show (kd==1)=false by simpa using hk]
  exact ⟨_,_,rfl,rfl⟩
theorem QJ (now:Int) (kd:Int) (nm:By) (v4 a0 a1 a2 a3 a4 a5 a6 a7:Int) (g0:A2 nm.length=true) (g1:ltN v4 4294967296=true) (g2:ok8 a0 a1 a2 a3 a4 a5 a6 a7=true):∃ r H,AO now kd nm v4 a0 a1 a2 a3 a4 a5 a6 a7=rv r H/\r.stab [] H=pB ((D2 now [] [] kd (mkH kd nm v4 (n8 a0 a1 a2 a3 a4 a5 a6 a7))).1 != 0):=by
 unfold AO Tg
 rw [g0,g1,g2]
 exact ⟨_,_,rfl,rfl⟩
end
section
open Go Go.Proofs
set_option maxRecDepth 100000
section
variable {σ R : Type} (lf : Nat) (cl : D0) (yh : Yh σ) (s : σ) (k : Out -> St σ -> Option R)
noncomputable abbrev Ai4:Code:=E6 Tryz.f4
noncomputable def Kd (lf:Nat):Cfg:=C0 lf [4] (A3 [(4,[0,3,0])]) [] (A3 [(8,[4]),(5,[0,4]),(7,[4]),(6,[0,4,16]),(4,[0,4,7]),(3,[0,4]),(2,[4]),(1,[0,8]),(0,[0,0])]) [] (A3 [(0,[]),(1,[0,4])]) (some [4]) [] [] []
noncomputable def Fu {R:Type} (lf n:Nat) (l_z0 l_t1:Bool) (l2:LL) (i3:Int) (k0:Unit->Option R) (k1:Unit->Option R):Option R:=match n with | 0=>none | n+1=>cond (ltI i3 (l2.length:Int)) (cond (inR i3 l2.length) (cond (okE Qm l2 (Int.toNat i3) 0) (cond (ltI 300 (↑(List.length (gX l2 (Int.toNat i3) 0)):Int)) (k0 ()) (Fu lf n l_z0 l_t1 l2 (A5 (i3+1)) k0 k1)) none) none) (k1 ())
theorem RO (n l_z0 l_t1 l2 i3):H4 0 ((Kd lf).keep 4) (bd (Kd lf) cl yh (cd [1,1,0,1,0,0] Ai4)) n ⟨gp [(0,.s (.sl l_z0 l_t1 3 l2)),(4,pI i3)] 17,[],s⟩ k =
 Fu lf n l_z0 l_t1 l2 i3 (λ_=>k .ret ⟨gp [(4,pB false)] 18,[],s⟩) (λ_=>k (.exit 0) ⟨gp [] 23,[],s⟩):=by
 induction n generalizing l_z0 l_t1 l2 i3 with
 | zero=>rfl
 | succ n ih=>rw [Fu];simp only [<-ih];kernel_rfl
noncomputable def A25 {R:Type} (lf:Nat) (l_z0 l_t1:Bool) (l2:LL) (n3:Int) (k0:Bool->Option R):Option R:=cond (ltI n3 (l2.length:Int)) (k0 false) (Fu lf lf l_z0 l_t1 l2 0 (λ_=>k0 false) (λ_=>k0 true))
theorem A26 (d:Nat) (l_z0 l_t1 l2 n3):evC (Kd lf) (d+1) σ yh 4 [.s (.sl l_z0 l_t1 3 l2),pI n3] [] s=A25 lf l_z0 l_t1 l2 n3 (λr0=>some (pB r0,[],s)):=by
 refine (evE (fn:=Tryz.f4) (by kernel_rfl)).trans ?_
 generalize evC (Kd lf) d=cl
 unfold A25;exact (Eq.trans (by kernel_rfl) (A0 rfl ((RO lf cl yh s (O4 0 (P3 (Kd lf) cl yh (cd [1,1,1] Ai4) (J6 (Kd lf) Tryz.f4))) lf l_z0 l_t1 l2 0).trans (by kernel_rfl))))
end
def GF:List Ty:=[.int .i64,.str,.int .u32,.int .u16,.int .u16,.int .u16,.int .u16,.int .u16,.int .u16,.int .u16,.int .u16]
def RG (kd:Int) (nm:By) (v4 a0 a1 a2 a3 a4 a5 a6 a7:Int):List SV:=[.int .i64 kd,.str nm,.int .u32 v4,.int .u16 a0,.int .u16 a1,.int .u16 a2,.int .u16 a3,.int .u16 a4,.int .u16 a5,.int .u16 a6,.int .u16 a7]
theorem Hv {x:SV} (h:(Ty.int .u16).of x):∃ n,x = .int .u16 n/\ltN n 65536=true:=by
 obtain ⟨n,rfl,h1,h2⟩:=h
 simp [IntKind.min,IntKind.max,IntKind.signed,IntKind.bits] at h1 h2
 exact ⟨n,rfl,G4.2 ⟨h1,by omega⟩⟩
theorem RH {l:List SV} (h:Ty.ofL GF l):∃ kd nm v4 a0 a1 a2 a3 a4 a5 a6 a7,l=RG kd nm v4 a0 a1 a2 a3 a4 a5 a6 a7/\nm.length<=maxLen/\ltN v4 4294967296=true/\ok8 a0 a1 a2 a3 a4 a5 a6 a7=true/\(-9223372036854775808<=kd/\kd<9223372036854775808):=by
 simp only [GF,Ty.ofL] at h
 obtain ⟨_,_,rfl,⟨kd,rfl,k1,k2⟩,_,_,rfl,⟨nm,rfl,hn⟩,_,_,rfl,⟨v4,rfl,v1,v2⟩,_,_,rfl,h0,_,_,rfl,h1,_,_,rfl,h2,_,_,rfl,h3,_,_,rfl,h4,_,_,rfl,h5,_,_,rfl,h6,_,_,rfl,h7,rfl⟩:=h
 simp [IntKind.min,IntKind.max,IntKind.signed,IntKind.bits] at v1 v2 k1 k2
 obtain ⟨a0,rfl,q0⟩:=Hv h0
 obtain ⟨a1,rfl,q1⟩:=Hv h1
 obtain ⟨a2,rfl,q2⟩:=Hv h2
 obtain ⟨a3,rfl,q3⟩:=Hv h3
 obtain ⟨a4,rfl,q4⟩:=Hv h4
 obtain ⟨a5,rfl,q5⟩:=Hv h5
 obtain ⟨a6,rfl,q6⟩:=Hv h6
 obtain ⟨a7,rfl,q7⟩:=Hv h7
 exact ⟨kd,nm,v4,a0,a1,a2,a3,a4,a5,a6,a7,rfl,hn,G4.2 ⟨v1,by omega⟩,by simp [ok8,q0,q1,q2,q3,q4,q5,q6,q7],by omega⟩
theorem Ah7 {P:Program} {t:Nat} {v:PV} (h:Kx P t v) (e:Ap P 20 t=some GF) (ha:Gs P t=true) :
  ∃ kd nm v4 a0 a1 a2 a3 a4 a5 a6 a7,v = .agg ((RG kd nm v4 a0 a1 a2 a3 a4 a5 a6 a7).map .s)/\nm.length<=maxLen/\ltN v4 4294967296=true/\ok8 a0 a1 a2 a3 a4 a5 a6 a7=true/\(-9223372036854775808<=kd/\kd<9223372036854775808):=by
 obtain ⟨tys,l,h1,h2,h3⟩:=h
 rw [e] at h1
 obtain rfl:=Option.some.inj h1
 obtain ⟨kd,nm,v4,a0,a1,a2,a3,a4,a5,a6,a7,rfl,q⟩:=RH h2
 rcases h3 with ⟨_,rfl⟩ | ⟨h3,_⟩
 ·exact ⟨kd,nm,v4,a0,a1,a2,a3,a4,a5,a6,a7,rfl,q⟩
 ·rw [ha] at h3;cases h3
def Tru (x:Option (PV × List Blk × Unit)):Prop:=∃ H,x=some (.s (.bool true),H,())
theorem Ar0 {els:LL} (h:∀ el∈els,Ty.ofL [.str,.bool,.int .i64] el):els.all D1=true:=by
 rw [List.all_eq_true]
 intro el he
 have:=h el he
 simp only [Ty.ofL,Ty.of] at this
 obtain ⟨_,_,rfl,⟨l,rfl,_⟩,_,_,rfl,⟨b,rfl⟩,_,_,rfl,⟨n,rfl,h1,h2⟩,rfl⟩:=this
 have h1:-9223372036854775808<=n:=h1
 have h2:n<=9223372036854775807:=h2
 exact KZ.2 ⟨h1,by omega⟩
theorem Ah9 {P:Program} {t:Nat} {v:PV} (h:Kx P t v) (e:Ap P 20 t=some [.slice [.str,.bool,.int .i64]]) (ha:Gs P t=false):∃ z l,v = .s (.sl z false 3 l)/\l.all D1=true/\M0 z l=true:=by
 obtain ⟨x,rfl,h5⟩:=Ax0 h e ha
 simp only [Ty.of,List.length_cons,List.length_nil] at h5
 rcases h5 with rfl | ⟨els,rfl,hl,hall⟩
 ·exact ⟨true,[],rfl,rfl,rfl⟩
 ·exact ⟨false,els,rfl,Ar0 hall,rfl⟩
theorem Ac1 {n:Int} {l:LL} (hn:n<=1000) (h:Hr n l=true):l.all smE=true/\A2 l.length=true:=by
 unfold Hr at h
 rw [Bool.and_eq_true,List.all_eq_true] at h
 refine ⟨List.all_eq_true.2 λel he=>?_,?_⟩
 ·have:=h.2 el he
  rw [Q7] at this
  unfold smE
  exact I5 (by simp at this;omega)
 ·have:=h.1
  rw [Q7] at this
  exact I5 (by simp at this;omega)
end
section
open Go Go.Op
set_option maxRecDepth 100000
theorem BG {R:Type} (z t:Bool) (T:List I9) (k0 k1:Unit->Option R) (hl:T.length<=1000000000):∀ (r i m:Nat),i+r=T.length->r<m->
  Fu LF m z t (N1 T) (i:Int) k0 k1=cond ((N1 (T.drop i)).all λel=>!ltI 300 (elS el).length) (k1 ()) (k0 ())
 | 0,i,m,hi,hm=>by
  obtain ⟨m,rfl⟩:∃ q,m=q+1:=⟨m-1,by omega⟩
  rw [Fu,L8 (by rw [K8];omega),List.drop_of_length_le (by omega)]
  rfl
 | r+1,i,m,hi,hm=>by
  obtain ⟨m,rfl⟩:∃ q,m=q+1:=⟨m-1,by omega⟩
  have hlt:i<T.length:=by omega
  have e2:A5 ((i:Int)+1)=((i+1:Nat):Int):=by rw [B1];rfl
  rw [Fu,H5 (by rw [K8];omega),Q3 (by omega) (by rw [K8];omega),Int.toNat_natCast,LW hlt,Po hlt,e2,BG z t T k0 k1 hl r (i+1) m (by omega) (by omega),En noP hlt]
  simp only [cond_true]
  show _=cond ((!ltI 300 ((T.getD i noP).1.length:Nat))&&(N1 (T.drop (i+1))).all λel=>!ltI 300 (elS el).length) (k1 ()) (k0 ())
  cases ltI 300 ((T.getD i noP).1.length:Nat)<;>rfl
theorem YT {R:Type} {k0:Bool->Option R} (z t:Bool) (l:LL) (n:Int) (h0:l.all D1=true) (hn:ltI n 1001=true):A25 LF z t l n k0=k0 (Hr n l):=by
 have hLF:=K9
 rw [Q7,decide_eq_true_eq] at hn
 have hr:=Iv h0
 generalize hE:l.map A4=T at hr
 subst hr
 unfold A25 Hr
 cases c:ltI n ((N1 T).length:Nat) with
 | true=>rfl
 | false=>
  rw [Q7,decide_eq_false_iff_not,K8] at c
  have:=BG z t T (λ_=>k0 false) (λ_=>k0 true) (by omega) T.length 0 LF (by omega) (by omega)
  rw [List.drop_zero] at this
  refine this.trans ?_
  rw [Bool.not_false,Bool.true_and]
  cases (N1 T).all λel=>!ltI 300 (elS el).length<;>rfl
end
section
open Go Go.Proofs
set_option maxRecDepth 100000
section
variable {σ R : Type} (lf : Nat) (cl : D0) (yh : Yh σ) (s : σ) (k : Out -> St σ -> Option R)
noncomputable def FL (lf:Nat):Cfg:=C0 lf [7] (A3 []) [(11,Oe),(12,NS)] (A3 [(3,[4,0,0]),(2,[7,0,0,0]),(1,[1,5,0]),(0,[0,0])]) [] (A3 []) (some [4,0,0]) [] [] []
noncomputable def WL {R:Type} (lf:Nat) (t_z t_t:Bool) (t:LL) (l_z l_t:Bool) (l:LL) (k0:Bool->LL->Bool->LL->Option R) (k1:Bool->Bool->LL->Option R) (k2:Bool->LL->Bool->Option R) (k3:Bool->Option R):Option R:=cond (List.all t D1) (cond (List.all t smE) (cond (A2 t.length) (cond (M0 t_z t) (cond ((ltI 0 1000)&&(ltI 1000 1001)) (cond ((U8 (1000:Int) (List.map A4 t))==0) (cond (List.all l E4) (cond (List.all l smE) (cond (A2 l.length) (cond (M0 l_z l) (cond ((Ex (List.map A6 l))==0) (k0 l_z (G3 (isE (List.map A6 l))) t_z t) (vl (↑(Ex (List.map A6 l)):Int) λn'2=>k1 (n'2==0) t_z t)) none) none) none) none) (vl (↑(U8 (1000:Int) (List.map A4 t)):Int) λn'3=>cond (List.all l E4) (cond (List.all l smE) (cond (A2 l.length) (cond (M0 l_z l) (cond ((Ex (List.map A6 l))==0) (cond (n'3==0) (k2 l_z (G3 (isE (List.map A6 l))) true) (k2 l_z (G3 (isE (List.map A6 l))) false)) (vl (↑(Ex (List.map A6 l)):Int) λn'5=>cond (n'3==0) (k3 (n'5==0)) (k3 false))) none) none) none) none)) none) none) none) none) none
theorem Ml (d:Nat) (t_z t_t t l_z l_t l):evC (FL lf) (d+1) σ yh 7 [.s (.sl t_z t_t 3 t),.s (.sl l_z l_t 2 l)] [] s=WL lf t_z t_t t l_z l_t l (λr_z0 r1 z2 l3=>some (.tup [.ptr 0 0 0,.s (.sp [[.sl r_z0 r_z0 2 r1]] 0 0),pB true],[.box [.fl 1,pI (1000:Int)],.arr z2 25 3 l3],s)) (λr0 z1 l2=>some (.tup [.ptr 0 0 0,.s (.nilp),pB r0],[.box [.fl 1,pI (1000:Int)],.arr z1 25 3 l2],s)) (λr_z0 r1 r2=>some (.tup [.s (.nilp),.s (.sp [[.sl r_z0 r_z0 2 r1]] 0 0),pB r2],[],s)) (λr0=>some (.tup [.s (.nilp),.s (.nilp),pB r0],[],s)):=by
 refine (evE (fn:=Tryz.f7) (by kernel_rfl)).trans ?_
 generalize evC (FL lf) d=cl
 unfold WL;kernel_rfl
noncomputable def PK (lf:Nat):Cfg:=C0 lf [10] (A3 []) [(15,Oc),(14,Up),(16,OD),(17,OB)] (A3 [(9,[4]),(6,[]),(8,[4]),(4,[]),(7,[0,2,1,31]),(5,[0,2,1,22]),(3,[0,2,1,0]),(2,[4]),(1,[0,2,5]),(0,[0,2])]) [15,14] (A3 [(0,[])]) (some [4]) [(18,Sw)] [] [18]
noncomputable def Ba1 {R:Type} (lf:Nat) (u:By) (b:Bool) (x cp:Int) (z:Bool) (t:LL) (k0:Int->Int->Bool->LL->By->Bool->Int->Option R):Option R:=cond (A2 u.length) (cond (not (Hp u x)) (k0 1 cp z t u b x) (cond (List.all t D1) (cond (List.all t smE) (cond (A2 t.length) (cond (A2 u.length) (vl (↑(bsI (List.map Prod.fst (List.map A4 t)) u):Int) λn'1=>cond (bsB (List.map Prod.fst (List.map A4 t)) u) (cond (inR n'1 t.length) (cond (decide ((Int.toNat n'1)<t.length)) (vl (List.set t (Int.toNat n'1) (D3 (List.getD t (Int.toNat n'1) []) 0 [(SV.str u),(SV.bool b),(SV.int .i64 x)])) λl'2=>k0 0 cp z l'2 u b x) none) none) (cond (A2 t.length) (cond (A2 t.length) (cond ((t.length:Int)==cp) (k0 11 cp z t u b x) (cond (ltN n'1 (Nat.add t.length 1)) (cond (Nat.ble t.length 100000) (vl (GL t (Int.toNat n'1) (TU (Bp0 u b x))) λl'3=>k0 0 cp z l'3 u b x) none) none)) none) none)) none) none) none) none)) none
theorem Ba2 (d:Nat) (u b x cp z t):evC (PK lf) (d+1) σ yh 10 [.ptr 0 0 0,.agg [pS u,pB b,pI x]] [.box [.fl 1,pI cp],.arr z 25 3 t] s=Ba1 lf u b x cp z t (λr0 n1 z2 l3 s4 b5 n6=>some (pI r0,[.box [.fl 1,pI n1],.arr z2 25 3 l3,.box [pS s4,pB b5,pI n6]],s)):=by
 refine (evE (fn:=Tryz.f10) (by kernel_rfl)).trans ?_
 generalize evC (PK lf) d=cl
 unfold Ba1;kernel_rfl
noncomputable def PJ (lf:Nat):Cfg:=C0 lf [16] (A3 []) [] (A3 [(3,[2]),(2,[2]),(1,[0,3]),(0,[0])]) [] (A3 []) (some [2]) [] [] []
noncomputable def Bj5 {R:Type} (lf:Nat) (tz tt:Bool) (t:LL) (cp:Int) (k0:Int->Option R):Option R:=k0 (t.length:Int)
theorem A99 (d:Nat) (tz tt t cp):evC (PJ lf) (d+1) σ yh 16 [.s (.sp [[.sl tz tt 3 t,.int .i64 cp]] 0 0)] [] s=Bj5 lf tz tt t cp (λr0=>some (pI r0,[],s)):=by
 refine (evE (fn:=Tryz.f16) (by kernel_rfl)).trans ?_
 generalize evC (PJ lf) d=cl
 unfold Bj5;kernel_rfl
noncomputable def PH (lf:Nat):Cfg:=C0 lf [17] (A3 []) [] (A3 [(3,[2]),(2,[2]),(1,[0,3]),(0,[0])]) [] (A3 []) (some [2]) [] [] []
noncomputable def Bj2 {R:Type} (lf:Nat) (tz tt:Bool) (t:LL) (cp:Int) (k0:Int->Option R):Option R:=k0 cp
theorem A94 (d:Nat) (tz tt t cp):evC (PH lf) (d+1) σ yh 17 [.s (.sp [[.sl tz tt 3 t,.int .i64 cp]] 0 0)] [] s=Bj2 lf tz tt t cp (λr0=>some (pI r0,[],s)):=by
 refine (evE (fn:=Tryz.f17) (by kernel_rfl)).trans ?_
 generalize evC (PH lf) d=cl
 unfold Bj2;kernel_rfl
noncomputable abbrev Ge:Code:=E6 Tryz.f3
noncomputable def Bv (lf:Nat):Cfg:=C0 lf [3] (A3 []) [(4,NP),(5,Ud),(6,Nu),(7,DR),(8,Ub),(9,Jy)] (A3 [(15,[8]),(14,[7,1,2,1]),(13,[6,0,1,2,1]),(12,[6,0,1,2,1,0]),(11,[6,0,1,2,1,0,52]),(10,[6,0,1,2,1,0,0]),(9,[8]),(8,[6,0,1,2,1,45]),(7,[6,0,1,2,0,0]),(6,[6,0,1,2,0]),(5,[8]),(4,[4,1,0,1,27]),(3,[4,1,0,1,1]),(2,[8]),(1,[1,2,1,0,20]),(0,[1,2,1,0])]) [4,5,6] (A3 []) (some [8]) [(10,ET)] [] [10]
noncomputable def Hh {R:Type} (early0:Int) (known1:Bool) (n3 n4:Int) (s5:By) (b6:Bool) (n7 n8v:Int) (s9:By) (n10 n11 n12 n13 n14 n15 n16 n17 n18:Int) (z19:Bool) (l20:LL) (k0:Bool->(List Blk)->Option R):Option R:=cond (List.all l20 D1) (cond (List.all l20 smE) (cond (A2 l20.length) (cond (A2 s5.length) (vl (((E0 (List.map A4 l20) s5)).1).1 λs'10=>vl ((((E0 (List.map A4 l20) s5)).1).2).2 λn'11=>cond ((E0 (List.map A4 l20) s5)).2 (cond b6 (vl (if (n'11 > n7) then n'11 else n7) λn'15=>cond (List.all l20 D1) (cond (List.all l20 smE) (cond (A2 l20.length) (cond (A2 s5.length) (cond (Nat.ble l20.length 1000) (vl (↑(Aa8 (1000:Int) (List.map A4 l20) s5 true n'15):Int) λn'16=>vl (N1 (Ax (1000:Int) (List.map A4 l20) s5 true n'15)) λl'17=>cond (not known1) (k0 true [(Blk.arr false 22 1 [[(SV.int .i64 n3)],[(SV.int .i64 n4)]]),(Blk.box [(PV.s (SV.str s5)),(PV.s (SV.bool true)),(PV.s (SV.int .i64 (if (n'11 > n7) then n'11 else n7)))]),(Blk.box [(PV.s (SV.int .i64 n8v)),(PV.s (SV.str s9)),(PV.s (SV.int .u32 n10)),(PV.s (SV.int .u16 n11)),(PV.s (SV.int .u16 n12)),(PV.s (SV.int .u16 n13)),(PV.s (SV.int .u16 n14)),(PV.s (SV.int .u16 n15)),(PV.s (SV.int .u16 n16)),(PV.s (SV.int .u16 n17)),(PV.s (SV.int .u16 n18))]),(Blk.box [(PV.fl 4),(PV.s (SV.int .i64 (1000:Int)))]),(Blk.arr z19 25 3 l'17),(Blk.box [(PV.s (SV.str s'10)),(PV.s (SV.bool ((((E0 (List.map A4 l20) s5)).1).2).1)),(PV.s (SV.int .i64 n'11))])]) (cond (List.all l'17 D1) (cond (List.all l'17 smE) (cond (A2 l'17.length) (cond (A2 s9.length) (cond (ltN n10 4294967296) (cond (ok8 n11 n12 n13 n14 n15 n16 n17 n18) (cond (((D2 early0 (List.map A4 l'17) List.nil n8v (mkH n8v s9 n10 (n8 n11 n12 n13 n14 n15 n16 n17 n18)))).1 != 0) (k0 true [(Blk.arr false 22 1 [[(SV.int .i64 n3)],[(SV.int .i64 n4)]]),(Blk.box [(PV.s (SV.str s5)),(PV.s (SV.bool true)),(PV.s (SV.int .i64 (if (n'11 > n7) then n'11 else n7)))]),(Blk.box [(PV.s (SV.int .i64 n8v)),(PV.s (SV.str s9)),(PV.s (SV.int .u32 n10)),(PV.s (SV.int .u16 n11)),(PV.s (SV.int .u16 n12)),(PV.s (SV.int .u16 n13)),(PV.s (SV.int .u16 n14)),(PV.s (SV.int .u16 n15)),(PV.s (SV.int .u16 n16)),(PV.s (SV.int .u16 n17)),(PV.s (SV.int .u16 n18))]),(Blk.box [(PV.fl 4),(PV.s (SV.int .i64 (1000:Int)))]),(Blk.arr z19 25 3 l'17),(Blk.box [(PV.s (SV.str s'10)),(PV.s (SV.bool ((((E0 (List.map A4 l20) s5)).1).2).1)),(PV.s (SV.int .i64 n'11))])]) (k0 false [(Blk.arr false 22 1 [[(SV.int .i64 n3)],[(SV.int .i64 n4)]]),(Blk.box [(PV.s (SV.str s5)),(PV.s (SV.bool true)),(PV.s (SV.int .i64 (if (n'11 > n7) then n'11 else n7)))]),(Blk.box [(PV.s (SV.int .i64 n8v)),(PV.s (SV.str s9)),(PV.s (SV.int .u32 n10)),(PV.s (SV.int .u16 n11)),(PV.s (SV.int .u16 n12)),(PV.s (SV.int .u16 n13)),(PV.s (SV.int .u16 n14)),(PV.s (SV.int .u16 n15)),(PV.s (SV.int .u16 n16)),(PV.s (SV.int .u16 n17)),(PV.s (SV.int .u16 n18))]),(Blk.box [(PV.fl 4),(PV.s (SV.int .i64 (1000:Int)))]),(Blk.arr z19 25 3 l'17),(Blk.box [(PV.s (SV.str s'10)),(PV.s (SV.bool ((((E0 (List.map A4 l20) s5)).1).2).1)),(PV.s (SV.int .i64 n'11))])])) none) none) none) none) none) none)) none) none) none) none) none) (vl (if (n'11 > n7) then n'11 else n7) λn'21=>cond (List.all l20 D1) (cond (List.all l20 smE) (cond (A2 l20.length) (cond (A2 s5.length) (cond (Nat.ble l20.length 1000) (vl (↑(Aa8 (1000:Int) (List.map A4 l20) s5 ((((E0 (List.map A4 l20) s5)).1).2).1 n'21):Int) λn'22=>vl (N1 (Ax (1000:Int) (List.map A4 l20) s5 ((((E0 (List.map A4 l20) s5)).1).2).1 n'21)) λl'23=>cond (not known1) (k0 true [(Blk.arr false 22 1 [[(SV.int .i64 n3)],[(SV.int .i64 n4)]]),(Blk.box [(PV.s (SV.str s5)),(PV.s (SV.bool ((((E0 (List.map A4 l20) s5)).1).2).1)),(PV.s (SV.int .i64 (if (n'11 > n7) then n'11 else n7)))]),(Blk.box [(PV.s (SV.int .i64 n8v)),(PV.s (SV.str s9)),(PV.s (SV.int .u32 n10)),(PV.s (SV.int .u16 n11)),(PV.s (SV.int .u16 n12)),(PV.s (SV.int .u16 n13)),(PV.s (SV.int .u16 n14)),(PV.s (SV.int .u16 n15)),(PV.s (SV.int .u16 n16)),(PV.s (SV.int .u16 n17)),(PV.s (SV.int .u16 n18))]),(Blk.box [(PV.fl 4),(PV.s (SV.int .i64 (1000:Int)))]),(Blk.arr z19 25 3 l'23),(Blk.box [(PV.s (SV.str s'10)),(PV.s (SV.bool ((((E0 (List.map A4 l20) s5)).1).2).1)),(PV.s (SV.int .i64 n'11))])]) (cond (List.all l'23 D1) (cond (List.all l'23 smE) (cond (A2 l'23.length) (cond (A2 s9.length) (cond (ltN n10 4294967296) (cond (ok8 n11 n12 n13 n14 n15 n16 n17 n18) (cond (((D2 early0 (List.map A4 l'23) List.nil n8v (mkH n8v s9 n10 (n8 n11 n12 n13 n14 n15 n16 n17 n18)))).1 != 0) (k0 true [(Blk.arr false 22 1 [[(SV.int .i64 n3)],[(SV.int .i64 n4)]]),(Blk.box [(PV.s (SV.str s5)),(PV.s (SV.bool ((((E0 (List.map A4 l20) s5)).1).2).1)),(PV.s (SV.int .i64 (if (n'11 > n7) then n'11 else n7)))]),(Blk.box [(PV.s (SV.int .i64 n8v)),(PV.s (SV.str s9)),(PV.s (SV.int .u32 n10)),(PV.s (SV.int .u16 n11)),(PV.s (SV.int .u16 n12)),(PV.s (SV.int .u16 n13)),(PV.s (SV.int .u16 n14)),(PV.s (SV.int .u16 n15)),(PV.s (SV.int .u16 n16)),(PV.s (SV.int .u16 n17)),(PV.s (SV.int .u16 n18))]),(Blk.box [(PV.fl 4),(PV.s (SV.int .i64 (1000:Int)))]),(Blk.arr z19 25 3 l'23),(Blk.box [(PV.s (SV.str s'10)),(PV.s (SV.bool ((((E0 (List.map A4 l20) s5)).1).2).1)),(PV.s (SV.int .i64 n'11))])]) (k0 false [(Blk.arr false 22 1 [[(SV.int .i64 n3)],[(SV.int .i64 n4)]]),(Blk.box [(PV.s (SV.str s5)),(PV.s (SV.bool ((((E0 (List.map A4 l20) s5)).1).2).1)),(PV.s (SV.int .i64 (if (n'11 > n7) then n'11 else n7)))]),(Blk.box [(PV.s (SV.int .i64 n8v)),(PV.s (SV.str s9)),(PV.s (SV.int .u32 n10)),(PV.s (SV.int .u16 n11)),(PV.s (SV.int .u16 n12)),(PV.s (SV.int .u16 n13)),(PV.s (SV.int .u16 n14)),(PV.s (SV.int .u16 n15)),(PV.s (SV.int .u16 n16)),(PV.s (SV.int .u16 n17)),(PV.s (SV.int .u16 n18))]),(Blk.box [(PV.fl 4),(PV.s (SV.int .i64 (1000:Int)))]),(Blk.arr z19 25 3 l'23),(Blk.box [(PV.s (SV.str s'10)),(PV.s (SV.bool ((((E0 (List.map A4 l20) s5)).1).2).1)),(PV.s (SV.int .i64 n'11))])])) none) none) none) none) none) none)) none) none) none) none) none)) (cond (List.all l20 D1) (cond (List.all l20 smE) (cond (A2 l20.length) (cond (A2 s5.length) (cond (Nat.ble l20.length 1000) (vl (↑(Aa8 (1000:Int) (List.map A4 l20) s5 b6 n7):Int) λn'26=>vl (N1 (Ax (1000:Int) (List.map A4 l20) s5 b6 n7)) λl'27=>cond (not known1) (k0 true [(Blk.arr false 22 1 [[(SV.int .i64 n3)],[(SV.int .i64 n4)]]),(Blk.box [(PV.s (SV.str s5)),(PV.s (SV.bool b6)),(PV.s (SV.int .i64 n7))]),(Blk.box [(PV.s (SV.int .i64 n8v)),(PV.s (SV.str s9)),(PV.s (SV.int .u32 n10)),(PV.s (SV.int .u16 n11)),(PV.s (SV.int .u16 n12)),(PV.s (SV.int .u16 n13)),(PV.s (SV.int .u16 n14)),(PV.s (SV.int .u16 n15)),(PV.s (SV.int .u16 n16)),(PV.s (SV.int .u16 n17)),(PV.s (SV.int .u16 n18))]),(Blk.box [(PV.fl 4),(PV.s (SV.int .i64 (1000:Int)))]),(Blk.arr z19 25 3 l'27),(Blk.box [(PV.s (SV.str s'10)),(PV.s (SV.bool ((((E0 (List.map A4 l20) s5)).1).2).1)),(PV.s (SV.int .i64 n'11))])]) (cond (List.all l'27 D1) (cond (List.all l'27 smE) (cond (A2 l'27.length) (cond (A2 s9.length) (cond (ltN n10 4294967296) (cond (ok8 n11 n12 n13 n14 n15 n16 n17 n18) (cond (((D2 early0 (List.map A4 l'27) List.nil n8v (mkH n8v s9 n10 (n8 n11 n12 n13 n14 n15 n16 n17 n18)))).1 != 0) (k0 true [(Blk.arr false 22 1 [[(SV.int .i64 n3)],[(SV.int .i64 n4)]]),(Blk.box [(PV.s (SV.str s5)),(PV.s (SV.bool b6)),(PV.s (SV.int .i64 n7))]),(Blk.box [(PV.s (SV.int .i64 n8v)),(PV.s (SV.str s9)),(PV.s (SV.int .u32 n10)),(PV.s (SV.int .u16 n11)),(PV.s (SV.int .u16 n12)),(PV.s (SV.int .u16 n13)),(PV.s (SV.int .u16 n14)),(PV.s (SV.int .u16 n15)),(PV.s (SV.int .u16 n16)),(PV.s (SV.int .u16 n17)),(PV.s (SV.int .u16 n18))]),(Blk.box [(PV.fl 4),(PV.s (SV.int .i64 (1000:Int)))]),(Blk.arr z19 25 3 l'27),(Blk.box [(PV.s (SV.str s'10)),(PV.s (SV.bool ((((E0 (List.map A4 l20) s5)).1).2).1)),(PV.s (SV.int .i64 n'11))])]) (k0 false [(Blk.arr false 22 1 [[(SV.int .i64 n3)],[(SV.int .i64 n4)]]),(Blk.box [(PV.s (SV.str s5)),(PV.s (SV.bool b6)),(PV.s (SV.int .i64 n7))]),(Blk.box [(PV.s (SV.int .i64 n8v)),(PV.s (SV.str s9)),(PV.s (SV.int .u32 n10)),(PV.s (SV.int .u16 n11)),(PV.s (SV.int .u16 n12)),(PV.s (SV.int .u16 n13)),(PV.s (SV.int .u16 n14)),(PV.s (SV.int .u16 n15)),(PV.s (SV.int .u16 n16)),(PV.s (SV.int .u16 n17)),(PV.s (SV.int .u16 n18))]),(Blk.box [(PV.fl 4),(PV.s (SV.int .i64 (1000:Int)))]),(Blk.arr z19 25 3 l'27),(Blk.box [(PV.s (SV.str s'10)),(PV.s (SV.bool ((((E0 (List.map A4 l20) s5)).1).2).1)),(PV.s (SV.int .i64 n'11))])])) none) none) none) none) none) none)) none) none) none) none) none)) none) none) none) none
abbrev Mi (b:Code):Prop:=∀ (k:Out->St σ->Option R) early0 known1 b2 n3 n4 s5 b6 n7 n8v s9 n10 n11 n12 n13 n14 n15 n16 n17 n18 z19 l20,B0 (Bv lf) cl yh b ⟨gp [(6,.ptr 1 0 0),(0,.ptr 2 0 0),(1,.ptr 3 0 0),(2,pI early0),(1,pB known1),(45,pB b2)] 35,[.arr false 22 1 [[.int .i64 n3],[.int .i64 n4]],.box [pS s5,pB b6,pI n7],.box [pI n8v,pS s9,p32 n10,p16 n11,p16 n12,p16 n13,p16 n14,p16 n15,p16 n16,p16 n17,p16 n18],.box [.fl 4,pI (1000:Int)],.arr z19 25 3 l20],s⟩ k=Hh early0 known1 n3 n4 s5 b6 n7 n8v s9 n10 n11 n12 n13 n14 n15 n16 n17 n18 z19 l20 (λb0 H1=>k .ret ⟨gp [(8,pB b0)] 87,H1,s⟩)
theorem Pw:Mi (R:=R) lf cl yh s (cd [1,1,1,1,1,1,1] Ge):=by
 intro k early0 known1 b2 n3 n4 s5 b6 n7 n8v s9 n10 n11 n12 n13 n14 n15 n16 n17 n18 z19 l20;unfold Hh;kernel_rfl
noncomputable def GQ {R:Type} (n0 n1:Int) (s2:By) (b3:Bool) (n4 n5:Int) (s6:By) (n7 n8v n9 n10 n11 n12 n13 n14 n15:Int) (z16:Bool) (l17:LL) (k0:Bool->(List Blk)->Option R):Option R:=vl (if (n1<n0) then n1 else n0) λn'2=>vl (if (n1 > n0) then n1 else n0) λn'3=>cond (List.all l17 D1) (cond (List.all l17 smE) (cond (A2 l17.length) (cond (A2 s6.length) (cond (ltN n7 4294967296) (cond (ok8 n8v n9 n10 n11 n12 n13 n14 n15) (cond (List.all l17 D1) (cond (List.all l17 smE) (cond (A2 l17.length) (cond (A2 s6.length) (cond (ltN n7 4294967296) (cond (ok8 n8v n9 n10 n11 n12 n13 n14 n15) (cond (((D2 n'3 (List.map A4 l17) List.nil n5 (mkH n5 s6 n7 (n8 n8v n9 n10 n11 n12 n13 n14 n15)))).1 != 0) (cond (not (((D2 n'2 (List.map A4 l17) List.nil n5 (mkH n5 s6 n7 (n8 n8v n9 n10 n11 n12 n13 n14 n15)))).1 != 0)) (k0 false [(Blk.arr false 22 1 [[(SV.int .i64 n0)],[(SV.int .i64 n1)]]),(Blk.box [(PV.s (SV.str s2)),(PV.s (SV.bool b3)),(PV.s (SV.int .i64 n4))]),(Blk.box [(PV.s (SV.int .i64 n5)),(PV.s (SV.str s6)),(PV.s (SV.int .u32 n7)),(PV.s (SV.int .u16 n8v)),(PV.s (SV.int .u16 n9)),(PV.s (SV.int .u16 n10)),(PV.s (SV.int .u16 n11)),(PV.s (SV.int .u16 n12)),(PV.s (SV.int .u16 n13)),(PV.s (SV.int .u16 n14)),(PV.s (SV.int .u16 n15))]),(Blk.box [(PV.fl 4),(PV.s (SV.int .i64 (1000:Int)))]),(Blk.arr z16 25 3 l17)]) (Hh n'2 (((D2 n'2 (List.map A4 l17) List.nil n5 (mkH n5 s6 n7 (n8 n8v n9 n10 n11 n12 n13 n14 n15)))).1 != 0) n0 n1 s2 b3 n4 n5 s6 n7 n8v n9 n10 n11 n12 n13 n14 n15 z16 l17 (λb'28 H'29=>k0 b'28 H'29))) (Hh n'2 (((D2 n'2 (List.map A4 l17) List.nil n5 (mkH n5 s6 n7 (n8 n8v n9 n10 n11 n12 n13 n14 n15)))).1 != 0) n0 n1 s2 b3 n4 n5 s6 n7 n8v n9 n10 n11 n12 n13 n14 n15 z16 l17 (λb'30 H'31=>k0 b'30 H'31))) none) none) none) none) none) none) none) none) none) none) none) none
abbrev Wh (b:Code):Prop:=∀ (k:Out->St σ->Option R) n0 n1 s2 b3 n4 n5 s6 n7 n8v n9 n10 n11 n12 n13 n14 n15 z16 l17,B0 (Bv lf) cl yh b ⟨gp [(4,.ptr 0 0 0),(1,.ptr 1 0 0),(0,.ptr 2 0 0),(1,.ptr 3 0 0),(1,pB true)] 84,[.arr false 22 1 [[.int .i64 n0],[.int .i64 n1]],.box [pS s2,pB b3,pI n4],.box [pI n5,pS s6,p32 n7,p16 n8v,p16 n9,p16 n10,p16 n11,p16 n12,p16 n13,p16 n14,p16 n15],.box [.fl 4,pI (1000:Int)],.arr z16 25 3 l17],s⟩ k=GQ n0 n1 s2 b3 n4 n5 s6 n7 n8v n9 n10 n11 n12 n13 n14 n15 z16 l17 (λb0 H1=>k .ret ⟨gp [(8,pB b0)] 87,H1,s⟩)
theorem YY (b_1111111:Code) (h_lcn_j0:Mi (R:=R) lf cl yh s b_1111111):Wh (R:=R) lf cl yh s (cd [1,1,1] (U1 [1,1,1,1,1,1,1] b_1111111 Ge)):=by
 intro k n0 n1 s2 b3 n4 n5 s6 n7 n8v n9 n10 n11 n12 n13 n14 n15 z16 l17;unfold GQ;exact (Eq.trans (by kernel_rfl) (B9 λn'2=>(B9 λn'3=>(A0 (A0 (A0 (A0 (A0 (A0 (A0 (A0 (A0 (A0 (A0 (A0 (A0 (A0 rfl ((h_lcn_j0 k n'2 (((D2 n'2 (List.map A4 l17) List.nil n5 (mkH n5 s6 n7 (n8 n8v n9 n10 n11 n12 n13 n14 n15)))).1 != 0) (not (((D2 n'2 (List.map A4 l17) List.nil n5 (mkH n5 s6 n7 (n8 n8v n9 n10 n11 n12 n13 n14 n15)))).1 != 0)) n0 n1 s2 b3 n4 n5 s6 n7 n8v n9 n10 n11 n12 n13 n14 n15 z16 l17).trans (by kernel_rfl))) ((h_lcn_j0 k n'2 (((D2 n'2 (List.map A4 l17) List.nil n5 (mkH n5 s6 n7 (n8 n8v n9 n10 n11 n12 n13 n14 n15)))).1 != 0) false n0 n1 s2 b3 n4 n5 s6 n7 n8v n9 n10 n11 n12 n13 n14 n15 z16 l17).trans (by kernel_rfl))) rfl) rfl) rfl) rfl) rfl) rfl) rfl) rfl) rfl) rfl) rfl) rfl))))
theorem YZ:Wh (R:=R) lf cl yh s (cd [1,1,1] Ge):=by
 intro k n0 n1 s2 b3 n4 n5 s6 n7 n8v n9 n10 n11 n12 n13 n14 n15 z16 l17;exact Eq.trans (by kernel_rfl) (YY lf cl yh s (cd [1,1,1,1,1,1,1] Ge) (Pw lf cl yh s) k n0 n1 s2 b3 n4 n5 s6 n7 n8v n9 n10 n11 n12 n13 n14 n15 z16 l17)
noncomputable def RT {R:Type} (n0 n1:Int) (s2:By) (b3:Bool) (n4 n5:Int) (s6:By) (n7 n8v n9 n10 n11 n12 n13 n14 n15:Int) (z16:Bool) (l17:LL) (k0:(List Blk)->Option R):Option R:=k0 [(Blk.arr false 22 1 [[(SV.int .i64 n0)],[(SV.int .i64 n1)]]),(Blk.box [(PV.s (SV.str s2)),(PV.s (SV.bool b3)),(PV.s (SV.int .i64 n4))]),(Blk.box [(PV.s (SV.int .i64 n5)),(PV.s (SV.str s6)),(PV.s (SV.int .u32 n7)),(PV.s (SV.int .u16 n8v)),(PV.s (SV.int .u16 n9)),(PV.s (SV.int .u16 n10)),(PV.s (SV.int .u16 n11)),(PV.s (SV.int .u16 n12)),(PV.s (SV.int .u16 n13)),(PV.s (SV.int .u16 n14)),(PV.s (SV.int .u16 n15))]),(Blk.box [(PV.fl 4),(PV.s (SV.int .i64 (1000:Int)))]),(Blk.arr z16 25 3 l17)]
abbrev Wi (b:Code):Prop:=∀ (k:Out->St σ->Option R) n0 n1 s2 b3 n4 n5 s6 n7 n8v n9 n10 n11 n12 n13 n14 n15 z16 l17,B0 (Bv lf) cl yh b ⟨gp [(4,.ptr 0 0 0),(1,.ptr 1 0 0),(0,.ptr 2 0 0),(1,.ptr 3 0 0),(1,pB false)] 84,[.arr false 22 1 [[.int .i64 n0],[.int .i64 n1]],.box [pS s2,pB b3,pI n4],.box [pI n5,pS s6,p32 n7,p16 n8v,p16 n9,p16 n10,p16 n11,p16 n12,p16 n13,p16 n14,p16 n15],.box [.fl 4,pI (1000:Int)],.arr z16 25 3 l17],s⟩ k=RT n0 n1 s2 b3 n4 n5 s6 n7 n8v n9 n10 n11 n12 n13 n14 n15 z16 l17 (λH0=>k .ret ⟨gp [(8,pB true)] 87,H0,s⟩)
theorem ZA (b_1111111:Code) (h_lcn_j0:Mi (R:=R) lf cl yh s b_1111111):Wi (R:=R) lf cl yh s (cd [1,1,1] (U1 [1,1,1,1,1,1,1] b_1111111 Ge)):=by
 intro k n0 n1 s2 b3 n4 n5 s6 n7 n8v n9 n10 n11 n12 n13 n14 n15 z16 l17;unfold RT;kernel_rfl
theorem ZB:Wi (R:=R) lf cl yh s (cd [1,1,1] Ge):=by
 intro k n0 n1 s2 b3 n4 n5 s6 n7 n8v n9 n10 n11 n12 n13 n14 n15 z16 l17;exact Eq.trans (by kernel_rfl) (ZA lf cl yh s (cd [1,1,1,1,1,1,1] Ge) (Pw lf cl yh s) k n0 n1 s2 b3 n4 n5 s6 n7 n8v n9 n10 n11 n12 n13 n14 n15 z16 l17)
noncomputable def GR {R:Type} (n0 n1:Int) (s2:By) (b3:Bool) (n4 n5:Int) (s6:By) (n7 n8v n9 n10 n11 n12 n13 n14 n15:Int) (k0:(List Blk)->Option R):Option R:=k0 [(Blk.arr false 22 1 [[(SV.int .i64 n0)],[(SV.int .i64 n1)]]),(Blk.box [(PV.s (SV.str s2)),(PV.s (SV.bool b3)),(PV.s (SV.int .i64 n4))]),(Blk.box [(PV.s (SV.int .i64 n5)),(PV.s (SV.str s6)),(PV.s (SV.int .u32 n7)),(PV.s (SV.int .u16 n8v)),(PV.s (SV.int .u16 n9)),(PV.s (SV.int .u16 n10)),(PV.s (SV.int .u16 n11)),(PV.s (SV.int .u16 n12)),(PV.s (SV.int .u16 n13)),(PV.s (SV.int .u16 n14)),(PV.s (SV.int .u16 n15))])]
abbrev Wj (b:Code):Prop:=∀ (k:Out->St σ->Option R) n0 n1 s2 b3 n4 n5 s6 n7 n8v n9 n10 n11 n12 n13 n14 n15,B0 (Bv lf) cl yh b ⟨gp [(4,.ptr 0 0 0),(1,.ptr 1 0 0),(0,.ptr 2 0 0),(1,.s (.nilp)),(1,pB false)] 84,[.arr false 22 1 [[.int .i64 n0],[.int .i64 n1]],.box [pS s2,pB b3,pI n4],.box [pI n5,pS s6,p32 n7,p16 n8v,p16 n9,p16 n10,p16 n11,p16 n12,p16 n13,p16 n14,p16 n15]],s⟩ k=GR n0 n1 s2 b3 n4 n5 s6 n7 n8v n9 n10 n11 n12 n13 n14 n15 (λH0=>k .ret ⟨gp [(8,pB true)] 87,H0,s⟩)
theorem ZC (b_1111111:Code) (h_lcn_j0:Mi (R:=R) lf cl yh s b_1111111):Wj (R:=R) lf cl yh s (cd [1,1,1] (U1 [1,1,1,1,1,1,1] b_1111111 Ge)):=by
 intro k n0 n1 s2 b3 n4 n5 s6 n7 n8v n9 n10 n11 n12 n13 n14 n15;unfold GR;kernel_rfl
theorem ZD:Wj (R:=R) lf cl yh s (cd [1,1,1] Ge):=by
 intro k n0 n1 s2 b3 n4 n5 s6 n7 n8v n9 n10 n11 n12 n13 n14 n15;exact Eq.trans (by kernel_rfl) (ZC lf cl yh s (cd [1,1,1,1,1,1,1] Ge) (Pw lf cl yh s) k n0 n1 s2 b3 n4 n5 s6 n7 n8v n9 n10 n11 n12 n13 n14 n15)
noncomputable def lcn {R:Type} (lf:Nat) (now0 now1:Int) (pins_z2 pins_t3:Bool) (pins4:LL) (more5:By) (more6:Bool) (more7 h8:Int) (h9:By) (h10 h11 h12 h13 h14 h15 h16 h17 h18:Int) (k0:Bool->(List Blk)->Option R):Option R:=cond (List.all pins4 D1) (cond (ltI 40 1001) (cond (not (Hr (40:Int) pins4)) (k0 true [(Blk.arr false 22 1 [[(SV.int .i64 now0)],[(SV.int .i64 now1)]]),(Blk.box [(PV.s (SV.str more5)),(PV.s (SV.bool more6)),(PV.s (SV.int .i64 more7))]),(Blk.box [(PV.s (SV.int .i64 h8)),(PV.s (SV.str h9)),(PV.s (SV.int .u32 h10)),(PV.s (SV.int .u16 h11)),(PV.s (SV.int .u16 h12)),(PV.s (SV.int .u16 h13)),(PV.s (SV.int .u16 h14)),(PV.s (SV.int .u16 h15)),(PV.s (SV.int .u16 h16)),(PV.s (SV.int .u16 h17)),(PV.s (SV.int .u16 h18))])]) (cond (List.all [[(SV.str h9)],[(SV.str more5)]] isS) (cond (not (Gd (400:Int) (List.map elS [[(SV.str h9)],[(SV.str more5)]]))) (k0 true [(Blk.arr false 22 1 [[(SV.int .i64 now0)],[(SV.int .i64 now1)]]),(Blk.box [(PV.s (SV.str more5)),(PV.s (SV.bool more6)),(PV.s (SV.int .i64 more7))]),(Blk.box [(PV.s (SV.int .i64 h8)),(PV.s (SV.str h9)),(PV.s (SV.int .u32 h10)),(PV.s (SV.int .u16 h11)),(PV.s (SV.int .u16 h12)),(PV.s (SV.int .u16 h13)),(PV.s (SV.int .u16 h14)),(PV.s (SV.int .u16 h15)),(PV.s (SV.int .u16 h16)),(PV.s (SV.int .u16 h17)),(PV.s (SV.int .u16 h18))])]) (cond (List.all pins4 D1) (cond (List.all pins4 smE) (cond (A2 pins4.length) (cond (List.all [] E4) (cond (List.all [] smE) (cond (M0 pins_z2 pins4) (cond (M0 true []) (cond ((U8 (1000:Int) (List.map A4 pins4))==0) (cond ((Ex (List.map A6 []))==0) (GQ now0 now1 more5 more6 more7 h8 h9 h10 h11 h12 h13 h14 h15 h16 h17 h18 pins_z2 pins4 (λb'32 H'33=>k0 b'32 H'33)) (RT now0 now1 more5 more6 more7 h8 h9 h10 h11 h12 h13 h14 h15 h16 h17 h18 pins_z2 pins4 (λH'34=>k0 true H'34))) (cond ((Ex (List.map A6 []))==0) (GR now0 now1 more5 more6 more7 h8 h9 h10 h11 h12 h13 h14 h15 h16 h17 h18 (λH'35=>k0 true H'35)) (GR now0 now1 more5 more6 more7 h8 h9 h10 h11 h12 h13 h14 h15 h16 h17 h18 (λH'36=>k0 true H'36)))) none) none) none) none) none) none) none)) none)) none) none
theorem Bh1 (b_111:Code) (h_lcn_j1:Wh (R:=PV × List Blk × σ) lf cl yh s b_111) (h_lcn_j2:Wi (R:=PV × List Blk × σ) lf cl yh s b_111) (h_lcn_j3:Wj (R:=PV × List Blk × σ) lf cl yh s b_111) (now0 now1:Int) (pins_z2 pins_t3:Bool) (pins4:LL) (more5:By) (more6:Bool) (more7 h8:Int) (h9:By) (h10 h11 h12 h13 h14 h15 h16 h17 h18:Int):B0 (Bv lf) cl yh (cd [] (U1 [1,1,1] b_111 Ge)) ⟨[.agg [pI now0,pI now1],.s (.sl pins_z2 pins_t3 3 pins4),.agg [pS more5,pB more6,pI more7],.agg [pI h8,pS h9,p32 h10,p16 h11,p16 h12,p16 h13,p16 h14,p16 h15,p16 h16,p16 h17,p16 h18]]++tps 92,[],s⟩ (J6 (Bv lf) Tryz.f3)=lcn lf now0 now1 pins_z2 pins_t3 pins4 more5 more6 more7 h8 h9 h10 h11 h12 h13 h14 h15 h16 h17 h18 (λr0 H1=>some (pB r0,H1,s)):=by
 unfold lcn;exact let K0:=(J6 (Bv lf) Tryz.f3);(Eq.trans (by kernel_rfl) (A0 (A0 (A0 rfl (A0 (A0 rfl (A0 (A0 (A0 (A0 (A0 (A0 (A0 (A0 (A0 ((h_lcn_j1 K0 now0 now1 more5 more6 more7 h8 h9 h10 h11 h12 h13 h14 h15 h16 h17 h18 pins_z2 pins4).trans (by kernel_rfl)) ((h_lcn_j2 K0 now0 now1 more5 more6 more7 h8 h9 h10 h11 h12 h13 h14 h15 h16 h17 h18 pins_z2 pins4).trans (by kernel_rfl))) (A0 ((h_lcn_j3 K0 now0 now1 more5 more6 more7 h8 h9 h10 h11 h12 h13 h14 h15 h16 h17 h18).trans (by kernel_rfl)) ((h_lcn_j3 K0 now0 now1 more5 more6 more7 h8 h9 h10 h11 h12 h13 h14 h15 h16 h17 h18).trans (by kernel_rfl)))) rfl) rfl) rfl) rfl) rfl) rfl) rfl)) rfl)) rfl) rfl))
theorem Bh2 (d:Nat) (now0 now1 pins_z2 pins_t3 pins4 more5 more6 more7 h8 h9 h10 h11 h12 h13 h14 h15 h16 h17 h18):evC (Bv lf) (d+1) σ yh 3 [.agg [pI now0,pI now1],.s (.sl pins_z2 pins_t3 3 pins4),.agg [pS more5,pB more6,pI more7],.agg [pI h8,pS h9,p32 h10,p16 h11,p16 h12,p16 h13,p16 h14,p16 h15,p16 h16,p16 h17,p16 h18]] [] s=lcn lf now0 now1 pins_z2 pins_t3 pins4 more5 more6 more7 h8 h9 h10 h11 h12 h13 h14 h15 h16 h17 h18 (λr0 H1=>some (pB r0,H1,s)):=
 (evE (fn:=Tryz.f3) (by kernel_rfl)).trans (Eq.trans (by kernel_rfl) (Bh1 lf (evC (Bv lf) d) yh s (cd [1,1,1] Ge) (YZ lf (evC (Bv lf) d) yh s) (ZB lf (evC (Bv lf) d) yh s) (ZD lf (evC (Bv lf) d) yh s) now0 now1 pins_z2 pins_t3 pins4 more5 more6 more7 h8 h9 h10 h11 h12 h13 h14 h15 h16 h17 h18))
end
theorem Ad7 {R:Type} {k0:Int->Option R} (tz tt:Bool) (t:LL) (cp:Int) (h0:A2 t.length=true):Bj5 LF tz tt t cp k0=k0 (t.length:Int):=rfl
theorem Ad4 {R:Type} {k0:Int->Option R} (tz tt:Bool) (t:LL) (cp:Int) (h0:A2 t.length=true):Bj2 LF tz tt t cp k0=k0 cp:=rfl
theorem Ad9 {R:Type} {k0:Int->Int->Bool->LL->By->Bool->Int->Option R} (h:By) (b:Bool) (e cp:Int) (z:Bool) (t:LL) (h0:t.all D1=true) (h1:t.all smE=true) (h2:A2 t.length=true) (h3:A2 h.length=true) (h4:Nat.ble t.length 1000=true) :
  Ba1 LF h b e cp z t k0=k0 (Aa8 cp (t.map A4) h b e:Nat) cp z (N1 (Ax cp (t.map A4) h b e)) h b e:=by
 have h4':=Nat.le_of_ble_eq_true h4
 have hle:bsI ((t.map A4).map Prod.fst) h<=t.length:=by
  have:∀ N:List By,bsI N h<=N.length:=λN=>(Ic _ _ _ _ (by omega)).2
  have:=this ((t.map A4).map Prod.fst)
  rwa [List.length_map,List.length_map] at this
 unfold Ba1 Ax Aa8
 rw [h3,cond_true]
 cases hp:Hp h e with
 | false=>
  rw [Bool.not_false,cond_true,cond_false,cond_false,<-Iv h0]
  rfl
 | true=>
  rw [Bool.not_true,cond_false,h0,h1,h2]
  simp only [cond_true,vl,Int.toNat_natCast]
  obtain ⟨T,hT⟩:∃ T,T=t.map A4:=⟨_,rfl⟩
  have ht:t=N1 T:=by rw [hT];exact Iv h0
  have htl:t.length=T.length:=by rw [hT,List.length_map]
  rw [<-hT] at hle ⊢
  cases hb:bsB (T.map Prod.fst) h with
  | true=>
   obtain ⟨q1,q2⟩:=VW hb
   rw [List.length_map] at q1
   rw [Q3 (by omega) (by omega),decide_eq_true (by omega:bsI (T.map Prod.fst) h<t.length)]
   simp only [cond_true]
   congr 1
   subst ht
   rw [Cj q1]
   unfold N1
   rw [List.map_set]
   rfl
  | false=>
   simp only [cond_false]
   rw [htl]
   cases hc:((T.length:Int)==cp) with
   | true=>
    simp only [cond_true]
    rw [ht]
    rfl
   | false=>
    simp only [cond_false]
    rw [G4.2 ⟨by omega,by show ((bsI (T.map Prod.fst) h:Nat):Int)<((T.length+1:Nat):Int);omega⟩,Nat.ble_eq_true_of_le (by omega:T.length<=100000)]
    simp only [cond_true]
    congr 1
    rw [ht]
    unfold GL N1
    rw [List.map_append,List.map_cons,List.map_take,List.map_drop]
    rfl
theorem Ar4 {cp:Int} {t:LL} {h:By} {b:Bool} {e:Int} (h0:t.all D1=true) (h1:t.all smE=true) (h3:A2 h.length=true) (he:Md e=true) :
  (N1 (Ax cp (t.map A4) h b e)).all D1=true/\(N1 (Ax cp (t.map A4) h b e)).all smE=true:=by
 have key:∀ x∈Ax cp (t.map A4) h b e,Md x.2.2=true/\A2 x.1.length=true:=by
  refine A73 (λx hx=>?_) ⟨he,h3⟩
  obtain ⟨el,hel,rfl⟩:=List.mem_map.1 hx
  have q0:=List.all_eq_true.1 h0 el hel
  have q1:=List.all_eq_true.1 h1 el hel
  match el,q0 with
  | [.str s,.bool b,.int .i64 n],q0=>exact ⟨q0,q1⟩
 refine ⟨List.all_eq_true.2 λx hx=>?_,List.all_eq_true.2 λx hx=>?_⟩
 ·obtain ⟨p,hp,rfl⟩:=List.mem_map.1 hx
  exact (key p hp).1
 ·obtain ⟨p,hp,rfl⟩:=List.mem_map.1 hx
  exact (key p hp).2
theorem A16 {t:LL} (h0:t.all D1=true) (q:By):Md (E0 (t.map A4) q).1.2.2=true:=by
 show Md (Sm Prod.fst noP (t.map A4) q).1.2.2=true
 unfold Sm
 split
 ·rename_i hb
  obtain ⟨h1,_⟩:=VW hb
  rw [List.length_map] at h1
  rw [List.getD_eq_getElem?_getD,List.getElem?_eq_getElem h1]
  have hm:(t.map A4)[bsI ((t.map A4).map Prod.fst) q]∈t.map A4:=List.getElem_mem h1
  obtain ⟨el,hel,he⟩:=List.mem_map.1 hm
  have q0:=List.all_eq_true.1 h0 el hel
  show Md ((t.map A4)[bsI ((t.map A4).map Prod.fst) q]).2.2=true
  rw [<-he]
  match el,q0 with
  | [.str s,.bool b,.int .i64 n],q0=>exact q0
 ·rfl
section
variable {t : LL} {mh nm : By} {me a kd v4 a0 a1 a2 a3 a4 a5 a6 a7 : Int} {mb : Bool}
theorem GP (hT:asc ((t.map A4).map Prod.fst)=true) (s1:t.all D1=true) (s2:t.all smE=true) (hl:t.length<=1000) (gm:A2 mh.length=true) (gn:A2 nm.length=true) (g1:ltN v4 4294967296=true) (g2:ok8 a0 a1 a2 a3 a4 a5 a6 a7=true)
  (he:Md me=true) (hm:(E0 (t.map A4) mh).2=true->((E0 (t.map A4) mh).1.2.1=true->mb=true)/\(E0 (t.map A4) mh).1.2.2<=me) {R:Type} (H1 H2 H3:List Blk) (k0:Bool->List Blk->Option R) :
  cond (not ((D2 a (t.map A4) [] kd (mkH kd nm v4 (n8 a0 a1 a2 a3 a4 a5 a6 a7))).1 != 0)) (k0 true H1)
   (cond (List.all (N1 (Ax 1000 (t.map A4) mh mb me)) D1) (cond (List.all (N1 (Ax 1000 (t.map A4) mh mb me)) smE) (cond (A2 (N1 (Ax 1000 (t.map A4) mh mb me)).length)
    (cond (A2 nm.length) (cond (ltN v4 4294967296) (cond (ok8 a0 a1 a2 a3 a4 a5 a6 a7)
     (cond ((D2 a (List.map A4 (N1 (Ax 1000 (t.map A4) mh mb me))) List.nil kd (mkH kd nm v4 (n8 a0 a1 a2 a3 a4 a5 a6 a7))).1 != 0) (k0 true H2) (k0 false H3)) none) none) none) none) none) none) =
  k0 true (cond ((D2 a (t.map A4) [] kd (mkH kd nm v4 (n8 a0 a1 a2 a3 a4 a5 a6 a7))).1 != 0) H2 H1):=by
 obtain ⟨p1,p2⟩:=Ar4 (cp:=1000) (b:=mb) s1 s2 gm he
 have p3:(Ax 1000 (t.map A4) mh mb me).length<=(t.map A4).length+1:=Bi3
 rw [List.length_map] at p3
 rw [p1,p2,gn,g1,g2,I5 (by rw [K8];omega),WS]
 simp only [cond_true]
 cases hk:(D2 a (t.map A4) [] kd (mkH kd nm v4 (n8 a0 a1 a2 a3 a4 a5 a6 a7))).1 != 0 with
 | false=>rfl
 | true=>
  rw [show ((D2 a (Ax 1000 (t.map A4) mh mb me) [] kd (mkH kd nm v4 (n8 a0 a1 a2 a3 a4 a5 a6 a7))).1 != 0)=true by
   have:=YR (cp:=1000) hT hm (by simpa using hk)
   simpa using this]
  rfl
theorem Ao8 (hT:asc ((t.map A4).map Prod.fst)=true) (s1:t.all D1=true) (s2:t.all smE=true) (hl:t.length<=1000) (gm:A2 mh.length=true) (gn:A2 nm.length=true) (g1:ltN v4 4294967296=true) (g2:ok8 a0 a1 a2 a3 a4 a5 a6 a7=true)
  (he:Md me=true) (n0 n1:Int) (z:Bool) :
  ∃ H,∀ {R:Type} (k0:Bool->List Blk->Option R),Hh a ((D2 a (t.map A4) [] kd (mkH kd nm v4 (n8 a0 a1 a2 a3 a4 a5 a6 a7))).1 != 0) n0 n1 mh mb me kd nm v4 a0 a1 a2 a3 a4 a5 a6 a7 z t k0=k0 true H:=by
 have hg:=A16 s1 mh
 have s3:A2 t.length=true:=I5 (by omega)
 have s4:Nat.ble t.length 1000=true:=Nat.ble_eq_true_of_le hl
 have hmx:∀ x:Int,Md x=true->Md (if x > me then x else me)=true:=λx hx=>by split<;>assumption
 have hle:∀ x:Int,x<=(if x > me then x else me):=λx=>by split<;>omega
 cases hf:(E0 (t.map A4) mh).2 with
 | false=>
  apply Exists.intro;intro R k0
  unfold Hh
  rw [s1,s2,s3,gm,hf,s4]
  simp only [cond_true,cond_false,vl]
  exact GP hT s1 s2 hl gm gn g1 g2 he (λh=>by rw [hf] at h;cases h) _ _ _ k0
 | true=>
  cases mb with
  | true=>
   apply Exists.intro;intro R k0
   unfold Hh
   rw [s1,s2,s3,gm,hf,s4]
   simp only [cond_true,cond_false,vl]
   exact GP (mb:=true) hT s1 s2 hl gm gn g1 g2 (hmx _ hg) (λ_=>⟨λ_=>rfl,hle _⟩) _ _ _ k0
  | false=>
   apply Exists.intro;intro R k0
   unfold Hh
   rw [s1,s2,s3,gm,hf,s4]
   simp only [cond_true,cond_false,vl]
   exact GP (mb:=(E0 (t.map A4) mh).1.2.1) hT s1 s2 hl gm gn g1 g2 (hmx _ hg) (λ_=>⟨id,hle _⟩) _ _ _ k0
theorem Ao9 (n0 n1:Int) (tz:Bool) (ht:t.all D1=true) (hz:M0 tz t=true) (he:Md me=true) (g1:ltN v4 4294967296=true) (g2:ok8 a0 a1 a2 a3 a4 a5 a6 a7=true) :
  Tru (evC (Bv LF) 1 Unit noY 3 [.agg [pI n0,pI n1],.s (.sl tz false 3 t),.agg [pS mh,pB mb,pI me],.agg ((RG kd nm v4 a0 a1 a2 a3 a4 a5 a6 a7).map .s)] [] ()):=by
 refine Eq.subst (motive:=Tru) (Bh2 (σ:=Unit) LF noY () 0 n0 n1 tz false t mh mb me kd nm v4 a0 a1 a2 a3 a4 a5 a6 a7).symm ?_
 unfold lcn
 rw [ht]
 simp only [cond_true,show ltI 40 1001=true from rfl,show List.all [[SV.str nm],[SV.str mh]] isS=true from rfl,show List.map elS [[SV.str nm],[SV.str mh]]=[nm,mh] from rfl,show List.all ([]:LL) E4=true from rfl,show List.all ([]:LL) smE=true from rfl,show M0 true []=true from rfl,show (Ex (List.map A6 [])==0)=true from rfl,hz]
 cases c1:Hr 40 t with
 | false=>exact ⟨_,rfl⟩
 | true=>
 cases c3:Gd 400 [nm,mh] with
 | false=>exact ⟨_,rfl⟩
 | true=>
 rw [Bool.not_true,cond_false,cond_false]
 obtain ⟨s1,s2⟩:=Ac1 (by decide) c1
 have gs:(nm.length:Int)<=400/\(mh.length:Int)<=400:=by
  unfold Gd at c3
  simp only [List.all_cons,List.all_nil,Bool.and_true,Bool.and_eq_true,Bool.not_eq_true',Q7,decide_eq_false_iff_not] at c3
  omega
 have gn:A2 nm.length=true:=I5 (by omega)
 have gm:A2 mh.length=true:=I5 (by omega)
 rw [s1,s2]
 simp only [cond_true]
 cases c4:(U8 (1000:Int) (List.map A4 t)==0) with
 | false=>exact ⟨_,rfl⟩
 | true=>
 have hl:t.length<=1000:=by
  unfold Hr at c1
  rw [Bool.and_eq_true,Q7] at c1
  have:=c1.1
  simp at this
  omega
 have hT:=(A42 (eq_of_beq c4)).2
 rw [cond_true]
 unfold GQ
 have hab:(if n1<n0 then n1 else n0)<=(if n1 > n0 then n1 else n0):=by split<;>split<;>omega
 simp only [vl]
 generalize (if n1<n0 then n1 else n0)=a at *
 generalize (if n1 > n0 then n1 else n0)=b at *
 rw [ht,s1,s2,gn,g1,g2]
 simp only [cond_true]
 obtain ⟨H,hj⟩:=Ao8 (a:=a) (kd:=kd) (mb:=mb) hT ht s1 hl gm gn g1 g2 he n0 n1 tz
 cases hk:(D2 b (t.map A4) [] kd (mkH kd nm v4 (n8 a0 a1 a2 a3 a4 a5 a6 a7))).1 != 0 with
 | false=>
  rw [cond_false,hj]
  exact ⟨_,rfl⟩
 | true=>
  have hk':=RN hT hab (by simpa using hk)
  rw [cond_true,hj,show ((D2 a (t.map A4) [] kd (mkH kd nm v4 (n8 a0 a1 a2 a3 a4 a5 a6 a7))).1 != 0)=true by simpa using hk']
  exact ⟨_,rfl⟩
end
theorem Ax1 {P:Program} {t:Nat} {v:PV} (h:Kx P t v) (e:Ap P 20 t=some [.str,.bool,.int .i64]) (ha:Gs P t=true):∃ a b n,v = .agg [.s (.str a),.s (.bool b),.s (.int .i64 n)]/\Md n=true:=by
 obtain ⟨tys,l,h1,h2,h3⟩:=h
 rw [e] at h1
 obtain rfl:=Option.some.inj h1
 simp only [Ty.ofL,Ty.of] at h2
 obtain ⟨_,_,rfl,⟨a,rfl,_⟩,_,_,rfl,⟨b,rfl⟩,_,_,rfl,⟨n,rfl,h1,h2⟩,rfl⟩:=h2
 rcases h3 with ⟨_,rfl⟩ | ⟨h3,_⟩
 ·exact ⟨a,b,n,rfl,KZ.2 ⟨h1,by have:n<=9223372036854775807:=h2;omega⟩⟩
 ·rw [ha] at h3;cases h3
theorem Ah8 {P:Program} {t:Nat} {v:PV} (h:Kx P t v) (e:Ap P 20 t=some [.int .i64,.int .i64]) (ha:Gs P t=true):∃ a b,v = .agg [.s (.int .i64 a),.s (.int .i64 b)]:=by
 obtain ⟨tys,l,h1,h2,h3⟩:=h
 rw [e] at h1
 obtain rfl:=Option.some.inj h1
 simp only [Ty.ofL,Ty.of] at h2
 obtain ⟨_,_,rfl,⟨a,rfl,_⟩,_,_,rfl,⟨b,rfl,_⟩,rfl⟩:=h2
 rcases h3 with ⟨_,rfl⟩ | ⟨h3,_⟩
 ·exact ⟨a,b,rfl⟩
 ·rw [ha] at h3;cases h3
theorem A32 (args:List PV) (h:Fg Tryz.prog [22,23,25,30] args):∃ d Hc,evC (Bv LF) d Unit noY 3 args [] ()=some (.s (.bool true),Hc,()):=by
 obtain ⟨v1,q1,rfl,h1,v2,q2,rfl,h2,v3,q3,rfl,h3,v4',q4,rfl,h4,rfl⟩:=h
 obtain ⟨n0,n1,rfl⟩:=Ah8 h1 (by kernel_rfl) (by kernel_rfl)
 obtain ⟨tz,t,rfl,ht,hz⟩:=Ah9 h2 (by kernel_rfl) (by kernel_rfl)
 obtain ⟨mh,mb,me,rfl,he⟩:=Ax1 h3 (by kernel_rfl) (by kernel_rfl)
 obtain ⟨kd,nm,v4,a0,a1,a2,a3,a4,a5,a6,a7,rfl,_,g1,g2,_⟩:=Ah7 h4 (by kernel_rfl) (by kernel_rfl)
 exact ⟨1,Ao9 n0 n1 tz ht hz he g1 g2⟩
section
theorem Ae9:B2 Tryz.prog GX 99 Hx:=λargs ret Hc h=>by
 have:G2 (Hx args)=none:=by unfold Hx Uc;split<;>rfl
 rw [this] at h;cases h
theorem Av4:B2 Tryz.prog GX 88 NT:=xf [] (OY LF) DP rfl trivial rfl (by kernel_rfl) follows λargs=>by
 unfold DP;split
 ·rename_i s p;exact λh0=>⟨rfl,rfl,rfl,_,_,(A44 LF noY () 0 s p).trans (ZP s p h0),rfl⟩
 ·trivial
theorem Bl2:B2 Tryz.prog GX 74 Ag5:=xf [] (OR LF) DD rfl ⟨Av4,trivial⟩ rfl (by kernel_rfl) follows λargs=>by
 unfold DD;split
 ·rename_i s p;exact λh0=>⟨rfl,rfl,rfl,_,_,(A19 LF noY () 0 s p).trans (YJ s p h0),rfl⟩
 ·trivial
theorem Bb2:B2 Tryz.prog GX 78 VG:=xf [0,0] (FH LF) Uf rfl ⟨Av4,trivial⟩ rfl (by kernel_rfl) follows λargs=>by
 unfold Uf;split
 ·rename_i s p;exact λh0=>⟨rfl,rfl,rfl,_,_,(Ap0 LF noY () 0 s p).trans (RW s p h0),rfl⟩
 ·trivial
theorem Bl1:B2 Tryz.prog GX 57 Ag4:=xf [0,0] (OP LF) CY rfl ⟨Bb2,trivial⟩ rfl (by kernel_rfl) follows λargs=>by
 unfold CY;split
 ·rename_i s p;exact λh0=>⟨rfl,rfl,rfl,_,_,(A02 LF noY () 0 s p).trans (XS s p h0),rfl⟩
 ·trivial
theorem Au7:B2 Tryz.prog GX 87 IW:=xf [1] (Br LF) Nv rfl ⟨Ae9,Bm4,Av6,trivial⟩ rfl (by kernel_rfl) follows λargs=>by
 unfold Nv;split
 ·rename_i s p v n;exact λh0=>λh1=>λh2=>λh3=>(let ⟨rr,hH,ee,qq⟩:=KR s p v n h0 h1 h2 h3;⟨rfl,rfl,rfl,rr,hH,(YG LF noY () 0 s p v n).trans ee,qq⟩)
 ·trivial
theorem Av7:B2 Tryz.prog GX 73 IY:=xf [1] (Vf LF) Of rfl ⟨Au7,trivial⟩ rfl (by kernel_rfl) follows λargs=>by
 unfold Of;split
 ·rename_i s p;exact λh0=>λh1=>⟨rfl,rfl,rfl,_,_,(Ac7 LF noY () 0 s p).trans (MS s p h0 h1),rfl⟩
 ·trivial
theorem Au8:B2 Tryz.prog GX 53 NN:=xf [] (OQ LF) DB rfl ⟨Bl2,trivial⟩ rfl (by kernel_rfl) follows λargs=>by
 unfold DB;split
 ·rename_i s;exact λh0=>⟨rfl,rfl,rfl,_,_,(A18 LF noY () 0 s).trans (YH s h0),rfl⟩
 ·trivial
theorem Au6:B2 Tryz.prog GX 55 NM:=xf [0,0] (N7 LF) CZ rfl trivial rfl (by kernel_rfl) follows λargs=>by
 unfold CZ;split
 ·rename_i s base;exact λh0=>λh1=>⟨rfl,rfl,rfl,_,_,(A07 LF noY () 0 s base).trans (XX s base h0 h1),rfl⟩
 ·trivial
theorem Bq6:B2 Tryz.prog GX 54 Bd2:=xf [0,0] (Aj8 LF) NV rfl ⟨Au8,Au6,trivial⟩ rfl (by kernel_rfl) follows λargs=>by
 unfold NV;split
 ·rename_i s;exact λh0=>⟨rfl,rfl,rfl,_,_,(Bh7 LF noY () 0 s).trans (Aq6 s h0),rfl⟩
 ·trivial
theorem Bb8:B2 Tryz.prog GX 52 VK:=xf [1] (FM LF) Um rfl ⟨Av7,trivial⟩ rfl (by kernel_rfl) follows λargs=>by
 unfold Um;split
 ·rename_i s;exact λh0=>⟨rfl,rfl,rfl,_,_,(Aq8 LF noY () 0 s).trans (TG s h0),rfl⟩
 ·trivial
theorem Af0:B2 Tryz.prog GX 39 Nz:=xf [] (Pb LF) Jw rfl ⟨Bb8,Au8,Bq6,Au6,trivial⟩ rfl (by kernel_rfl) follows λargs=>by
 unfold Jw;split
 ·rename_i s;exact λh0=>⟨rfl,rfl,rfl,_,_,(SZ LF noY () 0 s).trans (HM s h0),rfl⟩
 ·trivial
end
section
theorem NJ:B2 Tryz.prog GX 91 Gr:=xf [] (Ve LF) Od rfl trivial rfl (by kernel_rfl) follows λargs=>by
 unfold Od;split
 ·rename_i n;exact ⟨rfl,rfl,rfl,_,_,(Aa6 LF noY () 0 n).trans (ME n ),rfl⟩
 ·trivial
theorem NI:B2 Tryz.prog GX 93 Gq:=xf [] (O5 LF) Oa rfl trivial rfl (by kernel_rfl) follows λargs=>by
 unfold Oa;split
 ·rename_i d c f;exact λh0=>λh1=>λh2=>⟨rfl,rfl,rfl,_,_,(ZX LF noY () 0 d c f).trans (MB d c f h0 h1 h2),rfl⟩
 ·trivial
theorem Bm1:B2 Tryz.prog GX 104 NW:=xf [] (PB LF) EA rfl trivial rfl (by kernel_rfl) follows λargs=>by
 unfold EA;split
 ·rename_i d;exact λh0=>⟨rfl,rfl,rfl,_,_,(A64 LF noY () 0 d).trans (Aa5 d h0),rfl⟩
 ·trivial
theorem Bm3:B2 Tryz.prog GX 109 NX:=xf [] (Dz LF) EF rfl trivial rfl (by kernel_rfl) follows λargs=>by
 unfold EF;split
 ·rename_i b;exact λh0=>⟨rfl,rfl,rfl,_,_,(A79 LF noY () 0 b).trans (Ab1 b h0),rfl⟩
 ·trivial
end
section
theorem Av5:B2 Tryz.prog GX 103 Un:=by
 refine B2.fix (pf:=ED) _ (N3 (C₀:=PD LF) (I3.ok (l:=[]) rfl trivial) (D9 rfl (by kernel_rfl)) follows ?_)
 intro args ret Hc h
 unfold ED at h
 split at h
 ·rename_i b
  obtain ⟨rfl,rfl⟩:=F5 h
  have e:=(A71 LF noY () 0 b).trans (Aa7 b )
  exact ⟨rfl,1,_,[],e,rfl,rfl⟩
 ·cases h
theorem XJ:Jd Tryz.prog GX 112 Hy:=by
 refine W5 (C₀:=FN LF) (I3.ok (l:=[]) rfl trivial) (D9 rfl (by kernel_rfl)) follows ?_
 intro args H ret Hc h
 unfold Hy at h
 split at h
 ·rename_i k b
  obtain ⟨h0,h⟩:=A9 h
  obtain ⟨h1,h⟩:=A9 h
  obtain ⟨rfl,rfl⟩:=F5 h
  refine ⟨rfl,rfl,λσ yh s=>?_⟩
  have e:=(Ar1 LF yh s 0 k b).trans (TV k b h0 h1)
  exact ⟨1,_,e,rfl⟩
 ·cases h
theorem Bn0:Jd Tryz.prog GX 92 DW:=by
 refine W5 (C₀:=Pc LF) (Y9 (lx:=[(103,Un),(104,NW)]) (ly:=[(112,Hy)]) (ls:=[]) rfl rfl rfl ⟨Av5,Bm1,trivial⟩ ⟨XJ,trivial⟩ trivial) (D9 rfl (by kernel_rfl)) follows ?_
 intro args H ret Hc h
 unfold DW at h
 split at h
 ·rename_i q b z l
  obtain ⟨h0,h⟩:=A9 h
  obtain ⟨h1,h⟩:=A9 h
  obtain ⟨h2,h⟩:=A9 h
  obtain ⟨rfl,rfl⟩:=F5 h
  obtain ⟨x0,x1,e0⟩:=ZZ q b z l h0 h1 h2
  exact ⟨rfl,rfl,λσ yh s=>⟨1,_,(A58 LF yh s 0 q b z l).trans (e0 _ _),rfl⟩⟩
 ·cases h
theorem Bm2:B2 Tryz.prog GX 80 Ah1:=by
 refine B2.fix (pf:=EB) _ (I7 [0,0] (C₀:=J1 LF) (Y9 (lx:=[(91,Gr),(93,Gq)]) (ly:=[(92,DW)]) (ls:=[]) rfl rfl rfl ⟨NJ,NI,trivial⟩ ⟨Bn0,trivial⟩ trivial) (D9 rfl (by kernel_rfl)) follows ?_)
 intro args ret Hc h
 unfold EB at h
 split at h
 ·rename_i p_z p_t p
  obtain ⟨h0,h⟩:=A9 h
  obtain ⟨rfl,rfl⟩:=F5 h
  obtain ⟨rr,hH,ee,qq⟩:=A67 p_z p_t p h0
  exact ⟨rfl,rfl,rfl,1,rr,hH,(A65 LF noY () 0 p_z p_t p).trans ee,qq⟩
 ·cases h
end
section
theorem Bm9:Jd Tryz.prog GX 101 DA:=by
 refine W5 (C₀:=Pa LF) (Y9 (lx:=[(103,Un),(109,NX)]) (ly:=[(112,Hy)]) (ls:=[]) rfl rfl rfl ⟨Av5,Bm3,trivial⟩ ⟨XJ,trivial⟩ trivial) (D9 rfl (by kernel_rfl)) follows ?_
 intro args H ret Hc h
 unfold DA at h
 split at h
 ·rename_i rest n i b st z l
  obtain ⟨h0,h⟩:=A9 h
  obtain ⟨h1,h⟩:=A9 h
  obtain ⟨h2,h⟩:=A9 h
  obtain ⟨rfl,rfl⟩:=F5 h
  obtain ⟨x0,e0⟩:=XZ rest n i b st z l h0 h1 h2
  exact ⟨rfl,rfl,λσ yh s=>⟨1,_,(A08 LF yh s 0 rest n i b st z l).trans (e0 _ _),rfl⟩⟩
 ·cases h
theorem Au9:B2 Tryz.prog GX 49 IX:=xf [] (Bt LF) Nw rfl trivial rfl (by kernel_rfl) follows λargs=>by
 unfold Nw;split
 ·rename_i s c;exact λh0=>λh1=>⟨rfl,rfl,rfl,_,_,(YN LF noY () 0 s c).trans (LB s c h0 h1),rfl⟩
 ·trivial
theorem XI:B2 Tryz.prog GX 35 Su:=xf [] (FG LF) Ue rfl ⟨Au9,trivial⟩ rfl (by kernel_rfl) follows λargs=>by
 unfold Ue;split
 ·rename_i s c;exact λh0=>λh1=>⟨rfl,rfl,rfl,_,_,(Ao7 LF noY () 0 s c).trans (RP s c h0 h1),rfl⟩
 ·trivial
end
section
theorem Bc4:Jd Tryz.prog GX 90 Ss:=by
 refine W5 (C₀:=FF LF) (Y9 (lx:=[(93,Gq),(91,Gr)]) (ly:=[(101,DA),(102,EM)]) (ls:=[]) rfl rfl rfl ⟨NI,NJ,trivial⟩ ⟨Bm9,Bn1,trivial⟩ trivial) (D9 rfl (by kernel_rfl)) follows ?_
 intro args H ret Hc h
 unfold Ss at h
 split at h
 ·rename_i rest n i b st z l
  obtain ⟨h0,h⟩:=A9 h
  obtain ⟨h1,h⟩:=A9 h
  obtain ⟨h2,h⟩:=A9 h
  obtain ⟨h3,h⟩:=A9 h
  obtain ⟨h4,h⟩:=A9 h
  obtain ⟨rfl,rfl⟩:=F5 h
  refine ⟨rfl,rfl,λσ yh s=>?_⟩
  have e:=(Am9 LF yh s 0 rest n i b st z l).trans (QU rest n i b st z l h0 h1 h2 h3 h4)
  exact ⟨1,_,e,rfl⟩
 ·cases h
theorem Bm0:B2 Tryz.prog GX 79 Ah0:=by
 refine B2.fix (pf:=DZ) _ (I7 [1,0] (C₀:=Q6 LF) (Y9 (lx:=[(35,Su)]) (ly:=[(90,Ss)]) (ls:=[]) rfl rfl rfl ⟨XI,trivial⟩ ⟨Bc4,trivial⟩ trivial) (D9 rfl (by kernel_rfl)) follows ?_)
 intro args ret Hc h
 unfold DZ at h
 split at h
 ·rename_i s
  obtain ⟨h0,h⟩:=A9 h
  obtain ⟨rfl,rfl⟩:=F5 h
  obtain ⟨rr,hH,ee,qq⟩:=A62 s h0
  exact ⟨rfl,rfl,rfl,1,rr,hH,(A61 LF noY () 0 s).trans ee,qq⟩
 ·cases h
end
end
section
open Go Go.Proofs Go.Sort
set_option maxRecDepth 100000
theorem Bb1:B2 Tryz.prog GX 76 Lb:=λargs ret Hc h=>by
 have:G2 (Lb args)=none:=by unfold Lb IV;split<;>rfl
 rw [this] at h;cases h
theorem Bc6:IT Tryz.prog GX 75 Sv:=by
 refine Rz (C₀:=R3 LF) ((I3.ok (l:=[(76,Lb),(77,EK)]) rfl ⟨Bb1,Av6,trivial⟩)) (D9 rfl (by kernel_rfl)) follows ?_
 intro args H L h σ yh s s' hr
 unfold Sv at h
 split at h
 ·rename_i p t n
  simp only [Option.some.injEq,Prod.mk.injEq] at h
  obtain ⟨h1,rfl⟩:=h
  obtain ⟨t',f⟩:=UO (R:=PV × List Blk × σ) yh p t n s s' h1 hr
  exact ⟨1,_,(As2 LF yh 0 p t n s).trans (f _)⟩
 ·cases h
end
section
open Go Go.Proofs
set_option maxRecDepth 100000
section
theorem Bb5:B2 Tryz.prog GX 58 VJ:=xf [] (Fl LF) Uj rfl ⟨Bm0,Bm2,trivial⟩ rfl (by kernel_rfl) follows λargs=>by
 unfold Uj;split
 ·rename_i s;exact λh0=>⟨rfl,rfl,rfl,_,_,(Ap8 LF noY () 0 s).trans (SH s h0),rfl⟩
 ·trivial
theorem Bl7:B2 Tryz.prog GX 41 NU:=xf [] (Kh LF) DT rfl ⟨Bl1,Bb5,trivial⟩ rfl (by kernel_rfl) follows λargs=>by
 unfold DT;split
 ·rename_i s;exact λh0=>⟨rfl,rfl,rfl,_,_,(A47 LF noY () 0 s).trans (ZR s h0),rfl⟩
 ·trivial
theorem Bb6:B2 Tryz.prog GX 56 DQ:=by
 refine B2.fix (pf:=Uk) _ (N3 (C₀:=FK LF) (I3.ok (l:=[]) rfl trivial) (D9 rfl (by kernel_rfl)) follows ?_)
 intro args ret Hc h
 unfold Uk at h
 split at h
 ·rename_i t p n
  obtain ⟨rfl,rfl⟩:=F5 h
  have e:=(Aq0 LF noY () 0 t p n).trans (SJ t p n )
  exact ⟨rfl,1,_,[],e,rfl,rfl⟩
 ·cases h
theorem Bm6:B2 Tryz.prog GX 40 NZ:=by
 refine B2.fix (pf:=EN) _ (N3 (C₀:=PG LF) (I3.ok (l:=[(56,DQ)]) rfl ⟨Bb6,trivial⟩) (D9 rfl (by kernel_rfl)) follows ?_)
 intro args ret Hc h
 unfold EN at h
 split at h
 ·rename_i t p
  obtain ⟨rfl,rfl⟩:=F5 h
  have e:=(A88 LF noY () 0 t p).trans (Ac6 t p )
  exact ⟨rfl,1,_,[],e,rfl,rfl⟩
 ·cases h
theorem XH:B2 Tryz.prog GX 24 Zk:=by
 refine B2.fix (pf:=NO) _ (I7 [] (C₀:=Gw LF) (Y9 (lx:=[(39,Nz),(40,NZ),(41,NU)]) (ly:=[]) (ls:=[(75,Sv)]) rfl rfl rfl ⟨Af0,Bm6,Bl7,trivial⟩ trivial ⟨Bc6,trivial⟩) (D9 rfl (by kernel_rfl)) follows ?_)
 intro args ret Hc h
 unfold NO at h
 split at h
 ·rename_i s
  obtain ⟨h0,h⟩:=A9 h
  obtain ⟨rfl,rfl⟩:=F5 h
  obtain ⟨rr,hH,ee,qq⟩:=Bg7 s h0
  exact ⟨rfl,rfl,rfl,1,rr,hH,(Bg6 LF noY () 0 s).trans ee,qq⟩
 ·cases h
theorem Yf:B2 Tryz.prog GX 28 Dt:=xf [] (OT LF) DF rfl ⟨XH,trivial⟩ rfl (by kernel_rfl) follows λargs=>by
 unfold DF;split
 ·rename_i kd nm v4 a0 a1 a2 a3 a4 a5 a6 a7;exact λh0=>λh1=>λh2=>(let ⟨rr,hH,ee,qq⟩:=A22 kd nm v4 a0 a1 a2 a3 a4 a5 a6 a7 h0 h1 h2;⟨rfl,rfl,rfl,rr,hH,(A21 LF noY () 0 kd nm v4 a0 a1 a2 a3 a4 a5 a6 a7).trans ee,qq⟩)
 ·trivial
theorem Ye:B2 Tryz.prog GX 30 Dr:=by
 refine B2.fix (pf:=DE) _ (N3 (C₀:=OS LF) (I3.ok (l:=[]) rfl trivial) (D9 rfl (by kernel_rfl)) follows ?_)
 intro args ret Hc h
 unfold DE at h
 split at h
 ·rename_i t
  obtain ⟨rfl,rfl⟩:=F5 h
  have e:=(A20 LF noY () 0 t).trans (YK t )
  exact ⟨rfl,1,_,[],e,rfl,rfl⟩
 ·cases h
end
section
theorem Bl9:B2 Tryz.prog GX 50 Ag9:=xf [] (PA LF) DV rfl trivial rfl (by kernel_rfl) follows λargs=>by
 unfold DV;split
 ·rename_i s;exact ⟨rfl,rfl,rfl,_,_,(A52 LF noY () 0 s).trans (ZT s ),rfl⟩
 ·trivial
theorem Bl8:B2 Tryz.prog GX 51 Ag8:=xf [] (OZ LF) DU rfl trivial rfl (by kernel_rfl) follows λargs=>by
 unfold DU;split
 ·rename_i n;exact ⟨rfl,rfl,rfl,_,_,(A50 LF noY () 0 n).trans (ZS n ),rfl⟩
 ·trivial
theorem Bq4:B2 Tryz.prog GX 36 Bc9:=xf [] (Aj6 LF) NL rfl ⟨Bl9,trivial⟩ rfl (by kernel_rfl) follows λargs=>by
 unfold NL;split
 ·rename_i s p;exact ⟨rfl,rfl,rfl,_,_,(Bf4 LF noY () 0 s p).trans (Ak9 s p ),rfl⟩
 ·trivial
theorem Bq3:B2 Tryz.prog GX 37 Bc8:=xf [] (Aj5 LF) NK rfl ⟨Bl8,trivial⟩ rfl (by kernel_rfl) follows λargs=>by
 unfold NK;split
 ·rename_i n m;exact ⟨rfl,rfl,rfl,_,_,(Bf3 LF noY () 0 n m).trans (Ak8 n m ),rfl⟩
 ·trivial
theorem IO:B2 Tryz.prog GX 20 Ob:=xf [] (Ki LF) DY rfl ⟨XI,Bq4,Bq3,trivial⟩ rfl (by kernel_rfl) follows λargs=>by
 unfold DY;split
 ·rename_i s p;exact λh0=>λh1=>⟨rfl,rfl,rfl,_,_,(A60 LF noY () 0 s p).trans (Aa1 s p h0 h1),rfl⟩
 ·trivial
theorem VB:B2 Tryz.prog GX 44 EI:=xf [] (PE LF) EJ rfl trivial rfl (by kernel_rfl) follows λargs=>by
 unfold EJ;split
 ·rename_i n m;exact ⟨rfl,rfl,rfl,_,_,(A85 LF noY () 0 n m).trans (Ab9 n m ),rfl⟩
 ·trivial
theorem VA:B2 Tryz.prog GX 15 Oc:=xf [] (PC LF) EC rfl ⟨XH,trivial⟩ rfl (by kernel_rfl) follows λargs=>by
 unfold EC;split
 ·rename_i h b e;exact λh0=>(let ⟨rr,hH,ee,qq⟩:=A70 h b e h0;⟨rfl,rfl,rfl,rr,hH,(A69 LF noY () 0 h b e).trans ee,qq⟩)
 ·trivial
theorem Bl6:B2 Tryz.prog GX 23 Ag7:=xf [] (OX LF) DO rfl ⟨XH,trivial⟩ rfl (by kernel_rfl) follows λargs=>by
 unfold DO;split
 ·rename_i h b;exact λh0=>(let ⟨rr,hH,ee,qq⟩:=A40 h b h0;⟨rfl,rfl,rfl,rr,hH,(A39 LF noY () 0 h b).trans ee,qq⟩)
 ·trivial
theorem Bq5:B2 Tryz.prog GX 70 Bd1:=xf [] (Aj7 LF) NR rfl ⟨IO,trivial⟩ rfl (by kernel_rfl) follows λargs=>by
 unfold NR;split
 ·rename_i h b s;exact λh0=>λh1=>(let ⟨rr,hH,ee,qq⟩:=Bh4 h b s h0 h1;⟨rfl,rfl,rfl,rr,hH,(Bh3 LF noY () 0 h b s).trans ee,qq⟩)
 ·trivial
theorem Bq7:B2 Tryz.prog GX 32 Bd3:=xf [] (Aj9 LF) OC rfl ⟨IO,trivial⟩ rfl (by kernel_rfl) follows λargs=>by
 unfold OC;split
 ·rename_i h b e s;exact λh0=>λh1=>(let ⟨rr,hH,ee,qq⟩:=Bj4 h b e s h0 h1;⟨rfl,rfl,rfl,rr,hH,(Bj3 LF noY () 0 h b e s).trans ee,qq⟩)
 ·trivial
theorem Bl4:B2 Tryz.prog GX 38 Ag6:=xf [] (Kf LF) DM rfl ⟨Bl6,trivial⟩ rfl (by kernel_rfl) follows λargs=>by
 unfold DM;split
 ·rename_i l_z l_t l;exact λh0=>λh1=>λh2=>⟨rfl,rfl,rfl,_,_,(A37 LF noY () 0 l_z l_t l).trans (ZK l_z l_t l h0 h1 h2),rfl⟩
 ·trivial
theorem Av3:B2 Tryz.prog GX 22 DK:=xf [] (OW LF) DL rfl ⟨Bl4,trivial⟩ rfl (by kernel_rfl) follows λargs=>by
 unfold DL;split
 ·rename_i l_z l_t l;exact λh0=>λh1=>λh2=>⟨rfl,rfl,rfl,_,_,(A34 LF noY () 0 l_z l_t l).trans (ZE l_z l_t l h0 h1 h2),rfl⟩
 ·trivial
theorem Av2:B2 Tryz.prog GX 25 DI:=by
 refine B2.fix (pf:=DJ) _ (N3 (C₀:=OU LF) (I3.ok (l:=[]) rfl trivial) (D9 rfl (by kernel_rfl)) follows ?_)
 intro args ret Hc h
 unfold DJ at h
 split at h
 ·rename_i l_z l_t l
  obtain ⟨h0,h⟩:=A9 h
  obtain ⟨h1,h⟩:=A9 h
  obtain ⟨rfl,rfl⟩:=F5 h
  have e:=(A31 LF noY () 0 l_z l_t l).trans (YW l_z l_t l h0 h1)
  exact ⟨rfl,1,_,[],e,rfl,rfl⟩
 ·cases h
theorem Av9:B2 Tryz.prog GX 21 EQ:=by
 refine B2.fix (pf:=ER) _ (N3 (C₀:=PI LF) (I3.ok (l:=[]) rfl trivial) (D9 rfl (by kernel_rfl)) follows ?_)
 intro args ret Hc h
 unfold ER at h
 split at h
 ·rename_i l_z l_t l
  obtain ⟨h0,h⟩:=A9 h
  obtain ⟨h1,h⟩:=A9 h
  obtain ⟨rfl,rfl⟩:=F5 h
  have e:=(A96 LF noY () 0 l_z l_t l).trans (Ad5 l_z l_t l h0 h1)
  exact ⟨rfl,1,_,[],e,rfl,rfl⟩
 ·cases h
theorem Av1:B2 Tryz.prog GX 69 NQ:=xf [0,0] (Ke LF) DH rfl ⟨Bq5,trivial⟩ rfl (by kernel_rfl) follows λargs=>by
 unfold DH;split
 ·rename_i l_z l_t l q;exact λh0=>λh1=>λh2=>λh3=>⟨rfl,rfl,rfl,_,_,(A29 LF noY () 0 l_z l_t l q).trans (YV l_z l_t l q h0 h1 h2 h3),rfl⟩
 ·trivial
theorem Av8:B2 Tryz.prog GX 31 OA:=xf [0,0] (Kj LF) EO rfl ⟨Bq7,trivial⟩ rfl (by kernel_rfl) follows λargs=>by
 unfold EO;split
 ·rename_i l_z l_t l q;exact λh0=>λh1=>λh2=>λh3=>⟨rfl,rfl,rfl,_,_,(A93 LF noY () 0 l_z l_t l q).trans (Ad3 l_z l_t l q h0 h1 h2 h3),rfl⟩
 ·trivial
end
end
section
open Go
theorem Qw {x:List By} (h:x≠[]):Ph [] x = -1/\Ph x []=1:=by
 cases x with
 | nil=>exact absurd rfl h
 | cons a r=>exact ⟨rfl,rfl⟩
theorem Mh (s:By):(E5 46 s = -1/\s.drop (E5 46 s+1).toNat=s/\rl s=[s])\/(0<=E5 46 s/\E5 46 s<s.length/\rl s=s.drop (E5 46 s+1).toNat::rl (s.take (E5 46 s).toNat)):=by
 rcases X8 s with ⟨h1,h2⟩ | ⟨p,q,rfl,h1,h2⟩
 ·exact .inl ⟨h2,by rw [h2];rfl,Xj h1⟩
 ·refine .inr ⟨by omega,by rw [h2];simp;omega,?_⟩
  rw [h2,Xk p h1,show ((p.length:Int)+1).toNat=p.length+1 by omega,Int.toNat_natCast,List.take_left]
  congr 1
  simp
theorem Al9 (a b:By) (i k:Int) (hi:i=E5 46 a) (hk:k=E5 46 b) :
  (R0 (a.drop (i+1).toNat) (b.drop (k+1).toNat)≠0->J2 a b=R0 (a.drop (i+1).toNat) (b.drop (k+1).toNat))/\
  (R0 (a.drop (i+1).toNat) (b.drop (k+1).toNat)=0->(i<0\/k<0)->J2 a b=FX (min i 0) (min k 0))/\
  (R0 (a.drop (i+1).toNat) (b.drop (k+1).toNat)=0->0<=i->0<=k->J2 a b=J2 (a.take i.toNat) (b.take k.toNat)):=by
 have hcmp:∀ x y:By,J2 x y=Ph (rl x) (rl y):=λx y=>rfl
 rw [hcmp,hcmp]
 rcases Mh a with ⟨a1,a2,a3⟩ | ⟨a1,a2,a3⟩<;>rcases Mh b with ⟨b1,b2,b3⟩ | ⟨b1,b2,b3⟩<;>rw [<-hi] at a1 a2<;>rw [<-hk] at b1 b2
 ·rw [a2,b2,a3,b3]
  refine ⟨λh=>K2 h,λh _=>?_,λ_ h=>by omega⟩
  rw [T2 h,J9,a1,b1]
  rfl
 ·rw [<-hk] at b3
  rw [a2,a3,b3]
  refine ⟨λh=>K2 h,λh _=>?_,λ_ h=>by omega⟩
  rw [T2 h,J9,(Qw (WW _)).1,a1,Int.min_eq_right b1]
  rfl
 ·rw [<-hi] at a3
  rw [b2,b3,a3]
  refine ⟨λh=>K2 h,λh _=>?_,λ_ _ h=>by omega⟩
  rw [T2 h,J9,(Qw (WW _)).2,b1,Int.min_eq_right a1]
  rfl
 ·rw [<-hi] at a3
  rw [<-hk] at b3
  rw [a3,b3]
  refine ⟨λh=>K2 h,λh hn=>by omega,λh _ _=>?_⟩
  rw [T2 h,J9]
end
section
open Go Go.Proofs Go.RowKit
set_option maxRecDepth 100000
theorem Bj9 (x:ByteArray) (w:World):Calls Tryz.prog 50 #[.string x] w λe w'=>e = .returned (.bool false)/\w'=w:=by
 go_enter Tryz.func50,Tryz.ntmps50
 go_wp2
 go_ret
 exact ⟨by simp,rfl⟩
theorem Bj8 (x:Int) (w:World):Calls Tryz.prog 51 #[.int .i64 x] w λe w'=>e = .returned (.bool false)/\w'=w:=by
 go_enter Tryz.func51,Tryz.ntmps51
 go_wp2
 go_ret
 exact ⟨by simp,rfl⟩
theorem A00 (x y:Int):FX x y=if x<y then -1 else if y<x then 1 else 0:=by
 unfold FX
 rw [Q7,Q7]
 by_cases h:x<y<;>by_cases g:y<x<;>simp [h,g]
theorem Bp9 (x y:Int) (w:World):Calls Tryz.prog 37 #[.int .i64 x,.int .i64 y] w λe w'=>e = .returned (.int .i64 (FX x y))/\w'=w:=by
 have e7:∀ args w,(callFunc 51 args).run Tryz.prog w = .ok (.enter 51 args) w:=enters_of Tryz.func51 (by kernel_rfl) rfl
 go_enter Tryz.func37,Tryz.ntmps37
 go_wp2_with (go_at_fn 51;refine (Bj8 _ _).mono ?_;rintro e w' ⟨rfl,hw⟩;rw [hw])
 all_goals (go_ret;refine ⟨?_,rfl⟩;rw [A00];(repeat' split)<;>first | rfl | (exfalso;omega))
theorem Az9 (x y:ByteArray):R0 x.data.toList y.data.toList=if Op.bytesLess x.toList y.toList=true then -1 else if (!x.toList==y.toList)=true then 1 else 0:=by
 rw [ByteArray.toList_eq,ByteArray.toList_eq,<-Lf]
 generalize x.data.toList=a
 generalize y.data.toList=b
 unfold R0
 cases h:bytesLess a b with
 | true=>rfl
 | false=>
  have e:(!a==b)=bytesLess b a:=by
   rw [P8] at h ⊢
   have h:=of_decide_eq_false h
   by_cases hab:a=b
   ·subst hab;simp
   ·have:b<a:=by
     apply Decidable.byContradiction
     intro g
     exact hab (List.le_antisymm (List.not_lt.1 g) (List.not_lt.1 h))
    simp [hab,this]
  rw [e]
  cases bytesLess b a<;>rfl
theorem Bq0 (x y:ByteArray) (w:World):Calls Tryz.prog 36 #[.string x,.string y] w λe w'=>e = .returned (.int .i64 (R0 x.data.toList y.data.toList))/\w'=w:=by
 have e7:∀ args w,(callFunc 50 args).run Tryz.prog w = .ok (.enter 50 args) w:=enters_of Tryz.func50 (by kernel_rfl) rfl
 go_enter Tryz.func36,Tryz.ntmps36
 go_wp2_with (go_at_fn 50;refine (Bj9 _ _).mono ?_;rintro e w' ⟨rfl,hw⟩;rw [hw])
 all_goals (go_ret;refine ⟨?_,rfl⟩;rw [Az9];(try simp [*]))
theorem Ao6 (s:ByteArray):Lib.lastIndexByte s 46=E5 46 s.data.toList:=by
 have hsz:s.size=s.data.toList.length:=by rw [Array.length_toList];rfl
 have hb:∀ j (hj:j<s.data.toList.length),((s.data[j]!).toNat:Int)=46↔s.data.toList[j]=46:=λj hj=>by
  have hj':j<s.data.size:=by simpa using hj
  rw [getElem!_pos s.data j hj',Array.getElem_toList]
  constructor
  ·intro h
   exact UInt8.toNat_inj.1 (show s.data[j].toNat=46 by omega)
  ·intro h
   rw [h]
   rfl
 rcases Lib.lastIndexByte_spec s 46 with ⟨e,hn⟩ | ⟨i,hi,e,hc,hn⟩
 ·rw [e]
  rcases X8 s.data.toList with ⟨_,h2⟩ | ⟨p,q,h1,h2,h3⟩
  ·exact h2.symm
  ·have hp:p.length<s.data.toList.length:=by rw [h1];simp
   exact absurd ((hb p.length hp).2 (by simp [h1])) (hn p.length (by omega))
 ·rw [e]
  have hi':i<s.data.toList.length:=by omega
  have hci:=(hb i hi').1 hc
  rcases X8 s.data.toList with ⟨h1,_⟩ | ⟨p,q,h1,h2,h3⟩
  ·exact absurd (hci ▸ List.getElem_mem hi') h1
  ·rw [h3]
   have hp:p.length<s.data.toList.length:=by rw [h1];simp
   have hcp:=(hb p.length hp).2 (by simp [h1])
   by_cases h4:i<p.length
   ·exact absurd hcp (hn p.length h4 (by omega))
   ·by_cases h5:p.length<i
    ·refine absurd ?_ h2
     have:s.data.toList[i]? = some 46:=by rw [List.getElem?_eq_getElem hi',hci]
     rw [h1,List.getElem?_append_right (by omega),show i-p.length=(i-p.length-1)+1 by omega,List.getElem?_cons_succ] at this
     exact List.mem_of_getElem? this
    ·omega
theorem Au2 (s:ByteArray) (hs:s.size<4611686018427387904) (w:World):Calls Tryz.prog 35 #[.string s,.int .u8 46] w λe w'=>e = .returned (.int .i64 (E5 46 s.data.toList))/\w'=w:=by
 rw [<-Ao6]
 exact Any.strings_LastIndexByte Tryz.lays149 s 46 hs w
theorem MV (s:ByteArray) (l:Int) (h0:0<=l) (h1:l<=s.size) (w:World):(Instr.sliceAt 9 (.string s) (some (.int .i64 l)) none none).run Tryz.prog w = .ok (.string (s.extract l.toNat s.size)) w:=by
 simp [Instr.sliceAt,Instr.slice,run_underlying Tryz.underlying9,Instr.sliceBounds,run_sliceBound,Result.andThen,h0,h1]
theorem As5 (s:ByteArray) (l:Int) (h0:0<=l) (h1:l<=s.size) (w:World):(Instr.sliceAt 9 (.string s) none (some (.int .i64 l)) none).run Tryz.prog w = .ok (.string (s.extract 0 l.toNat)) w:=by
 simp [Instr.sliceAt,Instr.slice,run_underlying Tryz.underlying9,Instr.sliceBounds,run_sliceBound,Result.andThen,h0,h1]
theorem KG (s:ByteArray) (n:Nat):(s.extract n s.size).data.toList=s.data.toList.drop n:=by
 rw [ByteArray.data_extract,Array.toList_extract]
 simp only [List.extract]
 exact List.take_of_length_le (by rw [List.length_drop,Array.length_toList];exact Nat.le_refl _)
theorem An4 (s:ByteArray) (n:Nat):(s.extract 0 n).data.toList=s.data.toList.take n:=by
 rw [ByteArray.data_extract,Array.toList_extract]
 simp [List.extract]
set_option maxHeartbeats 4000000 in theorem Bk1 (a b:ByteArray) (ha:a.size<=1000000000) (hb:b.size<=1000000000) (w:World):Calls Tryz.prog 20 #[.string a,.string b] w λe w'=>e = .returned (.int .i64 (J2 a.data.toList b.data.toList))/\∃ q,w'=w.drewN q:=by
 have eL:∀ args w,(callFunc 35 args).run Tryz.prog w = .ok (.enter 35 args) w:=enters_of Tryz.func35 (by kernel_rfl) rfl
 have eS:∀ args w,(callFunc 36 args).run Tryz.prog w = .ok (.enter 36 args) w:=enters_of Tryz.func36 (by kernel_rfl) rfl
 have eI:∀ args w,(callFunc 37 args).run Tryz.prog w = .ok (.enter 37 args) w:=enters_of Tryz.func37 (by kernel_rfl) rfl
 go_enter Tryz.func20,Tryz.ntmps20
 go_wp2
 go_step3
 go_wp2
 try go_step3
 try go_wp2
 go_loopw [0,1] (λva vb wr=>∃ (x y:ByteArray) (n:Nat),va = .string x/\vb = .string y/\x.size<=1000000000/\y.size<=1000000000/\wr=w.drewN n/\Hid (J2 a.data.toList b.data.toList=J2 x.data.toList y.data.toList)) (λva _ _=>match va with | .string x=>x.size | _=>0)
 case atStart=>exact ⟨a,b,0,rfl,rfl,ha,hb,rfl,rfl⟩
 case round=>
  obtain ⟨x,y,n,rfl,rfl,hx,hy,hwr,hh⟩:=hrel
  obtain ⟨i,hi⟩:∃ i,i=E5 46 x.data.toList:=⟨_,rfl⟩
  obtain ⟨k,hk⟩:∃ k,k=E5 46 y.data.toList:=⟨_,rfl⟩
  have hxl:x.data.toList.length=x.size:=by rw [Array.length_toList];rfl
  have hyl:y.data.toList.length=y.size:=by rw [Array.length_toList];rfl
  have hi1:-1<=i/\i<x.size:=by rcases Mh x.data.toList with ⟨h,_⟩ | ⟨h,h',_⟩<;>omega
  have hk1:-1<=k/\k<y.size:=by rcases Mh y.data.toList with ⟨h,_⟩ | ⟨h,h',_⟩<;>omega
  obtain ⟨hi1,hi2⟩:=hi1
  obtain ⟨hk1,hk2⟩:=hk1
  have wx:∀ w,Calls Tryz.prog 35 #[.string x,.int .u8 46] w λe w'=>e = .returned (.int .i64 i)/\w'=w:=by rw [hi];exact Au2 x (by omega)
  have wy:∀ w,Calls Tryz.prog 35 #[.string y,.int .u8 46] w λe w'=>e = .returned (.int .i64 k)/\w'=w:=by rw [hk];exact Au2 y (by omega)
  have HI:Hid (i=E5 46 x.data.toList):=hi
  have HK:Hid (k=E5 46 y.data.toList):=hk
  have HW:Hid (wr=w.drewN n):=hwr
  clear hi hk hxl hyl hwr
  go_wp2_with (go_at_fn 35;refine (wx _).mono ?_;rintro e w' ⟨rfl,hw⟩;rw [hw])
  clear wx
  go_wp2_with (go_at_fn 35;refine (wy _).mono ?_;rintro e w' ⟨rfl,hw⟩;rw [hw])
  clear wy
  have ei:IntKind.i64.wrap (i+1)=i+1:=by simp [IntKind.wrap,IntKind.bits,IntKind.signed];omega
  have ek:IntKind.i64.wrap (k+1)=k+1:=by simp [IntKind.wrap,IntKind.bits,IntKind.signed];omega
  have s1:=MV x (i+1) (by omega) (by omega)
  have s2:=MV y (k+1) (by omega) (by omega)
  go_quiet (first | (go_at_call 36;exact Calls.quiet_of_same (Bq0 _ _ _)))
  rw [KG,KG]
  obtain ⟨c,hc⟩:∃ c,c=R0 (x.data.toList.drop (i+1).toNat) (y.data.toList.drop (k+1).toNat):=⟨_,rfl⟩
  rw [<-hc]
  have HC:Hid (c=R0 (x.data.toList.drop (i+1).toNat) (y.data.toList.drop (k+1).toNat)):=hc
  clear hc s1 s2 ei ek eS
  obtain ⟨w2,hw2⟩:∃ w2,w2=wr.drewN nq:=⟨_,rfl⟩
  rw [<-hw2]
  have HW2:Hid (w2=w.drewN (n+nq)):=by rw [hw2,HW.out,World.drewN_drewN];rfl
  clear hw2
  generalize n+nq=n2 at HW2
  have FIN:Hid (∀ v,v=J2 x.data.toList y.data.toList->(Ending.returned (.int .i64 v)=Ending.returned (.int .i64 (J2 a.data.toList b.data.toList))/\∃ m,w2=w.drewN m)):=λv hv=>⟨by rw [hh.out,hv],n2,HW2.out⟩
  have st:=Al9 x.data.toList y.data.toList i k HI.out HK.out
  rw [<-HC.out] at st
  have ST:Hid (_/\_/\_):=st
  clear st
  go_wp2_with (go_at_fn 37;refine (Bp9 _ _ _).mono ?_;rintro e w' ⟨rfl,hw⟩;rw [hw])
  ·have hc0:c≠0:=by simpa using ‹(c != 0)=true›
   simp only [Exit.noGoto_ret]
   go_ret
   exact FIN.out _ (ST.out.1 hc0).symm
  ·have hc0:c=0:=by simpa using ‹(c != 0)=false›
   simp only [Exit.noGoto_ret]
   go_ret
   exact FIN.out _ (ST.out.2.1 hc0 (by omega)).symm
  ·have hc0:c=0:=by simpa using ‹(c != 0)=false›
   have s3:=As5 x i (by omega) (by omega)
   have s4:=As5 y k (by omega) (by omega)
   have E:=ST.out.2.2 hc0 (by omega) (by omega)
   have HE:Hid (J2 x.data.toList y.data.toList=J2 (x.data.toList.take i.toNat) (y.data.toList.take k.toNat)):=E
   clear E
   go_quiet (fail)
   go_wp2
   go_roundw
   case rel=>exact ⟨x.extract 0 i.toNat,y.extract 0 k.toNat,n2+nq,rfl,rfl,by simp [ByteArray.size_extract];omega,by simp [ByteArray.size_extract];omega,by rw [HW2.out,World.drewN_drewN],by rw [hh.out,HE.out,An4,An4];rfl⟩
   case measure=>simp [ByteArray.size_extract];omega
  ·have hc0:c=0:=by simpa using ‹(c != 0)=false›
   simp only [Exit.noGoto_ret]
   go_ret
   exact FIN.out _ (ST.out.2.1 hc0 (by omega)).symm
theorem Ao1 (w:World) (A B:Obj) (n:Nat):((w.alloc A).alloc B).drewN n=Sort.grow (w.drewN n) #[A,B]:=by
 have h:(w.heap.push A).push B=w.heap++#[A,B]:=by apply Array.toList_inj.1;simp
 show ({ (w.drewN n) with heap:=(w.heap.push A).push B }:World) = { (w.drewN n) with heap:=w.heap++#[A,B] }
 rw [h]
theorem Bk0 (a b:ByteArray) (p q:Bool) (ha:a.size<=1000000000) (hb:b.size<=1000000000) (w:World):Calls Tryz.prog 27 #[.agg #[.string a,.bool p],.agg #[.string b,.bool q]] w λe w'=>e = .returned (.int .i64 (J2 a.data.toList b.data.toList))/\∃ n os,w'=Sort.grow (w.drewN n) os:=by
 have eC:∀ args w,(callFunc 20 args).run Tryz.prog w = .ok (.enter 20 args) w:=enters_of Tryz.func20 (by kernel_rfl) rfl
 go_enter Tryz.func27,Tryz.ntmps27
 go_wp2_with (go_at_fn 20;refine (Bk1 _ _ ha hb _).mono ?_;rintro e w' ⟨rfl,m0,hw⟩;rw [hw])
 go_ret
 refine ⟨rfl,m0,#[.cells #[.string a,.bool p] 50,.cells #[.string b,.bool q] 50],?_⟩
 exact Ao1 _ _ _ _
end
end Go.Proofs.YtbpokbigoebocaaGreatDoor.E
namespace Go.Proofs
open Go.Shelf
def Tryz.sortEnt_ren:Go.Shelf.Ren:=⟨fun | 6=>26 | 15=>43 | 14=>42 | 28=>67 | 29=>68 | 20=>59 | 21=>60 | 22=>61 | 23=>62 | 24=>63 | 25=>64 | 26=>65 | 27=>66 | 46=>81 | 47=>82 | 48=>83 | 49=>84 | 50=>85 | 57=>94 | n=>n,fun | 22=>51 | 24=>50 | 25=>70 | 3=>3 | 39=>89 | 0=>0 | 53=>26 | 55=>110 | 4=>4 | 46=>103 | 45=>102 | 50=>55 | 5=>5 | 9=>9 | 66=>123 | 70=>127 | 76=>137 | 77=>138 | n=>n,fun | n=>n⟩
theorem Tryz.sortEnt:Go.Proofs.SlLaysF0.n6 Tryz.prog Tryz.sortEnt_ren:={
 mixed:=by kernel_rfl
 f6:=⟨Tryz.f26.name,by decide,Tryz.func26.trans (congrArg some (by kernel_rfl))⟩
 f14:=⟨Tryz.f42.name,by decide,Tryz.func42.trans (congrArg some (by kernel_rfl))⟩
 f15:=Tryz.func43.trans (congrArg some (by kernel_rfl))
 f20:=⟨Tryz.f59.name,by decide,Tryz.func59.trans (congrArg some (by kernel_rfl))⟩
 f21:=⟨Tryz.f60.name,by decide,Tryz.func60.trans (congrArg some (by kernel_rfl))⟩
 f22:=⟨Tryz.f61.name,by decide,Tryz.func61.trans (congrArg some (by kernel_rfl))⟩
 f23:=⟨Tryz.f62.name,by decide,Tryz.func62.trans (congrArg some (by kernel_rfl))⟩
 f24:=⟨Tryz.f63.name,by decide,Tryz.func63.trans (congrArg some (by kernel_rfl))⟩
 f25:=⟨Tryz.f64.name,by decide,Tryz.func64.trans (congrArg some (by kernel_rfl))⟩
 f26:=⟨Tryz.f65.name,by decide,Tryz.func65.trans (congrArg some (by kernel_rfl))⟩
 f27:=⟨Tryz.f66.name,by decide,Tryz.func66.trans (congrArg some (by kernel_rfl))⟩
 f28:=Tryz.func67.trans (congrArg some (by kernel_rfl))
 f29:=Tryz.func68.trans (congrArg some (by kernel_rfl))
 f46:=⟨Tryz.f81.name,by decide,Tryz.func81.trans (congrArg some (by kernel_rfl))⟩
 f47:=Tryz.func82.trans (congrArg some (by kernel_rfl))
 f48:=Tryz.func83.trans (congrArg some (by kernel_rfl))
 f49:=⟨Tryz.f84.name,by decide,Tryz.func84.trans (congrArg some (by kernel_rfl))⟩
 f50:=⟨Tryz.f85.name,by decide,Tryz.func85.trans (congrArg some (by kernel_rfl))⟩
 f57:=⟨Tryz.f94.name,by decide,Tryz.func94.trans (congrArg some (by kernel_rfl))⟩
 t0:=Tryz.underlying0
 a0:=Tryz.isAgg0
 z0:=Tryz.sizeOf0
 v0:=Tryz.zeroValue0
 t3:=Tryz.underlying3
 a3:=Tryz.isAgg3
 z3:=Tryz.sizeOf3
 v3:=Tryz.zeroValue3
 t4:=Tryz.underlying4
 a4:=Tryz.isAgg4
 z4:=Tryz.sizeOf4
 v4:=Tryz.zeroValue4
 t5:=Tryz.underlying5
 a5:=Tryz.isAgg5
 z5:=Tryz.sizeOf5
 v5:=Tryz.zeroValue5
 t9:=Tryz.underlying9
 a9:=Tryz.isAgg9
 z9:=Tryz.sizeOf9
 v9:=Tryz.zeroValue9
 t22:=Tryz.underlying51
 a22:=Tryz.isAgg51
 z22:=Tryz.sizeOf51
 v22:=Tryz.zeroValue51
 t25:=Tryz.underlying70
 a25:=Tryz.isAgg70
 z25:=Tryz.sizeOf70
 v25:=Tryz.zeroValue70
 t39:=Tryz.underlying89
 a39:=Tryz.isAgg89
 z39:=Tryz.sizeOf89
 v39:=Tryz.zeroValue89
 t45:=Tryz.underlying102
 a45:=Tryz.isAgg102
 z45:=Tryz.sizeOf102
 v45:=Tryz.zeroValue102
 t46:=Tryz.underlying103
 a46:=Tryz.isAgg103
 z46:=Tryz.sizeOf103
 v46:=Tryz.zeroValue103
 t50:=Tryz.underlying55
 a50:=Tryz.isAgg55
 z50:=Tryz.sizeOf55
 v50:=Tryz.zeroValue55
 t53:=Tryz.underlying26
 a53:=Tryz.isAgg26
 z53:=Tryz.sizeOf26
 v53:=Tryz.zeroValue26
 t55:=Tryz.underlying110
 a55:=Tryz.isAgg110
 z55:=Tryz.sizeOf110
 v55:=Tryz.zeroValue110
 t66:=Tryz.underlying123
 a66:=Tryz.isAgg123
 z66:=Tryz.sizeOf123
 v66:=Tryz.zeroValue123
 t70:=Tryz.underlying127
 a70:=Tryz.isAgg127
 z70:=Tryz.sizeOf127
 v70:=Tryz.zeroValue127
 t76:=Tryz.underlying137
 a76:=Tryz.isAgg137
 z76:=Tryz.sizeOf137
 v76:=Tryz.zeroValue137
 t77:=Tryz.underlying138
 a77:=Tryz.isAgg138
 z77:=Tryz.sizeOf138
 v77:=Tryz.zeroValue138 }
end Go.Proofs
namespace Go.Proofs.YtbpokbigoebocaaGreatDoor.E
set_option linter.all false
section
open Go Go.Proofs Go.RowKit Go.Sort
set_option maxRecDepth 100000
abbrev cfE:Jq->Jq->Int:=λx y=>J2 x.1.1 y.1.1
def Lx (e:Jq):List Value:=[.string ⟨e.1.1.toArray⟩,.bool e.1.2]
theorem Al8 (blk off size:Nat) (w:World):CmpLays Tryz.prog 27 #[] Lx 2 cfE blk off size w:=by
 intro m os dk hs x y
 have h:=Bk0 ⟨x.1.1.toArray⟩ ⟨y.1.1.toArray⟩ x.1.2 y.1.2 (by have:=x.2;simpa [ByteArray.size] using this) (by have:=y.2;simpa [ByteArray.size] using this) (sortWorldK Lx 2 w blk off m dk os)
 exact h
theorem Ar3 {w:World} {blk e:Nat} {cur:Array Value} {fr:Nat × Nat} (h:w.heap[blk]? = some (.cells cur e fr)) (d:Array Jq) :
  (putRowK Lx 2 w blk 0 d).heap[blk]? = some (.cells (putCells id 0 (flatK Lx 2 d) cur) e fr)/\(∀ k,k≠blk->(putRowK Lx 2 w blk 0 d).heap[k]? = w.heap[k]?):=by
 unfold putRowK putRow mapBlock
 constructor
 ·simp only [Array.getElem?_modify,if_true,h,Option.map_some,onCells]
 ·intro k hk
  simp only [Array.getElem?_modify]
  rw [if_neg (λe=>hk e.symm)]
theorem A75 {cur:Array Value} {d:Array Jq} {i j:Nat} (hi:i<d.size) (hj:j<2) (hs:d.size*2<=cur.size):(putCells id 0 (flatK Lx 2 d) cur)[i*2+j]? = some ((Lx d[i]!)[j]!):=by
 have hlt:i*2+j<d.size*2:=by omega
 have hc:i*2+j<cur.size:=by omega
 unfold putCells
 rw [Array.getElem?_mapIdx,Array.getElem?_eq_getElem hc]
 simp only [Option.map_some,size_flatK,Nat.zero_le,true_and,Nat.zero_add,hlt,if_true,Nat.sub_zero,id]
 rw [get_flatK _ _ _ _ hlt,show (i*2+j) / 2=i by omega,show (i*2+j) % 2=j by omega]
theorem XK:IZ Tryz.prog 26 Ny:=by
 intro St w x X els hx h
 generalize hp:Ny x els=pr at h ⊢
 obtain ⟨b,L⟩:=pr
 dsimp only at h ⊢
 unfold Ny at hp
 split at hp
 case h_2=>
  obtain ⟨rfl,_⟩:=Prod.mk.inj hp
  cases h
 have eX:X = .func (.func 27) #[] #[]:=by
  cases hx with
  | fn _ _ _ A B As Bs _ hA hB _ _ _ _=>
   have:A = #[]:=by simpa using hA
   have:B = #[]:=by simpa using hB
   simp_all
 subst eX
 obtain ⟨hb,hL⟩:=Prod.mk.inj hp
 rw [<-hb] at h
 simp only [Bool.and_eq_true] at h
 obtain ⟨h0,h1,h2⟩:=h
 have none':∀ (p:Option Addr) cap,I2 Tryz.prog ((callFunc 26 #[.slice p 0 cap,.func (.func 27) #[] #[]]).run Tryz.prog w) λV w'=>V=undef/\w'=w:=λp cap=>
  R2 (fn:=Tryz.f26) (by kernel_rfl) (by kernel_rfl) (by kernel_rfl) ((AnyF.slices_SortFunc_none Tryz.sortEnt p cap _ w).mono λe w' ⟨he,hw⟩=>⟨_,he,rfl,hw⟩)
 obtain ⟨E,rfl⟩:∃ E,els=G3 E:=⟨_,Ly h0⟩
 rw [Th] at hL
 subst hL
 have hsm:=As0 h1
 have hlen:=(Cn hsm).length_eq
 refine ⟨λhn=>?_,?_⟩
 ·have hE:E=[]:=by
   cases E with
   | nil=>rfl
   | cons a r=>cases hn
  subst hE
  refine (none' none 0).mono λV w' ⟨hv,hw⟩=>⟨hv,?_,hw ▸ E8.refl _⟩
  have:P4 []=[]:=List.length_eq_zero_iff.1 hlen
  rw [this];rfl
 intro g0 cur e sz cap hg hcs hle hcap hst hlt hsz hcells
 by_cases hn:E=[]
 ·subst hn
  have hs0:P4 []=[]:=List.length_eq_zero_iff.1 hlen
  refine (none' _ cap).mono λV w' ⟨hv,hw⟩=>?_
  rw [hw]
  rw [hs0]
  exact ⟨hv,rfl,w,cur,hg,rfl,λ_ _=>rfl,rfl,rfl,rfl,rfl,λi h=>absurd h (Nat.not_lt_zero _),λi h=>absurd h (Nat.not_lt_zero _),E8.refl _⟩
 have hE:0<E.length:=List.length_pos_iff.2 hn
 have hel:∀ i (h:i<(G3 E).length),(G3 E)[i]=Sl (E[i]'(by simpa using h)):=λi h=>by simp [G3]
 have hs2:sz=2:=by
  have:=hsz 0 (by simpa using hE)
  rw [<-this,hel];rfl
 subst hs2
 obtain ⟨d,hd⟩:∃ d,(E.map mkS).toArray=d:=⟨_,rfl⟩
 have dsz:d.size=E.length:=by rw [<-hd];simp
 have dval:∀ i (hi:i<E.length),(d[i]!).1=E[i]:=λi hi=>by
  subst hd
  rw [getElem!_pos _ _ (by simpa using hi)]
  simp only [List.getElem_toArray,List.getElem_map]
  exact WO (hsm _ (List.getElem_mem hi))
 have hcell:∀ t,t<d.size*2->cur[t]? = some ((Lx d[t / 2]!)[t % 2]!):=λt ht=>by
  have hi:t / 2<E.length:=by omega
  have hi':t / 2<(G3 E).length:=by simpa using hi
  have hl:((G3 E)[t / 2]).length=2:=by rw [hel];rfl
  obtain ⟨V,hV,hs⟩:=hcells (t / 2) hi' (t % 2) (by rw [hl];omega)
  rw [show t / 2*2+t % 2=t by omega] at hV
  have hx:((G3 E)[t / 2][t % 2]'(by rw [hl];omega))=(Sl E[t / 2])[t % 2]'(by show t % 2<2;omega):=by simp only [hel]
  rw [hx] at hs
  rw [hV]
  have dv:=dval _ hi
  rcases (show t % 2=0\/t % 2=1 by omega) with h | h
  ·have hs:VS St w (.str (E[t / 2]).1) V:=by simpa [h,Sl] using hs
   obtain ⟨s,hV2,hs2⟩:=hs.inv_str
   rw [hV2,h]
   show _=some (Value.string ⟨(d[t / 2]!).1.1.toArray⟩)
   rw [dv,<-hs2]
  ·have hs:VS St w (.bool (E[t / 2]).2) V:=by simpa [h,Sl] using hs
   rw [hs.inv_bool,h]
   show _=some (Value.bool (d[t / 2]!).1.2)
   rw [dv]
 have hH:HoldsK Lx 2 w g0 0 d:=λj hj=>by
  have hj':j<d.size*2:=by simpa using hj
  constructor
  ·simp only [World.cell?,hg,Nat.zero_add]
   rw [get_flatK _ _ _ _ hj']
   exact hcell j hj'
  ·simp [World.frozen?,hg]
 have hblk:g0<w.heap.size:=(Array.getElem?_eq_some_iff.1 hg).1
 have eg:∀ args w,(callFunc 27 args).run Tryz.prog w = .ok (.enter 27 args) w:=enters_of Tryz.func27 (by kernel_rfl) rfl
 have hm:cap<=9223372036854775807:=hcap
 have h2:(A2 (G3 E).length)=true:=h2
 have hb:d.size<4611686018427387904:=by
  have:=U0 h2
  rw [F0] at this
  omega
 have hh:=AnyQ.slices_SortFunc_eq Tryz.sortEnt 2 (λw=>by kernel_rfl) (λw=>by kernel_rfl) Lx (λ_=>rfl) (λx v hv=>by simp [Lx] at hv;rcases hv with rfl | rfl<;>rfl) cfE (MW λx:Jq=>x.1.1) 27 #[] g0 0 cap d w eg (Al8 g0 0 d.size w) hH hblk hb
 have hsrt:=Xs d
 have hS:P4 E=(Eg d).toList.map (·.1):=by unfold P4;rw [hd]
 have ssz:(Eg d).size=d.size:=hsrt.2.1
 rw [show (G3 E).length=d.size by rw [F0,dsz]]
 refine R2 (fn:=Tryz.f26) (by kernel_rfl) (by kernel_rfl) (by kernel_rfl) (hh.mono λe' w' ⟨he,n,os,hw⟩=>⟨_,he,rfl,by rw [F0,hlen,dsz],?_⟩)
 have hcur:cur.size=cap*2:=hcs
 have hcap2:d.size*2<=cur.size:=by
  have:(G3 E).length<=cap:=hle
  rw [F0] at this
  omega
 obtain ⟨p1,p2⟩:=Ar3 hg (Eg d)
 have hel2:∀ i (h:i<(G3 (P4 E)).length),(G3 (P4 E))[i]=Sl ((Eg d)[i]!).1:=λi h=>by
  have hi:i<(Eg d).size:=by rw [F0,hlen] at h;omega
  rw [getElem!_pos (Eg d) i hi]
  simp [G3,hS]
 refine ⟨putRowK Lx 2 w g0 0 (Eg d),putCells id 0 (flatK Lx 2 (Eg d)) cur,p1,by simp [putCells],p2,by simp [putRowK,putRow,mapBlock],rfl,rfl,rfl,λi h=>by rw [hel2];rfl,λi h j h'=>?_,?_⟩
 ·have hl:((G3 (P4 E))[i]).length=2:=by rw [hel2];rfl
  have hj:j<2:=by rw [<-hl];exact h'
  have hi:i<(Eg d).size:=by rw [F0,hlen] at h;omega
  refine ⟨_,A75 hi hj (by omega),?_⟩
  have hx:(G3 (P4 E))[i][j]=(Sl ((Eg d)[i]!).1)[j]'(by show j<2;exact hj):=by simp only [hel2]
  rw [hx]
  rcases (show j=0\/j=1 by omega) with rfl | rfl
  ·have:=VS.str (St:=St) (w:=putRowK Lx 2 w g0 0 (Eg d)) ⟨((Eg d)[i]!).1.1.toArray⟩
   exact this
  ·exact VS.bool _
 ·rw [hw]
  refine ⟨⟨λg hgl=>heap_grow_old _ _ hgl,by simp only [sortWorldK,grow,Array.size_append];exact Nat.le_add_right _ _⟩,rfl,rfl,rfl⟩
end
section
open Go Go.Proofs
set_option maxRecDepth 100000
section
variable {σ R : Type} (lf : Nat) (cl : D0) (yh : Yh σ) (s : σ) (k : Out -> St σ -> Option R)
noncomputable abbrev JJ:Code:=E6 Tryz.f5
noncomputable def Bu (lf:Nat):Cfg:=C0 lf [5] (A3 [(2,[0,0,2,0])]) [] (A3 [(6,[4]),(3,[0,0,3]),(5,[4]),(4,[0,0,3,12]),(2,[0,0,3,3]),(1,[0,0,3]),(0,[0,0])]) [] (A3 [(0,[]),(1,[0,0,3])]) (some [4]) [] [] []
noncomputable def X7 {R:Type} (lf n:Nat) (n0:Int) (l_z1 l_t2:Bool) (l3:LL) (i4:Int) (k0:Unit->Option R) (k1:Unit->Option R):Option R:=match n with | 0=>none | n+1=>cond (ltI i4 (l3.length:Int)) (cond (inR i4 l3.length) (cond (okE Qm l3 (Int.toNat i4) 0) (cond (ltI n0 (↑(List.length (gX l3 (Int.toNat i4) 0)):Int)) (k0 ()) (X7 lf n n0 l_z1 l_t2 l3 (A5 (i4+1)) k0 k1)) none) none) (k1 ())
theorem GO (n n0 l_z1 l_t2 l3 i4):H4 0 ((Bu lf).keep 2) (bd (Bu lf) cl yh (cd [1,0,1,0,0] JJ)) n ⟨gp [(0,pI n0),(0,.s (.sl l_z1 l_t2 1 l3)),(3,pI i4)] 13,[],s⟩ k =
 X7 lf n n0 l_z1 l_t2 l3 i4 (λ_=>k .ret ⟨gp [(4,pB false)] 14,[],s⟩) (λ_=>k (.exit 0) ⟨gp [] 19,[],s⟩):=by
 induction n generalizing n0 l_z1 l_t2 l3 i4 with
 | zero=>rfl
 | succ n ih=>rw [X7];simp only [<-ih];kernel_rfl
noncomputable def GN {R:Type} (lf:Nat) (n0:Int) (l_z1 l_t2:Bool) (l3:LL) (k0:Bool->Option R):Option R:=X7 lf lf n0 l_z1 l_t2 l3 0 (λ_=>k0 false) (λ_=>k0 true)
theorem YS (d:Nat) (n0 l_z1 l_t2 l3):evC (Bu lf) (d+1) σ yh 5 [pI n0,.s (.sl l_z1 l_t2 1 l3)] [] s=GN lf n0 l_z1 l_t2 l3 (λr0=>some (pB r0,[],s)):=by
 refine (evE (fn:=Tryz.f5) (by kernel_rfl)).trans ?_
 generalize evC (Bu lf) d=cl
 unfold GN;exact (Eq.trans (by kernel_rfl) ((GO lf cl yh s (O4 0 (P3 (Bu lf) cl yh (cd [1,1] JJ) (J6 (Bu lf) Tryz.f5))) lf n0 l_z1 l_t2 l3 0).trans (by kernel_rfl)))
end
end
section
open Go Go.Proofs Go.Sort
set_option maxRecDepth 100000
theorem Ns:IT Tryz.prog GX 46 U3:=by
 refine Rz (C₀:=Ie LF) ((I3.ok (l:=[(24,Zk),(47,NY)]) rfl ⟨XH,Bm5,trivial⟩)) (D9 rfl (by kernel_rfl)) follows ?_
 intro args H L h σ yh s s' hr
 unfold U3 at h
 split at h
 ·rename_i t
  simp only [Option.some.injEq,Prod.mk.injEq] at h
  obtain ⟨h1,rfl⟩:=h
  obtain ⟨t',f⟩:=RJ (R:=PV × List Blk × σ) yh t s s' h1 hr
  exact ⟨1,_,(Ao2 LF yh 0 t s).trans (f _)⟩
 ·cases h
theorem Rg {R:Type} (n:Int) (z t:Bool) (l:List By) (k0 k1:Unit->Option R) (hl:l.length<=1000000000):∀ (r:List By) (i m:Nat),l.drop i=r->r.length<m->X7 LF m n z t (J4 l) (i:Int) k0 k1=if Gd n r then k1 () else k0 ()
 | [],i,m,h,hm=>by
  obtain ⟨m,rfl⟩:∃ q,m=q+1:=⟨m-1,by simp at hm;omega⟩
  rw [X7]
  have:l.length<=i:=List.drop_eq_nil_iff.1 h
  rw [L8 (by rw [Fa];omega)]
  rfl
 | x::r,i,m,h,hm=>by
  obtain ⟨m,rfl⟩:∃ q,m=q+1:=⟨m-1,by simp at hm;omega⟩
  rw [X7]
  have hi:i<l.length:=Decidable.byContradiction λhge=>by
   rw [List.drop_eq_nil_iff.2 (by omega)] at h
   cases h
  have hx:l.getD i []=x:=by
   have:=List.drop_eq_getElem_cons hi
   rw [h] at this
   rw [List.getD_eq_getElem?_getD,List.getElem?_eq_getElem hi]
   exact (List.cons.inj this).1.symm
  have hr:l.drop (i+1)=r:=by
   have:=List.drop_eq_getElem_cons hi
   rw [h] at this
   exact (List.cons.inj this).2.symm
  rw [H5 (by rw [Fa];omega),cond_true,Q3 (by omega) (by rw [Fa];omega),cond_true,Int.toNat_natCast,Ww hi,cond_true,GD,hx]
  have e:Gd n (x::r)=(!(ltI n (x.length:Int))&&Gd n r):=rfl
  rw [e]
  by_cases hc:n<(x.length:Int)
  ·rw [H5 hc];rfl
  ·rw [B6,cond_false,B1,Bool.not_false,Bool.true_and]
   exact Rg n z t l k0 k1 hl r (i+1) m hr (by simp at hm;omega)
theorem LJ {R:Type} {k0:Bool->Option R} (n:Int) (z t:Bool) (l:LL) (h0:l.all isS=true) (h1:A2 l.length=true):GN LF n z t l k0=k0 (Gd n (l.map elS)):=by
 have hLF:=K9
 have hl:=U0 h1
 rw [A91 h0] at hl ⊢
 generalize l.map elS=q at hl ⊢
 rw [Fa] at hl
 unfold GN
 rw [show (0:Int)=((0:Nat):Int) from rfl,Rg n z t q _ _ hl q 0 LF rfl (by omega)]
 have:List.map elS (J4 q)=q:=by
  unfold J4
  rw [List.map_map]
  exact List.map_id'' (λ_=>rfl) q
 rw [this]
 cases Gd n q<;>rfl
end
section
open Go Go.Proofs
set_option maxRecDepth 100000
section
theorem Bl5:B2 Tryz.prog GX 12 NS:=by
 refine B2.fix (pf:=DN) _ (Yj [0,0] [2] (C₀:=Kg LF) (Be1 (lx:=[(22,DK),(25,DI)]) (ly:=[]) (ls:=[]) (lz:=[(26,Ny)]) rfl rfl rfl rfl ⟨Av3,Av2,trivial⟩ trivial trivial ⟨XK,trivial⟩) (D9 rfl (by kernel_rfl)) follows ?_)
 intro args ret Hc h
 unfold DN at h
 split at h
 ·rename_i l_z l_t l
  obtain ⟨h0,h⟩:=A9 h
  obtain ⟨h1,h⟩:=A9 h
  obtain ⟨h2,h⟩:=A9 h
  obtain ⟨h3,h⟩:=A9 h
  rcases Hu h with ⟨h4,h⟩ | ⟨h4,h⟩
  ·skip
   obtain ⟨rfl,rfl⟩:=F5 h
   obtain ⟨rr,hH,ee,qq⟩:=WH l_z l_t l h0 h1 h2 h3 h4
   exact ⟨rfl,rfl,rfl,1,rr,hH,(WG LF noY () 0 l_z l_t l).trans ee,qq⟩
  ·skip
   obtain ⟨rfl,rfl⟩:=F5 h
   obtain ⟨rr,hH,ee,qq⟩:=WH l_z l_t l h0 h1 h2 h3 h4
   exact ⟨rfl,rfl,rfl,1,rr,hH,(WG LF noY () 0 l_z l_t l).trans ee,qq⟩
 ·cases h
theorem Bb9:B2 Tryz.prog GX 19 EE:=by
 refine B2.fix (pf:=Uo) _ (N3 (C₀:=FO LF) (I3.ok (l:=[]) rfl trivial) (D9 rfl (by kernel_rfl)) follows ?_)
 intro args ret Hc h
 unfold Uo at h
 split at h
 ·rename_i n
  obtain ⟨h0,h⟩:=A9 h
  obtain ⟨rfl,rfl⟩:=F5 h
  have e:=(Ar2 LF noY () 0 n).trans (TW n h0)
  exact ⟨rfl,1,_,[],e,rfl,rfl⟩
 ·cases h
theorem Bb3:B2 Tryz.prog GX 45 VH:=xf [0,0] (FI LF) Uh rfl ⟨Av1,trivial⟩ rfl (by kernel_rfl) follows λargs=>by
 unfold Uh;split
 ·rename_i lz lt l q;exact λh0=>λh1=>λh2=>λh3=>(let ⟨rr,hH,ee,qq⟩:=Ap2 lz lt l q h0 h1 h2 h3;⟨rfl,rfl,rfl,rr,hH,(Ap1 LF noY () 0 lz lt l q).trans ee,qq⟩)
 ·trivial
theorem Bb4:B2 Tryz.prog GX 45 VI:=xf [0,0] (FJ LF) Ui rfl trivial rfl (by kernel_rfl) follows λargs=>by
 unfold Ui;split
 ·rename_i q;exact (let ⟨rr,hH,ee,qq⟩:=Ap5 q ; ⟨rfl,rfl,rfl,rr,hH,(Ap4 LF noY () 0 q).trans ee,qq⟩)
 ·trivial
theorem IN:B2 Tryz.prog GX 45 Ug:=(Sq Bb3 Bb4)
theorem Bc0:B2 Tryz.prog GX 14 VM:=xf [0,0] (FP LF) Uq rfl ⟨Av8,trivial⟩ rfl (by kernel_rfl) follows λargs=>by
 unfold Uq;split
 ·rename_i tz tt t cp q;exact λh0=>λh1=>λh2=>λh3=>⟨rfl,rfl,rfl,_,_,(As8 LF noY () 0 tz tt t cp q).trans (UR tz tt t cp q h0 h1 h2 h3),rfl⟩
 ·trivial
theorem Bc1:B2 Tryz.prog GX 14 VO:=xf [0,0] (FQ LF) Ur rfl trivial rfl (by kernel_rfl) follows λargs=>by
 unfold Ur;split
 ·rename_i q;exact ⟨rfl,rfl,rfl,_,_,(At0 LF noY () 0 q).trans (US q ),rfl⟩
 ·trivial
theorem VC:B2 Tryz.prog GX 14 Up:=(Sq Bc0 Bc1)
theorem Bc2:B2 Tryz.prog GX 9 VQ:=xf [0,0] (FR LF) Ut rfl ⟨VC,trivial⟩ rfl (by kernel_rfl) follows λargs=>by
 unfold Ut;split
 ·rename_i tz tt t cp q;exact λh0=>λh1=>λh2=>λh3=>(let ⟨rr,hH,ee,qq⟩:=At2 tz tt t cp q h0 h1 h2 h3;⟨rfl,rfl,rfl,rr,hH,(At1 LF noY () 0 tz tt t cp q).trans ee,qq⟩)
 ·trivial
theorem Bc3:B2 Tryz.prog GX 9 VR:=xf [0,0] (FS LF) Uu rfl ⟨VC,trivial⟩ rfl (by kernel_rfl) follows λargs=>by
 unfold Uu;split
 ·rename_i q;exact (let ⟨rr,hH,ee,qq⟩:=At5 q ; ⟨rfl,rfl,rfl,rr,hH,(At4 LF noY () 0 q).trans ee,qq⟩)
 ·trivial
theorem Yg:B2 Tryz.prog GX 9 Jy:=(Sq Bc2 Bc3)
theorem Bk3:B2 Tryz.prog GX 29 Af6:=xf [0,0] (Dx LF) CP rfl ⟨Yg,VB,IN,trivial⟩ rfl (by kernel_rfl) follows λargs=>by
 unfold CP;split
 ·rename_i now tz tt t cp lz lt l u ex;exact λh0=>λh1=>λh2=>λh3=>λh4=>λh5=>λh6=>(let ⟨rr,hH,ee,qq⟩:=Ax7 now tz tt t cp lz lt l u ex h0 h1 h2 h3 h4 h5 h6;⟨rfl,rfl,rfl,rr,hH,(Ax6 LF noY () 0 now tz tt t cp lz lt l u ex).trans ee,qq⟩)
 ·trivial
theorem Bk4:B2 Tryz.prog GX 29 Af7:=xf [0,0] (ON LF) CQ rfl ⟨Yg,IN,trivial⟩ rfl (by kernel_rfl) follows λargs=>by
 unfold CQ;split
 ·rename_i now lz lt l u ex;exact λh0=>λh1=>λh2=>λh3=>(let ⟨rr,hH,ee,qq⟩:=Ay0 now lz lt l u ex h0 h1 h2 h3;⟨rfl,rfl,rfl,rr,hH,(Ax9 LF noY () 0 now lz lt l u ex).trans ee,qq⟩)
 ·trivial
theorem Bk5:B2 Tryz.prog GX 29 Af8:=xf [0,0] (Dy LF) CS rfl ⟨Yg,VB,IN,trivial⟩ rfl (by kernel_rfl) follows λargs=>by
 unfold CS;split
 ·rename_i now tz tt t cp u ex;exact λh0=>λh1=>λh2=>λh3=>(let ⟨rr,hH,ee,qq⟩:=Ay3 now tz tt t cp u ex h0 h1 h2 h3;⟨rfl,rfl,rfl,rr,hH,(Ay2 LF noY () 0 now tz tt t cp u ex).trans ee,qq⟩)
 ·trivial
theorem Bk6:B2 Tryz.prog GX 29 Af9:=xf [0,0] (OO LF) CT rfl ⟨Yg,IN,trivial⟩ rfl (by kernel_rfl) follows λargs=>by
 unfold CT;split
 ·rename_i now u ex;exact λh0=>(let ⟨rr,hH,ee,qq⟩:=Ay6 now u ex h0;⟨rfl,rfl,rfl,rr,hH,(Ay5 LF noY () 0 now u ex).trans ee,qq⟩)
 ·trivial
theorem XF:B2 Tryz.prog GX 29 La:=(Sq Bk3 (Sq Bk4 (Sq Bk5 Bk6)))
theorem Bk7:B2 Tryz.prog GX 13 Ag0:=by
 refine B2.fix (pf:=CU) _ (I7 [] (C₀:=Bn LF) (Y9 (lx:=[(28,Dt),(29,La),(30,Dr)]) (ly:=[]) (ls:=[(46,U3)]) rfl rfl rfl ⟨Yf,XF,Ye,trivial⟩ trivial ⟨Ns,trivial⟩) (D9 rfl (by kernel_rfl)) follows ?_)
 intro args ret Hc h
 unfold CU at h
 split at h
 ·rename_i now tz tt t cp lz lt l kd nm v4 a0 a1 a2 a3 a4 a5 a6 a7
  obtain ⟨h0,h⟩:=A9 h
  obtain ⟨h1,h⟩:=A9 h
  obtain ⟨h2,h⟩:=A9 h
  obtain ⟨h3,h⟩:=A9 h
  obtain ⟨h4,h⟩:=A9 h
  obtain ⟨h5,h⟩:=A9 h
  obtain ⟨h6,h⟩:=A9 h
  obtain ⟨h7,h⟩:=A9 h
  obtain ⟨h8,h⟩:=A9 h
  obtain ⟨rfl,rfl⟩:=F5 h
  obtain ⟨rr,hH,ee,qq⟩:=Ay9 now tz tt t cp lz lt l kd nm v4 a0 a1 a2 a3 a4 a5 a6 a7 h0 h1 h2 h3 h4 h5 h6 h7 h8
  exact ⟨rfl,rfl,rfl,1,rr,hH,(Ay8 LF noY () 0 now tz tt t cp lz lt l kd nm v4 a0 a1 a2 a3 a4 a5 a6 a7).trans ee,qq⟩
 ·cases h
theorem Bk8:B2 Tryz.prog GX 13 Ag1:=by
 refine B2.fix (pf:=CV) _ (I7 [] (C₀:=Bo LF) (Y9 (lx:=[(28,Dt),(29,La),(30,Dr)]) (ly:=[]) (ls:=[(46,U3)]) rfl rfl rfl ⟨Yf,XF,Ye,trivial⟩ trivial ⟨Ns,trivial⟩) (D9 rfl (by kernel_rfl)) follows ?_)
 intro args ret Hc h
 unfold CV at h
 split at h
 ·rename_i now lz lt l kd nm v4 a0 a1 a2 a3 a4 a5 a6 a7
  obtain ⟨h0,h⟩:=A9 h
  obtain ⟨h1,h⟩:=A9 h
  obtain ⟨h2,h⟩:=A9 h
  obtain ⟨h3,h⟩:=A9 h
  obtain ⟨h4,h⟩:=A9 h
  obtain ⟨h5,h⟩:=A9 h
  obtain ⟨rfl,rfl⟩:=F5 h
  obtain ⟨rr,hH,ee,qq⟩:=Az2 now lz lt l kd nm v4 a0 a1 a2 a3 a4 a5 a6 a7 h0 h1 h2 h3 h4 h5
  exact ⟨rfl,rfl,rfl,1,rr,hH,(Az1 LF noY () 0 now lz lt l kd nm v4 a0 a1 a2 a3 a4 a5 a6 a7).trans ee,qq⟩
 ·cases h
theorem Bk9:B2 Tryz.prog GX 13 Ag2:=by
 refine B2.fix (pf:=CW) _ (I7 [] (C₀:=Bp LF) (Y9 (lx:=[(28,Dt),(29,La),(30,Dr)]) (ly:=[]) (ls:=[(46,U3)]) rfl rfl rfl ⟨Yf,XF,Ye,trivial⟩ trivial ⟨Ns,trivial⟩) (D9 rfl (by kernel_rfl)) follows ?_)
 intro args ret Hc h
 unfold CW at h
 split at h
 ·rename_i now tz tt t cp kd nm v4 a0 a1 a2 a3 a4 a5 a6 a7
  obtain ⟨h0,h⟩:=A9 h
  obtain ⟨h1,h⟩:=A9 h
  obtain ⟨h2,h⟩:=A9 h
  obtain ⟨h3,h⟩:=A9 h
  obtain ⟨h4,h⟩:=A9 h
  obtain ⟨h5,h⟩:=A9 h
  obtain ⟨rfl,rfl⟩:=F5 h
  obtain ⟨rr,hH,ee,qq⟩:=Az5 now tz tt t cp kd nm v4 a0 a1 a2 a3 a4 a5 a6 a7 h0 h1 h2 h3 h4 h5
  exact ⟨rfl,rfl,rfl,1,rr,hH,(Az4 LF noY () 0 now tz tt t cp kd nm v4 a0 a1 a2 a3 a4 a5 a6 a7).trans ee,qq⟩
 ·cases h
theorem Bl0:B2 Tryz.prog GX 13 Ag3:=by
 refine B2.fix (pf:=CX) _ (I7 [] (C₀:=Bq LF) (Y9 (lx:=[(28,Dt),(29,La),(30,Dr)]) (ly:=[]) (ls:=[(46,U3)]) rfl rfl rfl ⟨Yf,XF,Ye,trivial⟩ trivial ⟨Ns,trivial⟩) (D9 rfl (by kernel_rfl)) follows ?_)
 intro args ret Hc h
 unfold CX at h
 split at h
 ·rename_i now kd nm v4 a0 a1 a2 a3 a4 a5 a6 a7
  obtain ⟨h0,h⟩:=A9 h
  obtain ⟨h1,h⟩:=A9 h
  obtain ⟨h2,h⟩:=A9 h
  obtain ⟨rfl,rfl⟩:=F5 h
  obtain ⟨rr,hH,ee,qq⟩:=Az8 now kd nm v4 a0 a1 a2 a3 a4 a5 a6 a7 h0 h1 h2
  exact ⟨rfl,rfl,rfl,1,rr,hH,(Az7 LF noY () 0 now kd nm v4 a0 a1 a2 a3 a4 a5 a6 a7).trans ee,qq⟩
 ·cases h
theorem XG:B2 Tryz.prog GX 13 IU:=(Sq Bk7 (Sq Bk8 (Sq Bk9 Bl0)))
theorem Ae5:B2 Tryz.prog GX 8 Zg:=xf [] (Ow LF) Js rfl ⟨XG,trivial⟩ rfl (by kernel_rfl) follows λargs=>by
 unfold Js;split
 ·rename_i now tz tt t cp lz lt l kd nm v4 a0 a1 a2 a3 a4 a5 a6 a7;exact λh0=>λh1=>λh2=>λh3=>λh4=>λh5=>λh6=>λh7=>λh8=>(let ⟨rr,hH,ee,qq⟩:=QC now tz tt t cp lz lt l kd nm v4 a0 a1 a2 a3 a4 a5 a6 a7 h0 h1 h2 h3 h4 h5 h6 h7 h8;⟨rfl,rfl,rfl,rr,hH,(QB LF noY () 0 now tz tt t cp lz lt l kd nm v4 a0 a1 a2 a3 a4 a5 a6 a7).trans ee,qq⟩)
 ·trivial
theorem Ae6:B2 Tryz.prog GX 8 Zh:=xf [] (Ox LF) Jt rfl ⟨XG,trivial⟩ rfl (by kernel_rfl) follows λargs=>by
 unfold Jt;split
 ·rename_i now lz lt l kd nm v4 a0 a1 a2 a3 a4 a5 a6 a7;exact λh0=>λh1=>λh2=>λh3=>λh4=>λh5=>(let ⟨rr,hH,ee,qq⟩:=QE now lz lt l kd nm v4 a0 a1 a2 a3 a4 a5 a6 a7 h0 h1 h2 h3 h4 h5;⟨rfl,rfl,rfl,rr,hH,(QD LF noY () 0 now lz lt l kd nm v4 a0 a1 a2 a3 a4 a5 a6 a7).trans ee,qq⟩)
 ·trivial
theorem Ae7:B2 Tryz.prog GX 8 Zi:=xf [] (Oy LF) Ju rfl ⟨XG,trivial⟩ rfl (by kernel_rfl) follows λargs=>by
 unfold Ju;split
 ·rename_i now tz tt t cp kd nm v4 a0 a1 a2 a3 a4 a5 a6 a7;exact λh0=>λh1=>λh2=>λh3=>λh4=>λh5=>(let ⟨rr,hH,ee,qq⟩:=QH now tz tt t cp kd nm v4 a0 a1 a2 a3 a4 a5 a6 a7 h0 h1 h2 h3 h4 h5;⟨rfl,rfl,rfl,rr,hH,(QG LF noY () 0 now tz tt t cp kd nm v4 a0 a1 a2 a3 a4 a5 a6 a7).trans ee,qq⟩)
 ·trivial
theorem Ae8:B2 Tryz.prog GX 8 Zj:=xf [] (Oz LF) Jv rfl ⟨XG,trivial⟩ rfl (by kernel_rfl) follows λargs=>by
 unfold Jv;split
 ·rename_i now kd nm v4 a0 a1 a2 a3 a4 a5 a6 a7;exact λh0=>λh1=>λh2=>(let ⟨rr,hH,ee,qq⟩:=QJ now kd nm v4 a0 a1 a2 a3 a4 a5 a6 a7 h0 h1 h2;⟨rfl,rfl,rfl,rr,hH,(QI LF noY () 0 now kd nm v4 a0 a1 a2 a3 a4 a5 a6 a7).trans ee,qq⟩)
 ·trivial
theorem Au5:B2 Tryz.prog GX 8 Ub:=(Sq Ae5 (Sq Ae6 (Sq Ae7 Ae8)))
end
section
theorem Bl3:B2 Tryz.prog GX 4 NP:=xf [] (Kd LF) DG rfl trivial rfl (by kernel_rfl) follows λargs=>by
 unfold DG;split
 ·rename_i t_z t_t t n;exact λh0=>λh1=>⟨rfl,rfl,rfl,_,_,(A26 LF noY () 0 t_z t_t t n).trans (YT t_z t_t t n h0 h1),rfl⟩
 ·trivial
end
section
theorem Bm8:B2 Tryz.prog GX 16 OD:=xf [] (PJ LF) ES rfl trivial rfl (by kernel_rfl) follows λargs=>by
 unfold ES;split
 ·rename_i tz tt t cp;exact λh0=>⟨rfl,rfl,rfl,_,_,(A99 LF noY () 0 tz tt t cp).trans (Ad7 tz tt t cp h0),rfl⟩
 ·trivial
theorem Bm7:B2 Tryz.prog GX 17 OB:=xf [] (PH LF) EP rfl trivial rfl (by kernel_rfl) follows λargs=>by
 unfold EP;split
 ·rename_i tz tt t cp;exact λh0=>⟨rfl,rfl,rfl,_,_,(A94 LF noY () 0 tz tt t cp).trans (Ad4 tz tt t cp h0),rfl⟩
 ·trivial
theorem Bn2:Jd Tryz.prog GX 10 ET:=by
 refine W5 (C₀:=PK LF) (Y9 (lx:=[(15,Oc),(14,Up),(16,OD),(17,OB)]) (ly:=[(18,Sw)]) (ls:=[]) rfl rfl rfl ⟨VA,VC,Bm8,Bm7,trivial⟩ ⟨Bc5,trivial⟩ trivial) (D9 rfl (by kernel_rfl)) follows ?_
 intro args H ret Hc h
 unfold ET at h
 split at h
 ·rename_i u b x cp z t
  obtain ⟨h0,h⟩:=A9 h
  obtain ⟨h1,h⟩:=A9 h
  obtain ⟨h2,h⟩:=A9 h
  obtain ⟨h3,h⟩:=A9 h
  obtain ⟨h4,h⟩:=A9 h
  obtain ⟨rfl,rfl⟩:=F5 h
  refine ⟨rfl,rfl,λσ yh s=>?_⟩
  have e:=(Ba2 LF yh s 0 u b x cp z t).trans (Ad9 u b x cp z t h0 h1 h2 h3 h4)
  exact ⟨1,_,e,rfl⟩
 ·cases h
end
end
section
open Go
def TT (ns:List Nat) (ret:PV) (H:List Blk):Bool:=decide ns.Nodup&&(ns.all (λb=>Nat.blt b H.length)&&(Z7 H ns&&ret.nms.all λb=>ns.contains b))
theorem R6.pick {C:Cfg} {Γ:Ctx} {w w':World} {ret:PV} {Hc:List Blk} {V:Value} {ns:List Nat} (h:R6 C I0 Γ [] w noΦ ret Hc () V w') (hok:TT ns ret Hc=true) :
  R6 C I0 Γ [] w noΦ (ret.rn (D8 ns)) (H9 Hc ns) () V w':=by
 obtain ⟨Γ1,Φ1,hs,hH1,hv,hvn,hi1,hd1⟩:=h
 simp only [TT,Bool.and_eq_true,decide_eq_true_eq,List.all_eq_true,Nat.blt_eq,List.contains_iff_mem] at hok
 obtain ⟨hnd,hlt,hcl,hr⟩:=hok
 have hnm:∀ i g,(Γ1.lent ns).nm i=some g->∃ b,Γ1.nm b=some g:=λi g h=>by
  simp only [Ctx.lent] at h
  cases hi:ns[i]? with
  | none=>rw [hi] at h;simp at h
  | some b=>rw [hi] at h;exact ⟨b,h⟩
 have hlen:(H9 Hc ns).length=ns.length:=by simp [H9]
 refine ⟨Γ1.lent ns,Φ1,⟨hs.os,hs.tape,hs.output,hs.size,hs.sub,hs.stnew,λc g h=>?_,hs.foot,hs.frame,hs.yv,Nat.zero_le _,λc hc=>by simp at hc⟩,
  GW hH1 hnd hlt hcl,?_,λc hc=>?_,hi1,λc g h=>?_⟩
 ·obtain ⟨b,hb⟩:=hnm c g h
  rcases hs.own b g hb with ⟨q,_⟩ | q
  ·simp at q
  ·exact .inr q
 ·refine VP.rn (Γ:=Γ1) (Γ':=Γ1.lent ns) rfl hv (.inr λ_ h=>h) λc hc=>?_
  obtain ⟨q1,q2⟩:=R7 (hr c hc)
  exact ⟨Il (hr c hc),by rw [Ev hlt q1,q2]⟩
 ·rw [PV.rn_nms] at hc
  obtain ⟨d,hd,rfl⟩:=List.mem_map.1 hc
  rw [hlen]
  exact (R7 (hr d hd)).1
 ·obtain ⟨b,hb⟩:=hnm c g h
  exact hd1 b g hb
theorem Jo {C₀:Cfg} {g:Nat} {pf:List PV->Tr} (hX:XOK C₀) (hO:Cv C₀) (hm:C₀.P.follows .mixedOrders=true)
  (h:∀ args ret Hc,G2 (pf args)=some (ret,Hc)->B3 args=[]/\∃ d r H0 ns,evC C₀ d Unit noY g args [] ()=some (r,H0,())/\TT ns r H0=true/\r.rn (D8 ns)=ret/\H9 H0 ns=Hc):B2 C₀.P C₀.G g pf:=by
 intro args ret Hc hpf C hP hGe Γ w Vs hnm hH hG hc
 obtain ⟨hna,d,r,H0,ns,hev,hok,rfl,rfl⟩:=h args ret Hc hpf
 have h0:=Dm (C₀:=C₀) (g:=g) (pf:=λa=>match evC C₀ d Unit noY g a [] () with | some (r,H,_)=>cond (B3 a).isEmpty (.ret r H) .fail | none=>.fail) hX hO hm (λa r H hr=>by
  split at hr
  ·rename_i r' H' _ he
   cases hn:(B3 a).isEmpty with
   | true=>
    rw [hn] at hr
    simp only [cond_true,G2,An,Option.some.injEq,Prod.mk.injEq] at hr
    grind
   | false=>rw [hn] at hr;cases hr
  ·cases hr)
 exact (h0 args r H0 (by dsimp only;rw [hev];dsimp only;rw [hna];rfl) C hP hGe Γ w Vs hnm hH hG hc).mono λV w' hR=>hR.pick hok
end
section
open Go Go.Proofs
set_option maxRecDepth 100000
theorem Af1:B2 Tryz.prog GX 11 Oe:=by
 refine B2.fix (pf:=Jx) _ (Jo (C₀:=Bw LF) (I3.ok (l:=[(19,EE),(15,Oc),(20,Ob),(21,EQ)]) rfl ⟨Bb9,VA,IO,Av9,trivial⟩) (D9 rfl (by kernel_rfl)) follows ?_)
 intro args ret Hc h
 unfold Jx at h
 split at h
 ·rename_i t_z t_t t cp
  obtain ⟨h0,h⟩:=A9 h
  obtain ⟨h1,h⟩:=A9 h
  obtain ⟨h2,h⟩:=A9 h
  obtain ⟨h3,h⟩:=A9 h
  obtain ⟨h4,h⟩:=A9 h
  rcases Hu h with ⟨h5,h⟩ | ⟨h5,h⟩
  ·obtain ⟨rfl,rfl⟩:=F5 h
   exact ⟨rfl,1,_,_,[1,2],(Qe LF noY () 0 t_z t_t t cp).trans ((Ru t_z t_t t cp h0 h1 h2 h3 h4).1 (eq_of_beq h5)),rfl,rfl,rfl⟩
  ·obtain ⟨rfl,rfl⟩:=F5 h
   rcases (Ru (R:=PV × List Blk × Unit) t_z t_t t cp h0 h1 h2 h3 h4).2 (by simpa using h5) with ⟨e0,e⟩ | ⟨s,b',n,e⟩
   ·exact ⟨rfl,1,_,_,[],(Qe LF noY () 0 t_z t_t t cp).trans e,rfl,by rw [e0];rfl,rfl⟩
   ·exact ⟨rfl,1,_,_,[],(Qe LF noY () 0 t_z t_t t cp).trans e,rfl,rfl,rfl⟩
 ·cases h
theorem Fw {R:Type} {k0:Bool->LL->Bool->LL->Option R} {k1:Bool->Bool->LL->Option R} {k2:Bool->LL->Bool->Option R} {k3:Bool->Option R} (tz tt:Bool) (t:LL) (lz lt:Bool) (l:LL) (h0:t.all D1=true) (h1:t.all smE=true) (h2:A2 t.length=true) (h3:l.all E4=true) (h4:l.all smE=true) (h5:A2 l.length=true) (h6:M0 tz t=true) (h7:M0 lz l=true) {b:Bool} (hb:(U8 1000 (t.map A4)==0)=b) {c:Bool} (hc:(Ex (l.map A6)==0)=c) :
  WL LF tz tt t lz lt l k0 k1 k2 k3=cond b (cond c (k0 lz (G3 (isE (l.map A6))) tz t) (k1 false tz t)) (cond c (k2 lz (G3 (isE (l.map A6))) false) (k3 false)):=by
 unfold WL
 rw [h0,h1,h2,h3,h4,h5,h6,h7,hb,hc,show ((ltI 0 1000)&&(ltI 1000 1001))=true from rfl]
 simp only [cond_true,vl]
 cases b with
 | true=>
  cases c with
  | true=>rfl
  | false=>
   have:Ex (l.map A6)≠0:=by simpa using hc
   rw [show (((Ex (l.map A6):Nat):Int)==0)=false by rw [beq_eq_false_iff_ne];omega]
   rfl
 | false=>
  have:U8 1000 (t.map A4)≠0:=by simpa using hb
  rw [show (((U8 1000 (t.map A4):Nat):Int)==0)=false by rw [beq_eq_false_iff_ne];omega]
  cases c with
  | true=>rfl
  | false=>rfl
theorem Bb7:B2 Tryz.prog GX 7 DR:=by
 refine B2.fix (pf:=Ul) _ (Jo (C₀:=FL LF) (I3.ok (l:=[(11,Oe),(12,NS)]) rfl ⟨Af1,Bl5,trivial⟩) (D9 rfl (by kernel_rfl)) follows ?_)
 intro args ret Hc h
 unfold Ul at h
 split at h
 ·rename_i t_z t_t t l_z l_t l
  obtain ⟨h0,h⟩:=A9 h
  obtain ⟨h1,h⟩:=A9 h
  obtain ⟨h2,h⟩:=A9 h
  obtain ⟨h3,h⟩:=A9 h
  obtain ⟨h4,h⟩:=A9 h
  obtain ⟨h5,h⟩:=A9 h
  obtain ⟨h6,h⟩:=A9 h
  obtain ⟨h7,h⟩:=A9 h
  rcases Hu h with ⟨h8,h⟩ | ⟨h8,h⟩<;>rcases Hu h with ⟨h9,h⟩ | ⟨h9,h⟩<;>obtain ⟨rfl,rfl⟩:=F5 h
  ·exact ⟨rfl,1,_,_,[0,1],(Ml LF noY () 0 t_z t_t t l_z l_t l).trans (Fw t_z t_t t l_z l_t l h0 h1 h2 h3 h4 h5 h6 h7 h8 h9),rfl,rfl,rfl⟩
  ·exact ⟨rfl,1,_,_,[0,1],(Ml LF noY () 0 t_z t_t t l_z l_t l).trans (Fw t_z t_t t l_z l_t l h0 h1 h2 h3 h4 h5 h6 h7 h8 h9),rfl,rfl,rfl⟩
  ·exact ⟨rfl,1,_,_,[],(Ml LF noY () 0 t_z t_t t l_z l_t l).trans (Fw t_z t_t t l_z l_t l h0 h1 h2 h3 h4 h5 h6 h7 h8 h9),rfl,rfl,rfl⟩
  ·exact ⟨rfl,1,_,_,[],(Ml LF noY () 0 t_z t_t t l_z l_t l).trans (Fw t_z t_t t l_z l_t l h0 h1 h2 h3 h4 h5 h6 h7 h8 h9),rfl,rfl,rfl⟩
 ·cases h
noncomputable def OM:Cfg:=C0 100000 [6,11,19,12,13,8,29,9,14,45] (λ_=>none)
 [(15,Oc),(20,Ob),(44,EI),(22,DK),(25,DI),(21,EQ),(69,NQ),(31,OA),(28,Dt),(30,Dr)]
 (S:=[(46,U3)]) (lend:=[11,12]) (nt:=[(72,0,50,2),(58,0,25,3)]) (Z:=[(26,Ny)])
theorem Aw0:XOK OM:=Be1 (ly:=[]) rfl rfl rfl rfl ⟨VA,IO,VB,Av3,Av2,Av9,Av1,Av8,Yf,Ye,trivial⟩ trivial ⟨Ns,trivial⟩ ⟨XK,trivial⟩
theorem Ai3:Tv (evC OM 8 Unit noY 6 [] [] ())=true:=by kernel_rfl
theorem Ae4:B2 Tryz.prog GX 6 Nu:=
 B2.fix (pf:=Jr) _ (by
  have h:=VD (C₀:=OM) Aw0 (D9 rfl (by kernel_rfl)) follows Ai3
  have e:(λargs:List PV=>match args with | []=>Tr.ret (.s (.bool true)) [] | _=>.fail)=Jr:=by
   funext args
   cases args<;>rfl
  rw [<-e]
  exact h)
section
theorem Av0:B2 Tryz.prog GX 5 Ud:=xf [] (Bu LF) Nx rfl trivial rfl (by kernel_rfl) follows λargs=>by
 unfold Nx;split
 ·rename_i n l_z l_t l;exact λh0=>λh1=>⟨rfl,rfl,rfl,_,_,(YS LF noY () 0 n l_z l_t l).trans (LJ n l_z l_t l h0 h1),rfl⟩
 ·trivial
end
end
section
open Go Go.ChangeAt Go.ChangeShapes Go.Proofs Go.RowKit Go.WideShapes
set_option maxRecDepth 100000
section
theorem RU (os:Os) (started:os.Started) (H:Type) (enc:TypeId × Value->H) :
  ReturnsInHanded {} Tryz.checked os 3 .any (λw args=>(Rows.coverageMonotoneSpec.pre enc Tryz.prog Tryz.f3 Rows.coverageMonotoneRow.domain false w args/\laidMetH Tryz.prog Dc w)/\sizedMet enc Tryz.prog Tryz.f3 (OpenSpec.ofChange Rows.coverageMonotoneSpec) false w args) (Rows.coverageMonotoneSpec.post enc Tryz.prog Tryz.f3 false true false false):=
 RR started (C:=Bv LF) (tb:=4) rfl rfl (Y9 (lx:=[(4,NP),(5,Ud),(6,Nu),(7,DR),(8,Ub),(9,Jy)]) (ly:=[(10,ET)]) (ls:=[]) rfl rfl rfl ⟨Bl3,Av0,Ae4,Bb7,Au5,Yg,trivial⟩ ⟨Bn2,trivial⟩ trivial) (D9 rfl (by kernel_rfl)) (by kernel_rfl) Tryz.func3 (c:=E6 Tryz.f3) rfl (by kernel_rfl)
  (by
   intro t ht
   have:t=22\/t=23\/t=25\/t=30:=by simpa only [List.mem_cons,List.mem_nil_iff,or_false] using (show t∈[22,23,25,30] from ht)
   rcases this with rfl | rfl | rfl | rfl
   all_goals exact ⟨⟨by kernel_rfl,of_decide_eq_true (by kernel_rfl)⟩,by kernel_rfl⟩) rfl (by kernel_rfl) rfl
  (λds hds=>by
   match ds,hds with
   | [d0,d1,d2,d3],_=>rfl)
  #[(.agg #[(.int .i64 0),(.int .i64 0)]),(.slice none 0 0),(.agg #[(.string ⟨#[]⟩),(.bool false),(.int .i64 0)]),(.agg #[(.int .i64 0),(.string ⟨#[]⟩),(.int .u32 0),(.int .u16 0),(.int .u16 0),(.int .u16 0),(.int .u16 0),(.int .u16 0),(.int .u16 0),(.int .u16 0),(.int .u16 0)])] 8 (by kernel_rfl) (by kernel_rfl) (by kernel_rfl)
  (λargs h=>A32 args h)
set_option maxHeartbeats 4000000 in theorem YX:Rows.CoverageMonotoneSaid:=
 OpenClaim.holds_of_wide 3 Tryz.f3 rfl rfl rfl rfl rfl rfl rfl ⟨rfl,rfl,rfl,rfl,rfl⟩ rfl rfl rfl rfl rfl (by kernel_rfl) Tryz.func3 (by unfold joinedFacts;simp only [Bool.and_eq_true];(repeat' apply And.intro)<;>as_aux_lemma=>kernel_rfl)
  (of_decide_eq_true (by as_aux_lemma=>kernel_rfl)) (by unfold Func.isWrapper;first | (rw [if_pos (by decide +kernel)];kernel_rfl) | (rw [if_neg (by decide +kernel)];exact ⟨rfl,rfl⟩))
  (λos started H enc _=>RU os started H enc)
theorem lcn_card:Rows.CoverageMonotoneCardSaid:=
 Claim7.holds_tied_plain_at .later [] [.data,.pinned] true (true, "f4322e2282409d8e135888ff2ada8df5bb56daac06980ab071845f4989928076") false YX (λ_ h=>by cases h) (by as_aux_lemma=>kernel_rfl) (λ_ h=>by cases h) coverageMonotone_row_tie rfl ⟨rfl,rfl⟩ (by as_aux_lemma=>kernel_rfl) rfl
  (λf fn hf hfn=>by
   obtain rfl:f=3:=Option.some.inj ((show Tryz.prog.funcNamed "hstsstore/hstsstorelaw26.CoverageMonotone" = some 3 by as_aux_lemma=>kernel_rfl).symm.trans hf) |>.symm
   obtain rfl:fn=Tryz.f3:=(Option.some.inj (Tryz.func3.symm.trans hfn)).symm
   exact ⟨by as_aux_lemma=>kernel_rfl,λj t ht=>by
    have hm:t∈[22,23,25,30]:=Array.mem_toList_iff.2 (Array.mem_of_getElem? ht)
    have hall:([22,23,25,30].all λu=>!Tryz.prog.wantsStandIn u)=true:=by as_aux_lemma=>kernel_rfl
    exact (show Tryz.prog.wantsStandIn t=false by simpa using List.all_eq_true.1 hall t hm)⟩)
  (by as_aux_lemma=>kernel_rfl)
end
end
#print axioms lcn_card
end Go.Proofs.YtbpokbigoebocaaGreatDoor.E
