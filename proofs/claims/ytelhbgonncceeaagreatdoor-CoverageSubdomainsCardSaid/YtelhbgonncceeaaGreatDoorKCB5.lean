/-
  CoverageSubdomains, as its tied card says. Conditions: what the card itself names (the package-level variables that are listed, tied to the program's text).
-/
import Derived.Test.YtelhbgonncceeaaGreatDoorKCB4
import Derived.BigQuiet
import Derived.Deep.QuietTactic
import Derived.Ground.SlsfProg
import Derived.LoopTactic
import Derived.Shelf.Abstract
import Derived.Shelf.SlSortCmp.NoneTotal
import Derived.Shelf.SlSortCmp.WholeK
import Derived.Shelf.Strings.LastIndex
import Derived.Test.YtelhbgonncceeaaGreatDoorCards
import Derived.Test.YtelhbgonncceeaaGreatDoorProg
import Derived.Test.YtelhbgonncceeaaGreatDoorTie
import Derived.WalkKit
import Derived.WalkMore
namespace Go.Proofs.YtelhbgonncceeaaGreatDoor.E
set_option linter.all false
section
open Go Go.Op
set_option maxRecDepth 100000
theorem Aj3 {R:Type} (z t:Bool) (E:List Ent) (s:By) (k0:By->Bool->Option R) (hs:(D1 E).all smE=true) (h1:A2 s.length=true) (hl:E.length<=1000000000):∀ (r i m:Nat) (b:Ent),i+r=E.length->r<m->
  Kf LF m z t (D1 E) s (i:Int) b.1 b.2 k0=k0 ((E.drop i).foldl (λb e=>if A99 s e&&Nat.blt b.1.length e.1.length then e else b) b).1 ((E.drop i).foldl (λb e=>if A99 s e&&Nat.blt b.1.length e.1.length then e else b) b).2
 | 0,i,m,b,hi,hm=>by
  obtain ⟨m,rfl⟩:∃ q,m=q+1:=⟨m-1,by omega⟩
  rw [Kf,E5 (by rw [D7];omega),List.drop_of_length_le (by omega)]
  rfl
 | r+1,i,m,b,hi,hm=>by
  obtain ⟨m,rfl⟩:∃ q,m=q+1:=⟨m-1,by omega⟩
  have hlt:i<E.length:=by omega
  have e2:A1 ((i:Int)+1)=((i+1:Nat):Int):=by rw [A5];rfl
  rw [Kf,C6 (by rw [D7];omega),J6 (by omega) (by rw [D7];omega),Int.toNat_natCast,Of hlt,Og hlt,Ip hlt,Av8 hlt,Vl hs hlt,h1,e2,W3 noE hlt,List.foldl_cons]
  simp only [cond_true]
  have ih:=λb=>Aj3 z t E s k0 hs h1 hl r (i+1) m b (by omega) (by omega)
  have eb:ltI (b.1.length:Int) ((E.getD i noE).1.length:Int)=Nat.blt b.1.length (E.getD i noE).1.length:=by
   rw [P9,Bool.eq_iff_iff,decide_eq_true_eq,Nat.blt_eq]
   omega
  rw [eb,show Bz0 (E.getD i noE).1 (E.getD i noE).2=E.getD i noE from rfl]
  cases c1:A99 s (E.getD i noE) with
  | false=>exact ih b
  | true=>
   cases c2:Nat.blt b.1.length (E.getD i noE).1.length with
   | false=>exact ih b
   | true=>exact ih (E.getD i noE)
theorem Ai7 {R:Type} (now:Int) (z t:Bool) (T:List Q7) (n5:Int) (s:By) (n7 n8 n9 n10 n11 n12 n13 n14 n15:Int) (s19:By) (b20:Bool) (k0:Int->By->Int->Int->Int->Int->Int->Int->Int->Int->Int->Int->By->Bool->By->Bool->Option R) (hs:(Z9 T).all smE=true) (h1:A2 s.length=true) (hl:T.length<=1000000000):∀ (r i m:Nat) (c:Ub),i+r=T.length->r<m->
  Hb LF m now z t (Z9 T) (i:Int) n5 s n7 n8 n9 n10 n11 n12 n13 n14 n15 c.1 c.2.1 c.2.2 s19 b20 k0 =
   (λc:Ub=>k0 n5 s n7 n8 n9 n10 n11 n12 n13 n14 n15 c.1 c.2.1 c.2.2 s19 b20) ((T.drop i).foldl (λc p=>if Bq1 now s p&&Nat.ble c.2.1.length p.1.length then (1,p.1,p.1==s) else c) c)
 | 0,i,m,b,hi,hm=>by
  obtain ⟨m,rfl⟩:∃ q,m=q+1:=⟨m-1,by omega⟩
  rw [Hb,E5 (by rw [J8];omega),List.drop_of_length_le (by omega)]
  rfl
 | r+1,i,m,c,hi,hm=>by
  obtain ⟨m,rfl⟩:∃ q,m=q+1:=⟨m-1,by omega⟩
  have hlt:i<T.length:=by omega
  have e2:A1 ((i:Int)+1)=((i+1:Nat):Int):=by rw [A5];rfl
  rw [Hb,C6 (by rw [J8];omega),J6 (by omega) (by rw [J8];omega),Int.toNat_natCast,Oh hlt,Oi hlt,Iq hlt,TC hlt,TB hlt,W3 noP hlt,List.foldl_cons]
  simp only [cond_true,vl]
  rw [Pf hs hlt,h1]
  simp only [cond_true]
  have ih:=λc=>Ai7 now z t T n5 s n7 n8 n9 n10 n11 n12 n13 n14 n15 s19 b20 k0 hs h1 hl r (i+1) m c (by omega) (by omega)
  have eb:(!ltI ((T.getD i noP).1.length:Int) (c.2.1.length:Int))=Nat.ble c.2.1.length (T.getD i noP).1.length:=by
   rw [P9,Bool.eq_iff_iff,Bool.not_eq_true',decide_eq_false_iff_not,Nat.ble_eq]
   omega
  rw [eb,show Bz1 (T.getD i noP).1 (T.getD i noP).2.1 (T.getD i noP).2.2=T.getD i noP from rfl]
  unfold JB
  rw [J6 (by omega) (by rw [J8];omega),Int.toNat_natCast,Oi hlt,Iq hlt]
  simp only [cond_true,cond_false,vl,e2]
  cases c1:Bq1 now s (T.getD i noP) with
  | false=>exact ih c
  | true=>
   cases c2:Nat.ble c.2.1.length (T.getD i noP).1.length with
   | false=>exact ih c
   | true=>exact ih (1,(T.getD i noP).1,(T.getD i noP).1==s)
theorem CQ {R:Type} (z t:Bool) (T:List Q7) (k0 k1:Unit->Option R) (hl:T.length<=1000000000):∀ (r i m:Nat),i+r=T.length->r<m->
  Gu LF m z t (Z9 T) (i:Int) k0 k1=cond ((Z9 (T.drop i)).all λel=>!ltI 300 (elS el).length) (k1 ()) (k0 ())
 | 0,i,m,hi,hm=>by
  obtain ⟨m,rfl⟩:∃ q,m=q+1:=⟨m-1,by omega⟩
  rw [Gu,E5 (by rw [J8];omega),List.drop_of_length_le (by omega)]
  rfl
 | r+1,i,m,hi,hm=>by
  obtain ⟨m,rfl⟩:∃ q,m=q+1:=⟨m-1,by omega⟩
  have hlt:i<T.length:=by omega
  have e2:A1 ((i:Int)+1)=((i+1:Nat):Int):=by rw [A5];rfl
  rw [Gu,C6 (by rw [J8];omega),J6 (by omega) (by rw [J8];omega),Int.toNat_natCast,Oi hlt,Iq hlt,e2,CQ z t T k0 k1 hl r (i+1) m (by omega) (by omega),W3 noP hlt]
  simp only [cond_true]
  show _=cond ((!ltI 300 ((T.getD i noP).1.length:Nat))&&(Z9 (T.drop (i+1))).all λel=>!ltI 300 (elS el).length) (k1 ()) (k0 ())
  cases ltI 300 ((T.getD i noP).1.length:Nat)<;>rfl
theorem Ae9 {R:Type} {k0:Bool->Option R} (z t:Bool) (l:LL) (n:Int) (h0:l.all F7=true) (hn:ltI n 1001=true):Bc7 LF z t l n k0=k0 (Ay n l):=by
 have hLF:=E8
 rw [P9,decide_eq_true_eq] at hn
 have hr:=Vf h0
 generalize hE:l.map B0=T at hr
 subst hr
 unfold Bc7 Ay
 cases c:ltI n ((Z9 T).length:Nat) with
 | true=>rfl
 | false=>
  rw [P9,decide_eq_false_iff_not,J8] at c
  have:=CQ z t T (λ_=>k0 false) (λ_=>k0 true) (by omega) T.length 0 LF (by omega) (by omega)
  rw [List.drop_zero] at this
  refine this.trans ?_
  rw [Bool.not_false,Bool.true_and]
  cases (Z9 T).all λel=>!ltI 300 (elS el).length<;>rfl
theorem CP {R:Type} (z t:Bool) (T:List Ent) (k0 k1:Unit->Option R) (hl:T.length<=1000000000):∀ (r i m:Nat),i+r=T.length->r<m->
  Gt LF m z t (D1 T) (i:Int) k0 k1=cond ((D1 (T.drop i)).all λel=>!ltI 300 (elS el).length) (k1 ()) (k0 ())
 | 0,i,m,hi,hm=>by
  obtain ⟨m,rfl⟩:∃ q,m=q+1:=⟨m-1,by omega⟩
  rw [Gt,E5 (by rw [D7];omega),List.drop_of_length_le (by omega)]
  rfl
 | r+1,i,m,hi,hm=>by
  obtain ⟨m,rfl⟩:∃ q,m=q+1:=⟨m-1,by omega⟩
  have hlt:i<T.length:=by omega
  have e2:A1 ((i:Int)+1)=((i+1:Nat):Int):=by rw [A5];rfl
  rw [Gt,C6 (by rw [D7];omega),J6 (by omega) (by rw [D7];omega),Int.toNat_natCast,Og hlt,Ip hlt,e2,CP z t T k0 k1 hl r (i+1) m (by omega) (by omega),W3 noE hlt]
  simp only [cond_true]
  show _=cond ((!ltI 300 ((T.getD i noE).1.length:Nat))&&(D1 (T.drop (i+1))).all λel=>!ltI 300 (elS el).length) (k1 ()) (k0 ())
  cases ltI 300 ((T.getD i noE).1.length:Nat)<;>rfl
theorem Ae8 {R:Type} {k0:Bool->Option R} (z t:Bool) (l:LL) (n:Int) (h0:l.all D5=true) (hn:ltI n 1001=true):Bc5 LF z t l n k0=k0 (Ay n l):=by
 have hLF:=E8
 rw [P9,decide_eq_true_eq] at hn
 have hr:=Gk h0
 generalize hE:l.map A6=T at hr
 subst hr
 unfold Bc5 Ay
 cases c:ltI n ((D1 T).length:Nat) with
 | true=>rfl
 | false=>
  rw [P9,decide_eq_false_iff_not,D7] at c
  have:=CP z t T (λ_=>k0 false) (λ_=>k0 true) (by omega) T.length 0 LF (by omega) (by omega)
  rw [List.drop_zero] at this
  refine this.trans ?_
  rw [Bool.not_false,Bool.true_and]
  cases (D1 T).all λel=>!ltI 300 (elS el).length<;>rfl
theorem Vb (tz tt:Bool) (t:LL) (lz lt:Bool) (l:LL) (h0:t.all F7=true) (h1:t.all smE=true) (h2:A2 t.length=true) (h3:l.all D5=true) (h4:l.all smE=true) (h5:A2 l.length=true) (h6:N2 tz t=true) (h7:N2 lz l=true) {b:Bool} (hb:(Ao 1000 (t.map B0)==0)=b) {c:Bool} (hc:(Ew (l.map A6)==0)=c) :
  ∃ r H,Ay0 tz tt t lz lt l=rv r H/\r.stabQ [0,0,0] [] H=cond b (cond c (.tup [.s (.sp [[.sl tz tz 3 t,.int .i64 1000]] 0 0),.s (.sp [[.sl lz lz 2 (D1 (isE (l.map A6)))]] 0 0),pB true]) (.tup [.s (.sp [[.sl tz tz 3 t,.int .i64 1000]] 0 0),.s .nilp,pB false]))
   (cond c (.tup [.s .nilp,.s (.sp [[.sl lz lz 2 (D1 (isE (l.map A6)))]] 0 0),pB false]) (.tup [.s .nilp,.s .nilp,pB false])):=by
 unfold Ay0 Be6
 rw [h0,h1,h2,h3,h4,h5,h6,h7,hb,hc,show ((ltI 0 1000)&&(ltI 1000 1001))=true from rfl]
 simp only [cond_true,vl]
 cases b with
 | true=>
  cases c with
  | true=>exact ⟨_,_,rfl,rfl⟩
  | false=>
   have:Ew (l.map A6)≠0:=by simpa using hc
   rw [show (((Ew (l.map A6):Nat):Int)==0)=false by rw [beq_eq_false_iff_ne];omega]
   exact ⟨_,_,rfl,rfl⟩
 | false=>
  have:Ao 1000 (t.map B0)≠0:=by simpa using hb
  rw [show (((Ao 1000 (t.map B0):Nat):Int)==0)=false by rw [beq_eq_false_iff_ne];omega]
  cases c with
  | true=>exact ⟨_,_,rfl,rfl⟩
  | false=>exact ⟨_,_,rfl,rfl⟩
theorem LM (l:List Ent):(D1 l).all D5=true:=by
 rw [List.all_eq_true]
 intro x hx
 obtain ⟨e,_,rfl⟩:=List.mem_map.1 hx
 rfl
theorem Aw4 {l:LL} (h0:l.all D5=true) (h1:l.all smE=true):(D1 (isE (l.map A6))).all smE=true:=by
 rw [Gk h0] at h1
 rw [List.all_eq_true] at h1 ⊢
 intro x hx
 obtain ⟨e,he,rfl⟩:=List.mem_map.1 hx
 exact h1 _ (List.mem_map.2 ⟨e,Bc4.1 he,rfl⟩)
theorem CM {l:LL} (h:A2 l.length=true):A2 (D1 (isE (l.map A6))).length=true:=by
 rw [D7,(Nr _).length_eq,List.length_map]
 exact h
theorem Ad8 {now:Int} {T:List Q7} {L:List Ent} {s u:By} (hu:E6 u s=true) (hp:(Cs now T s u || Nq L s u)=true):(Al now T L s).1≠0:=by
 have hs:D3 s=true:=Dj.2 (N9.1 hu).2.1
 rw [LS]
 rcases BS hs (λu=>Cs now T s u || Nq L s u) with ⟨v,h1,_⟩ | ⟨h1,h2⟩
 ·rw [h1]
  show (if Cs now T s v then ((1,v,v==s):Ub) else (2,v,v==s)).1≠0
  split<;>simp
 ·rw [h2 u hu] at hp;cases hp
theorem SZ (now:Int) (T:List Q7) (L:List Ent) {s:By} (hs:D3 s=true):Al now T L s=noC\/∃ u,E6 u s=true/\(Cs now T s u || Nq L s u)=true/\(Al now T L s).1≠0/\(Al now T L s).2.1=u/\(Al now T L s).2.2=(u==s):=by
 rw [LS]
 rcases BS hs (λu=>Cs now T s u || Nq L s u) with ⟨v,h1,h2,h3,_⟩ | ⟨h1,_⟩
 ·rw [h1]
  right
  refine ⟨v,h2,h3,?_⟩
  show (if Cs now T s v then ((1,v,v==s):Ub) else (2,v,v==s)).1≠0/\(if Cs now T s v then ((1,v,v==s):Ub) else (2,v,v==s)).2.1=v/\(if Cs now T s v then ((1,v,v==s):Ub) else (2,v,v==s)).2.2=(v==s)
  split<;>simp
 ·rw [h1];exact .inl rfl
theorem Bb9 {now:Int} {T:List Q7} {L:List Ent} {s s2 u:By} (hne:(u==s)=false) (hp:(Cs now T s u || Nq L s u)=true):(Cs now T s2 u || Nq L s2 u)=true:=by
 unfold Cs Nq at *
 rw [hne] at hp
 revert hp
 cases (L6 T u).2<;>cases MQ now (L6 T u).1<;>cases (L6 T u).1.2.1<;>cases (J2 L u).2<;>cases (J2 L u).1.2<;>simp
theorem CG (now:Int) (T:List Q7) (L:List Ent) (nm:By):C5 now T L 1 (mkH 1 nm 0 (n8 0 0 0 0 0 0 0 0))=cond (D3 nm) (Al now T L nm) noC:=by
 unfold C5
 rw [show ((1:Int)==1)=true from rfl,cond_true]
 have:X7 (mkH 1 nm 0 (n8 0 0 0 0 0 0 0 0))=D3 nm:=by
  unfold X7 mkH
  simp [ltN,n8,z8]
 rw [this]
 rfl
theorem Bj9 (now:Int) (T:List Q7) (L:List Ent) (a b:By):((C5 now T L 1 (mkH 1 a 0 (n8 0 0 0 0 0 0 0 0))).1=0/\C5 now T L 1 (mkH 1 a 0 (n8 0 0 0 0 0 0 0 0))=noC)\/
  ((C5 now T L 1 (mkH 1 a 0 (n8 0 0 0 0 0 0 0 0))).1≠0/\E6 (C5 now T L 1 (mkH 1 a 0 (n8 0 0 0 0 0 0 0 0))).2.1 a=true/\(C5 now T L 1 (mkH 1 a 0 (n8 0 0 0 0 0 0 0 0))).2.2=((C5 now T L 1 (mkH 1 a 0 (n8 0 0 0 0 0 0 0 0))).2.1==a)/\
   ((C5 now T L 1 (mkH 1 a 0 (n8 0 0 0 0 0 0 0 0))).2.2=false->E6 a b=true->(C5 now T L 1 (mkH 1 b 0 (n8 0 0 0 0 0 0 0 0))).1≠0)):=by
 rw [CG,CG]
 cases ha:D3 a with
 | false=>exact .inl ⟨rfl,rfl⟩
 | true=>
  rw [cond_true]
  rcases SZ now T L ha with e | ⟨u,h1,h2,h3,h4,h5⟩
  ·rw [e];exact .inl ⟨rfl,rfl⟩
  ·right
   rw [h4,h5]
   refine ⟨h3,h1,rfl,λhne hab=>?_⟩
   have hb:D3 b=true:=Dj.2 (N9.1 hab).2.1
   rw [hb,cond_true]
   exact Ad8 (Gi h1 hab) (Bb9 hne h2)
end
section
open Go Go.Proofs
set_option maxRecDepth 100000
section
variable {σ R : Type} (lf : Nat) (cl : D4) (yh : Yh σ) (s : σ) (k : Out -> St σ -> Option R)
noncomputable abbrev Aq8:Code:=D2 Tryz.f4
noncomputable def Ko (lf:Nat):Cfg:=B8 lf [4] (A4 []) [(11,PI),(12,PH),(18,Vr),(13,Pu),(14,PN),(15,Vo),(19,FX),(17,Vp)] (A4 [(14,[8]),(13,[8]),(12,[0,8,0,85]),(11,[8]),(10,[0,8,0,1,0,0,63]),(9,[8]),(8,[0,8,0,1,0,0,41]),(7,[0,8,0,1,0,0]),(6,[0,8,0,1,0]),(5,[8]),(4,[0,6,1,0,30]),(3,[0,6,1,0,0]),(2,[8]),(1,[0,0,0,4,23]),(0,[0,0,0,4])]) [11,12,18,13,19] (A4 []) (some [8]) [] [] [] (rw:=[(6,7)]) (fr:=[(6,[4,8],[])])
noncomputable def Lu {R:Type} (now0:Int) (t2 p4:LL) (s6 s7:By) (n8v:Int) (s9:By) (b10:Bool) (k0:Bool->(List Blk)->Option R):Option R:=cond (List.all t2 F7) (cond (List.all t2 smE) (cond (A2 t2.length) (cond (List.all p4 D5) (cond (List.all p4 smE) (cond (A2 p4.length) (cond (ltN 7 4294967296) (cond (ok8 (0:Int) (0:Int) (0:Int) (0:Int) (0:Int) (0:Int) (0:Int) (0:Int)) (cond (not (((C5 now0 (List.map B0 t2) (List.map A6 p4) (2:Int) (mkH (2:Int) ([]:List UInt8) (7:Int) (n8 (0:Int) (0:Int) (0:Int) (0:Int) (0:Int) (0:Int) (0:Int) (0:Int))))).1 != 0)) (cond (List.all t2 F7) (cond (List.all t2 smE) (cond (A2 t2.length) (cond (List.all p4 D5) (cond (List.all p4 smE) (cond (A2 p4.length) (cond (ltN 0 4294967296) (cond (ok8 (0:Int) (0:Int) (0:Int) (0:Int) (0:Int) (0:Int) (0:Int) (0:Int)) (cond (not (((C5 now0 (List.map B0 t2) (List.map A6 p4) (3:Int) (mkH (3:Int) ([]:List UInt8) (0:Int) (n8 (0:Int) (0:Int) (0:Int) (0:Int) (0:Int) (0:Int) (0:Int) (0:Int))))).1 != 0)) (k0 true [(Blk.arr false 42 1 [[(SV.str s6)],[(SV.str s7)]]),(Blk.box ((PV.s (SV.int .i64 (1:Int)))::((PV.s (SV.str s6))::((PV.s (SV.int .u32 (0:Int)))::(List.replicate 8 (PV.s (SV.int .u16 (0:Int)))))))),(Blk.box ((PV.s (SV.int .i64 (1:Int)))::((PV.s (SV.str s7))::((PV.s (SV.int .u32 (0:Int)))::(List.replicate 8 (PV.s (SV.int .u16 (0:Int)))))))),(Blk.box [(PV.s (SV.int .i64 n8v)),(PV.s (SV.str s9)),(PV.s (SV.bool b10))])]) (k0 false [(Blk.arr false 42 1 [[(SV.str s6)],[(SV.str s7)]]),(Blk.box ((PV.s (SV.int .i64 (1:Int)))::((PV.s (SV.str s6))::((PV.s (SV.int .u32 (0:Int)))::(List.replicate 8 (PV.s (SV.int .u16 (0:Int)))))))),(Blk.box ((PV.s (SV.int .i64 (1:Int)))::((PV.s (SV.str s7))::((PV.s (SV.int .u32 (0:Int)))::(List.replicate 8 (PV.s (SV.int .u16 (0:Int)))))))),(Blk.box [(PV.s (SV.int .i64 n8v)),(PV.s (SV.str s9)),(PV.s (SV.bool b10))])])) none) none) none) none) none) none) none) none) (k0 false [(Blk.arr false 42 1 [[(SV.str s6)],[(SV.str s7)]]),(Blk.box ((PV.s (SV.int .i64 (1:Int)))::((PV.s (SV.str s6))::((PV.s (SV.int .u32 (0:Int)))::(List.replicate 8 (PV.s (SV.int .u16 (0:Int)))))))),(Blk.box ((PV.s (SV.int .i64 (1:Int)))::((PV.s (SV.str s7))::((PV.s (SV.int .u32 (0:Int)))::(List.replicate 8 (PV.s (SV.int .u16 (0:Int)))))))),(Blk.box [(PV.s (SV.int .i64 n8v)),(PV.s (SV.str s9)),(PV.s (SV.bool b10))])])) none) none) none) none) none) none) none) none
abbrev MP (b:Code):Prop:=∀ (k:Out->St σ->Option R) now0 t_z1 t2 p_z3 p4 b5 s6 s7 n8v s9 b10,B2 (Ko lf) cl yh b ⟨gp [(0,pI now0),(8,.s (.sp [[.sl t_z1 t_z1 3 t2,.int .i64 (1000:Int)]] 0 0)),(0,.s (.sp [[.sl p_z3 p_z3 2 p4]] 0 0)),(85,pB b5)] 17,[.arr false 42 1 [[.str s6],[.str s7]],.box [pI (1:Int),pS s6,p32 (0:Int),p16 (0:Int),p16 (0:Int),p16 (0:Int),p16 (0:Int),p16 (0:Int),p16 (0:Int),p16 (0:Int),p16 (0:Int)],.box [pI (1:Int),pS s7,p32 (0:Int),p16 (0:Int),p16 (0:Int),p16 (0:Int),p16 (0:Int),p16 (0:Int),p16 (0:Int),p16 (0:Int),p16 (0:Int)],.box [pI n8v,pS s9,pB b10]],s⟩ k=Lu now0 t2 p4 s6 s7 n8v s9 b10 (λb0 H1=>k .ret ⟨gp [(8,pB b0)] 105,H1,s⟩)
theorem Af4:MP (R:=R) lf cl yh s (cd [1,1,1,1,1,1,1,1,1] Aq8):=by
 intro k now0 t_z1 t2 p_z3 p4 b5 s6 s7 n8v s9 b10;unfold Lu;kernel_rfl
noncomputable def lcs {R:Type} (lf:Nat) (now0:Int) (pins_z1 pins_t2:Bool) (pins3:LL) (l_z4 l_t5:Bool) (l6:LL) (names7 names8:By) (k0:Bool->(List Blk)->Option R):Option R:=cond (List.all pins3 F7) (cond (ltI 40 1001) (cond (not (Ay (40:Int) pins3)) (k0 true [(Blk.arr false 42 1 [[(SV.str names7)],[(SV.str names8)]])]) (cond (List.all l6 D5) (cond (ltI 40 1001) (cond (not (Ay (40:Int) l6)) (k0 true [(Blk.arr false 42 1 [[(SV.str names7)],[(SV.str names8)]])]) (cond (List.all [[(SV.str names7)],[(SV.str names8)]] isS) (cond (not (Fb (400:Int) (List.map elS [[(SV.str names7)],[(SV.str names8)]]))) (k0 true [(Blk.arr false 42 1 [[(SV.str names7)],[(SV.str names8)]])]) (cond (List.all pins3 F7) (cond (List.all pins3 smE) (cond (A2 pins3.length) (cond (List.all l6 D5) (cond (List.all l6 smE) (cond (A2 l6.length) (cond (N2 pins_z1 pins3) (cond (N2 l_z4 l6) (cond ((Ao (1000:Int) (List.map B0 pins3))==0) (cond ((Ew (List.map A6 l6))==0) (cond (List.all pins3 F7) (cond (List.all pins3 smE) (cond (A2 pins3.length) (cond (List.all (D1 (isE (List.map A6 l6))) D5) (cond (List.all (D1 (isE (List.map A6 l6))) smE) (cond (A2 (List.length (D1 (isE (List.map A6 l6))))) (cond (A2 names7.length) (cond (ltN 0 4294967296) (cond (ok8 (0:Int) (0:Int) (0:Int) (0:Int) (0:Int) (0:Int) (0:Int) (0:Int)) (vl ((C5 now0 (List.map B0 pins3) (List.map A6 (D1 (isE (List.map A6 l6)))) (1:Int) (mkH (1:Int) names7 (0:Int) (n8 (0:Int) (0:Int) (0:Int) (0:Int) (0:Int) (0:Int) (0:Int) (0:Int))))).1 λn'2=>vl (((C5 now0 (List.map B0 pins3) (List.map A6 (D1 (isE (List.map A6 l6)))) (1:Int) (mkH (1:Int) names7 (0:Int) (n8 (0:Int) (0:Int) (0:Int) (0:Int) (0:Int) (0:Int) (0:Int) (0:Int))))).2).1 λs'3=>cond (n'2==0) (cond ((n'2==0)&&((s'3==[])&&(((((C5 now0 (List.map B0 pins3) (List.map A6 (D1 (isE (List.map A6 l6)))) (1:Int) (mkH (1:Int) names7 (0:Int) (n8 (0:Int) (0:Int) (0:Int) (0:Int) (0:Int) (0:Int) (0:Int) (0:Int))))).2).2==false)&&true))) (k0 true [(Blk.arr false 42 1 [[(SV.str names7)],[(SV.str names8)]]),(Blk.box ((PV.s (SV.int .i64 (1:Int)))::((PV.s (SV.str names7))::((PV.s (SV.int .u32 (0:Int)))::(List.replicate 8 (PV.s (SV.int .u16 (0:Int)))))))),(Blk.box ((PV.s (SV.int .i64 (1:Int)))::((PV.s (SV.str names8))::((PV.s (SV.int .u32 (0:Int)))::(List.replicate 8 (PV.s (SV.int .u16 (0:Int)))))))),(Blk.box [(PV.s (SV.int .i64 n'2)),(PV.s (SV.str s'3)),(PV.s (SV.bool (((C5 now0 (List.map B0 pins3) (List.map A6 (D1 (isE (List.map A6 l6)))) (1:Int) (mkH (1:Int) names7 (0:Int) (n8 (0:Int) (0:Int) (0:Int) (0:Int) (0:Int) (0:Int) (0:Int) (0:Int))))).2).2))])]) (k0 false [(Blk.arr false 42 1 [[(SV.str names7)],[(SV.str names8)]]),(Blk.box ((PV.s (SV.int .i64 (1:Int)))::((PV.s (SV.str names7))::((PV.s (SV.int .u32 (0:Int)))::(List.replicate 8 (PV.s (SV.int .u16 (0:Int)))))))),(Blk.box ((PV.s (SV.int .i64 (1:Int)))::((PV.s (SV.str names8))::((PV.s (SV.int .u32 (0:Int)))::(List.replicate 8 (PV.s (SV.int .u16 (0:Int)))))))),(Blk.box [(PV.s (SV.int .i64 n'2)),(PV.s (SV.str s'3)),(PV.s (SV.bool (((C5 now0 (List.map B0 pins3) (List.map A6 (D1 (isE (List.map A6 l6)))) (1:Int) (mkH (1:Int) names7 (0:Int) (n8 (0:Int) (0:Int) (0:Int) (0:Int) (0:Int) (0:Int) (0:Int) (0:Int))))).2).2))])])) (cond (A2 s'3.length) (cond (A2 names7.length) (cond (not (E6 s'3 names7)) (k0 false [(Blk.arr false 42 1 [[(SV.str names7)],[(SV.str names8)]]),(Blk.box ((PV.s (SV.int .i64 (1:Int)))::((PV.s (SV.str names7))::((PV.s (SV.int .u32 (0:Int)))::(List.replicate 8 (PV.s (SV.int .u16 (0:Int)))))))),(Blk.box ((PV.s (SV.int .i64 (1:Int)))::((PV.s (SV.str names8))::((PV.s (SV.int .u32 (0:Int)))::(List.replicate 8 (PV.s (SV.int .u16 (0:Int)))))))),(Blk.box [(PV.s (SV.int .i64 n'2)),(PV.s (SV.str s'3)),(PV.s (SV.bool (((C5 now0 (List.map B0 pins3) (List.map A6 (D1 (isE (List.map A6 l6)))) (1:Int) (mkH (1:Int) names7 (0:Int) (n8 (0:Int) (0:Int) (0:Int) (0:Int) (0:Int) (0:Int) (0:Int) (0:Int))))).2).2))])]) (cond (not ((((C5 now0 (List.map B0 pins3) (List.map A6 (D1 (isE (List.map A6 l6)))) (1:Int) (mkH (1:Int) names7 (0:Int) (n8 (0:Int) (0:Int) (0:Int) (0:Int) (0:Int) (0:Int) (0:Int) (0:Int))))).2).2==(s'3==names7))) (k0 false [(Blk.arr false 42 1 [[(SV.str names7)],[(SV.str names8)]]),(Blk.box ((PV.s (SV.int .i64 (1:Int)))::((PV.s (SV.str names7))::((PV.s (SV.int .u32 (0:Int)))::(List.replicate 8 (PV.s (SV.int .u16 (0:Int)))))))),(Blk.box ((PV.s (SV.int .i64 (1:Int)))::((PV.s (SV.str names8))::((PV.s (SV.int .u32 (0:Int)))::(List.replicate 8 (PV.s (SV.int .u16 (0:Int)))))))),(Blk.box [(PV.s (SV.int .i64 n'2)),(PV.s (SV.str s'3)),(PV.s (SV.bool (((C5 now0 (List.map B0 pins3) (List.map A6 (D1 (isE (List.map A6 l6)))) (1:Int) (mkH (1:Int) names7 (0:Int) (n8 (0:Int) (0:Int) (0:Int) (0:Int) (0:Int) (0:Int) (0:Int) (0:Int))))).2).2))])]) (cond (not (((C5 now0 (List.map B0 pins3) (List.map A6 (D1 (isE (List.map A6 l6)))) (1:Int) (mkH (1:Int) names7 (0:Int) (n8 (0:Int) (0:Int) (0:Int) (0:Int) (0:Int) (0:Int) (0:Int) (0:Int))))).2).2) (cond (A2 names7.length) (cond (A2 names8.length) (cond (E6 names7 names8) (cond (List.all pins3 F7) (cond (List.all pins3 smE) (cond (A2 pins3.length) (cond (List.all (D1 (isE (List.map A6 l6))) D5) (cond (List.all (D1 (isE (List.map A6 l6))) smE) (cond (A2 (List.length (D1 (isE (List.map A6 l6))))) (cond (A2 names8.length) (cond (ltN 0 4294967296) (cond (ok8 (0:Int) (0:Int) (0:Int) (0:Int) (0:Int) (0:Int) (0:Int) (0:Int)) (cond (not (((C5 now0 (List.map B0 pins3) (List.map A6 (D1 (isE (List.map A6 l6)))) (1:Int) (mkH (1:Int) names8 (0:Int) (n8 (0:Int) (0:Int) (0:Int) (0:Int) (0:Int) (0:Int) (0:Int) (0:Int))))).1 != 0)) (k0 false [(Blk.arr false 42 1 [[(SV.str names7)],[(SV.str names8)]]),(Blk.box ((PV.s (SV.int .i64 (1:Int)))::((PV.s (SV.str names7))::((PV.s (SV.int .u32 (0:Int)))::(List.replicate 8 (PV.s (SV.int .u16 (0:Int)))))))),(Blk.box ((PV.s (SV.int .i64 (1:Int)))::((PV.s (SV.str names8))::((PV.s (SV.int .u32 (0:Int)))::(List.replicate 8 (PV.s (SV.int .u16 (0:Int)))))))),(Blk.box [(PV.s (SV.int .i64 n'2)),(PV.s (SV.str s'3)),(PV.s (SV.bool (((C5 now0 (List.map B0 pins3) (List.map A6 (D1 (isE (List.map A6 l6)))) (1:Int) (mkH (1:Int) names7 (0:Int) (n8 (0:Int) (0:Int) (0:Int) (0:Int) (0:Int) (0:Int) (0:Int) (0:Int))))).2).2))])]) (Lu now0 pins3 (D1 (isE (List.map A6 l6))) names7 names8 n'2 s'3 (((C5 now0 (List.map B0 pins3) (List.map A6 (D1 (isE (List.map A6 l6)))) (1:Int) (mkH (1:Int) names7 (0:Int) (n8 (0:Int) (0:Int) (0:Int) (0:Int) (0:Int) (0:Int) (0:Int) (0:Int))))).2).2 (λb'4 H'5=>k0 b'4 H'5))) none) none) none) none) none) none) none) none) none) (Lu now0 pins3 (D1 (isE (List.map A6 l6))) names7 names8 n'2 s'3 (((C5 now0 (List.map B0 pins3) (List.map A6 (D1 (isE (List.map A6 l6)))) (1:Int) (mkH (1:Int) names7 (0:Int) (n8 (0:Int) (0:Int) (0:Int) (0:Int) (0:Int) (0:Int) (0:Int) (0:Int))))).2).2 (λb'6 H'7=>k0 b'6 H'7))) none) none) (Lu now0 pins3 (D1 (isE (List.map A6 l6))) names7 names8 n'2 s'3 (((C5 now0 (List.map B0 pins3) (List.map A6 (D1 (isE (List.map A6 l6)))) (1:Int) (mkH (1:Int) names7 (0:Int) (n8 (0:Int) (0:Int) (0:Int) (0:Int) (0:Int) (0:Int) (0:Int) (0:Int))))).2).2 (λb'8 H'9=>k0 b'8 H'9))))) none) none)) none) none) none) none) none) none) none) none) none) (k0 true [(Blk.arr false 42 1 [[(SV.str names7)],[(SV.str names8)]])])) (cond ((Ew (List.map A6 l6))==0) (k0 true [(Blk.arr false 42 1 [[(SV.str names7)],[(SV.str names8)]])]) (k0 true [(Blk.arr false 42 1 [[(SV.str names7)],[(SV.str names8)]])]))) none) none) none) none) none) none) none) none)) none)) none) none)) none) none
theorem Br7 (b_111111111:Code) (h_lcs_j0:MP (R:=PV × List Blk × σ) lf cl yh s b_111111111) (now0:Int) (pins_z1 pins_t2:Bool) (pins3:LL) (l_z4 l_t5:Bool) (l6:LL) (names7 names8:By):B2 (Ko lf) cl yh (cd [] (S7 [1,1,1,1,1,1,1,1,1] b_111111111 Aq8)) ⟨[pI now0,.s (.sl pins_z1 pins_t2 3 pins3),.s (.sl l_z4 l_t5 2 l6),.agg [pS names7,pS names8]]++tps 110,[],s⟩ (G9 (Ko lf) Tryz.f4)=lcs lf now0 pins_z1 pins_t2 pins3 l_z4 l_t5 l6 names7 names8 (λr0 H1=>some (pB r0,H1,s)):=by
 unfold lcs;exact let K0:=(G9 (Ko lf) Tryz.f4);(Eq.trans (by kernel_rfl) (A0 (A0 (A0 rfl (A0 (A0 (A0 rfl (A0 (A0 rfl (A0 (A0 (A0 (A0 (A0 (A0 (A0 (A0 (A0 (A0 (A0 (A0 (A0 (A0 (A0 (A0 (A0 (A0 (A0 (A8 λn'2=>(A8 λs'3=>(A0 (A0 rfl rfl) (A0 (A0 (A0 rfl (A0 rfl (A0 (A0 (A0 (A0 (A0 (A0 (A0 (A0 (A0 (A0 (A0 (A0 (A0 (A0 rfl ((h_lcs_j0 K0 now0 pins_z1 pins3 l_z4 (D1 (isE (List.map A6 l6))) (not (((C5 now0 (List.map B0 pins3) (List.map A6 (D1 (isE (List.map A6 l6)))) (1:Int) (mkH (1:Int) names8 (0:Int) (n8 (0:Int) (0:Int) (0:Int) (0:Int) (0:Int) (0:Int) (0:Int) (0:Int))))).1 != 0)) names7 names8 n'2 s'3 (((C5 now0 (List.map B0 pins3) (List.map A6 (D1 (isE (List.map A6 l6)))) (1:Int) (mkH (1:Int) names7 (0:Int) (n8 (0:Int) (0:Int) (0:Int) (0:Int) (0:Int) (0:Int) (0:Int) (0:Int))))).2).2).trans (by kernel_rfl))) rfl) rfl) rfl) rfl) rfl) rfl) rfl) rfl) rfl) ((h_lcs_j0 K0 now0 pins_z1 pins3 l_z4 (D1 (isE (List.map A6 l6))) false names7 names8 n'2 s'3 (((C5 now0 (List.map B0 pins3) (List.map A6 (D1 (isE (List.map A6 l6)))) (1:Int) (mkH (1:Int) names7 (0:Int) (n8 (0:Int) (0:Int) (0:Int) (0:Int) (0:Int) (0:Int) (0:Int) (0:Int))))).2).2).trans (by kernel_rfl))) rfl) rfl) ((h_lcs_j0 K0 now0 pins_z1 pins3 l_z4 (D1 (isE (List.map A6 l6))) false names7 names8 n'2 s'3 (((C5 now0 (List.map B0 pins3) (List.map A6 (D1 (isE (List.map A6 l6)))) (1:Int) (mkH (1:Int) names7 (0:Int) (n8 (0:Int) (0:Int) (0:Int) (0:Int) (0:Int) (0:Int) (0:Int) (0:Int))))).2).2).trans (by kernel_rfl))))) rfl) rfl)))) rfl) rfl) rfl) rfl) rfl) rfl) rfl) rfl) rfl) rfl) (A0 rfl rfl)) rfl) rfl) rfl) rfl) rfl) rfl) rfl) rfl)) rfl)) rfl) rfl)) rfl) rfl))
theorem Br8 (d:Nat) (now0 pins_z1 pins_t2 pins3 l_z4 l_t5 l6 names7 names8):evC (Ko lf) (d+1) σ yh 4 [pI now0,.s (.sl pins_z1 pins_t2 3 pins3),.s (.sl l_z4 l_t5 2 l6),.agg [pS names7,pS names8]] [] s=lcs lf now0 pins_z1 pins_t2 pins3 l_z4 l_t5 l6 names7 names8 (λr0 H1=>some (pB r0,H1,s)):=
 (evE (fn:=Tryz.f4) (by kernel_rfl)).trans (Eq.trans (by kernel_rfl) (Br7 lf (evC (Ko lf) d) yh s (cd [1,1,1,1,1,1,1,1,1] Aq8) (Af4 lf (evC (Ko lf) d) yh s) now0 pins_z1 pins_t2 pins3 l_z4 l_t5 l6 names7 names8))
end
theorem SJ {u a:By} (h:E6 u a=true):u.length<=a.length:=by
 obtain ⟨_,_,h3⟩:=N9.1 h
 rcases h3 with rfl | ⟨p,rfl⟩
 ·exact Nat.le_refl _
 ·simp;omega
theorem Ak7 {n:Int} {a b:By} (h:Fb n [a,b]=true):(a.length:Int)<=n/\(b.length:Int)<=n:=by
 unfold Fb at h
 simp only [List.all_cons,List.all_nil,Bool.and_true,Bool.and_eq_true,Bool.not_eq_true',P9,decide_eq_false_iff_not] at h
 omega
theorem Xs (now:Int) (T:List Q7) (L:List Ent) (h:YB):C5 now T L 2 h=noC/\C5 now T L 3 h=noC:=⟨rfl,rfl⟩
theorem Ax0 (now:Int) (tz:Bool) (t:LL) (lz:Bool) (l:LL) (a b:By) (ht:t.all F7=true) (hz:N2 tz t=true) (hl:l.all D5=true) (hlz:N2 lz l=true) :
  Tru (evC (Ko LF) 1 Unit noY 4 [pI now,.s (.sl tz false 3 t),.s (.sl lz false 2 l),.agg [pS a,pS b]] [] ()):=by
 refine Eq.subst (motive:=Tru) (Br8 (σ:=Unit) LF noY () 0 now tz false t lz false l a b).symm ?_
 unfold lcs
 rw [ht,hl]
 simp only [cond_true,show ltI 40 1001=true from rfl,show List.all [[SV.str a],[SV.str b]] isS=true from rfl,show List.map elS [[SV.str a],[SV.str b]]=[a,b] from rfl]
 cases c1:Ay 40 t with
 | false=>exact ⟨_,rfl⟩
 | true=>
 cases c2:Ay 40 l with
 | false=>exact ⟨_,rfl⟩
 | true=>
 cases c3:Fb 400 [a,b] with
 | false=>exact ⟨_,rfl⟩
 | true=>
 rw [Bool.not_true,cond_false,cond_false,cond_false]
 obtain ⟨s1,s2⟩:=DT (by decide) c1
 obtain ⟨s3,s4⟩:=DT (by decide) c2
 obtain ⟨la,lb⟩:=Ak7 c3
 have ga:A2 a.length=true:=I9 (by omega)
 have gb:A2 b.length=true:=I9 (by omega)
 rw [s1,s2,s3,s4,hz,hlz]
 simp only [cond_true,cond_false]
 cases c4:(Ao (1000:Int) (List.map B0 t)==0) with
 | false=>cases (Ew (List.map A6 l)==0)<;>exact ⟨_,rfl⟩
 | true=>
 cases c5:(Ew (List.map A6 l)==0) with
 | false=>exact ⟨_,rfl⟩
 | true=>
 have key:=Bj9 now (List.map B0 t) (isE (List.map A6 l)) a b
 simp only [LM,Aw4 hl s3,CM s4,Nl,ga,gb,cond_true,vl,show ltN 0 4294967296=true from rfl,show ok8 0 0 0 0 0 0 0 0=true from rfl]
 rcases key with ⟨k1,k2⟩ | ⟨k1,k2,k3,k4⟩
 ·rw [k2]
  exact ⟨_,rfl⟩
 ·have hne:((C5 now (List.map B0 t) (isE (List.map A6 l)) 1 (mkH 1 a 0 (n8 0 0 0 0 0 0 0 0))).1==0)=false:=by simpa using k1
  have gu:A2 (C5 now (List.map B0 t) (isE (List.map A6 l)) 1 (mkH 1 a 0 (n8 0 0 0 0 0 0 0 0))).2.1.length=true:=I9 (by have:=SJ k2;omega)
  rw [hne,gu,k2,k3,beq_self_eq_true]
  simp only [cond_true,cond_false,Bool.not_true]
  rw [<-k3]
  have j0:∃ H,∀ k0:Bool->List Blk->Option (PV × List Blk × Unit),Lu now t (D1 (isE (List.map A6 l))) a b (C5 now (List.map B0 t) (isE (List.map A6 l)) 1 (mkH 1 a 0 (n8 0 0 0 0 0 0 0 0))).1 (C5 now (List.map B0 t) (isE (List.map A6 l)) 1 (mkH 1 a 0 (n8 0 0 0 0 0 0 0 0))).2.1 (C5 now (List.map B0 t) (isE (List.map A6 l)) 1 (mkH 1 a 0 (n8 0 0 0 0 0 0 0 0))).2.2 k0=k0 true H:=by
   apply Exists.intro;intro k0
   unfold Lu
   simp only [ht,s1,s2,LM,Aw4 hl s3,CM s4,cond_true,show ltN 7 4294967296=true from rfl,show ltN 0 4294967296=true from rfl,show ok8 0 0 0 0 0 0 0 0=true from rfl,(Xs now _ _ _).1,(Xs now _ _ _).2]
   rfl
  obtain ⟨H,j0⟩:=j0
  simp only [j0]
  cases e:(C5 now (List.map B0 t) (isE (List.map A6 l)) 1 (mkH 1 a 0 (n8 0 0 0 0 0 0 0 0))).2.2 with
  | true=>exact ⟨_,rfl⟩
  | false=>
   cases hab:E6 a b with
   | false=>exact ⟨_,rfl⟩
   | true=>
    have:=k4 e hab
    rw [show ((C5 now (List.map B0 t) (isE (List.map A6 l)) 1 (mkH 1 b 0 (n8 0 0 0 0 0 0 0 0))).1 != 0)=true by simpa using this]
    exact ⟨_,rfl⟩
theorem Bd6 (args:List PV) (h:Ga Tryz.prog [3,22,23,42] args):∃ d Hc,evC (Ko LF) d Unit noY 4 args [] ()=some (.s (.bool true),Hc,()):=by
 obtain ⟨v1,q1,rfl,h1,v2,q2,rfl,h2,v3,q3,rfl,h3,v4',q4,rfl,h4,rfl⟩:=h
 obtain ⟨now,rfl,_⟩:=A68 (k:=.i64) h1 (by kernel_rfl) (by kernel_rfl)
 obtain ⟨tz,t,rfl,ht,hz⟩:=Aq1 h2 (by kernel_rfl) (by kernel_rfl)
 obtain ⟨lz,l,rfl,hl,hlz⟩:=Aq0 h3 (by kernel_rfl) (by kernel_rfl)
 obtain ⟨a,b,rfl⟩:=A69 h4 (by kernel_rfl) (by kernel_rfl)
 exact ⟨1,Ax0 now tz t lz l a b ht hz hl hlz⟩
section
theorem An0:B1 Tryz.prog GX 181 Jl:=λargs ret Hc h=>by
 have:I7 (Jl args)=none:=by unfold Jl Vq;split<;>rfl
 rw [this] at h;cases h
theorem A49:B1 Tryz.prog GX 154 PM:=xf [] (QT LF) FE rfl trivial rfl (by kernel_rfl) follows λargs=>by
 unfold FE;split
 ·rename_i s p;exact λh0=>⟨rfl,rfl,rfl,_,_,(Be5 LF noY () 0 s p).trans (Ag3 s p h0),rfl⟩
 ·trivial
theorem Bv0:B1 Tryz.prog GX 112 Ao4:=xf [] (QN LF) EP rfl ⟨A49,trivial⟩ rfl (by kernel_rfl) follows λargs=>by
 unfold EP;split
 ·rename_i s p;exact λh0=>⟨rfl,rfl,rfl,_,_,(Bc0 LF noY () 0 s p).trans (Ae0 s p h0),rfl⟩
 ·trivial
theorem Bl6:B1 Tryz.prog GX 169 YC:=xf [0,0] (HB LF) Vu rfl ⟨A49,trivial⟩ rfl (by kernel_rfl) follows λargs=>by
 unfold Vu;split
 ·rename_i s p;exact λh0=>⟨rfl,rfl,rfl,_,_,(Aw9 LF noY () 0 s p).trans (TP s p h0),rfl⟩
 ·trivial
theorem Bu9:B1 Tryz.prog GX 130 Ao3:=xf [0,0] (QL LF) EL rfl ⟨Bl6,trivial⟩ rfl (by kernel_rfl) follows λargs=>by
 unfold EL;split
 ·rename_i s p;exact λh0=>⟨rfl,rfl,rfl,_,_,(Ba1 LF noY () 0 s p).trans (Ac5 s p h0),rfl⟩
 ·trivial
theorem A42:B1 Tryz.prog GX 158 KF:=xf [1] (Cg LF) Pv rfl ⟨An0,Bw9,A55,trivial⟩ rfl (by kernel_rfl) follows λargs=>by
 unfold Pv;split
 ·rename_i s p v n;exact λh0=>λh1=>λh2=>λh3=>(let ⟨rr,hH,ee,qq⟩:=MA s p v n h0 h1 h2 h3;⟨rfl,rfl,rfl,rr,hH,(Ad6 LF noY () 0 s p v n).trans ee,qq⟩)
 ·trivial
theorem A56:B1 Tryz.prog GX 117 KI:=xf [1] (Xe LF) Qi rfl ⟨A42,trivial⟩ rfl (by kernel_rfl) follows λargs=>by
 unfold Qi;split
 ·rename_i s p;exact λh0=>λh1=>⟨rfl,rfl,rfl,_,_,(Al2 LF noY () 0 s p).trans (OH s p h0 h1),rfl⟩
 ·trivial
theorem A43:B1 Tryz.prog GX 127 PE:=xf [] (QM LF) EO rfl ⟨Bv0,trivial⟩ rfl (by kernel_rfl) follows λargs=>by
 unfold EO;split
 ·rename_i s;exact λh0=>⟨rfl,rfl,rfl,_,_,(Bb8 LF noY () 0 s).trans (Ad7 s h0),rfl⟩
 ·trivial
theorem A41:B1 Tryz.prog GX 129 PD:=xf [0,0] (P8 LF) EM rfl trivial rfl (by kernel_rfl) follows λargs=>by
 unfold EM;split
 ·rename_i s base;exact λh0=>λh1=>⟨rfl,rfl,rfl,_,_,(Ba7 LF noY () 0 s base).trans (Ac9 s base h0 h1),rfl⟩
 ·trivial
theorem B07:B1 Tryz.prog GX 128 Bn9:=xf [0,0] (As1 LF) PP rfl ⟨A43,A41,trivial⟩ rfl (by kernel_rfl) follows λargs=>by
 unfold PP;split
 ·rename_i s;exact λh0=>⟨rfl,rfl,rfl,_,_,(Bs1 LF noY () 0 s).trans (Ay6 s h0),rfl⟩
 ·trivial
theorem Bm1:B1 Tryz.prog GX 126 YG:=xf [1] (HJ LF) Wa rfl ⟨A56,trivial⟩ rfl (by kernel_rfl) follows λargs=>by
 unfold Wa;split
 ·rename_i s;exact λh0=>⟨rfl,rfl,rfl,_,_,(Ay9 LF noY () 0 s).trans (UP s h0),rfl⟩
 ·trivial
theorem An1:B1 Tryz.prog GX 93 Pz:=xf [] (Rc LF) La rfl ⟨Bm1,A43,B07,A41,trivial⟩ rfl (by kernel_rfl) follows λargs=>by
 unfold La;split
 ·rename_i s;exact λh0=>⟨rfl,rfl,rfl,_,_,(UI LF noY () 0 s).trans (IQ s h0),rfl⟩
 ·trivial
theorem An2:B1 Tryz.prog GX 101 AQ:=xf [] (Y5 LF) Lb rfl trivial rfl (by kernel_rfl) follows λargs=>by
 unfold Lb;split
 ·rename_i s;exact λh0=>⟨rfl,rfl,rfl,_,_,(VM LF noY () 0 s).trans (JD s h0),rfl⟩
 ·trivial
theorem PA:B1 Tryz.prog GX 53 Wm:=xf [1] (Ck LF) Qh rfl trivial rfl (by kernel_rfl) follows λargs=>by
 unfold Qh;split
 ·rename_i s c;exact λh0=>λh1=>(let ⟨rr,hH,ee,qq⟩:=NY s c h0 h1;⟨rfl,rfl,rfl,rr,hH,(Ak3 LF noY () 0 s c).trans ee,qq⟩)
 ·trivial
theorem Bw4:B1 Tryz.prog GX 145 Ap1:=xf [] (Er LF) FU rfl trivial rfl (by kernel_rfl) follows λargs=>by
 unfold FU;split
 ·rename_i b;exact λh0=>⟨rfl,rfl,rfl,_,_,(Bh9 LF noY () 0 b).trans (Ai8 b h0),rfl⟩
 ·trivial
theorem Bw7:B1 Tryz.prog GX 102 Ap4:=xf [0,0] (K9 LF) FZ rfl ⟨Bw4,trivial⟩ rfl (by kernel_rfl) follows λargs=>by
 unfold FZ;split
 ·rename_i s;exact λh0=>⟨rfl,rfl,rfl,_,_,(Bi7 LF noY () 0 s).trans (Aj4 s h0),rfl⟩
 ·trivial
theorem A53:B1 Tryz.prog GX 100 KH:=xf [1] (Xc LF) Qf rfl ⟨PA,trivial⟩ rfl (by kernel_rfl) follows λargs=>by
 unfold Qf;split
 ·rename_i s;exact λh0=>⟨rfl,rfl,rfl,_,_,(Aj7 LF noY () 0 s).trans (NP s h0),rfl⟩
 ·trivial
theorem XW:B1 Tryz.prog GX 68 Wi:=xf [] (Lq LF) Hx rfl ⟨A53,An2,Bw7,trivial⟩ rfl (by kernel_rfl) follows λargs=>by
 unfold Hx;split
 ·rename_i s;exact λh0=>⟨rfl,rfl,rfl,_,_,(NO LF noY () 0 s).trans (AG s h0),rfl⟩
 ·trivial
end
section
theorem OX:B1 Tryz.prog GX 184 Hw:=xf [] (Xb LF) Qc rfl trivial rfl (by kernel_rfl) follows λargs=>by
 unfold Qc;split
 ·rename_i n;exact ⟨rfl,rfl,rfl,_,_,(Ai0 LF noY () 0 n).trans (NE n ),rfl⟩
 ·trivial
theorem OW:B1 Tryz.prog GX 186 Hv:=xf [] (Q8 LF) Qa rfl trivial rfl (by kernel_rfl) follows λargs=>by
 unfold Qa;split
 ·rename_i d c f;exact λh0=>λh1=>λh2=>⟨rfl,rfl,rfl,_,_,(Ah0 LF noY () 0 d c f).trans (NB d c f h0 h1 h2),rfl⟩
 ·trivial
theorem Bw1:B1 Tryz.prog GX 195 PQ:=xf [] (QY LF) FN rfl trivial rfl (by kernel_rfl) follows λargs=>by
 unfold FN;split
 ·rename_i d;exact λh0=>⟨rfl,rfl,rfl,_,_,(Bg4 LF noY () 0 d).trans (Ah8 d h0),rfl⟩
 ·trivial
theorem Bw3:B1 Tryz.prog GX 202 PS:=xf [] (Ep LF) FT rfl trivial rfl (by kernel_rfl) follows λargs=>by
 unfold FT;split
 ·rename_i b;exact λh0=>⟨rfl,rfl,rfl,_,_,(Bh7 LF noY () 0 b).trans (Ai3 b h0),rfl⟩
 ·trivial
end
section
theorem A51:B1 Tryz.prog GX 194 Wb:=by
 refine B1.fix (pf:=FR) _ (O8 (C₀:=RA LF) (K5.ok (l:=[]) rfl trivial) (F0 rfl (by kernel_rfl)) follows ?_)
 intro args ret Hc h
 unfold FR at h
 split at h
 ·rename_i b
  obtain ⟨rfl,rfl⟩:=H3 h
  have e:=(Bh2 LF noY () 0 b).trans (Ai1 b )
  exact ⟨rfl,1,_,[],e,rfl,rfl⟩
 ·cases h
theorem Ab7:Sn Tryz.prog GX 201 Jm:=by
 refine Bp (C₀:=HL LF) (K5.ok (l:=[]) rfl trivial) (F0 rfl (by kernel_rfl)) follows ?_
 intro args H ret Hc h
 unfold Jm at h
 split at h
 ·rename_i k b
  obtain ⟨h0,h⟩:=B4 h
  obtain ⟨h1,h⟩:=B4 h
  obtain ⟨rfl,rfl⟩:=H3 h
  refine ⟨rfl,rfl,λσ yh s=>?_⟩
  have e:=(Az5 LF yh s 0 k b).trans (VB k b h0 h1)
  exact ⟨1,_,e,rfl⟩
 ·cases h
theorem Bx3:Sn Tryz.prog GX 185 FK:=by
 refine Bp (C₀:=Rd LF) (Dn (lx:=[(194,Wb),(195,PQ)]) (ly:=[(201,Jm)]) (ls:=[]) rfl rfl rfl ⟨A51,Bw1,trivial⟩ ⟨Ab7,trivial⟩ trivial) (F0 rfl (by kernel_rfl)) follows ?_
 intro args H ret Hc h
 unfold FK at h
 split at h
 ·rename_i q b z l
  obtain ⟨h0,h⟩:=B4 h
  obtain ⟨h1,h⟩:=B4 h
  obtain ⟨h2,h⟩:=B4 h
  obtain ⟨rfl,rfl⟩:=H3 h
  obtain ⟨x0,x1,e0⟩:=Ah2 q b z l h0 h1 h2
  exact ⟨rfl,rfl,λσ yh s=>⟨1,_,(Bf8 LF yh s 0 q b z l).trans (e0 _ _),rfl⟩⟩
 ·cases h
theorem Bw2:B1 Tryz.prog GX 161 Ap0:=by
 refine B1.fix (pf:=FO) _ (L4 [0,0] (C₀:=L8 LF) (Dn (lx:=[(184,Hw),(186,Hv)]) (ly:=[(185,FK)]) (ls:=[]) rfl rfl rfl ⟨OX,OW,trivial⟩ ⟨Bx3,trivial⟩ trivial) (F0 rfl (by kernel_rfl)) follows ?_)
 intro args ret Hc h
 unfold FO at h
 split at h
 ·rename_i p_z p_t p
  obtain ⟨h0,h⟩:=B4 h
  obtain ⟨rfl,rfl⟩:=H3 h
  obtain ⟨rr,hH,ee,qq⟩:=Bg7 p_z p_t p h0
  exact ⟨rfl,rfl,rfl,1,rr,hH,(Bg5 LF noY () 0 p_z p_t p).trans ee,qq⟩
 ·cases h
end
section
theorem Bx2:Sn Tryz.prog GX 198 EN:=by
 refine Bp (C₀:=Rb LF) (Dn (lx:=[(194,Wb),(202,PS)]) (ly:=[(201,Jm)]) (ls:=[]) rfl rfl rfl ⟨A51,Bw3,trivial⟩ ⟨Ab7,trivial⟩ trivial) (F0 rfl (by kernel_rfl)) follows ?_
 intro args H ret Hc h
 unfold EN at h
 split at h
 ·rename_i rest n i b st z l
  obtain ⟨h0,h⟩:=B4 h
  obtain ⟨h1,h⟩:=B4 h
  obtain ⟨h2,h⟩:=B4 h
  obtain ⟨rfl,rfl⟩:=H3 h
  obtain ⟨x0,e0⟩:=Ad1 rest n i b st z l h0 h1 h2
  exact ⟨rfl,rfl,λσ yh s=>⟨1,_,(Ba8 LF yh s 0 rest n i b st z l).trans (e0 _ _),rfl⟩⟩
 ·cases h
theorem A44:B1 Tryz.prog GX 142 KG:=xf [] (Ch LF) Pw rfl trivial rfl (by kernel_rfl) follows λargs=>by
 unfold Pw;split
 ·rename_i s c;exact λh0=>λh1=>⟨rfl,rfl,rfl,_,_,(Ae5 LF noY () 0 s c).trans (MI s c h0 h1),rfl⟩
 ·trivial
theorem Ab6:B1 Tryz.prog GX 97 Uj:=xf [] (HA LF) Vt rfl ⟨A44,trivial⟩ rfl (by kernel_rfl) follows λargs=>by
 unfold Vt;split
 ·rename_i s c;exact λh0=>λh1=>⟨rfl,rfl,rfl,_,_,(Aw8 LF noY () 0 s c).trans (TM s c h0 h1),rfl⟩
 ·trivial
end
end
section
open Go Go.Proofs Go.Sort
set_option maxRecDepth 100000
theorem Zj {C:Cfg} {σ:Type} {I:σ->(Nat->Prop)->(Nat->Prop)->World->Prop} (hI:HI I) {Γ:Ctx} {Φ:Nat->Prop} {w w':World} {z v1:Bool} {E e1 s1:Nat} {l l' m:LL} {s:σ} (g cap:Nat) (Vs:List Value) (cur:Array Value)
  (hnf:Gm C E=false) (hH:HR Γ [.arr z E 1 l,.arr v1 e1 s1 m] w) (hi:I s Γ.St Φ w) (hd:∀ b g,Γ.nm b=some g->¬ Φ g)
  (hown:Γ.nm 0=some g\/g=w.heap.size) (hgl:g<w'.heap.size) (hoth:∀ k,k<w.heap.size->Γ.nm 0≠some k->w'.heap[k]? = w.heap[k]?) (hsz:w.heap.size<=w'.heap.size) (h1:w'.os=w.os) (h2:w'.tape=w.tape) (h3:w'.output=w.output)
  (hrow:w'.heap[g]? = some (.cells cur E (0,0))) (hE:Els Γ.St w' 1 l' Vs) (hl':l'≠[]) (hc:∀ q,q<Vs.length->cur[q]? = Vs[q]?) (hl:Vs.length<=cur.size) (hcap:l'.length<=cap) (hm:cap<=maxLen) (hcs:cur.size=cap) :
  Ah C I Γ [.arr z E 1 l,.arr v1 e1 s1 m] w Φ (.fl 0) [.arr z E 1 l',.arr v1 e1 s1 m] s (.slice (some ⟨g,0,none⟩) l'.length cap) w':=by
 have hblt:0<[Blk.arr z E 1 l,.arr v1 e1 s1 m].length:=by simp
 have hng:(Γ.re 0 (some g)).nm 0=some g:=by simp [Ctx.re]
 have hnf':¬ Ev C (A3 [Blk.arr z E 1 l,.arr v1 e1 s1 m] 0):=by simp [A3,Blk.shp,Ev,hnf]
 have hk:([Blk.arr z E 1 l,.arr v1 e1 s1 m].map (Blk.kill 0)).set 0 (.arr z E 1 l')=[.arr z E 1 l',.arr v1 e1 s1 m]:=rfl
 have hgS:¬ Γ.St g:=by
  rcases hown with h | h
  ·exact (hH.lt 0 g h).2.2
  ·intro hs
   have:=hH.stlt g hs
   omega
 obtain ⟨q1,q2,q3⟩:=JF (C:=C) (y:=.arr z E 1 l') (ng:=some g) (w':=w') hH hblt hnf' (λk hk=>by
   simp only [Option.some.injEq] at hk;subst hk
   refine ⟨hgl,hgS,λc hc hc2=>?_⟩
   rcases hown with h | h
   ·exact hc (hH.inj c 0 _ hc2 h)
   ·have:=(hH.lt c _ hc2).2.1
    omega)
  (λk hk=>by
   simp only [Option.some.injEq] at hk;subst hk
   rcases hown with h | h
   ·exact .inl h
   ·exact .inr (by omega)) hoth hsz h1 h2 h3
  (BR.els hng hrow hE (by rintro ⟨_,h⟩;exact hl' h) hc hl) rfl
 rw [hk] at q1 q2
 refine ⟨_,Φ,q1.lift Φ,q2,?_,λc hc=>?_,?_,λb g' hb=>?_⟩
 ·refine .fl 0 g z E 1 l'.length cap rfl (λ_ h=>hl' (List.length_eq_zero_iff.1 h)) hng hcap hm ?_
  simp only [World.shape?,hrow,hcs,Nat.mul_one]
 ·simp only [PV.nms,List.mem_singleton] at hc
  subst hc
  simp
 ·refine hI.mono s Γ.St Φ w Γ.St w' hi (λ_ h=>h) (λk hk hp=>(hI.foot _ _ _ _ hi k hp).2 hk) (λk hk=>Nat.lt_of_lt_of_le (hH.stlt k hk) hsz) (λk hk=>?_) hsz h1 h2 h3
  rcases hk with hk | hk
  ·exact hoth k (hH.stlt k hk) (λh=>(hH.lt 0 k h).2.2 hk)
  ·exact hoth k (hI.foot _ _ _ _ hi k hk).1 (λh=>hd 0 k h hk)
 ·simp only [Ctx.re] at hb
  split at hb
  ·simp only [Option.some.injEq] at hb
   subst hb
   rcases hown with h | h
   ·exact hd 0 _ h
   ·intro hp
    have:=(hI.foot _ _ _ _ hi _ hp).1
    omega
  ·exact hd b g' hb
theorem X4 {w:World} {g o e:Nat} {vs:List Value} {cur:Array Value} (hg:w.heap[g]? = some (.cells cur e (0,0))) (hle:o+vs.length<=cur.size) (h1:∀ v∈vs,v.oneCell'=true) :
  (w.setCells g o vs).heap[g]? = some (.cells (F1 cur.toList o vs).toArray e (0,0))/\(∀ k,k≠g->(w.setCells g o vs).heap[k]? = w.heap[k]?)/\(w.setCells g o vs).heap.size=w.heap.size/\(w.setCells g o vs).os=w.os/\(w.setCells g o vs).tape=w.tape/\(w.setCells g o vs).output=w.output:=by
 obtain ⟨w',r1,r2,r3,r4,r5,r6,r7,_⟩:=H5 (P:=Tryz.prog) (o:=o) hg hle h1
 have hcell:∀ j,j<vs.length->∃ v,w.cell? ⟨g,o+0+j,none⟩=some v:=λj hj=>by
  refine ⟨cur[o+j]'(by omega),?_⟩
  simp [World.cell?,hg,Array.getElem?_eq_getElem (show o+j<cur.size by omega)]
 have r:=run_storeCells_cells (P:=Tryz.prog) g o vs 0 w (λj hj=>by obtain ⟨v,h⟩:=hcell j hj;rw [h];rfl) (λj hj=>by simp [World.frozen?,hg]) h1
 rw [r] at r1
 simp only [Nat.add_zero,Result.ok.injEq,true_and] at r1
 rw [r1]
 exact ⟨r2,r3,r4,r5,r6,r7⟩
theorem Xy {St:Nat->Prop} {w:World} {l:LL} {cs:List Value} {i:Nat} {n:Int} (h:Els St w 1 l cs) (hi:i<=l.length):Els St w 1 (Gr l i n) (cs.take i++Value.int .i64 n::cs.drop i):=by
 have hlen:=h.1
 rw [Nat.mul_one] at hlen
 have h1:Els St w 1 (l.take i) (cs.take i):=by
  refine ⟨by rw [List.length_take,List.length_take,hlen,Nat.mul_one],λj hj=>?_⟩
  rw [List.length_take] at hj
  rw [List.getElem_take]
  obtain ⟨a,b⟩:=h.2 j (by omega)
  refine ⟨a,λk hk=>?_⟩
  obtain ⟨U,e,v⟩:=b k hk
  exact ⟨U,by rw [List.getElem?_take_of_lt (by omega)];exact e,v⟩
 have h2:Els St w 1 [[SV.int .i64 n]] [Value.int .i64 n]:=by
  refine ⟨rfl,λj hj=>?_⟩
  have:j=0:=by simpa using hj
  subst this
  refine ⟨rfl,λk hk=>?_⟩
  have:k=0:=by simpa using hk
  subst this
  exact ⟨_,rfl,.int _ _⟩
 have h3:Els St w 1 (l.drop i) (cs.drop i):=by
  refine ⟨by rw [List.length_drop,List.length_drop,hlen,Nat.mul_one],λj hj=>?_⟩
  rw [List.length_drop] at hj
  rw [List.getElem_drop]
  obtain ⟨a,b⟩:=h.2 (i+j) (by omega)
  refine ⟨a,λk hk=>?_⟩
  obtain ⟨U,e,v⟩:=b k hk
  exact ⟨U,by rw [List.getElem?_drop];rw [show i+(j*1+k)=(i+j)*1+k by omega];exact e,v⟩
 have:=(h1.append h2).append h3
 unfold Gr
 simpa using this
theorem Xz (l:LL) (i:Nat) (n:Int) (h:i<=l.length):(Gr l i n).length=l.length+1:=by
 unfold Gr
 rw [List.length_append,List.length_cons,List.length_take,List.length_drop]
 omega
theorem IH (l:LL) (i:Nat) (n:Int):Gr l i n≠[]:=by
 unfold Gr
 simp
theorem Bx4:Sn Tryz.prog GX 199 GI:=by
 intro C hP hG σ I yh yv hI hy args H s ret Hc hpf Γ Φ w Vs hyv hH hg hi hd hc hn
 unfold GI at hpf
 split at hpf
 ·rename_i i z l nn
  obtain ⟨h0,hpf⟩:=B4 hpf
  obtain ⟨h1,hpf⟩:=B4 hpf
  obtain ⟨rfl,rfl⟩:=H3 hpf
  obtain ⟨i0,i1⟩:=I3.1 h0
  obtain ⟨i,rfl⟩:=Int.eq_ofNat_of_zero_le i0
  have hl:=Nat.le_of_ble_eq_true h1
  have hil:i<=l.length:=by
   have:(i:Int)<((l.length+1:Nat):Int):=i1
   omega
  obtain ⟨S,X0,V,rfl,hs,hx,hv⟩:=hc.arr3
  obtain rfl:=hx.inv_int
  have hnf:Gm C 3=false:=by
   unfold Gm Cfg.sh
   rw [hP]
   kernel_rfl
  obtain ⟨g1,cur1,n1,n2,n3,n4,n5⟩:=hH.arr' (b:=1) rfl (by simp)
  have hvs:∃ cap,V = .slice (some ⟨g1,0,none⟩) 1 cap:=by
   cases hv with
   | flv _ e sz h=>simp [A3,Blk.shp] at h
   | fl _ g v e sz n cap h hv' hg' hcap hm hs'=>
    rw [n1] at hg'
    simp only [Option.some.injEq] at hg'
    subst hg'
    simp only [A3,List.getElem?_cons_succ,List.getElem?_cons_zero,Option.map_some,Blk.shp,Option.some.injEq,Shp.arr.injEq] at h
    obtain ⟨_,_,_,h4⟩:=h
    subst h4
    exact ⟨cap,rfl⟩
  obtain ⟨cap1,rfl⟩:=hvs
  obtain ⟨V1,p1,p2⟩:=n5 0 (by simp) 0 (by simp)
  have p3:V1 = .int .i64 nn:=by cases p2;rfl
  subst p3
  have hvcell:∀ j v,[Value.int .i64 nn][j]? = some v->w.cell? ⟨g1,0+j,none⟩=some v:=by
   intro j v hj
   have:j=0:=by
    have:=(List.getElem?_eq_some_iff.1 hj).1
    simpa using this
   subst this
   simp only [List.getElem?_cons_zero,Option.some.injEq] at hj
   subst hj
   simpa [World.cell?,n2] using p1
  have hv1:∀ v∈[Value.int .i64 nn],v.oneCell'=true:=by simp [Value.oneCell']
  rw [Int.toNat_natCast]
  refine Ag (fn:=Tryz.f199) (by kernel_rfl) (by kernel_rfl) (by kernel_rfl) ?_
  have grownEnd:∀ (base:Option Addr) (c:Nat) (cs:List Value),l.length<=c->c<l.length+1->cs.length=l.length->(base=none->l.length=0)->(∀ a,base=some a->∀ j v,cs[j]? = some v->w.cell? (a.add j)=some v)->Els Γ.St w 1 l cs->
    Calls Tryz.prog 199 #[.slice base l.length c,.int .i64 (l.length:Int),.slice (some ⟨g1,0,none⟩) 1 cap1] w λe w'=>∃ V,e = .returned V/\Ah C I Γ [.arr z 3 1 l,.arr false 3 1 [[SV.int .i64 nn]]] w Φ (.fl 0) [.arr z 3 1 (Gr l l.length nn),.arr false 3 1 [[SV.int .i64 nn]]] s V w':=by
   intro base c cs a1 a2 a3 a4 a5 a6
   refine (Any2.slices_Insert_int_end_grow Tryz.lays2_21 base l.length c g1 0 1 cap1 cs [.int .i64 nn] w (by omega) a1 a2 (by omega) a3 rfl a4 a5 hvcell hv1).mono ?_
   rintro e w' ⟨rfl,rfl⟩
   refine ⟨_,rfl,?_⟩
   obtain ⟨hge,hle⟩:=Du (w:=w) (need:=l.length+1) (cap:=c) (e:=3) (by omega)
   have hE:=Xy (n:=nn) a6 (Nat.le_refl l.length)
   have hcsl:cs.take l.length++Value.int .i64 nn::cs.drop l.length=cs++[Value.int .i64 nn]:=by
    rw [List.take_of_length_le (by omega),List.drop_of_length_le (by omega)]
   rw [hcsl] at hE
   have hlen:=Xz l l.length nn (Nat.le_refl _)
   obtain ⟨r1,r2⟩:=Ro (olds:=cs) (Vs:=[Value.int .i64 nn]) (z:=(Value.int .i64 0).cells) (k:=grownCap w (l.length+1) c 3) (n:=l.length) (m:=1) (size:=1) rfl (by omega) rfl hge
   have hrowE:(cs.toArray++[Value.int .i64 nn].toArray)=(cs++[Value.int .i64 nn]).toArray:=by simp
   rw [hrowE] at r1 r2
   have key:∀ (row:Array Value) (kc:Nat),row.size=kc->(∀ q,q<(cs++[Value.int .i64 nn]).length->row[q]? = (cs++[Value.int .i64 nn])[q]?)->l.length+1<=kc->kc<=maxLen->
     Ah C I Γ [.arr z 3 1 l,.arr false 3 1 [[SV.int .i64 nn]]] w Φ (.fl 0) [.arr z 3 1 (Gr l l.length nn),.arr false 3 1 [[SV.int .i64 nn]]] s (.slice (some ⟨w.heap.size,0,none⟩) (l.length+1) kc) (w.drew.alloc (.cells row 3)):=by
    intro row kc b1 b2 b3 b4
    have hwh:(w.drew.alloc (.cells row 3)).heap=w.heap.push (.cells row 3):=rfl
    have:=Zj (C:=C) (w':=w.drew.alloc (.cells row 3)) (l':=Gr l l.length nn) hI w.heap.size kc (cs++[Value.int .i64 nn]) row hnf hH hi hd (.inr rfl) (by rw [hwh];simp) (λk hk _=>F3 hwh hk) (by rw [hwh];simp) rfl rfl rfl (F2 hwh) (hE.mono (λg hg=>F3 hwh (hH.stlt g hg)) (λ_ h=>h)) (IH _ _ _) b2 (by rw [b1,List.length_append,List.length_singleton];omega) (by rw [hlen];exact b3) b4 b1
    rw [hlen] at this
    exact this
   exact key _ _ (r1.trans (Nat.mul_one _)) r2 hge hle
  have two:∀ (row:Array Value) (cs:List Value),cs.length=l.length->i<l.length->l.length+1<=row.size->(∀ q,q<i->row[q]? = cs[q]?)->
    ∀ q,q<(cs.take i++Value.int .i64 nn::cs.drop i).length->(F1 (F1 row.toList i [Value.int .i64 nn]) (i+1) (cs.drop i)).toArray[q]? = (cs.take i++Value.int .i64 nn::cs.drop i)[q]?:=by
   intro row cs a1 a2 a3 a4 q hq
   have hq':q<l.length+1:=by
    rw [List.length_append,List.length_cons,List.length_take,List.length_drop] at hq
    omega
   have ht:(cs.take i).length=i:=by rw [List.length_take];omega
   have hrl:row.toList.length=row.size:=Array.length_toList
   simp only [List.getElem?_toArray]
   rw [J3 _ _ _ (by rw [C1,List.length_drop,hrl];omega),J3 _ _ _ (by rw [List.length_singleton,hrl];omega)]
   by_cases h1:q<i
   ·rw [G7,G7,List.getElem?_append_left (by omega),List.getElem?_take_of_lt h1]
    simpa using a4 q h1
   ·by_cases h2:q=i
    ·subst h2
     rw [G7,if_pos (by rw [List.length_singleton];omega),List.getElem?_append_right (by omega),ht,Nat.sub_self]
     rfl
    ·rw [if_pos (by rw [List.length_drop];omega),List.getElem?_append_right (by omega),ht,show q-i=(q-(i+1))+1 by omega,List.getElem?_cons_succ]
  have grownMid:∀ (g c:Nat) (cs:List Value),i<l.length->l.length<=c->c<l.length+1->cs.length=l.length->(∀ j v,cs[j]? = some v->w.cell? ⟨g,0+j,none⟩=some v)->(∀ v∈cs,v.oneCell'=true)->Els Γ.St w 1 l cs->
    Calls Tryz.prog 199 #[.slice (some ⟨g,0,none⟩) l.length c,.int .i64 (i:Int),.slice (some ⟨g1,0,none⟩) 1 cap1] w λe w'=>∃ V,e = .returned V/\Ah C I Γ [.arr z 3 1 l,.arr false 3 1 [[SV.int .i64 nn]]] w Φ (.fl 0) [.arr z 3 1 (Gr l i nn),.arr false 3 1 [[SV.int .i64 nn]]] s V w':=by
   intro g c cs hi' a1 a2 a3 a4 a5 a6
   refine (Any2.slices_Insert_int_grow Tryz.lays2_21 g 0 l.length c i g1 0 1 cap1 cs [.int .i64 nn] w hi' (by omega) a1 a2 (by omega) a3 rfl a4 hvcell a5 hv1).mono ?_
   rintro e w' ⟨rfl,rfl⟩
   refine ⟨_,rfl,?_⟩
   obtain ⟨hge,hle⟩:=Du (w:=w) (need:=l.length+1) (cap:=c) (e:=3) (by omega)
   have hE:=Xy (n:=nn) a6 hil
   have hlen:=Xz l i nn hil
   have key:∀ (row:Array Value) (kc:Nat),row.size=kc->(∀ q,q<i->row[q]? = cs[q]?)->l.length+1<=kc->kc<=maxLen->
     Ah C I Γ [.arr z 3 1 l,.arr false 3 1 [[SV.int .i64 nn]]] w Φ (.fl 0) [.arr z 3 1 (Gr l i nn),.arr false 3 1 [[SV.int .i64 nn]]] s (.slice (some ⟨w.heap.size,0,none⟩) (l.length+1) kc) (((w.alloc (.cells row 3)).drew.setCells w.heap.size i [Value.int .i64 nn]).drew.setCells w.heap.size (i+1) (cs.drop i)):=by
    intro row kc b1 b2 b3 b4
    have hwh:(w.alloc (.cells row 3)).drew.heap=w.heap.push (.cells row 3):=rfl
    obtain ⟨c1,c2,c3,c4,c5,c6⟩:=X4 (w:=(w.alloc (.cells row 3)).drew) (o:=i) (vs:=[Value.int .i64 nn]) (F2 hwh) (by rw [List.length_singleton];omega) hv1
    generalize hw1:(w.alloc (.cells row 3)).drew.setCells w.heap.size i [Value.int .i64 nn]=w1 at *
    have hs1:(F1 row.toList i [Value.int .i64 nn]).toArray.size=kc:=by rw [List.size_toArray,C1];simpa using b1
    obtain ⟨d1,d2,d3,d4,d5,d6⟩:=X4 (w:=w1.drew) (o:=i+1) (vs:=cs.drop i) c1 (by rw [hs1,List.length_drop];omega) (λv hv=>a5 v (List.mem_of_mem_drop hv))
    have hoth:∀ k,k<w.heap.size->(w1.drew.setCells w.heap.size (i+1) (cs.drop i)).heap[k]? = w.heap[k]?:=λk hk=>by
     rw [d2 k (by omega)]
     exact (c2 k (by omega)).trans (F3 hwh hk)
    have hsz:(w1.drew.setCells w.heap.size (i+1) (cs.drop i)).heap.size=w.heap.size+1:=by
     rw [d3]
     show w1.heap.size=_
     rw [c3,hwh]
     simp
    have:=Zj (C:=C) (w':=w1.drew.setCells w.heap.size (i+1) (cs.drop i)) (l':=Gr l i nn) hI w.heap.size kc (cs.take i++Value.int .i64 nn::cs.drop i) _ hnf hH hi hd (.inr rfl) (by rw [hsz];omega) (λk hk _=>hoth k hk) (by rw [hsz];omega) (d4.trans c4) (d5.trans c5) (d6.trans c6) d1 (hE.mono (λg hg=>hoth g (hH.stlt g hg)) (λ_ h=>h)) (IH _ _ _) (two row cs a3 hi' (by omega) b2) (by rw [List.size_toArray,C1,List.length_append,List.length_cons,List.length_take,List.length_drop];simp only [List.size_toArray,C1] at hs1 ⊢;omega) (by rw [hlen];exact b3) b4 (by rw [List.size_toArray,C1];simpa using hs1)
    rw [hlen] at this
    exact this
   have hz1:(Value.int .i64 0).cells.size=1:=rfl
   have ht:(cs.take i).length=i:=by rw [List.length_take];omega
   refine key _ _ ?_ (λq hq=>?_) hge hle
   ·simp only [Array.size_append,List.size_toArray,size_zeroCells,hz1,Nat.mul_one,ht]
    have:l.length+1<=grownCap w (l.length+1) c 3:=hge
    show i+(l.length+1-i)+(grownCap w (l.length+1) c 3-(l.length+1))=grownCap w (l.length+1) c 3
    omega
   ·rw [Array.getElem?_append_left (by simp only [Array.size_append,List.size_toArray,ht];omega),Array.getElem?_append_left (by simp only [List.size_toArray,ht];omega),List.getElem?_toArray,List.getElem?_take_of_lt hq]
  have two':∀ (row:Array Value) (cs:List Value),cs.length=l.length->i<l.length->l.length+1<=row.size->(∀ q,q<i->row[q]? = cs[q]?)->
    ∀ q,q<(cs.take i++Value.int .i64 nn::cs.drop i).length->(F1 (F1 row.toList (i+1) (cs.drop i)) i [Value.int .i64 nn]).toArray[q]? = (cs.take i++Value.int .i64 nn::cs.drop i)[q]?:=by
   intro row cs a1 a2 a3 a4 q hq
   have hq':q<l.length+1:=by
    rw [List.length_append,List.length_cons,List.length_take,List.length_drop] at hq
    omega
   have ht:(cs.take i).length=i:=by rw [List.length_take];omega
   have hrl:row.toList.length=row.size:=Array.length_toList
   simp only [List.getElem?_toArray]
   rw [J3 _ _ _ (by rw [C1,List.length_singleton,hrl];omega),J3 _ _ _ (by rw [List.length_drop,hrl];omega)]
   by_cases h1:q<i
   ·rw [G7,G7,List.getElem?_append_left (by omega),List.getElem?_take_of_lt h1]
    simpa using a4 q h1
   ·by_cases h2:q=i
    ·subst h2
     rw [if_pos (by rw [List.length_singleton];omega),List.getElem?_append_right (by omega),ht,Nat.sub_self]
     rfl
    ·rw [if_neg (by rw [List.length_singleton];omega),if_pos (by rw [List.length_drop];omega),List.getElem?_append_right (by omega),ht,show q-i=(q-(i+1))+1 by omega,List.getElem?_cons_succ]
  cases hs with
  | flv _ e2 sz2 h'=>
   simp only [A3,List.getElem?_cons_zero,Option.map_some,Blk.shp,Option.some.injEq,Shp.arr.injEq] at h'
   obtain ⟨q1,q2,q3,h4⟩:=h'
   obtain rfl:=List.length_eq_zero_iff.1 h4
   obtain rfl:i=0:=by simpa using hil
   exact grownEnd none 0 [] (by simp) (by simp) rfl (λ_=>rfl) (λa h=>by cases h) ⟨rfl,λj hj=>by simp at hj⟩
  | fl _ g z' e2 sz2 n' cap h' hv' hg' hcap hm hs'=>
   simp only [A3,List.getElem?_cons_zero,Option.map_some,Blk.shp,Option.some.injEq,Shp.arr.injEq] at h'
   obtain ⟨rfl,rfl,rfl,rfl⟩:=h'
   have hne:¬ (z=true/\l=[]):=by rintro ⟨q1,q2⟩;exact hv' q1 (by rw [q2];rfl)
   obtain ⟨g',cur,hg2,hh,hsize,hlens,hels⟩:=hH.arr' (b:=0) rfl hne
   obtain rfl:g=g':=by
    rw [hg'] at hg2
    exact Option.some.inj hg2
   have hcs:cur.size=cap:=by
    have:=hs'
    simp only [World.shape?,hh,Option.some.injEq,Prod.mk.injEq,true_and,Nat.mul_one] at this
    exact this
   rw [Nat.mul_one] at hsize
   have hO:Els Γ.St w 1 l (cur.toList.take l.length):=by
    refine ⟨by rw [List.length_take,Array.length_toList (xs:=cur)];omega,λj hj=>⟨hlens j hj,λk hk=>?_⟩⟩
    obtain ⟨U,e1,u⟩:=hels j hj k hk
    refine ⟨U,?_,u⟩
    have hk':k<1:=by rw [<-hlens j hj];exact hk
    rw [List.getElem?_take,Fq]
    simpa using e1
   have hol:(cur.toList.take l.length).length=l.length:=by rw [List.length_take,Array.length_toList (xs:=cur)];omega
   have hcell:∀ j v,(cur.toList.take l.length)[j]? = some v->w.cell? ⟨g,0+j,none⟩=some v:=by
    intro j v hj
    have hj':j<l.length:=by
     have:=(List.getElem?_eq_some_iff.1 hj).1
     omega
    rw [List.getElem?_take,if_pos hj'] at hj
    simpa [World.cell?,hh] using hj
   have h1c:∀ v∈cur.toList.take l.length,v.oneCell'=true:=by
    intro v hv
    obtain ⟨j,hj,rfl⟩:=List.getElem_of_mem hv
    have hj':j<l.length:=by omega
    obtain ⟨_,u⟩:=hO.2 j hj'
    obtain ⟨U,e1,u2⟩:=u 0 (by rw [hlens j hj'];exact Nat.one_pos)
    rw [Nat.mul_one,Nat.add_zero,List.getElem?_eq_getElem hj] at e1
    cases e1
    exact u2.oneCell
   have hlen:=Xz l i nn hil
   have hE:=Xy (n:=nn) hO hil
   have hsome:∀ j,j<cap->(w.cell? ⟨g,j,none⟩).isSome=true:=by
    intro j hj
    simp only [World.cell?,hh]
    rw [Array.getElem?_eq_getElem (by omega)]
    rfl
   have hfrz:∀ j,w.frozen? ⟨g,j,none⟩=false:=λj=>by simp [World.frozen?,hh]
   have hng1:g1≠g:=λe=>by
    have:=hH.inj 1 0 g (by rw [<-e];exact n1) hg'
    omega
   have hmx:cap<=9223372036854775807:=by
    simp only [maxLen] at hm
    omega
   by_cases hroom:l.length+1<=cap
   ·have key:∀ (w':World) (row:List Value),w'.heap[g]? = some (.cells row.toArray 3 (0,0))->(∀ k,k≠g->w'.heap[k]? = w.heap[k]?)->w'.heap.size=w.heap.size->w'.os=w.os->w'.tape=w.tape->w'.output=w.output->row.length=cap->
      (∀ q,q<((cur.toList.take l.length).take i++Value.int .i64 nn::(cur.toList.take l.length).drop i).length->row.toArray[q]? = ((cur.toList.take l.length).take i++Value.int .i64 nn::(cur.toList.take l.length).drop i)[q]?)->
      Ah C I Γ [.arr z 3 1 l,.arr false 3 1 [[SV.int .i64 nn]]] w Φ (.fl 0) [.arr z 3 1 (Gr l i nn),.arr false 3 1 [[SV.int .i64 nn]]] s (.slice (some ⟨g,0,none⟩) (l.length+1) cap) w':=by
     intro w' row k1 k2 k3 k4 k5 k6 k7 k8
     have hgS:¬ Γ.St g:=(hH.lt 0 g hg').2.2
     have:=Zj (C:=C) (w':=w') (l':=Gr l i nn) hI g cap ((cur.toList.take l.length).take i++Value.int .i64 nn::(cur.toList.take l.length).drop i) row.toArray hnf hH hi hd (.inl hg') (by rw [k3];exact (hH.lt 0 g hg').2.1) (λk hk hk2=>k2 k (λe=>hk2 (e ▸ hg'))) (by omega) k4 k5 k6 k1
      (hE.mono (λk hk=>k2 k (λe=>hgS (e ▸ hk))) (λ_ h=>h)) (IH _ _ _) k8
      (by rw [List.size_toArray,k7,List.length_append,List.length_cons,List.length_take,List.length_drop,hol];omega) (by rw [hlen];exact hroom) hm (by rw [List.size_toArray,k7])
     rw [hlen] at this
     exact this
    by_cases hie:i=l.length
    ·subst hie
     refine (Any2.slices_Insert_int_end_room Tryz.lays2_21 g 0 l.length cap g1 0 1 cap1 [.int .i64 nn] w (by omega) hroom hmx rfl (λj hj=>hsome _ (by omega)) (λj hj=>hfrz _) hvcell hv1).mono ?_
     rintro e w' ⟨rfl,rfl⟩
     refine ⟨_,rfl,?_⟩
     obtain ⟨c1,c2,c3,c4,c5,c6⟩:=X4 (w:=w) (o:=0+l.length) (vs:=[Value.int .i64 nn]) hh (by rw [List.length_singleton];omega) hv1
     refine key _ _ c1 c2 c3 c4 c5 c6 (by rw [C1];simpa using hcs) (λq hq=>?_)
     rw [List.take_of_length_le (by omega),List.drop_of_length_le (by omega)] at hq ⊢
     rw [List.length_append,hol,List.length_singleton] at hq
     simp only [List.getElem?_toArray]
     rw [J3 _ _ _ (by rw [List.length_singleton,Array.length_toList (xs:=cur)];omega)]
     by_cases hq2:q<l.length
     ·rw [G7,List.getElem?_append_left (by omega),List.getElem?_take,if_pos hq2]
     ·obtain rfl:q=l.length:=by omega
      rw [if_pos (by rw [List.length_singleton];omega),List.getElem?_append_right (by omega),hol]
      simp
    ·have hi':i<l.length:=by omega
     refine (Any2.slices_Insert_int_shift Tryz.lays2_21 g 0 l.length cap i g1 0 1 cap1 (cur.toList.take l.length) [.int .i64 nn] w hi' (by omega) hroom hmx hng1 hol rfl hcell (λj hj=>hsome _ (by omega)) (λj hj=>hfrz _) hvcell h1c hv1 3 3 cur1.size cur.size (by simp [World.shape?,n2]) (by simp [World.shape?,hh]) (by omega) (by simp [World.frozen?,n2]) (by simp [World.frozen?,n2])).mono ?_
     rintro e w' ⟨rfl,rfl⟩
     refine ⟨_,rfl,?_⟩
     obtain ⟨c1,c2,c3,c4,c5,c6⟩:=X4 (w:=w.drew) (o:=0+(i+1)) (vs:=(cur.toList.take l.length).drop i) hh (by rw [List.length_drop,hol];omega) (λv hv=>h1c v (List.mem_of_mem_drop hv))
     generalize hw1:w.drew.setCells g (0+(i+1)) ((cur.toList.take l.length).drop i)=w1 at *
     have hs1:(F1 cur.toList (0+(i+1)) ((cur.toList.take l.length).drop i)).toArray.size=cap:=by rw [List.size_toArray,C1];simpa using hcs
     obtain ⟨d1,d2,d3,d4,d5,d6⟩:=X4 (w:=w1) (o:=0+i) (vs:=[Value.int .i64 nn]) c1 (by rw [hs1,List.length_singleton];omega) hv1
     refine key _ _ d1 (λk hk=>(d2 k hk).trans (c2 k hk)) (d3.trans c3) (d4.trans c4) (d5.trans c5) (d6.trans c6) (by rw [C1];simpa using hs1) ?_
     rw [Nat.zero_add,Nat.zero_add]
     exact two' cur _ hol hi' (by omega) (λq hq=>by rw [List.getElem?_take,Fq];simp)
   ·by_cases hie:i=l.length
    ·subst hie
     exact grownEnd (some ⟨g,0,none⟩) cap (cur.toList.take l.length) hcap (by omega) hol (λh=>by cases h) (λa h j v hj=>by
      obtain rfl:=Option.some.inj h
      rw [I1]
      exact hcell j v hj) hO
    ·exact grownMid g cap _ (by omega) hcap (by omega) hol hcell h1c hO
 ·cases hpf
end
section
open Go Go.Proofs
set_option maxRecDepth 100000
section
theorem Bn2:Sn Tryz.prog GX 189 Ui:=by
 refine Bp (C₀:=GZ LF) (Dn (lx:=[(186,Hv),(184,Hw)]) (ly:=[(198,EN),(199,GI)]) (ls:=[]) rfl rfl rfl ⟨OW,OX,trivial⟩ ⟨Bx2,Bx4,trivial⟩ trivial) (F0 rfl (by kernel_rfl)) follows ?_
 intro args H ret Hc h
 unfold Ui at h
 split at h
 ·rename_i rest n i b st z l
  obtain ⟨h0,h⟩:=B4 h
  obtain ⟨h1,h⟩:=B4 h
  obtain ⟨h2,h⟩:=B4 h
  obtain ⟨h3,h⟩:=B4 h
  obtain ⟨h4,h⟩:=B4 h
  obtain ⟨rfl,rfl⟩:=H3 h
  refine ⟨rfl,rfl,λσ yh s=>?_⟩
  have e:=(Av1 LF yh s 0 rest n i b st z l).trans (SW rest n i b st z l h0 h1 h2 h3 h4)
  exact ⟨1,_,e,rfl⟩
 ·cases h
theorem Bw0:B1 Tryz.prog GX 170 Ao9:=by
 refine B1.fix (pf:=FM) _ (L4 [1,0] (C₀:=T1 LF) (Dn (lx:=[(97,Uj)]) (ly:=[(189,Ui)]) (ls:=[]) rfl rfl rfl ⟨Ab6,trivial⟩ ⟨Bn2,trivial⟩ trivial) (F0 rfl (by kernel_rfl)) follows ?_)
 intro args ret Hc h
 unfold FM at h
 split at h
 ·rename_i s
  obtain ⟨h0,h⟩:=B4 h
  obtain ⟨rfl,rfl⟩:=H3 h
  obtain ⟨rr,hH,ee,qq⟩:=Bg2 s h0
  exact ⟨rfl,rfl,rfl,1,rr,hH,(Bg1 LF noY () 0 s).trans ee,qq⟩
 ·cases h
end
end
section
open Go Go.Proofs Go.Sort
set_option maxRecDepth 100000
theorem Bl5:B1 Tryz.prog GX 107 Mj:=λargs ret Hc h=>by
 have:I7 (Mj args)=none:=by unfold Mj KE;split<;>rfl
 rw [this] at h;cases h
theorem Bn3:KD Tryz.prog GX 106 Uk:=by
 refine Tu (C₀:=T8 LF) ((K5.ok (l:=[(107,Mj),(108,GG)]) rfl ⟨Bl5,A55,trivial⟩)) (F0 rfl (by kernel_rfl)) follows ?_
 intro args H L h σ yh s s' hr
 unfold Uk at h
 split at h
 ·rename_i p t n
  simp only [Option.some.injEq,Prod.mk.injEq] at h
  obtain ⟨h1,rfl⟩:=h
  obtain ⟨t',f⟩:=XM (R:=PV × List Blk × σ) yh p t n s s' h1 hr
  exact ⟨1,_,(A17 LF yh 0 p t n s).trans (f _)⟩
 ·cases h
end
section
open Go Go.Proofs
set_option maxRecDepth 100000
section
theorem Bl9:B1 Tryz.prog GX 131 YF:=xf [] (Gf LF) Vy rfl ⟨Bw0,Bw2,trivial⟩ rfl (by kernel_rfl) follows λargs=>by
 unfold Vy;split
 ·rename_i s;exact λh0=>⟨rfl,rfl,rfl,_,_,(Ax7 LF noY () 0 s).trans (UB s h0),rfl⟩
 ·trivial
theorem Bv7:B1 Tryz.prog GX 94 PO:=xf [] (Ln LF) FH rfl ⟨Bu9,Bl9,trivial⟩ rfl (by kernel_rfl) follows λargs=>by
 unfold FH;split
 ·rename_i s;exact λh0=>⟨rfl,rfl,rfl,_,_,(Be8 LF noY () 0 s).trans (Ag5 s h0),rfl⟩
 ·trivial
theorem Bm0:B1 Tryz.prog GX 81 FF:=by
 refine B1.fix (pf:=Vz) _ (O8 (C₀:=HH LF) (K5.ok (l:=[]) rfl trivial) (F0 rfl (by kernel_rfl)) follows ?_)
 intro args ret Hc h
 unfold Vz at h
 split at h
 ·rename_i t p n
  obtain ⟨rfl,rfl⟩:=H3 h
  have e:=(Ax9 LF noY () 0 t p n).trans (UC t p n )
  exact ⟨rfl,1,_,[],e,rfl,rfl⟩
 ·cases h
theorem Bx1:B1 Tryz.prog GX 49 PW:=by
 refine B1.fix (pf:=GJ) _ (O8 (C₀:=RE LF) (K5.ok (l:=[(81,FF)]) rfl ⟨Bm0,trivial⟩) (F0 rfl (by kernel_rfl)) follows ?_)
 intro args ret Hc h
 unfold GJ at h
 split at h
 ·rename_i t p
  obtain ⟨rfl,rfl⟩:=H3 h
  have e:=(Bj6 LF noY () 0 t p).trans (Al1 t p )
  exact ⟨rfl,1,_,[],e,rfl,rfl⟩
 ·cases h
theorem Ab5:B1 Tryz.prog GX 59 AP:=by
 refine B1.fix (pf:=PG) _ (L4 [] (C₀:=Ie LF) (Dn (lx:=[(93,Pz),(49,PW),(94,PO)]) (ly:=[]) (ls:=[(106,Uk)]) rfl rfl rfl ⟨An1,Bx1,Bv7,trivial⟩ trivial ⟨Bn3,trivial⟩) (F0 rfl (by kernel_rfl)) follows ?_)
 intro args ret Hc h
 unfold PG at h
 split at h
 ·rename_i s
  obtain ⟨h0,h⟩:=B4 h
  obtain ⟨rfl,rfl⟩:=H3 h
  obtain ⟨rr,hH,ee,qq⟩:=Br2 s h0
  exact ⟨rfl,rfl,rfl,1,rr,hH,(Br1 LF noY () 0 s).trans ee,qq⟩
 ·cases h
theorem Zs:B1 Tryz.prog GX 39 El:=xf [] (QP LF) ER rfl ⟨Ab5,trivial⟩ rfl (by kernel_rfl) follows λargs=>by
 unfold ER;split
 ·rename_i kd nm v4 a0 a1 a2 a3 a4 a5 a6 a7;exact λh0=>λh1=>λh2=>(let ⟨rr,hH,ee,qq⟩:=Bc3 kd nm v4 a0 a1 a2 a3 a4 a5 a6 a7 h0 h1 h2;⟨rfl,rfl,rfl,rr,hH,(Bc2 LF noY () 0 kd nm v4 a0 a1 a2 a3 a4 a5 a6 a7).trans ee,qq⟩)
 ·trivial
theorem Zr:B1 Tryz.prog GX 41 Ek:=by
 refine B1.fix (pf:=EQ) _ (O8 (C₀:=QO LF) (K5.ok (l:=[]) rfl trivial) (F0 rfl (by kernel_rfl)) follows ?_)
 intro args ret Hc h
 unfold EQ at h
 split at h
 ·rename_i t
  obtain ⟨rfl,rfl⟩:=H3 h
  have e:=(Bc1 LF noY () 0 t).trans (Ae1 t )
  exact ⟨rfl,1,_,[],e,rfl,rfl⟩
 ·cases h
end
section
theorem Bv9:B1 Tryz.prog GX 143 Ao8:=xf [] (QX LF) FJ rfl trivial rfl (by kernel_rfl) follows λargs=>by
 unfold FJ;split
 ·rename_i s;exact ⟨rfl,rfl,rfl,_,_,(Bf2 LF noY () 0 s).trans (Ag7 s ),rfl⟩
 ·trivial
theorem Bv8:B1 Tryz.prog GX 144 Ao7:=xf [] (QW LF) FI rfl trivial rfl (by kernel_rfl) follows λargs=>by
 unfold FI;split
 ·rename_i n;exact ⟨rfl,rfl,rfl,_,_,(Bf0 LF noY () 0 n).trans (Ag6 n ),rfl⟩
 ·trivial
theorem B05:B1 Tryz.prog GX 98 Bn6:=xf [] (Ar9 LF) PC rfl ⟨Bv9,trivial⟩ rfl (by kernel_rfl) follows λargs=>by
 unfold PC;split
 ·rename_i s p;exact ⟨rfl,rfl,rfl,_,_,(Bq0 LF noY () 0 s p).trans (At2 s p ),rfl⟩
 ·trivial
theorem B04:B1 Tryz.prog GX 99 Bn5:=xf [] (Ar8 LF) PB rfl ⟨Bv8,trivial⟩ rfl (by kernel_rfl) follows λargs=>by
 unfold PB;split
 ·rename_i n m;exact ⟨rfl,rfl,rfl,_,_,(Bp9 LF noY () 0 n m).trans (At1 n m ),rfl⟩
 ·trivial
theorem JV:B1 Tryz.prog GX 63 Qb:=xf [] (Lo LF) FL rfl ⟨Ab6,B05,B04,trivial⟩ rfl (by kernel_rfl) follows λargs=>by
 unfold FL;split
 ·rename_i s p;exact λh0=>λh1=>⟨rfl,rfl,rfl,_,_,(Bg0 LF noY () 0 s p).trans (Ah4 s p h0 h1),rfl⟩
 ·trivial
theorem XX:B1 Tryz.prog GX 75 GE:=xf [] (RD LF) GF rfl trivial rfl (by kernel_rfl) follows λargs=>by
 unfold GF;split
 ·rename_i n m;exact ⟨rfl,rfl,rfl,_,_,(Bj3 LF noY () 0 n m).trans (Ak6 n m ),rfl⟩
 ·trivial
theorem A50:B1 Tryz.prog GX 45 FP:=xf [] (QZ LF) FQ rfl ⟨Ab5,trivial⟩ rfl (by kernel_rfl) follows λargs=>by
 unfold FQ;split
 ·rename_i h b e;exact λh0=>(let ⟨rr,hH,ee,qq⟩:=Bh1 h b e h0;⟨rfl,rfl,rfl,rr,hH,(Bh0 LF noY () 0 h b e).trans ee,qq⟩)
 ·trivial
theorem Bv5:B1 Tryz.prog GX 58 Ao6:=xf [] (QS LF) FD rfl ⟨Ab5,trivial⟩ rfl (by kernel_rfl) follows λargs=>by
 unfold FD;split
 ·rename_i h b;exact λh0=>(let ⟨rr,hH,ee,qq⟩:=Be2 h b h0;⟨rfl,rfl,rfl,rr,hH,(Be1 LF noY () 0 h b).trans ee,qq⟩)
 ·trivial
theorem B06:B1 Tryz.prog GX 66 Bn8:=xf [] (As0 LF) PK rfl ⟨JV,trivial⟩ rfl (by kernel_rfl) follows λargs=>by
 unfold PK;split
 ·rename_i h b s;exact λh0=>λh1=>(let ⟨rr,hH,ee,qq⟩:=Bs0 h b s h0 h1;⟨rfl,rfl,rfl,rr,hH,(Br9 LF noY () 0 h b s).trans ee,qq⟩)
 ·trivial
theorem B08:B1 Tryz.prog GX 78 Bo0:=xf [] (As2 LF) PY rfl ⟨JV,trivial⟩ rfl (by kernel_rfl) follows λargs=>by
 unfold PY;split
 ·rename_i h b e s;exact λh0=>λh1=>(let ⟨rr,hH,ee,qq⟩:=Bt4 h b e s h0 h1;⟨rfl,rfl,rfl,rr,hH,(Bt3 LF noY () 0 h b e s).trans ee,qq⟩)
 ·trivial
theorem Bv3:B1 Tryz.prog GX 92 Ao5:=xf [] (Ll LF) EZ rfl ⟨Bv5,trivial⟩ rfl (by kernel_rfl) follows λargs=>by
 unfold EZ;split
 ·rename_i l_z l_t l;exact λh0=>λh1=>λh2=>⟨rfl,rfl,rfl,_,_,(Bd9 LF noY () 0 l_z l_t l).trans (Af8 l_z l_t l h0 h1 h2),rfl⟩
 ·trivial
theorem A48:B1 Tryz.prog GX 57 EX:=xf [] (QR LF) EY rfl ⟨Bv3,trivial⟩ rfl (by kernel_rfl) follows λargs=>by
 unfold EY;split
 ·rename_i l_z l_t l;exact λh0=>λh1=>λh2=>⟨rfl,rfl,rfl,_,_,(Bd5 LF noY () 0 l_z l_t l).trans (Af2 l_z l_t l h0 h1 h2),rfl⟩
 ·trivial
theorem A47:B1 Tryz.prog GX 60 EV:=by
 refine B1.fix (pf:=EW) _ (O8 (C₀:=QQ LF) (K5.ok (l:=[]) rfl trivial) (F0 rfl (by kernel_rfl)) follows ?_)
 intro args ret Hc h
 unfold EW at h
 split at h
 ·rename_i l_z l_t l
  obtain ⟨h0,h⟩:=B4 h
  obtain ⟨h1,h⟩:=B4 h
  obtain ⟨rfl,rfl⟩:=H3 h
  have e:=(Bd3 LF noY () 0 l_z l_t l).trans (Af1 l_z l_t l h0 h1)
  exact ⟨rfl,1,_,[],e,rfl,rfl⟩
 ·cases h
theorem A58:B1 Tryz.prog GX 74 GL:=by
 refine B1.fix (pf:=GM) _ (O8 (C₀:=RF LF) (K5.ok (l:=[]) rfl trivial) (F0 rfl (by kernel_rfl)) follows ?_)
 intro args ret Hc h
 unfold GM at h
 split at h
 ·rename_i l_z l_t l
  obtain ⟨h0,h⟩:=B4 h
  obtain ⟨h1,h⟩:=B4 h
  obtain ⟨rfl,rfl⟩:=H3 h
  have e:=(Bk4 LF noY () 0 l_z l_t l).trans (Al9 l_z l_t l h0 h1)
  exact ⟨rfl,1,_,[],e,rfl,rfl⟩
 ·cases h
theorem A46:B1 Tryz.prog GX 65 PJ:=xf [0,0] (Lk LF) EU rfl ⟨B06,trivial⟩ rfl (by kernel_rfl) follows λargs=>by
 unfold EU;split
 ·rename_i l_z l_t l q;exact λh0=>λh1=>λh2=>λh3=>⟨rfl,rfl,rfl,_,_,(Bd1 LF noY () 0 l_z l_t l q).trans (Af0 l_z l_t l q h0 h1 h2 h3),rfl⟩
 ·trivial
theorem A57:B1 Tryz.prog GX 77 PX:=xf [0,0] (Lr LF) GK rfl ⟨B08,trivial⟩ rfl (by kernel_rfl) follows λargs=>by
 unfold GK;split
 ·rename_i l_z l_t l q;exact λh0=>λh1=>λh2=>λh3=>⟨rfl,rfl,rfl,_,_,(Bk2 LF noY () 0 l_z l_t l q).trans (Al8 l_z l_t l q h0 h1 h2 h3),rfl⟩
 ·trivial
end
end
section
open Go
theorem Sv {x:List By} (h:x≠[]):Rf [] x = -1/\Rf x []=1:=by
 cases x with
 | nil=>exact absurd rfl h
 | cons a r=>exact ⟨rfl,rfl⟩
theorem Nu (s:By):(G3 46 s = -1/\s.drop (G3 46 s+1).toNat=s/\rl s=[s])\/(0<=G3 46 s/\G3 46 s<s.length/\rl s=s.drop (G3 46 s+1).toNat::rl (s.take (G3 46 s).toNat)):=by
 rcases Z3 s with ⟨h1,h2⟩ | ⟨p,q,rfl,h1,h2⟩
 ·exact .inl ⟨h2,by rw [h2];rfl,Zc h1⟩
 ·refine .inr ⟨by omega,by rw [h2];simp;omega,?_⟩
  rw [h2,Zd p h1,show ((p.length:Int)+1).toNat=p.length+1 by omega,Int.toNat_natCast,List.take_left]
  congr 1
  simp
theorem Au2 (a b:By) (i k:Int) (hi:i=G3 46 a) (hk:k=G3 46 b) :
  (T5 (a.drop (i+1).toNat) (b.drop (k+1).toNat)≠0->M3 a b=T5 (a.drop (i+1).toNat) (b.drop (k+1).toNat))/\
  (T5 (a.drop (i+1).toNat) (b.drop (k+1).toNat)=0->(i<0\/k<0)->M3 a b=HX (min i 0) (min k 0))/\
  (T5 (a.drop (i+1).toNat) (b.drop (k+1).toNat)=0->0<=i->0<=k->M3 a b=M3 (a.take i.toNat) (b.take k.toNat)):=by
 have hcmp:∀ x y:By,M3 x y=Rf (rl x) (rl y):=λx y=>rfl
 rw [hcmp,hcmp]
 rcases Nu a with ⟨a1,a2,a3⟩ | ⟨a1,a2,a3⟩<;>rcases Nu b with ⟨b1,b2,b3⟩ | ⟨b1,b2,b3⟩<;>rw [<-hi] at a1 a2<;>rw [<-hk] at b1 b2
 ·rw [a2,b2,a3,b3]
  refine ⟨λh=>M6 h,λh _=>?_,λ_ h=>by omega⟩
  rw [U9 h,M5,a1,b1]
  rfl
 ·rw [<-hk] at b3
  rw [a2,a3,b3]
  refine ⟨λh=>M6 h,λh _=>?_,λ_ h=>by omega⟩
  rw [U9 h,M5,(Sv (Aa2 _)).1,a1,Int.min_eq_right b1]
  rfl
 ·rw [<-hi] at a3
  rw [b2,b3,a3]
  refine ⟨λh=>M6 h,λh _=>?_,λ_ _ h=>by omega⟩
  rw [U9 h,M5,(Sv (Aa2 _)).2,b1,Int.min_eq_right a1]
  rfl
 ·rw [<-hi] at a3
  rw [<-hk] at b3
  rw [a3,b3]
  refine ⟨λh=>M6 h,λh hn=>by omega,λh _ _=>?_⟩
  rw [U9 h,M5]
end
section
open Go Go.Proofs Go.RowKit
set_option maxRecDepth 100000
theorem Bt7 (x:ByteArray) (w:World):Calls Tryz.prog 143 #[.string x] w λe w'=>e = .returned (.bool false)/\w'=w:=by
 go_enter Tryz.func143,Tryz.ntmps143
 go_wp2
 go_ret
 exact ⟨by simp,rfl⟩
theorem Bt6 (x:Int) (w:World):Calls Tryz.prog 144 #[.int .i64 x] w λe w'=>e = .returned (.bool false)/\w'=w:=by
 go_enter Tryz.func144,Tryz.ntmps144
 go_wp2
 go_ret
 exact ⟨by simp,rfl⟩
theorem A98 (x y:Int):HX x y=if x<y then -1 else if y<x then 1 else 0:=by
 unfold HX
 rw [P9,P9]
 by_cases h:x<y<;>by_cases g:y<x<;>simp [h,g]
theorem B01 (x y:Int) (w:World):Calls Tryz.prog 99 #[.int .i64 x,.int .i64 y] w λe w'=>e = .returned (.int .i64 (HX x y))/\w'=w:=by
 have e7:∀ args w,(callFunc 144 args).run Tryz.prog w = .ok (.enter 144 args) w:=enters_of Tryz.func144 (by kernel_rfl) rfl
 go_enter Tryz.func99,Tryz.ntmps99
 go_wp2_with (go_at_fn 144;refine (Bt6 _ _).mono ?_;rintro e w' ⟨rfl,hw⟩;rw [hw])
 all_goals (go_ret;refine ⟨?_,rfl⟩;rw [A98];(repeat' split)<;>first | rfl | (exfalso;omega))
theorem A97 (x y:ByteArray):T5 x.data.toList y.data.toList=if Op.bytesLess x.toList y.toList=true then -1 else if (!x.toList==y.toList)=true then 1 else 0:=by
 rw [ByteArray.toList_eq,ByteArray.toList_eq,<-Mp]
 generalize x.data.toList=a
 generalize y.data.toList=b
 unfold T5
 cases h:bytesLess a b with
 | true=>rfl
 | false=>
  have e:(!a==b)=bytesLess b a:=by
   rw [R7] at h ⊢
   have h:=of_decide_eq_false h
   by_cases hab:a=b
   ·subst hab;simp
   ·have:b<a:=by
     apply Decidable.byContradiction
     intro g
     exact hab (List.le_antisymm (List.not_lt.1 g) (List.not_lt.1 h))
    simp [hab,this]
  rw [e]
  cases bytesLess b a<;>rfl
theorem B02 (x y:ByteArray) (w:World):Calls Tryz.prog 98 #[.string x,.string y] w λe w'=>e = .returned (.int .i64 (T5 x.data.toList y.data.toList))/\w'=w:=by
 have e7:∀ args w,(callFunc 143 args).run Tryz.prog w = .ok (.enter 143 args) w:=enters_of Tryz.func143 (by kernel_rfl) rfl
 go_enter Tryz.func98,Tryz.ntmps98
 go_wp2_with (go_at_fn 143;refine (Bt7 _ _).mono ?_;rintro e w' ⟨rfl,hw⟩;rw [hw])
 all_goals (go_ret;refine ⟨?_,rfl⟩;rw [A97];(try simp [*]))
theorem Aw7 (s:ByteArray):Lib.lastIndexByte s 46=G3 46 s.data.toList:=by
 have hsz:s.size=s.data.toList.length:=by rw [Array.length_toList];rfl
 have hb:∀ j (hj:j<s.data.toList.length),((s.data[j]!).toNat:Int)=46↔s.data.toList[j]=46:=λj hj=>by
  have hj':j<s.data.size:=by simpa using hj
  rw [getElem!_pos s.data j hj',Array.getElem_toList]
  constructor
  ·intro h
   exact UInt8.toNat_inj.1 (show s.data[j].toNat=46 by omega)
  ·intro h
   rw [h]
   rfl
 rcases Lib.lastIndexByte_spec s 46 with ⟨e,hn⟩ | ⟨i,hi,e,hc,hn⟩
 ·rw [e]
  rcases Z3 s.data.toList with ⟨_,h2⟩ | ⟨p,q,h1,h2,h3⟩
  ·exact h2.symm
  ·have hp:p.length<s.data.toList.length:=by rw [h1];simp
   exact absurd ((hb p.length hp).2 (by simp [h1])) (hn p.length (by omega))
 ·rw [e]
  have hi':i<s.data.toList.length:=by omega
  have hci:=(hb i hi').1 hc
  rcases Z3 s.data.toList with ⟨h1,_⟩ | ⟨p,q,h1,h2,h3⟩
  ·exact absurd (hci ▸ List.getElem_mem hi') h1
  ·rw [h3]
   have hp:p.length<s.data.toList.length:=by rw [h1];simp
   have hcp:=(hb p.length hp).2 (by simp [h1])
   by_cases h4:i<p.length
   ·exact absurd hcp (hn p.length h4 (by omega))
   ·by_cases h5:p.length<i
    ·refine absurd ?_ h2
     have:s.data.toList[i]? = some 46:=by rw [List.getElem?_eq_getElem hi',hci]
     rw [h1,List.getElem?_append_right (by omega),show i-p.length=(i-p.length-1)+1 by omega,List.getElem?_cons_succ] at this
     exact List.mem_of_getElem? this
    ·omega
theorem A36 (s:ByteArray) (hs:s.size<4611686018427387904) (w:World):Calls Tryz.prog 97 #[.string s,.int .u8 46] w λe w'=>e = .returned (.int .i64 (G3 46 s.data.toList))/\w'=w:=by
 rw [<-Aw7]
 exact Any.strings_LastIndexByte Tryz.lays149 s 46 hs w
theorem OK (s:ByteArray) (l:Int) (h0:0<=l) (h1:l<=s.size) (w:World):(Instr.sliceAt 9 (.string s) (some (.int .i64 l)) none none).run Tryz.prog w = .ok (.string (s.extract l.toNat s.size)) w:=by
 simp [Instr.sliceAt,Instr.slice,run_underlying Tryz.underlying9,Instr.sliceBounds,run_sliceBound,Result.andThen,h0,h1]
theorem A19 (s:ByteArray) (l:Int) (h0:0<=l) (h1:l<=s.size) (w:World):(Instr.sliceAt 9 (.string s) none (some (.int .i64 l)) none).run Tryz.prog w = .ok (.string (s.extract 0 l.toNat)) w:=by
 simp [Instr.sliceAt,Instr.slice,run_underlying Tryz.underlying9,Instr.sliceBounds,run_sliceBound,Result.andThen,h0,h1]
theorem LP (s:ByteArray) (n:Nat):(s.extract n s.size).data.toList=s.data.toList.drop n:=by
 rw [ByteArray.data_extract,Array.toList_extract]
 simp only [List.extract]
 exact List.take_of_length_le (by rw [List.length_drop,Array.length_toList];exact Nat.le_refl _)
theorem Av4 (s:ByteArray) (n:Nat):(s.extract 0 n).data.toList=s.data.toList.take n:=by
 rw [ByteArray.data_extract,Array.toList_extract]
 simp [List.extract]
set_option maxHeartbeats 4000000 in theorem Bt9 (a b:ByteArray) (ha:a.size<=1000000000) (hb:b.size<=1000000000) (w:World):Calls Tryz.prog 63 #[.string a,.string b] w λe w'=>e = .returned (.int .i64 (M3 a.data.toList b.data.toList))/\∃ q,w'=w.drewN q:=by
 have eL:∀ args w,(callFunc 97 args).run Tryz.prog w = .ok (.enter 97 args) w:=enters_of Tryz.func97 (by kernel_rfl) rfl
 have eS:∀ args w,(callFunc 98 args).run Tryz.prog w = .ok (.enter 98 args) w:=enters_of Tryz.func98 (by kernel_rfl) rfl
 have eI:∀ args w,(callFunc 99 args).run Tryz.prog w = .ok (.enter 99 args) w:=enters_of Tryz.func99 (by kernel_rfl) rfl
 go_enter Tryz.func63,Tryz.ntmps63
 go_wp2
 go_step3
 go_wp2
 try go_step3
 try go_wp2
 go_loopw [0,1] (λva vb wr=>∃ (x y:ByteArray) (n:Nat),va = .string x/\vb = .string y/\x.size<=1000000000/\y.size<=1000000000/\wr=w.drewN n/\Hid (M3 a.data.toList b.data.toList=M3 x.data.toList y.data.toList)) (λva _ _=>match va with | .string x=>x.size | _=>0)
 case atStart=>exact ⟨a,b,0,rfl,rfl,ha,hb,rfl,rfl⟩
 case round=>
  obtain ⟨x,y,n,rfl,rfl,hx,hy,hwr,hh⟩:=hrel
  obtain ⟨i,hi⟩:∃ i,i=G3 46 x.data.toList:=⟨_,rfl⟩
  obtain ⟨k,hk⟩:∃ k,k=G3 46 y.data.toList:=⟨_,rfl⟩
  have hxl:x.data.toList.length=x.size:=by rw [Array.length_toList];rfl
  have hyl:y.data.toList.length=y.size:=by rw [Array.length_toList];rfl
  have hi1:-1<=i/\i<x.size:=by rcases Nu x.data.toList with ⟨h,_⟩ | ⟨h,h',_⟩<;>omega
  have hk1:-1<=k/\k<y.size:=by rcases Nu y.data.toList with ⟨h,_⟩ | ⟨h,h',_⟩<;>omega
  obtain ⟨hi1,hi2⟩:=hi1
  obtain ⟨hk1,hk2⟩:=hk1
  have wx:∀ w,Calls Tryz.prog 97 #[.string x,.int .u8 46] w λe w'=>e = .returned (.int .i64 i)/\w'=w:=by rw [hi];exact A36 x (by omega)
  have wy:∀ w,Calls Tryz.prog 97 #[.string y,.int .u8 46] w λe w'=>e = .returned (.int .i64 k)/\w'=w:=by rw [hk];exact A36 y (by omega)
  have HI:Hid (i=G3 46 x.data.toList):=hi
  have HK:Hid (k=G3 46 y.data.toList):=hk
  have HW:Hid (wr=w.drewN n):=hwr
  clear hi hk hxl hyl hwr
  go_wp2_with (go_at_fn 97;refine (wx _).mono ?_;rintro e w' ⟨rfl,hw⟩;rw [hw])
  clear wx
  go_wp2_with (go_at_fn 97;refine (wy _).mono ?_;rintro e w' ⟨rfl,hw⟩;rw [hw])
  clear wy
  have ei:IntKind.i64.wrap (i+1)=i+1:=by simp [IntKind.wrap,IntKind.bits,IntKind.signed];omega
  have ek:IntKind.i64.wrap (k+1)=k+1:=by simp [IntKind.wrap,IntKind.bits,IntKind.signed];omega
  have s1:=OK x (i+1) (by omega) (by omega)
  have s2:=OK y (k+1) (by omega) (by omega)
  go_quiet (first | (go_at_call 98;exact Calls.quiet_of_same (B02 _ _ _)))
  rw [LP,LP]
  obtain ⟨c,hc⟩:∃ c,c=T5 (x.data.toList.drop (i+1).toNat) (y.data.toList.drop (k+1).toNat):=⟨_,rfl⟩
  rw [<-hc]
  have HC:Hid (c=T5 (x.data.toList.drop (i+1).toNat) (y.data.toList.drop (k+1).toNat)):=hc
  clear hc s1 s2 ei ek eS
  obtain ⟨w2,hw2⟩:∃ w2,w2=wr.drewN nq:=⟨_,rfl⟩
  rw [<-hw2]
  have HW2:Hid (w2=w.drewN (n+nq)):=by rw [hw2,HW.out,World.drewN_drewN];rfl
  clear hw2
  generalize n+nq=n2 at HW2
  have FIN:Hid (∀ v,v=M3 x.data.toList y.data.toList->(Ending.returned (.int .i64 v)=Ending.returned (.int .i64 (M3 a.data.toList b.data.toList))/\∃ m,w2=w.drewN m)):=λv hv=>⟨by rw [hh.out,hv],n2,HW2.out⟩
  have st:=Au2 x.data.toList y.data.toList i k HI.out HK.out
  rw [<-HC.out] at st
  have ST:Hid (_/\_/\_):=st
  clear st
  go_wp2_with (go_at_fn 99;refine (B01 _ _ _).mono ?_;rintro e w' ⟨rfl,hw⟩;rw [hw])
  ·have hc0:c≠0:=by simpa using ‹(c != 0)=true›
   simp only [Exit.noGoto_ret]
   go_ret
   exact FIN.out _ (ST.out.1 hc0).symm
  ·have hc0:c=0:=by simpa using ‹(c != 0)=false›
   simp only [Exit.noGoto_ret]
   go_ret
   exact FIN.out _ (ST.out.2.1 hc0 (by omega)).symm
  ·have hc0:c=0:=by simpa using ‹(c != 0)=false›
   have s3:=A19 x i (by omega) (by omega)
   have s4:=A19 y k (by omega) (by omega)
   have E:=ST.out.2.2 hc0 (by omega) (by omega)
   have HE:Hid (M3 x.data.toList y.data.toList=M3 (x.data.toList.take i.toNat) (y.data.toList.take k.toNat)):=E
   clear E
   go_quiet (fail)
   go_wp2
   go_roundw
   case rel=>exact ⟨x.extract 0 i.toNat,y.extract 0 k.toNat,n2+nq,rfl,rfl,by simp [ByteArray.size_extract];omega,by simp [ByteArray.size_extract];omega,by rw [HW2.out,World.drewN_drewN],by rw [hh.out,HE.out,Av4,Av4];rfl⟩
   case measure=>simp [ByteArray.size_extract];omega
  ·have hc0:c=0:=by simpa using ‹(c != 0)=false›
   simp only [Exit.noGoto_ret]
   go_ret
   exact FIN.out _ (ST.out.2.1 hc0 (by omega)).symm
theorem Aw0 (w:World) (A B:Obj) (n:Nat):((w.alloc A).alloc B).drewN n=Sort.grow (w.drewN n) #[A,B]:=by
 have h:(w.heap.push A).push B=w.heap++#[A,B]:=by apply Array.toList_inj.1;simp
 show ({ (w.drewN n) with heap:=(w.heap.push A).push B }:World) = { (w.drewN n) with heap:=w.heap++#[A,B] }
 rw [h]
theorem Bt8 (a b:ByteArray) (p q:Bool) (ha:a.size<=1000000000) (hb:b.size<=1000000000) (w:World):Calls Tryz.prog 62 #[.agg #[.string a,.bool p],.agg #[.string b,.bool q]] w λe w'=>e = .returned (.int .i64 (M3 a.data.toList b.data.toList))/\∃ n os,w'=Sort.grow (w.drewN n) os:=by
 have eC:∀ args w,(callFunc 63 args).run Tryz.prog w = .ok (.enter 63 args) w:=enters_of Tryz.func63 (by kernel_rfl) rfl
 go_enter Tryz.func62,Tryz.ntmps62
 go_wp2_with (go_at_fn 63;refine (Bt9 _ _ ha hb _).mono ?_;rintro e w' ⟨rfl,m0,hw⟩;rw [hw])
 go_ret
 refine ⟨rfl,m0,#[.cells #[.string a,.bool p] 63,.cells #[.string b,.bool q] 63],?_⟩
 exact Aw0 _ _ _ _
end
end Go.Proofs.YtelhbgonncceeaaGreatDoor.E
namespace Go.Proofs
open Go.Shelf
def Tryz.sortEnt_ren:Go.Shelf.Ren:=⟨fun | 6=>61 | 15=>96 | 14=>95 | 28=>140 | 29=>141 | 20=>132 | 21=>133 | 22=>134 | 23=>135 | 24=>136 | 25=>137 | 26=>138 | 27=>139 | 46=>171 | 47=>172 | 48=>173 | 49=>174 | 50=>175 | 57=>190 | n=>n,fun | 22=>23 | 24=>63 | 25=>103 | 3=>3 | 39=>139 | 0=>0 | 53=>24 | 55=>168 | 4=>4 | 46=>161 | 45=>160 | 50=>84 | 5=>5 | 9=>9 | 66=>182 | 70=>186 | 76=>201 | 77=>202 | n=>n,fun | n=>n⟩
theorem Tryz.sortEnt:Go.Proofs.SlLaysF0.n6 Tryz.prog Tryz.sortEnt_ren:={
 mixed:=by kernel_rfl
 f6:=⟨Tryz.f61.name,by decide,Tryz.func61.trans (congrArg some (by kernel_rfl))⟩
 f14:=⟨Tryz.f95.name,by decide,Tryz.func95.trans (congrArg some (by kernel_rfl))⟩
 f15:=Tryz.func96.trans (congrArg some (by kernel_rfl))
 f20:=⟨Tryz.f132.name,by decide,Tryz.func132.trans (congrArg some (by kernel_rfl))⟩
 f21:=⟨Tryz.f133.name,by decide,Tryz.func133.trans (congrArg some (by kernel_rfl))⟩
 f22:=⟨Tryz.f134.name,by decide,Tryz.func134.trans (congrArg some (by kernel_rfl))⟩
 f23:=⟨Tryz.f135.name,by decide,Tryz.func135.trans (congrArg some (by kernel_rfl))⟩
 f24:=⟨Tryz.f136.name,by decide,Tryz.func136.trans (congrArg some (by kernel_rfl))⟩
 f25:=⟨Tryz.f137.name,by decide,Tryz.func137.trans (congrArg some (by kernel_rfl))⟩
 f26:=⟨Tryz.f138.name,by decide,Tryz.func138.trans (congrArg some (by kernel_rfl))⟩
 f27:=⟨Tryz.f139.name,by decide,Tryz.func139.trans (congrArg some (by kernel_rfl))⟩
 f28:=Tryz.func140.trans (congrArg some (by kernel_rfl))
 f29:=Tryz.func141.trans (congrArg some (by kernel_rfl))
 f46:=⟨Tryz.f171.name,by decide,Tryz.func171.trans (congrArg some (by kernel_rfl))⟩
 f47:=Tryz.func172.trans (congrArg some (by kernel_rfl))
 f48:=Tryz.func173.trans (congrArg some (by kernel_rfl))
 f49:=⟨Tryz.f174.name,by decide,Tryz.func174.trans (congrArg some (by kernel_rfl))⟩
 f50:=⟨Tryz.f175.name,by decide,Tryz.func175.trans (congrArg some (by kernel_rfl))⟩
 f57:=⟨Tryz.f190.name,by decide,Tryz.func190.trans (congrArg some (by kernel_rfl))⟩
 t0:=Tryz.underlying0
 a0:=Tryz.isAgg0
 z0:=Tryz.sizeOf0
 v0:=Tryz.zeroValue0
 t3:=Tryz.underlying3
 a3:=Tryz.isAgg3
 z3:=Tryz.sizeOf3
 v3:=Tryz.zeroValue3
 t4:=Tryz.underlying4
 a4:=Tryz.isAgg4
 z4:=Tryz.sizeOf4
 v4:=Tryz.zeroValue4
 t5:=Tryz.underlying5
 a5:=Tryz.isAgg5
 z5:=Tryz.sizeOf5
 v5:=Tryz.zeroValue5
 t9:=Tryz.underlying9
 a9:=Tryz.isAgg9
 z9:=Tryz.sizeOf9
 v9:=Tryz.zeroValue9
 t22:=Tryz.underlying23
 a22:=Tryz.isAgg23
 z22:=Tryz.sizeOf23
 v22:=Tryz.zeroValue23
 t25:=Tryz.underlying103
 a25:=Tryz.isAgg103
 z25:=Tryz.sizeOf103
 v25:=Tryz.zeroValue103
 t39:=Tryz.underlying139
 a39:=Tryz.isAgg139
 z39:=Tryz.sizeOf139
 v39:=Tryz.zeroValue139
 t45:=Tryz.underlying160
 a45:=Tryz.isAgg160
 z45:=Tryz.sizeOf160
 v45:=Tryz.zeroValue160
 t46:=Tryz.underlying161
 a46:=Tryz.isAgg161
 z46:=Tryz.sizeOf161
 v46:=Tryz.zeroValue161
 t50:=Tryz.underlying84
 a50:=Tryz.isAgg84
 z50:=Tryz.sizeOf84
 v50:=Tryz.zeroValue84
 t53:=Tryz.underlying24
 a53:=Tryz.isAgg24
 z53:=Tryz.sizeOf24
 v53:=Tryz.zeroValue24
 t55:=Tryz.underlying168
 a55:=Tryz.isAgg168
 z55:=Tryz.sizeOf168
 v55:=Tryz.zeroValue168
 t66:=Tryz.underlying182
 a66:=Tryz.isAgg182
 z66:=Tryz.sizeOf182
 v66:=Tryz.zeroValue182
 t70:=Tryz.underlying186
 a70:=Tryz.isAgg186
 z70:=Tryz.sizeOf186
 v70:=Tryz.zeroValue186
 t76:=Tryz.underlying201
 a76:=Tryz.isAgg201
 z76:=Tryz.sizeOf201
 v76:=Tryz.zeroValue201
 t77:=Tryz.underlying202
 a77:=Tryz.isAgg202
 z77:=Tryz.sizeOf202
 v77:=Tryz.zeroValue202 }
end Go.Proofs
namespace Go.Proofs.YtelhbgonncceeaaGreatDoor.E
set_option linter.all false
section
open Go Go.Proofs Go.RowKit Go.Sort
set_option maxRecDepth 100000
abbrev cfE:Ku->Ku->Int:=λx y=>M3 x.1.1 y.1.1
def Nk (e:Ku):List Value:=[.string ⟨e.1.1.toArray⟩,.bool e.1.2]
theorem Au1 (blk off size:Nat) (w:World):CmpLays Tryz.prog 62 #[] Nk 2 cfE blk off size w:=by
 intro m os dk hs x y
 have h:=Bt8 ⟨x.1.1.toArray⟩ ⟨y.1.1.toArray⟩ x.1.2 y.1.2 (by have:=x.2;simpa [ByteArray.size] using this) (by have:=y.2;simpa [ByteArray.size] using this) (sortWorldK Nk 2 w blk off m dk os)
 exact h
theorem Az7 {w:World} {blk e:Nat} {cur:Array Value} {fr:Nat × Nat} (h:w.heap[blk]? = some (.cells cur e fr)) (d:Array Ku) :
  (putRowK Nk 2 w blk 0 d).heap[blk]? = some (.cells (putCells id 0 (flatK Nk 2 d) cur) e fr)/\(∀ k,k≠blk->(putRowK Nk 2 w blk 0 d).heap[k]? = w.heap[k]?):=by
 unfold putRowK putRow mapBlock
 constructor
 ·simp only [Array.getElem?_modify,if_true,h,Option.map_some,onCells]
 ·intro k hk
  simp only [Array.getElem?_modify]
  rw [if_neg (λe=>hk e.symm)]
theorem Bh4 {cur:Array Value} {d:Array Ku} {i j:Nat} (hi:i<d.size) (hj:j<2) (hs:d.size*2<=cur.size):(putCells id 0 (flatK Nk 2 d) cur)[i*2+j]? = some ((Nk d[i]!)[j]!):=by
 have hlt:i*2+j<d.size*2:=by omega
 have hc:i*2+j<cur.size:=by omega
 unfold putCells
 rw [Array.getElem?_mapIdx,Array.getElem?_eq_getElem hc]
 simp only [Option.map_some,size_flatK,Nat.zero_le,true_and,Nat.zero_add,hlt,if_true,Nat.sub_zero,id]
 rw [get_flatK _ _ _ _ hlt,show (i*2+j) / 2=i by omega,show (i*2+j) % 2=j by omega]
theorem Ab8:KJ Tryz.prog 61 Py:=by
 intro St w x X els hx h
 generalize hp:Py x els=pr at h ⊢
 obtain ⟨b,L⟩:=pr
 dsimp only at h ⊢
 unfold Py at hp
 split at hp
 case h_2=>
  obtain ⟨rfl,_⟩:=Prod.mk.inj hp
  cases h
 have eX:X = .func (.func 62) #[] #[]:=by
  cases hx with
  | fn _ _ _ A B As Bs _ hA hB _ _ _ _=>
   have:A = #[]:=by simpa using hA
   have:B = #[]:=by simpa using hB
   simp_all
 subst eX
 obtain ⟨hb,hL⟩:=Prod.mk.inj hp
 rw [<-hb] at h
 simp only [Bool.and_eq_true] at h
 obtain ⟨h0,h1,h2⟩:=h
 have none':∀ (p:Option Addr) cap,K8 Tryz.prog ((callFunc 61 #[.slice p 0 cap,.func (.func 62) #[] #[]]).run Tryz.prog w) λV w'=>V=undef/\w'=w:=λp cap=>
  Ag (fn:=Tryz.f61) (by kernel_rfl) (by kernel_rfl) (by kernel_rfl) ((AnyF.slices_SortFunc_none Tryz.sortEnt p cap _ w).mono λe w' ⟨he,hw⟩=>⟨_,he,rfl,hw⟩)
 obtain ⟨E,rfl⟩:∃ E,els=D1 E:=⟨_,Gk h0⟩
 rw [Nl] at hL
 subst hL
 have hsm:=A16 h1
 have hlen:=(Dg hsm).length_eq
 refine ⟨λhn=>?_,?_⟩
 ·have hE:E=[]:=by
   cases E with
   | nil=>rfl
   | cons a r=>cases hn
  subst hE
  refine (none' none 0).mono λV w' ⟨hv,hw⟩=>⟨hv,?_,hw ▸ I8.refl _⟩
  have:R4 []=[]:=List.length_eq_zero_iff.1 hlen
  rw [this];rfl
 intro g0 cur e sz cap hg hcs hle hcap hst hlt hsz hcells
 by_cases hn:E=[]
 ·subst hn
  have hs0:R4 []=[]:=List.length_eq_zero_iff.1 hlen
  refine (none' _ cap).mono λV w' ⟨hv,hw⟩=>?_
  rw [hw]
  rw [hs0]
  exact ⟨hv,rfl,w,cur,hg,rfl,λ_ _=>rfl,rfl,rfl,rfl,rfl,λi h=>absurd h (Nat.not_lt_zero _),λi h=>absurd h (Nat.not_lt_zero _),I8.refl _⟩
 have hE:0<E.length:=List.length_pos_iff.2 hn
 have hel:∀ i (h:i<(D1 E).length),(D1 E)[i]=Ue (E[i]'(by simpa using h)):=λi h=>by simp [D1]
 have hs2:sz=2:=by
  have:=hsz 0 (by simpa using hE)
  rw [<-this,hel];rfl
 subst hs2
 obtain ⟨d,hd⟩:∃ d,(E.map mkS).toArray=d:=⟨_,rfl⟩
 have dsz:d.size=E.length:=by rw [<-hd];simp
 have dval:∀ i (hi:i<E.length),(d[i]!).1=E[i]:=λi hi=>by
  subst hd
  rw [getElem!_pos _ _ (by simpa using hi)]
  simp only [List.getElem_toArray,List.getElem_map]
  exact ZU (hsm _ (List.getElem_mem hi))
 have hcell:∀ t,t<d.size*2->cur[t]? = some ((Nk d[t / 2]!)[t % 2]!):=λt ht=>by
  have hi:t / 2<E.length:=by omega
  have hi':t / 2<(D1 E).length:=by simpa using hi
  have hl:((D1 E)[t / 2]).length=2:=by rw [hel];rfl
  obtain ⟨V,hV,hs⟩:=hcells (t / 2) hi' (t % 2) (by rw [hl];omega)
  rw [show t / 2*2+t % 2=t by omega] at hV
  have hx:((D1 E)[t / 2][t % 2]'(by rw [hl];omega))=(Ue E[t / 2])[t % 2]'(by show t % 2<2;omega):=by simp only [hel]
  rw [hx] at hs
  rw [hV]
  have dv:=dval _ hi
  rcases (show t % 2=0\/t % 2=1 by omega) with h | h
  ·have hs:VS St w (.str (E[t / 2]).1) V:=by simpa [h,Ue] using hs
   obtain ⟨s,hV2,hs2⟩:=hs.inv_str
   rw [hV2,h]
   show _=some (Value.string ⟨(d[t / 2]!).1.1.toArray⟩)
   rw [dv,<-hs2]
  ·have hs:VS St w (.bool (E[t / 2]).2) V:=by simpa [h,Ue] using hs
   rw [hs.inv_bool,h]
   show _=some (Value.bool (d[t / 2]!).1.2)
   rw [dv]
 have hH:HoldsK Nk 2 w g0 0 d:=λj hj=>by
  have hj':j<d.size*2:=by simpa using hj
  constructor
  ·simp only [World.cell?,hg,Nat.zero_add]
   rw [get_flatK _ _ _ _ hj']
   exact hcell j hj'
  ·simp [World.frozen?,hg]
 have hblk:g0<w.heap.size:=(Array.getElem?_eq_some_iff.1 hg).1
 have eg:∀ args w,(callFunc 62 args).run Tryz.prog w = .ok (.enter 62 args) w:=enters_of Tryz.func62 (by kernel_rfl) rfl
 have hm:cap<=9223372036854775807:=hcap
 have h2:(A2 (D1 E).length)=true:=h2
 have hb:d.size<4611686018427387904:=by
  have:=N8 h2
  rw [D7] at this
  omega
 have hh:=AnyQ.slices_SortFunc_eq Tryz.sortEnt 2 (λw=>by kernel_rfl) (λw=>by kernel_rfl) Nk (λ_=>rfl) (λx v hv=>by simp [Nk] at hv;rcases hv with rfl | rfl<;>rfl) cfE (OL λx:Ku=>x.1.1) 62 #[] g0 0 cap d w eg (Au1 g0 0 d.size w) hH hblk hb
 have hsrt:=Zl d
 have hS:R4 E=(Fe d).toList.map (·.1):=by unfold R4;rw [hd]
 have ssz:(Fe d).size=d.size:=hsrt.2.1
 rw [show (D1 E).length=d.size by rw [D7,dsz]]
 refine Ag (fn:=Tryz.f61) (by kernel_rfl) (by kernel_rfl) (by kernel_rfl) (hh.mono λe' w' ⟨he,n,os,hw⟩=>⟨_,he,rfl,by rw [D7,hlen,dsz],?_⟩)
 have hcur:cur.size=cap*2:=hcs
 have hcap2:d.size*2<=cur.size:=by
  have:(D1 E).length<=cap:=hle
  rw [D7] at this
  omega
 obtain ⟨p1,p2⟩:=Az7 hg (Fe d)
 have hel2:∀ i (h:i<(D1 (R4 E)).length),(D1 (R4 E))[i]=Ue ((Fe d)[i]!).1:=λi h=>by
  have hi:i<(Fe d).size:=by rw [D7,hlen] at h;omega
  rw [getElem!_pos (Fe d) i hi]
  simp [D1,hS]
 refine ⟨putRowK Nk 2 w g0 0 (Fe d),putCells id 0 (flatK Nk 2 (Fe d)) cur,p1,by simp [putCells],p2,by simp [putRowK,putRow,mapBlock],rfl,rfl,rfl,λi h=>by rw [hel2];rfl,λi h j h'=>?_,?_⟩
 ·have hl:((D1 (R4 E))[i]).length=2:=by rw [hel2];rfl
  have hj:j<2:=by rw [<-hl];exact h'
  have hi:i<(Fe d).size:=by rw [D7,hlen] at h;omega
  refine ⟨_,Bh4 hi hj (by omega),?_⟩
  have hx:(D1 (R4 E))[i][j]=(Ue ((Fe d)[i]!).1)[j]'(by show j<2;exact hj):=by simp only [hel2]
  rw [hx]
  rcases (show j=0\/j=1 by omega) with rfl | rfl
  ·have:=VS.str (St:=St) (w:=putRowK Nk 2 w g0 0 (Fe d)) ⟨((Fe d)[i]!).1.1.toArray⟩
   exact this
  ·exact VS.bool _
 ·rw [hw]
  refine ⟨⟨λg hgl=>heap_grow_old _ _ hgl,by simp only [sortWorldK,grow,Array.size_append];exact Nat.le_add_right _ _⟩,rfl,rfl,rfl⟩
end
section
open Go Go.Proofs
set_option maxRecDepth 100000
section
variable {σ R : Type} (lf : Nat) (cl : D4) (yh : Yh σ) (s : σ) (k : Out -> St σ -> Option R)
noncomputable abbrev KO:Code:=D2 Tryz.f18
noncomputable def Ci (lf:Nat):Cfg:=B8 lf [18] (A4 [(2,[0,0,2,0])]) [] (A4 [(6,[4]),(3,[0,0,3]),(5,[4]),(4,[0,0,3,12]),(2,[0,0,3,3]),(1,[0,0,3]),(0,[0,0])]) [] (A4 [(0,[]),(1,[0,0,3])]) (some [4]) [] [] []
noncomputable def Z2 {R:Type} (lf n:Nat) (n0:Int) (l_z1 l_t2:Bool) (l3:LL) (i4:Int) (k0:Unit->Option R) (k1:Unit->Option R):Option R:=match n with | 0=>none | n+1=>cond (ltI i4 (l3.length:Int)) (cond (inR i4 l3.length) (cond (okE Dh l3 (Int.toNat i4) 0) (cond (ltI n0 (↑(List.length (gX l3 (Int.toNat i4) 0)):Int)) (k0 ()) (Z2 lf n n0 l_z1 l_t2 l3 (A1 (i4+1)) k0 k1)) none) none) (k1 ())
theorem IK (n n0 l_z1 l_t2 l3 i4):E4 0 ((Ci lf).keep 2) (bd (Ci lf) cl yh (cd [1,0,1,0,0] KO)) n ⟨gp [(0,pI n0),(0,.s (.sl l_z1 l_t2 1 l3)),(3,pI i4)] 13,[],s⟩ k =
 Z2 lf n n0 l_z1 l_t2 l3 i4 (λ_=>k .ret ⟨gp [(4,pB false)] 14,[],s⟩) (λ_=>k (.exit 0) ⟨gp [] 19,[],s⟩):=by
 induction n generalizing n0 l_z1 l_t2 l3 i4 with
 | zero=>rfl
 | succ n ih=>rw [Z2];simp only [<-ih];kernel_rfl
noncomputable def IJ {R:Type} (lf:Nat) (n0:Int) (l_z1 l_t2:Bool) (l3:LL) (k0:Bool->Option R):Option R:=Z2 lf lf n0 l_z1 l_t2 l3 0 (λ_=>k0 false) (λ_=>k0 true)
theorem Ae7 (d:Nat) (n0 l_z1 l_t2 l3):evC (Ci lf) (d+1) σ yh 18 [pI n0,.s (.sl l_z1 l_t2 1 l3)] [] s=IJ lf n0 l_z1 l_t2 l3 (λr0=>some (pB r0,[],s)):=by
 refine (evE (fn:=Tryz.f18) (by kernel_rfl)).trans ?_
 generalize evC (Ci lf) d=cl
 unfold IJ;exact (Eq.trans (by kernel_rfl) ((IK lf cl yh s (H4 0 (I5 (Ci lf) cl yh (cd [1,1] KO) (G9 (Ci lf) Tryz.f18))) lf n0 l_z1 l_t2 l3 0).trans (by kernel_rfl)))
end
end
section
open Go Go.Proofs Go.Sort
set_option maxRecDepth 100000
theorem Pr:KD Tryz.prog GX 76 V9:=by
 refine Tu (C₀:=Jo LF) ((K5.ok (l:=[(59,AP),(50,PU)]) rfl ⟨Ab5,Bx0,trivial⟩)) (F0 rfl (by kernel_rfl)) follows ?_
 intro args H L h σ yh s s' hr
 unfold V9 at h
 split at h
 ·rename_i t
  simp only [Option.some.injEq,Prod.mk.injEq] at h
  obtain ⟨h1,rfl⟩:=h
  obtain ⟨t',f⟩:=TG (R:=PV × List Blk × σ) yh t s s' h1 hr
  exact ⟨1,_,(Aw1 LF yh 0 t s).trans (f _)⟩
 ·cases h
theorem Te {R:Type} (n:Int) (z t:Bool) (l:List By) (k0 k1:Unit->Option R) (hl:l.length<=1000000000):∀ (r:List By) (i m:Nat),l.drop i=r->r.length<m->Z2 LF m n z t (H6 l) (i:Int) k0 k1=if Fb n r then k1 () else k0 ()
 | [],i,m,h,hm=>by
  obtain ⟨m,rfl⟩:∃ q,m=q+1:=⟨m-1,by simp at hm;omega⟩
  rw [Z2]
  have:l.length<=i:=List.drop_eq_nil_iff.1 h
  rw [E5 (by rw [N0];omega)]
  rfl
 | x::r,i,m,h,hm=>by
  obtain ⟨m,rfl⟩:∃ q,m=q+1:=⟨m-1,by simp at hm;omega⟩
  rw [Z2]
  have hi:i<l.length:=Decidable.byContradiction λhge=>by
   rw [List.drop_eq_nil_iff.2 (by omega)] at h
   cases h
  have hx:l.getD i []=x:=by
   have:=List.drop_eq_getElem_cons hi
   rw [h] at this
   rw [List.getD_eq_getElem?_getD,List.getElem?_eq_getElem hi]
   exact (List.cons.inj this).1.symm
  have hr:l.drop (i+1)=r:=by
   have:=List.drop_eq_getElem_cons hi
   rw [h] at this
   exact (List.cons.inj this).2.symm
  rw [C6 (by rw [N0];omega),cond_true,J6 (by omega) (by rw [N0];omega),cond_true,Int.toNat_natCast,Cy hi,cond_true,Gq,hx]
  have e:Fb n (x::r)=(!(ltI n (x.length:Int))&&Fb n r):=rfl
  rw [e]
  by_cases hc:n<(x.length:Int)
  ·rw [C6 hc];rfl
  ·rw [A7,cond_false,A5,Bool.not_false,Bool.true_and]
   exact Te n z t l k0 k1 hl r (i+1) m hr (by simp at hm;omega)
theorem MN {R:Type} {k0:Bool->Option R} (n:Int) (z t:Bool) (l:LL) (h0:l.all isS=true) (h1:A2 l.length=true):IJ LF n z t l k0=k0 (Fb n (l.map elS)):=by
 have hLF:=E8
 have hl:=N8 h1
 rw [Bj8 h0] at hl ⊢
 generalize l.map elS=q at hl ⊢
 rw [N0] at hl
 unfold IJ
 rw [show (0:Int)=((0:Nat):Int) from rfl,Te n z t q _ _ hl q 0 LF rfl (by omega)]
 have:List.map elS (H6 q)=q:=by
  unfold H6
  rw [List.map_map]
  exact List.map_id'' (λ_=>rfl) q
 rw [this]
 cases Fb n q<;>rfl
end
section
open Go Go.Proofs
set_option maxRecDepth 100000
section
theorem Bv4:B1 Tryz.prog GX 26 PL:=by
 refine B1.fix (pf:=FC) _ (Dm [0,0] [2] (C₀:=Lm LF) (Bo8 (lx:=[(57,EX),(60,EV)]) (ly:=[]) (ls:=[]) (lz:=[(61,Py)]) rfl rfl rfl rfl ⟨A48,A47,trivial⟩ trivial trivial ⟨Ab8,trivial⟩) (F0 rfl (by kernel_rfl)) follows ?_)
 intro args ret Hc h
 unfold FC at h
 split at h
 ·rename_i l_z l_t l
  obtain ⟨h0,h⟩:=B4 h
  obtain ⟨h1,h⟩:=B4 h
  obtain ⟨h2,h⟩:=B4 h
  obtain ⟨h3,h⟩:=B4 h
  rcases Fz h with ⟨h4,h⟩ | ⟨h4,h⟩
  ·skip
   obtain ⟨rfl,rfl⟩:=H3 h
   obtain ⟨rr,hH,ee,qq⟩:=ZM l_z l_t l h0 h1 h2 h3 h4
   exact ⟨rfl,rfl,rfl,1,rr,hH,(ZL LF noY () 0 l_z l_t l).trans ee,qq⟩
  ·skip
   obtain ⟨rfl,rfl⟩:=H3 h
   obtain ⟨rr,hH,ee,qq⟩:=ZM l_z l_t l h0 h1 h2 h3 h4
   exact ⟨rfl,rfl,rfl,1,rr,hH,(ZL LF noY () 0 l_z l_t l).trans ee,qq⟩
 ·cases h
theorem Bm2:B1 Tryz.prog GX 73 FS:=by
 refine B1.fix (pf:=Wd) _ (O8 (C₀:=HM LF) (K5.ok (l:=[]) rfl trivial) (F0 rfl (by kernel_rfl)) follows ?_)
 intro args ret Hc h
 unfold Wd at h
 split at h
 ·rename_i n
  obtain ⟨h0,h⟩:=B4 h
  obtain ⟨rfl,rfl⟩:=H3 h
  have e:=(Az6 LF noY () 0 n).trans (VC n h0)
  exact ⟨rfl,1,_,[],e,rfl,rfl⟩
 ·cases h
theorem A52:B1 Tryz.prog GX 38 Wc:=by
 refine B1.fix (pf:=Qd) _ (Dm [0,0] [3,0] (C₀:=Cj LF) (K5.ok (l:=[(73,FS),(45,FP),(63,Qb),(74,GL)]) rfl ⟨Bm2,A50,JV,A58,trivial⟩) (F0 rfl (by kernel_rfl)) follows ?_)
 intro args ret Hc h
 unfold Qd at h
 split at h
 ·rename_i t_z t_t t cp
  obtain ⟨h0,h⟩:=B4 h
  obtain ⟨h1,h⟩:=B4 h
  obtain ⟨h2,h⟩:=B4 h
  obtain ⟨h3,h⟩:=B4 h
  obtain ⟨h4,h⟩:=B4 h
  rcases Fz h with ⟨h5,h⟩ | ⟨h5,h⟩
  ·skip
   obtain ⟨rfl,rfl⟩:=H3 h
   obtain ⟨rr,hH,ee,qq⟩:=DE t_z t_t t cp h0 h1 h2 h3 h4 h5
   exact ⟨rfl,rfl,rfl,1,rr,hH,(DD LF noY () 0 t_z t_t t cp).trans ee,qq⟩
  ·skip
   obtain ⟨rfl,rfl⟩:=H3 h
   obtain ⟨rr,hH,ee,qq⟩:=DE t_z t_t t cp h0 h1 h2 h3 h4 h5
   exact ⟨rfl,rfl,rfl,1,rr,hH,(DD LF noY () 0 t_z t_t t cp).trans ee,qq⟩
 ·cases h
theorem Bl7:B1 Tryz.prog GX 28 YD:=xf [0,0] (HD LF) Vw rfl ⟨A46,trivial⟩ rfl (by kernel_rfl) follows λargs=>by
 unfold Vw;split
 ·rename_i lz lt l q;exact λh0=>λh1=>λh2=>λh3=>(let ⟨rr,hH,ee,qq⟩:=Ax2 lz lt l q h0 h1 h2 h3;⟨rfl,rfl,rfl,rr,hH,(Ax1 LF noY () 0 lz lt l q).trans ee,qq⟩)
 ·trivial
theorem Bl8:B1 Tryz.prog GX 28 YE:=xf [0,0] (HG LF) Vx rfl trivial rfl (by kernel_rfl) follows λargs=>by
 unfold Vx;split
 ·rename_i q;exact (let ⟨rr,hH,ee,qq⟩:=Ax5 q ; ⟨rfl,rfl,rfl,rr,hH,(Ax4 LF noY () 0 q).trans ee,qq⟩)
 ·trivial
theorem JU:B1 Tryz.prog GX 28 Vv:=(Uh Bl7 Bl8)
theorem Bm8:B1 Tryz.prog GX 44 YL:=xf [0,0] (HP LF) Wn rfl ⟨A57,trivial⟩ rfl (by kernel_rfl) follows λargs=>by
 unfold Wn;split
 ·rename_i tz tt t cp q;exact λh0=>λh1=>λh2=>λh3=>⟨rfl,rfl,rfl,_,_,(A22 LF noY () 0 tz tt t cp q).trans (XO tz tt t cp q h0 h1 h2 h3),rfl⟩
 ·trivial
theorem Bm9:B1 Tryz.prog GX 44 YM:=xf [0,0] (HQ LF) Wo rfl trivial rfl (by kernel_rfl) follows λargs=>by
 unfold Wo;split
 ·rename_i q;exact ⟨rfl,rfl,rfl,_,_,(A24 LF noY () 0 q).trans (XP q ),rfl⟩
 ·trivial
theorem A59:B1 Tryz.prog GX 44 PZ:=(Uh Bm8 Bm9)
theorem Bn0:B1 Tryz.prog GX 20 YN:=xf [0,0] (HS LF) Wq rfl ⟨A59,trivial⟩ rfl (by kernel_rfl) follows λargs=>by
 unfold Wq;split
 ·rename_i tz tt t cp q;exact λh0=>λh1=>λh2=>λh3=>(let ⟨rr,hH,ee,qq⟩:=A26 tz tt t cp q h0 h1 h2 h3;⟨rfl,rfl,rfl,rr,hH,(A25 LF noY () 0 tz tt t cp q).trans ee,qq⟩)
 ·trivial
theorem Bn1:B1 Tryz.prog GX 20 YO:=xf [0,0] (HT LF) Wr rfl ⟨A59,trivial⟩ rfl (by kernel_rfl) follows λargs=>by
 unfold Wr;split
 ·rename_i q;exact (let ⟨rr,hH,ee,qq⟩:=A29 q ; ⟨rfl,rfl,rfl,rr,hH,(A28 LF noY () 0 q).trans ee,qq⟩)
 ·trivial
theorem JW:B1 Tryz.prog GX 20 Wp:=(Uh Bn0 Bn1)
theorem Bu1:B1 Tryz.prog GX 40 An5:=xf [0,0] (En LF) ED rfl ⟨JW,XX,JU,trivial⟩ rfl (by kernel_rfl) follows λargs=>by
 unfold ED;split
 ·rename_i now tz tt t cp lz lt l u ex;exact λh0=>λh1=>λh2=>λh3=>λh4=>λh5=>λh6=>(let ⟨rr,hH,ee,qq⟩:=A74 now tz tt t cp lz lt l u ex h0 h1 h2 h3 h4 h5 h6;⟨rfl,rfl,rfl,rr,hH,(A73 LF noY () 0 now tz tt t cp lz lt l u ex).trans ee,qq⟩)
 ·trivial
theorem Bu2:B1 Tryz.prog GX 40 An6:=xf [0,0] (QJ LF) EE rfl ⟨JW,JU,trivial⟩ rfl (by kernel_rfl) follows λargs=>by
 unfold EE;split
 ·rename_i now lz lt l u ex;exact λh0=>λh1=>λh2=>λh3=>(let ⟨rr,hH,ee,qq⟩:=A77 now lz lt l u ex h0 h1 h2 h3;⟨rfl,rfl,rfl,rr,hH,(A76 LF noY () 0 now lz lt l u ex).trans ee,qq⟩)
 ·trivial
theorem Bu3:B1 Tryz.prog GX 40 An7:=xf [0,0] (Eo LF) EF rfl ⟨JW,XX,JU,trivial⟩ rfl (by kernel_rfl) follows λargs=>by
 unfold EF;split
 ·rename_i now tz tt t cp u ex;exact λh0=>λh1=>λh2=>λh3=>(let ⟨rr,hH,ee,qq⟩:=A80 now tz tt t cp u ex h0 h1 h2 h3;⟨rfl,rfl,rfl,rr,hH,(A79 LF noY () 0 now tz tt t cp u ex).trans ee,qq⟩)
 ·trivial
theorem Bu4:B1 Tryz.prog GX 40 An8:=xf [0,0] (QK LF) EG rfl ⟨JW,JU,trivial⟩ rfl (by kernel_rfl) follows λargs=>by
 unfold EG;split
 ·rename_i now u ex;exact λh0=>(let ⟨rr,hH,ee,qq⟩:=A83 now u ex h0;⟨rfl,rfl,rfl,rr,hH,(A82 LF noY () 0 now u ex).trans ee,qq⟩)
 ·trivial
theorem Ab4:B1 Tryz.prog GX 40 Mi:=(Uh Bu1 (Uh Bu2 (Uh Bu3 Bu4)))
theorem Bu5:B1 Tryz.prog GX 15 An9:=by
 refine B1.fix (pf:=EH) _ (L4 [] (C₀:=Cc LF) (Dn (lx:=[(39,El),(40,Mi),(41,Ek)]) (ly:=[]) (ls:=[(76,V9)]) rfl rfl rfl ⟨Zs,Ab4,Zr,trivial⟩ trivial ⟨Pr,trivial⟩) (F0 rfl (by kernel_rfl)) follows ?_)
 intro args ret Hc h
 unfold EH at h
 split at h
 ·rename_i now tz tt t cp lz lt l kd nm v4 a0 a1 a2 a3 a4 a5 a6 a7
  obtain ⟨h0,h⟩:=B4 h
  obtain ⟨h1,h⟩:=B4 h
  obtain ⟨h2,h⟩:=B4 h
  obtain ⟨h3,h⟩:=B4 h
  obtain ⟨h4,h⟩:=B4 h
  obtain ⟨h5,h⟩:=B4 h
  obtain ⟨h6,h⟩:=B4 h
  obtain ⟨h7,h⟩:=B4 h
  obtain ⟨h8,h⟩:=B4 h
  obtain ⟨rfl,rfl⟩:=H3 h
  obtain ⟨rr,hH,ee,qq⟩:=A87 now tz tt t cp lz lt l kd nm v4 a0 a1 a2 a3 a4 a5 a6 a7 h0 h1 h2 h3 h4 h5 h6 h7 h8
  exact ⟨rfl,rfl,rfl,1,rr,hH,(A86 LF noY () 0 now tz tt t cp lz lt l kd nm v4 a0 a1 a2 a3 a4 a5 a6 a7).trans ee,qq⟩
 ·cases h
theorem Bu6:B1 Tryz.prog GX 15 Ao0:=by
 refine B1.fix (pf:=EI) _ (L4 [] (C₀:=Cd LF) (Dn (lx:=[(39,El),(40,Mi),(41,Ek)]) (ly:=[]) (ls:=[(76,V9)]) rfl rfl rfl ⟨Zs,Ab4,Zr,trivial⟩ trivial ⟨Pr,trivial⟩) (F0 rfl (by kernel_rfl)) follows ?_)
 intro args ret Hc h
 unfold EI at h
 split at h
 ·rename_i now lz lt l kd nm v4 a0 a1 a2 a3 a4 a5 a6 a7
  obtain ⟨h0,h⟩:=B4 h
  obtain ⟨h1,h⟩:=B4 h
  obtain ⟨h2,h⟩:=B4 h
  obtain ⟨h3,h⟩:=B4 h
  obtain ⟨h4,h⟩:=B4 h
  obtain ⟨h5,h⟩:=B4 h
  obtain ⟨rfl,rfl⟩:=H3 h
  obtain ⟨rr,hH,ee,qq⟩:=A90 now lz lt l kd nm v4 a0 a1 a2 a3 a4 a5 a6 a7 h0 h1 h2 h3 h4 h5
  exact ⟨rfl,rfl,rfl,1,rr,hH,(A89 LF noY () 0 now lz lt l kd nm v4 a0 a1 a2 a3 a4 a5 a6 a7).trans ee,qq⟩
 ·cases h
theorem Bu7:B1 Tryz.prog GX 15 Ao1:=by
 refine B1.fix (pf:=EJ) _ (L4 [] (C₀:=Ce LF) (Dn (lx:=[(39,El),(40,Mi),(41,Ek)]) (ly:=[]) (ls:=[(76,V9)]) rfl rfl rfl ⟨Zs,Ab4,Zr,trivial⟩ trivial ⟨Pr,trivial⟩) (F0 rfl (by kernel_rfl)) follows ?_)
 intro args ret Hc h
 unfold EJ at h
 split at h
 ·rename_i now tz tt t cp kd nm v4 a0 a1 a2 a3 a4 a5 a6 a7
  obtain ⟨h0,h⟩:=B4 h
  obtain ⟨h1,h⟩:=B4 h
  obtain ⟨h2,h⟩:=B4 h
  obtain ⟨h3,h⟩:=B4 h
  obtain ⟨h4,h⟩:=B4 h
  obtain ⟨h5,h⟩:=B4 h
  obtain ⟨rfl,rfl⟩:=H3 h
  obtain ⟨rr,hH,ee,qq⟩:=A93 now tz tt t cp kd nm v4 a0 a1 a2 a3 a4 a5 a6 a7 h0 h1 h2 h3 h4 h5
  exact ⟨rfl,rfl,rfl,1,rr,hH,(A92 LF noY () 0 now tz tt t cp kd nm v4 a0 a1 a2 a3 a4 a5 a6 a7).trans ee,qq⟩
 ·cases h
theorem Bu8:B1 Tryz.prog GX 15 Ao2:=by
 refine B1.fix (pf:=EK) _ (L4 [] (C₀:=Cf LF) (Dn (lx:=[(39,El),(40,Mi),(41,Ek)]) (ly:=[]) (ls:=[(76,V9)]) rfl rfl rfl ⟨Zs,Ab4,Zr,trivial⟩ trivial ⟨Pr,trivial⟩) (F0 rfl (by kernel_rfl)) follows ?_)
 intro args ret Hc h
 unfold EK at h
 split at h
 ·rename_i now kd nm v4 a0 a1 a2 a3 a4 a5 a6 a7
  obtain ⟨h0,h⟩:=B4 h
  obtain ⟨h1,h⟩:=B4 h
  obtain ⟨h2,h⟩:=B4 h
  obtain ⟨rfl,rfl⟩:=H3 h
  obtain ⟨rr,hH,ee,qq⟩:=A96 now kd nm v4 a0 a1 a2 a3 a4 a5 a6 a7 h0 h1 h2
  exact ⟨rfl,rfl,rfl,1,rr,hH,(A95 LF noY () 0 now kd nm v4 a0 a1 a2 a3 a4 a5 a6 a7).trans ee,qq⟩
 ·cases h
theorem OU:B1 Tryz.prog GX 15 Vo:=(Uh Bu5 (Uh Bu6 (Uh Bu7 Bu8)))
theorem Am6:B1 Tryz.prog GX 17 AL:=xf [] (Qx LF) Kw rfl ⟨OU,trivial⟩ rfl (by kernel_rfl) follows λargs=>by
 unfold Kw;split
 ·rename_i now tz tt t cp lz lt l kd nm v4 a0 a1 a2 a3 a4 a5 a6 a7;exact λh0=>λh1=>λh2=>λh3=>λh4=>λh5=>λh6=>λh7=>λh8=>(let ⟨rr,hH,ee,qq⟩:=RW now tz tt t cp lz lt l kd nm v4 a0 a1 a2 a3 a4 a5 a6 a7 h0 h1 h2 h3 h4 h5 h6 h7 h8;⟨rfl,rfl,rfl,rr,hH,(RV LF noY () 0 now tz tt t cp lz lt l kd nm v4 a0 a1 a2 a3 a4 a5 a6 a7).trans ee,qq⟩)
 ·trivial
theorem Am7:B1 Tryz.prog GX 17 AM:=xf [] (Qy LF) Kx rfl ⟨OU,trivial⟩ rfl (by kernel_rfl) follows λargs=>by
 unfold Kx;split
 ·rename_i now lz lt l kd nm v4 a0 a1 a2 a3 a4 a5 a6 a7;exact λh0=>λh1=>λh2=>λh3=>λh4=>λh5=>(let ⟨rr,hH,ee,qq⟩:=RY now lz lt l kd nm v4 a0 a1 a2 a3 a4 a5 a6 a7 h0 h1 h2 h3 h4 h5;⟨rfl,rfl,rfl,rr,hH,(RX LF noY () 0 now lz lt l kd nm v4 a0 a1 a2 a3 a4 a5 a6 a7).trans ee,qq⟩)
 ·trivial
theorem Am8:B1 Tryz.prog GX 17 AN:=xf [] (Qz LF) Ky rfl ⟨OU,trivial⟩ rfl (by kernel_rfl) follows λargs=>by
 unfold Ky;split
 ·rename_i now tz tt t cp kd nm v4 a0 a1 a2 a3 a4 a5 a6 a7;exact λh0=>λh1=>λh2=>λh3=>λh4=>λh5=>(let ⟨rr,hH,ee,qq⟩:=SC now tz tt t cp kd nm v4 a0 a1 a2 a3 a4 a5 a6 a7 h0 h1 h2 h3 h4 h5;⟨rfl,rfl,rfl,rr,hH,(RZ LF noY () 0 now tz tt t cp kd nm v4 a0 a1 a2 a3 a4 a5 a6 a7).trans ee,qq⟩)
 ·trivial
theorem Am9:B1 Tryz.prog GX 17 AO:=xf [] (Ra LF) Kz rfl ⟨OU,trivial⟩ rfl (by kernel_rfl) follows λargs=>by
 unfold Kz;split
 ·rename_i now kd nm v4 a0 a1 a2 a3 a4 a5 a6 a7;exact λh0=>λh1=>λh2=>(let ⟨rr,hH,ee,qq⟩:=SE now kd nm v4 a0 a1 a2 a3 a4 a5 a6 a7 h0 h1 h2;⟨rfl,rfl,rfl,rr,hH,(SD LF noY () 0 now kd nm v4 a0 a1 a2 a3 a4 a5 a6 a7).trans ee,qq⟩)
 ·trivial
theorem A40:B1 Tryz.prog GX 17 Vp:=(Uh Am6 (Uh Am7 (Uh Am8 Am9)))
end
section
variable {σ R : Type} (lf : Nat) (cl : D4) (yh : Yh σ) (s : σ) (k : Out -> St σ -> Option R)
noncomputable def Xd (lf:Nat):Cfg:=B8 lf [165] (A4 []) [] (A4 [(1,[2]),(0,[0])]) [] (A4 []) (some [2]) [] [] []
noncomputable def JJ {R:Type} (lf:Nat) (n0:Int) (k0:Bool->Option R):Option R:=cond (not (ltI n0 0)) (cond (not (ltI 1114111 n0)) (cond (ltI n0 55296) (k0 true) (k0 (ltI 57343 n0))) (k0 false)) (k0 false)
theorem Aj8 (d:Nat) (n0):evC (Xd lf) (d+1) σ yh 165 [pI n0] [] s=JJ lf n0 (λr0=>some (pB r0,[],s)):=by
 refine (evE (fn:=Tryz.f165) (by kernel_rfl)).trans ?_
 generalize evC (Xd lf) d=cl
 unfold JJ;kernel_rfl
noncomputable abbrev Ic:Code:=D2 Tryz.f168
noncomputable def Q9 (lf:Nat):Cfg:=B8 lf [168] (A4 [(6,[0,5,0])]) [] (A4 [(9,[6]),(8,[0,6]),(7,[0,6]),(6,[0,6,11]),(5,[0,6]),(4,[0]),(2,[0,0]),(3,[0,0]),(1,[0,0,6]),(0,[0,0,0])]) [] (A4 [(0,[0,6]),(1,[0,6])]) (some [6]) [] [] []
noncomputable def Bz {R:Type} (lf n:Nat) (delta0 kk1:Int) (k0:Int->Int->Option R):Option R:=match n with | 0=>none | n+1=>cond (ltI 455 delta0) (vl (A1 (Int.tdiv delta0 (35:Int))) λn'6=>vl (A1 (kk1+36)) λn'7=>Bz lf n n'6 n'7 k0) (k0 delta0 kk1)
theorem JA (n delta0 kk1):E4 0 ((Q9 lf).keep 6) (bd (Q9 lf) cl yh (cd [1,1,1,1,0,0,0] Ic)) n ⟨gp [(0,pI delta0),(6,pI kk1)] 23,[],s⟩ k =
 Bz lf n delta0 kk1 (λdelta0 kk1=>k (.exit 0) ⟨gp [(0,pI delta0),(6,pI kk1)] 23,[],s⟩):=by
 induction n generalizing delta0 kk1 with
 | zero=>rfl
 | succ n ih=>rw [Bz];simp only [<-ih];kernel_rfl
noncomputable def Bx {R:Type} (lf:Nat) (delta0 n1:Int) (k0:Int->Option R):Option R:=cond (n1 != 0) (vl (A1 (Int.tdiv delta0 n1)) λn'5=>Bz lf lf (A1 (delta0+n'5)) 0 (λdelta'8 kk'9=>vl (A1 ((36:Int)*delta'8)) λn'10=>vl (A1 (delta'8+38)) λn'11=>cond (n'11 != 0) (vl (A1 (Int.tdiv n'10 n'11)) λn'12=>k0 (A1 (kk'9+n'12))) none)) none
abbrev To (b:Code):Prop:=∀ (k:Out->St σ->Option R) delta0 n1,B2 (Q9 lf) cl yh b ⟨gp [(0,pI delta0),(0,pI n1)] 29,[],s⟩ k=Bx lf delta0 n1 (λn0=>k .ret ⟨gp [(6,pI n0)] 24,[],s⟩)
theorem IZ:To (R:=R) lf cl yh s (cd [1,1] Ic):=by
 intro k delta0 n1;unfold Bx;exact (Eq.trans (by kernel_rfl) (A0 (A8 λn'5=>((JA lf cl yh s (H4 0 (I5 (Q9 lf) cl yh (cd [1,1,1,1,1] Ic) k)) lf (A1 (delta0+n'5)) 0).trans (by kernel_rfl))) rfl))
noncomputable def Yy {R:Type} (lf:Nat) (delta0 n1:Int) (first2:Bool) (k0:Int->Option R):Option R:=cond first2 (vl (A1 (Int.tdiv delta0 (700:Int))) λn'2=>Bx lf n'2 n1 (λn'13=>k0 n'13)) (vl (A1 (Int.tdiv delta0 (2:Int))) λn'3=>Bx lf n'3 n1 (λn'14=>k0 n'14))
theorem Ai4 (b_11:Code) (h_radapt_j0:To (R:=PV × List Blk × σ) lf cl yh s b_11) (delta0 n1:Int) (first2:Bool):B2 (Q9 lf) cl yh (cd [] (S7 [1,1] b_11 Ic)) ⟨[pI delta0,pI n1,pB first2]++tps 28,[],s⟩ (G9 (Q9 lf) Tryz.f168)=Yy lf delta0 n1 first2 (λr0=>some (pI r0,[],s)):=by
 unfold Yy;exact let K0:=(G9 (Q9 lf) Tryz.f168);(Eq.trans (by kernel_rfl) (A0 (A8 λn'2=>((h_radapt_j0 K0 n'2 n1).trans (by kernel_rfl))) (A8 λn'3=>((h_radapt_j0 K0 n'3 n1).trans (by kernel_rfl)))))
theorem Ai5 (d:Nat) (delta0 n1 first2):evC (Q9 lf) (d+1) σ yh 168 [pI delta0,pI n1,pB first2] [] s=Yy lf delta0 n1 first2 (λr0=>some (pI r0,[],s)):=
 (evE (fn:=Tryz.f168) (by kernel_rfl)).trans (Eq.trans (by kernel_rfl) (Ai4 lf (evC (Q9 lf) d) yh s (cd [1,1] Ic) (IZ lf (evC (Q9 lf) d) yh s) delta0 n1 first2))
noncomputable def RC (lf:Nat):Cfg:=B8 lf [166] (A4 []) [] (A4 [(1,[4]),(0,[0,0])]) [] (A4 []) (some [4]) [] [] []
noncomputable def Bi9 {R:Type} (lf:Nat) (kk0 bias1:Int) (k0:Int->Option R):Option R:=vl (A1 ((36:Int)*(A1 (kk0+1)))) λn'0=>vl (if ((if ((A1 (n'0-bias1))<(26:Int)) then (A1 (n'0-bias1)) else (26:Int)) > (1:Int)) then (if ((A1 (n'0-bias1))<(26:Int)) then (A1 (n'0-bias1)) else (26:Int)) else (1:Int)) λn'1=>k0 n'1
theorem Bj0 (d:Nat) (kk0 bias1):evC (RC lf) (d+1) σ yh 166 [pI kk0,pI bias1] [] s=Bi9 lf kk0 bias1 (λr0=>some (pI r0,[],s)):=by
 refine (evE (fn:=Tryz.f166) (by kernel_rfl)).trans ?_
 generalize evC (RC lf) d=cl
 unfold Bi9;kernel_rfl
noncomputable def HN (lf:Nat):Cfg:=B8 lf [167] (A4 []) [] (A4 [(3,[2]),(2,[2]),(1,[0,3]),(0,[0])]) [] (A4 []) (some [2]) [] [] []
noncomputable def Aa0 {R:Type} (lf:Nat) (d0:Int) (k0:Int->Option R):Option R:=cond (ltI d0 26) (vl (wu8 (A1 ((97:Int)+d0))) λn'0=>k0 n'0) (vl (A1 ((A1 ((48:Int)+d0))-26)) λn'1=>k0 (wu8 n'1))
theorem A00 (d:Nat) (d0):evC (HN lf) (d+1) σ yh 167 [pI d0] [] s=Aa0 lf d0 (λr0=>some (p8 r0,[],s)):=by
 refine (evE (fn:=Tryz.f167) (by kernel_rfl)).trans ?_
 generalize evC (HN lf) d=cl
 unfold Aa0;kernel_rfl
noncomputable abbrev Lh:Code:=D2 Tryz.f176
noncomputable def Es (lf:Nat):Cfg:=B8 lf [176] (A4 []) [] (A4 [(7,[2]),(2,[2]),(4,[2]),(6,[2]),(5,[0,22]),(3,[0,12]),(1,[0,2]),(0,[0])]) [] (A4 [(0,[])]) (some [2]) [] [] []
noncomputable def Oz {R:Type} (b0:Int) (b1:Bool) (k0:Int->Option R) (k1:Int->Bool->Option R):Option R:=cond b1 (vl (A1 (wu8 (b0-65))) λn'1=>k0 n'1) (cond (not (ltI b0 48)) (cond (not (ltI 57 b0)) (vl (A1 (wu8 (b0-48))) λn'2=>vl (A1 (n'2+26)) λn'3=>k0 n'3) (k1 b0 (not (ltI 57 b0)))) (k1 b0 false))
abbrev DQ (b:Code):Prop:=∀ (k:Out->St σ->Option R) b0 b1,B2 (Es lf) cl yh b ⟨gp [(0,p8 b0),(12,pB b1)] 20,[],s⟩ k=Oz b0 b1 (λn0=>k .ret ⟨gp [(2,pI n0)] 31,[],s⟩) (λb0 b1=>k .normal ⟨gp [(0,p8 b0),(22,pB b1)] 10,[],s⟩)
theorem XE:DQ (R:=R) lf cl yh s (cd [1,0,0,1,1,1] Lh):=by
 intro k b0 b1;unfold Oz;kernel_rfl
noncomputable def Pa {R:Type} (b0:Int) (b1:Bool) (k0:Int->Option R) (k1:Int->Bool->Option R):Option R:=cond b1 (vl (A1 (wu8 (b0-97))) λn'0=>k0 n'0) (cond (not (ltI b0 65)) (Oz b0 (not (ltI 90 b0)) (λn'4=>k0 n'4) (λb'5 b'6=>k1 b'5 b'6)) (Oz b0 false (λn'7=>k0 n'7) (λb'8 b'9=>k1 b'8 b'9)))
abbrev Sg (b:Code):Prop:=∀ (k:Out->St σ->Option R) b0 b1,B2 (Es lf) cl yh b ⟨gp [(0,p8 b0),(2,pB b1)] 30,[],s⟩ k=Pa b0 b1 (λn0=>k .ret ⟨gp [(2,pI n0)] 31,[],s⟩) (λb0 b1=>k .normal ⟨gp [(0,p8 b0),(22,pB b1)] 10,[],s⟩)
theorem XF (b_100111:Code) (h_rval_j0:DQ (R:=R) lf cl yh s b_100111):Sg (R:=R) lf cl yh s (cd [1,0,0,1] (S7 [1,0,0,1,1,1] b_100111 Lh)):=by
 intro k b0 b1;unfold Pa;simp only [<-h_rval_j0 k];kernel_rfl
theorem XG:Sg (R:=R) lf cl yh s (cd [1,0,0,1] Lh):=by
 intro k b0 b1;exact Eq.trans (by kernel_rfl) (XF lf cl yh s (cd [1,0,0,1,1,1] Lh) (XE lf cl yh s) k b0 b1)
noncomputable def A13 {R:Type} (lf:Nat) (b0:Int) (k0:Int->Option R):Option R:=cond (not (ltI b0 97)) (Pa b0 (not (ltI 122 b0)) (λn'10=>k0 n'10) (λb'11 b'12=>k0 (-1))) (Pa b0 false (λn'13=>k0 n'13) (λb'14 b'15=>k0 (-1)))
theorem Bj1 (b_1001:Code) (h_rval_j1:Sg (R:=PV × List Blk × σ) lf cl yh s b_1001) (b0:Int):B2 (Es lf) cl yh (cd [] (S7 [1,0,0,1] b_1001 Lh)) ⟨[p8 b0]++tps 33,[],s⟩ (G9 (Es lf) Tryz.f176)=A13 lf b0 (λr0=>some (pI r0,[],s)):=by
 unfold A13;exact let K0:=(H4 0 (I5 (Es lf) cl yh (cd [1,1] Lh) (G9 (Es lf) Tryz.f176)));(Eq.trans (by kernel_rfl) (A0 ((h_rval_j1 K0 b0 (not (ltI 122 b0))).trans (by kernel_rfl)) ((h_rval_j1 K0 b0 false).trans (by kernel_rfl))))
theorem Bj2 (d:Nat) (b0):evC (Es lf) (d+1) σ yh 176 [p8 b0] [] s=A13 lf b0 (λr0=>some (pI r0,[],s)):=
 (evE (fn:=Tryz.f176) (by kernel_rfl)).trans (Eq.trans (by kernel_rfl) (Bj1 lf (evC (Es lf) d) yh s (cd [1,0,0,1] Lh) (XG lf (evC (Es lf) d) yh s) b0))
noncomputable abbrev W0:Code:=D2 Tryz.f125
noncomputable def J1 (lf:Nat):Cfg:=B8 lf [125] (A4 [(32,[0,1,0,0,1,0,0,0,0,2,0,0]),(25,[0,1,0,0,1,0,0,0,0,2]),(18,[0,1,0,0,1,0,0,0,0,0,0]),(15,[0,1,0,0,1,0,0,0,0]),(5,[0,1,0,0,0])]) [(165,Wk),(166,PT),(167,YH),(168,We)] (A4 [(43,[2,0]),(42,[0,3,1,0,0,0,0]),(41,[0,3,1,0,0,0,0]),(26,[0,3,1,0,0,0,0,2]),(40,[0,3,1,0,0,0,0,2]),(39,[0,3,1,0,0,0,0,2]),(38,[0,3,1,0,0,1,2]),(37,[0,3,1,0,0,0,3]),(36,[0,3,1,0,0,0,0,2,0,0]),(35,[0,3,1,0,0,0,0,2,0,0]),(34,[0,3,1,0,0,0,0,2,0,0,0]),(33,[0,3,1,0,0,0,0,2,0,0,0]),(32,[0,3,1,0,0,0,0,2,0,0,94]),(31,[0,3,1,0,0,0,0,2,0,0]),(30,[0,3,1,0,0,0,0,2,0]),(29,[0,3,1,0,0,0,0,2,90]),(28,[0,3,1,0,0,0,0,2]),(27,[0,3,1,0,0,0,0,2,82]),(25,[0,3,1,0,0,0,0,2,74]),(24,[0,3,1,0,0,0,0,2]),(23,[0,3,1,0,0,0,0]),(22,[0,3,1,0,1,0,0]),(19,[0,3,1,0,0,0,0,0,0]),(21,[0,3,1,0,0,0,0,0,0]),(20,[0,3,1,0,0,0,0,0,0,56]),(18,[0,3,1,0,0,0,0,0,0,48]),(17,[0,3,1,0,0,0,0,0,0]),(16,[0,3,1,0,0,0,0,0]),(15,[0,3,1,0,0,0,0,46]),(14,[0,3,1,0,0,0,0]),(13,[0,3,1,0]),(12,[0,3,1,0,42]),(11,[0,3,1,0]),(6,[0,3,0]),(10,[0,3,0]),(9,[0,3,0,30]),(8,[2,0]),(7,[0,3,0,25]),(5,[0,3,0,17]),(4,[0,3,0]),(3,[0,3]),(2,[2,0]),(1,[0,18]),(0,[0])]) [165,166,167,168] (A4 [(2,[4]),(3,[0,3,1,0,0,0,0]),(6,[0,3,1,0,0,0,0]),(7,[0,3,1,0,0,0,0,2]),(8,[0,3,1,0,0,0,3,0]),(9,[0,3,1,0,0,0,0,2,0,0]),(4,[0,3,1,0,0,0,0,0]),(5,[0,3,1,0,0,0,0,0,0]),(0,[0,3]),(1,[0,3,0])]) (some [2,0]) [] [] []
noncomputable def O4 {R:Type} (lf n:Nat) (points_z0 points_t1:Bool) (points2:LL) (i3:Int) (l4:LL) (k0:LL->Option R) (k1:Bool->Bool->LL->LL->Option R):Option R:=match n with | 0=>none | n+1=>cond (ltI i3 (points2.length:Int)) (cond (inR i3 points2.length) (cond (okE Fw points2 (Int.toNat i3) 0) (vl (gE points2 (Int.toNat i3) 0) λn'1=>cond (not (ptI n'1)) (k0 l4) (cond (inR i3 points2.length) (cond (okE Fw points2 (Int.toNat i3) 0) (vl (gE points2 (Int.toNat i3) 0) λn'3=>cond (ltI n'3 128) (cond (inR i3 points2.length) (cond (okE Fw points2 (Int.toNat i3) 0) (vl (gE points2 (Int.toNat i3) 0) λn'4=>cond (G0 (l4.length+1)) (O4 lf n points_z0 points_t1 points2 (A1 (i3+1)) (l4++[[(SV.int .u8 (wu8 n'4))]]) k0 k1) none) none) none) (O4 lf n points_z0 points_t1 points2 (A1 (i3+1)) l4 k0 k1)) none) none)) none) none) (k1 points_z0 points_t1 points2 l4)
theorem VX (n points_z0 points_t1 points2 i3 l4):E4 1 ((J1 lf).keep 5) (bd (J1 lf) cl yh (cd [1,1,1,0,1,0,0] W0)) n ⟨gp [(0,.s (.sl points_z0 points_t1 1 points2)),(3,.fl 0),(0,pI i3)] 148,[.arr true 5 1 l4],s⟩ k =
 O4 lf n points_z0 points_t1 points2 i3 l4 (λl0=>k .ret ⟨gp [(2,pS ([]:List UInt8)),(0,pI (2:Int))] 150,[.arr true 5 1 l0],s⟩) (λpoints_z0 points_t1 points2 l3=>k (.exit 0) ⟨gp [(0,.s (.sl points_z0 points_t1 1 points2)),(3,.fl 0)] 149,[.arr true 5 1 l3],s⟩):=by
 induction n generalizing points_z0 points_t1 points2 i3 l4 with
 | zero=>rfl
 | succ n ih=>rw [O4];simp only [<-ih];kernel_rfl
noncomputable def Ec {R:Type} (lf n:Nat) (points_z0 points_t1:Bool) (points2:LL) (done3 basic4 n5 delta6 bias7 least8 i9:Int) (l10:LL) (k0:Bool->Bool->LL->Int->Int->Int->Int->Int->Int->LL->Option R):Option R:=match n with | 0=>none | n+1=>cond (ltI i9 (points2.length:Int)) (cond (inR i9 points2.length) (cond (okE Fw points2 (Int.toNat i9) 0) (vl (gE points2 (Int.toNat i9) 0) λn'14=>cond (not (ltI n'14 n5)) (cond (inR i9 points2.length) (cond (okE Fw points2 (Int.toNat i9) 0) (vl (gE points2 (Int.toNat i9) 0) λn'15=>vl (if (n'15<least8) then n'15 else least8) λn'16=>Ec lf n points_z0 points_t1 points2 done3 basic4 n5 delta6 bias7 n'16 (A1 (i9+1)) l10 k0) none) none) (Ec lf n points_z0 points_t1 points2 done3 basic4 n5 delta6 bias7 least8 (A1 (i9+1)) l10 k0)) none) none) (k0 points_z0 points_t1 points2 done3 basic4 n5 delta6 bias7 least8 l10)
theorem VY (n points_z0 points_t1 points2 done3 basic4 n5 delta6 bias7 least8 i9 l10):E4 1 ((J1 lf).keep 18) (bd (J1 lf) cl yh (cd [1,1,1,1,1,1,1,0,0,0,1,0,1,0,1,0,0] W0)) n ⟨gp [(0,.s (.sl points_z0 points_t1 1 points2)),(3,.fl 0),(1,pI done3),(0,pI basic4),(0,pI n5),(0,pI delta6),(0,pI bias7),(0,pI least8),(0,pI i9)] 141,[.arr true 5 1 l10],s⟩ k =
 Ec lf n points_z0 points_t1 points2 done3 basic4 n5 delta6 bias7 least8 i9 l10 (λpoints_z0 points_t1 points2 done3 basic4 n5 delta6 bias7 least8 l9=>k (.exit 4) ⟨gp [(0,.s (.sl points_z0 points_t1 1 points2)),(3,.fl 0),(1,pI done3),(0,pI basic4),(0,pI n5),(0,pI delta6),(0,pI bias7),(0,pI least8)] 142,[.arr true 5 1 l9],s⟩):=by
 induction n generalizing points_z0 points_t1 points2 done3 basic4 n5 delta6 bias7 least8 i9 l10 with
 | zero=>rfl
 | succ n ih=>rw [Ec];simp only [<-ih];kernel_rfl
noncomputable def Bg {R:Type} (lf n:Nat) (points_z0 points_t1:Bool) (points2:LL) (done3 basic4 n5 delta6 bias7 i8 q9 kk10:Int) (l11:LL) (k0:Bool->Bool->LL->Int->Int->Int->Int->Int->Int->LL->Option R):Option R:=match n with | 0=>none | n+1=>cond (ltN kk10 10000000000) (cond (ltN bias7 1000000) (vl (H9 (Int.mul (36:Int) kk10) bias7) λn'40=>cond (not (ltI q9 n'40)) (cond (ltN kk10 10000000000) (cond (ltN bias7 1000000) (vl (H9 (Int.mul (36:Int) kk10) bias7) λn'42=>vl (A1 ((36:Int)-n'42)) λn'46=>cond (n'46 != 0) (vl (Int.tmod (A1 (q9-n'42)) n'46) λn'47=>cond (ltN (A1 (n'42+n'47)) 36) (vl (↑(UInt8.toNat (T6 (Int.toNat (A1 (n'42+n'47))))):Int) λn'48=>cond (G0 (l11.length+1)) (vl (A1 ((36:Int)-n'42)) λn'49=>cond (n'49 != 0) (vl (A1 (Int.tdiv (A1 (q9-n'42)) n'49)) λn'50=>vl (A1 (kk10+1)) λn'51=>Bg lf n points_z0 points_t1 points2 done3 basic4 n5 delta6 bias7 i8 n'50 n'51 (l11++[[(SV.int .u8 n'48)]]) k0) none) none) none) none) none) none) (k0 points_z0 points_t1 points2 done3 basic4 n5 delta6 i8 q9 l11)) none) none
theorem Za (n points_z0 points_t1 points2 done3 basic4 n5 delta6 bias7 i8 q9 kk10 l11):E4 1 ((J1 lf).keep 32) (bd (J1 lf) cl yh (cd [1,1,1,1,1,1,1,0,0,0,1,0,1,1,1,1,0,1,0,0,1,0,0,1,1,1,1,0,0,0] W0)) n ⟨gp [(0,.s (.sl points_z0 points_t1 1 points2)),(3,.fl 0),(1,pI done3),(0,pI basic4),(0,pI n5),(0,pI delta6),(0,pI bias7),(2,pI i8),(0,pI q9),(0,pI kk10)] 138,[.arr true 5 1 l11],s⟩ k =
 Bg lf n points_z0 points_t1 points2 done3 basic4 n5 delta6 bias7 i8 q9 kk10 l11 (λpoints_z0 points_t1 points2 done3 basic4 n5 delta6 i7 q8 l9=>k (.exit 8) ⟨gp [(0,.s (.sl points_z0 points_t1 1 points2)),(3,.fl 0),(1,pI done3),(0,pI basic4),(0,pI n5),(0,pI delta6),(3,pI i7),(0,pI q8)] 139,[.arr true 5 1 l9],s⟩):=by
 induction n generalizing points_z0 points_t1 points2 done3 basic4 n5 delta6 bias7 i8 q9 kk10 l11 with
 | zero=>rfl
 | succ n ih=>rw [Bg];simp only [<-ih];kernel_rfl
noncomputable def U0 {R:Type} (lf n:Nat) (points_z0 points_t1:Bool) (points2:LL) (done3 basic4 n5 delta6 bias7 i8:Int) (l9:LL) (k0:Bool->Bool->LL->Int->Int->Int->Int->Int->LL->Option R):Option R:=match n with | 0=>none | n+1=>cond (ltI i8 (points2.length:Int)) (cond (inR i8 points2.length) (cond (okE Fw points2 (Int.toNat i8) 0) (vl (gE points2 (Int.toNat i8) 0) λn'33=>cond (ltI n'33 n5) (vl (A1 (delta6+1)) λn'34=>cond (inR i8 points2.length) (cond (okE Fw points2 (Int.toNat i8) 0) (vl (gE points2 (Int.toNat i8) 0) λn'36=>cond (n'36 != n5) (U0 lf n points_z0 points_t1 points2 done3 basic4 n5 n'34 bias7 (A1 (i8+1)) l9 k0) (Bg lf lf points_z0 points_t1 points2 done3 basic4 n5 n'34 bias7 i8 n'34 0 l9 (λpoints_z'52 points_t'53 points'54 done'55 basic'56 n'57 delta'58 i'59 q'60 l'61=>cond (ltN q'60 36) (vl (↑(UInt8.toNat (T6 (Int.toNat q'60))):Int) λn'63=>cond (G0 (l'61.length+1)) (vl (A1 (done'55+1)) λn'64=>cond (ltN delta'58 1152921504606846976) (cond (ltN n'64 1000000) (cond (ltI 0 n'64) (vl (↑(L7 (Int.toNat delta'58) (Int.toNat n'64) (done'55==basic'56)):Int) λn'65=>vl (A1 (done'55+1)) λn'66=>vl (A1 (i'59+1)) λn'67=>U0 lf n points_z'52 points_t'53 points'54 n'66 basic'56 n'57 0 n'65 n'67 (l'61++[[(SV.int .u8 n'63)]]) k0) none) none) none) none) none))) none) none) (cond (inR i8 points2.length) (cond (okE Fw points2 (Int.toNat i8) 0) (vl (gE points2 (Int.toNat i8) 0) λn'38=>cond (n'38 != n5) (U0 lf n points_z0 points_t1 points2 done3 basic4 n5 delta6 bias7 (A1 (i8+1)) l9 k0) (Bg lf lf points_z0 points_t1 points2 done3 basic4 n5 delta6 bias7 i8 delta6 0 l9 (λpoints_z'68 points_t'69 points'70 done'71 basic'72 n'73 delta'74 i'75 q'76 l'77=>cond (ltN q'76 36) (vl (↑(UInt8.toNat (T6 (Int.toNat q'76))):Int) λn'79=>cond (G0 (l'77.length+1)) (vl (A1 (done'71+1)) λn'80=>cond (ltN delta'74 1152921504606846976) (cond (ltN n'80 1000000) (cond (ltI 0 n'80) (vl (↑(L7 (Int.toNat delta'74) (Int.toNat n'80) (done'71==basic'72)):Int) λn'81=>vl (A1 (done'71+1)) λn'82=>vl (A1 (i'75+1)) λn'83=>U0 lf n points_z'68 points_t'69 points'70 n'82 basic'72 n'73 0 n'81 n'83 (l'77++[[(SV.int .u8 n'79)]]) k0) none) none) none) none) none))) none) none)) none) none) (k0 points_z0 points_t1 points2 done3 basic4 n5 delta6 bias7 l9)
theorem VZ (n points_z0 points_t1 points2 done3 basic4 n5 delta6 bias7 i8 l9):E4 1 ((J1 lf).keep 25) (bd (J1 lf) cl yh (cd [1,1,1,1,1,1,1,0,0,0,1,0,1,1,1,1,0,1,0,0] W0)) n ⟨gp [(0,.s (.sl points_z0 points_t1 1 points2)),(3,.fl 0),(1,pI done3),(0,pI basic4),(0,pI n5),(0,pI delta6),(0,pI bias7),(2,pI i8)] 140,[.arr true 5 1 l9],s⟩ k =
 U0 lf n points_z0 points_t1 points2 done3 basic4 n5 delta6 bias7 i8 l9 (λpoints_z0 points_t1 points2 done3 basic4 n5 delta6 bias7 l8=>k (.exit 6) ⟨gp [(0,.s (.sl points_z0 points_t1 1 points2)),(3,.fl 0),(1,pI done3),(0,pI basic4),(0,pI n5),(0,pI delta6),(0,pI bias7)] 143,[.arr true 5 1 l8],s⟩):=by
 induction n generalizing points_z0 points_t1 points2 done3 basic4 n5 delta6 bias7 i8 l9 with
 | zero=>rfl
 | succ n ih=>rw [U0];exact let K0:=(H4 8 (I5 (J1 lf) cl yh (cd [1,1,1,1,1,1,1,0,0,0,1,0,1,1,1,1,0,1,0,0,1,0,0,1,1,1,1,1] W0) (H4 7 (I5 (J1 lf) cl yh (cd [1,1,1,1,1,1,1,0,0,0,1,0,1,1,1,1,0,1,0,0,1,1] W0) (lpK 1 ((J1 lf).keep 25) (bd (J1 lf) cl yh (cd [1,1,1,1,1,1,1,0,0,0,1,0,1,1,1,1,0,1,0,0] W0)) n k)))));(Eq.trans (by kernel_rfl) (A0 (A0 (A0 (A8 λn'33=>(A0 (A8 λn'34=>(A0 (A0 (A8 λn'36=>(A0 (ih points_z0 points_t1 points2 done3 basic4 n5 n'34 bias7 (A1 (i8+1)) l9) ((Za lf cl yh s K0 lf points_z0 points_t1 points2 done3 basic4 n5 n'34 bias7 i8 n'34 0 l9).trans (congr rfl (Bb4 λpoints_z'52 points_t'53 points'54 done'55 basic'56 n'57 delta'58 i'59 q'60 l'61=>(Eq.trans (by kernel_rfl) (A0 (A8 λn'63=>(A0 (A8 λn'64=>(A0 (A0 (A0 (A8 λn'65=>(A8 λn'66=>(A8 λn'67=>(ih points_z'52 points_t'53 points'54 n'66 basic'56 n'57 0 n'65 n'67 (l'61++[[(SV.int .u8 n'63)]]))))) rfl) rfl) rfl)) rfl)) rfl))))))) rfl) rfl)) (A0 (A0 (A8 λn'38=>(A0 (ih points_z0 points_t1 points2 done3 basic4 n5 delta6 bias7 (A1 (i8+1)) l9) ((Za lf cl yh s K0 lf points_z0 points_t1 points2 done3 basic4 n5 delta6 bias7 i8 delta6 0 l9).trans (congr rfl (Bb4 λpoints_z'68 points_t'69 points'70 done'71 basic'72 n'73 delta'74 i'75 q'76 l'77=>(Eq.trans (by kernel_rfl) (A0 (A8 λn'79=>(A0 (A8 λn'80=>(A0 (A0 (A0 (A8 λn'81=>(A8 λn'82=>(A8 λn'83=>(ih points_z'68 points_t'69 points'70 n'82 basic'72 n'73 0 n'81 n'83 (l'77++[[(SV.int .u8 n'79)]]))))) rfl) rfl) rfl)) rfl)) rfl))))))) rfl) rfl))) rfl) rfl) rfl))
noncomputable def Bh {R:Type} (lf n:Nat) (points_z0 points_t1:Bool) (points2:LL) (done3 basic4 n5 delta6 bias7:Int) (l8:LL) (k0:LL->Option R):Option R:=match n with | 0=>none | n+1=>cond (ltI done3 (points2.length:Int)) (Ec lf lf points_z0 points_t1 points2 done3 basic4 n5 delta6 bias7 1073741824 0 l8 (λpoints_z'17 points_t'18 points'19 done'20 basic'21 n'22 delta'23 bias'24 least'25 l'26=>vl (A1 (done'20+1)) λn'29=>vl (A1 ((A1 (least'25-n'22))*n'29)) λn'30=>U0 lf lf points_z'17 points_t'18 points'19 done'20 basic'21 least'25 (A1 (delta'23+n'30)) bias'24 0 l'26 (λpoints_z'84 points_t'85 points'86 done'87 basic'88 n'89 delta'90 bias'91 l'92=>vl (A1 (delta'90+1)) λn'93=>vl (A1 (n'89+1)) λn'94=>Bh lf n points_z'84 points_t'85 points'86 done'87 basic'88 n'94 n'93 bias'91 l'92 k0))) (k0 l8)
theorem Zb (n points_z0 points_t1 points2 done3 basic4 n5 delta6 bias7 l8):E4 1 ((J1 lf).keep 15) (bd (J1 lf) cl yh (cd [1,1,1,1,1,1,1,0,0,0] W0)) n ⟨gp [(0,.s (.sl points_z0 points_t1 1 points2)),(3,.fl 0),(1,pI done3),(0,pI basic4),(0,pI n5),(0,pI delta6),(0,pI bias7)] 143,[.arr true 5 1 l8],s⟩ k =
 Bh lf n points_z0 points_t1 points2 done3 basic4 n5 delta6 bias7 l8 (λl0=>k (.exit 2) ⟨gp [(4,.fl 0)] 149,[.arr true 5 1 l0],s⟩):=by
 induction n generalizing points_z0 points_t1 points2 done3 basic4 n5 delta6 bias7 l8 with
 | zero=>rfl
 | succ n ih=>rw [Bh];exact (Eq.trans (by kernel_rfl) (A0 ((VY lf cl yh s (H4 4 (I5 (J1 lf) cl yh (cd [1,1,1,1,1,1,1,0,0,0,1,0,1,1] W0) (H4 3 (lpK 1 ((J1 lf).keep 15) (bd (J1 lf) cl yh (cd [1,1,1,1,1,1,1,0,0,0] W0)) n k)))) lf points_z0 points_t1 points2 done3 basic4 n5 delta6 bias7 1073741824 0 l8).trans (congr rfl (Bb4 λpoints_z'17 points_t'18 points'19 done'20 basic'21 n'22 delta'23 bias'24 least'25 l'26=>(Eq.trans (by kernel_rfl) (A8 λn'29=>(A8 λn'30=>((VZ lf cl yh s (H4 6 (I5 (J1 lf) cl yh (cd [1,1,1,1,1,1,1,0,0,0,1,0,1,1,1,1,1] W0) (H4 3 (lpK 1 ((J1 lf).keep 15) (bd (J1 lf) cl yh (cd [1,1,1,1,1,1,1,0,0,0] W0)) n k)))) lf points_z'17 points_t'18 points'19 done'20 basic'21 least'25 (A1 (delta'23+n'30)) bias'24 0 l'26).trans (congr rfl (fx9 λpoints_z'84 points_t'85 points'86 done'87 basic'88 n'89 delta'90 bias'91 l'92=>(Eq.trans (by kernel_rfl) (A8 λn'93=>(A8 λn'94=>(ih points_z'84 points_t'85 points'86 done'87 basic'88 n'94 n'93 bias'91 l'92))))))))))))) rfl))
noncomputable def NK {R:Type} (lf:Nat) (points_z0 points_t1:Bool) (points2:LL) (k0:Unit->Option R) (k1:By->Int->LL->Option R):Option R:=cond (ltI 256 (points2.length:Int)) (k0 ()) (O4 lf lf points_z0 points_t1 points2 0 [] (λl'5=>k1 ([]:List UInt8) 2 l'5) (λpoints_z'6 points_t'7 points'8 l'9=>vl (l'9.length:Int) λn'12=>vl (l'9.length:Int) λn'13=>cond (ltI 0 n'13) (cond (G0 (l'9.length+1)) (Bh lf lf points_z'6 points_t'7 points'8 n'12 n'13 128 0 72 (l'9++[[(SV.int .u8 (45:Int))]]) (λl'95=>cond (List.all l'95 II) (k1 (List.map Zx l'95) 0 l'95) none)) none) (Bh lf lf points_z'6 points_t'7 points'8 n'12 n'13 128 0 72 l'9 (λl'96=>cond (List.all l'96 II) (k1 (List.map Zx l'96) 0 l'96) none))))
theorem Bi1 (d:Nat) (points_z0 points_t1 points2):evC (J1 lf) (d+1) σ yh 125 [.s (.sl points_z0 points_t1 1 points2)] [] s=NK lf points_z0 points_t1 points2 (λ_=>some (.tup [pS ([]:List UInt8),pI (3:Int)],[],s)) (λr0 r1 l2=>some (.tup [pS r0,pI r1],[.arr true 5 1 l2],s)):=by
 refine (evE (fn:=Tryz.f125) (by kernel_rfl)).trans ?_
 generalize evC (J1 lf) d=cl
 unfold NK;exact let K0:=(H4 2 (I5 (J1 lf) cl yh (cd [1,1,1,1,1,1,1,1] W0) (G9 (J1 lf) Tryz.f125)));(Eq.trans (by kernel_rfl) (A0 rfl ((VX lf cl yh s (H4 0 (I5 (J1 lf) cl yh (cd [1,1,1,1] W0) (G9 (J1 lf) Tryz.f125))) lf points_z0 points_t1 points2 0 []).trans (congr (congr rfl (by kernel_rfl)) (fx4 λpoints_z'6 points_t'7 points'8 l'9=>(Eq.trans (by kernel_rfl) (A8 λn'12=>(A8 λn'13=>(A0 (A0 ((Zb lf cl yh s K0 lf points_z'6 points_t'7 points'8 n'12 n'13 128 0 72 (l'9++[[(SV.int .u8 (45:Int))]])).trans (by kernel_rfl)) rfl) ((Zb lf cl yh s K0 lf points_z'6 points_t'7 points'8 n'12 n'13 128 0 72 l'9).trans (by kernel_rfl)))))))))))
noncomputable abbrev R6:Code:=D2 Tryz.f146
noncomputable def G4 (lf:Nat):Cfg:=B8 lf [146] (A4 [(27,[0,1,0,2,1,0,0,0,0,0,0,0]),(23,[0,1,0,2,1,0,0,0,0]),(13,[0,1,0,0,1,0]),(5,[0,1,0,0,0])]) [(176,Ap5),(166,PT),(168,We),(165,Wk)] (A4 [(51,[2,0]),(50,[0,5,1,0,0,0,0]),(49,[2,0]),(48,[0,5,1,0,0,0,0,118]),(47,[0,5,1,0,0,0,0]),(46,[2,0]),(45,[0,5,1,0,0,0,0,103]),(44,[0,5,1,0,0,0,0]),(43,[0,5,1,0,0,0,0]),(42,[0,5,1,0,0,0,0]),(41,[0,5,1,0,0,0]),(26,[0,5,1,0,0,0,0,0,0,0]),(40,[2,0]),(39,[0,5,1,0,0,0,0,0,0,0,77]),(38,[0,5,1,0,0,0,0,0,0,0]),(37,[0,5,1,0,0,0,0,0,0,0,1,69]),(36,[0,5,1,0,0,0,0,0,0,0,0,0]),(35,[2,0]),(34,[0,5,1,0,0,0,0,0,0,0,0,64]),(33,[0,5,1,0,0,0,0,0,0,0,0]),(32,[2,0]),(31,[0,5,1,0,0,0,0,0,0,0,0,57]),(30,[0,5,1,0,0,0,0,0,0,0,0]),(29,[0,5,1,0,0,0,0,0,0,0,0]),(28,[2,0]),(27,[0,5,1,0,0,0,0,0,0,0,50]),(25,[0,5,1,0,0,0,0,0,0,0]),(24,[0,5,1,0,0,0,0,0,0]),(23,[0,5,1,0,0,0,0,46]),(22,[0,5,1,0,0,0,0]),(21,[0,5,1,0,0,0]),(20,[0,5,1]),(19,[0,5,1,44]),(18,[0,3,1,1]),(17,[2,0]),(16,[0,3,1,43]),(14,[0,3,1,0]),(15,[0,3,1,0]),(13,[0,3,1,0,30]),(12,[0,3,1,0]),(11,[0,3,1]),(6,[0,3,0]),(10,[0,3,0]),(9,[0,3,0,28]),(8,[2,0]),(7,[0,3,0,24]),(5,[0,3,0,18]),(4,[0,3,0]),(3,[0,3]),(2,[2,0]),(1,[0,19]),(0,[0])]) [176,166,168,165] (A4 [(4,[6]),(5,[0,5,1,0,0,0,0]),(6,[0,5,1,0,0,1,0]),(7,[0,5,1,0,0,0,0,0,0,0]),(2,[0,3,1]),(3,[0,3,1,0]),(0,[0,3]),(1,[0,3,0])]) (some [2,0]) [] [] [] (rw:=[(47,6)])
noncomputable def Aq {R:Type} (lf n:Nat) (s0:By) (cut1 i2:Int) (k0:Unit->Option R) (k1:By->Int->Option R):Option R:=match n with | 0=>none | n+1=>cond (ltI i2 (s0.length:Int)) (cond (inR i2 s0.length) (cond (not (ltI (bAt s0 i2) (128:Int))) (k0 ()) (cond (inR i2 s0.length) (cond ((bAt s0 i2)==45) (Aq lf n s0 i2 (A1 (i2+1)) k0 k1) (Aq lf n s0 cut1 (A1 (i2+1)) k0 k1)) none)) none) (k1 s0 cut1)
theorem NQ (n s0 cut1 i2):E4 0 ((G4 lf).keep 5) (bd (G4 lf) cl yh (cd [1,1,1,0,1,0,0] R6)) n ⟨gp [(0,pS s0),(3,pI cut1),(0,pI i2)] 129,[],s⟩ k =
 Aq lf n s0 cut1 i2 (λ_=>k .ret ⟨gp [(2,.fl 0),(0,pI (4:Int))] 131,[.arr true 3 1 []],s⟩) (λs0 cut1=>k (.exit 0) ⟨gp [(0,pS s0),(3,pI cut1)] 130,[],s⟩):=by
 induction n generalizing s0 cut1 i2 with
 | zero=>rfl
 | succ n ih=>rw [Aq];simp only [<-ih];kernel_rfl
noncomputable def Dc {R:Type} (lf n:Nat) (s0:By) (cut1 i2:Int) (l3:LL) (k0:By->Int->LL->Option R):Option R:=match n with | 0=>none | n+1=>cond (ltI i2 cut1) (cond (inR i2 s0.length) (cond (G0 (l3.length+1)) (Dc lf n s0 cut1 (A1 (i2+1)) (l3++[[(SV.int .i64 (A1 (bAt s0 i2)))]]) k0) none) none) (k0 s0 cut1 l3)
theorem NR (n s0 cut1 i2 l3):E4 1 ((G4 lf).keep 13) (bd (G4 lf) cl yh (cd [1,1,1,1,1,0,1,0,0] R6)) n ⟨gp [(0,pS s0),(3,pI cut1),(1,.fl 0),(0,pI i2)] 127,[.arr true 3 1 l3],s⟩ k =
 Dc lf n s0 cut1 i2 l3 (λs0 cut1 l2=>k (.exit 2) ⟨gp [(0,pS s0),(3,pI cut1),(1,.fl 0)] 128,[.arr true 3 1 l2],s⟩):=by
 induction n generalizing s0 cut1 i2 l3 with
 | zero=>rfl
 | succ n ih=>rw [Dc];simp only [<-ih];kernel_rfl
noncomputable def P2 {R:Type} (lf n:Nat) (s0:By) (out1:LL) (at2 n3 i4 bias5 old6 w7 kk8:Int) (l9:LL) (k0:Int->LL->Option R) (k1:By->LL->Int->Int->Int->Int->LL->Option R):Option R:=match n with | 0=>none | n+1=>cond (not (ltI at2 (s0.length:Int))) (k0 4 l9) (cond (inR at2 s0.length) (cond (inR (bAt s0 at2) 256) (vl (C3 (u8n (bAt s0 at2))) λn'8=>cond (ltI n'8 0) (k0 4 l9) (vl (A1 (i4+(A1 (n'8*w7)))) λn'10=>cond (ltI 1099511627776 n'10) (k0 19 l9) (cond (ltN kk8 10000000000) (cond (ltN bias5 1000000) (vl (H9 (Int.mul (36:Int) kk8) bias5) λn'12=>cond (ltI n'8 n'12) (k1 s0 out1 (A1 (at2+1)) n3 n'10 old6 l9) (vl (A1 ((36:Int)-n'12)) λn'13=>cond (ltI 1099511627776 (A1 (w7*n'13))) (k0 19 l9) (P2 lf n s0 out1 (A1 (at2+1)) n3 n'10 bias5 old6 (A1 (w7*n'13)) (A1 (kk8+1)) l9 k0 k1))) none) none))) none) none)
theorem NS (n s0 out1 at2 n3 i4 bias5 old6 w7 kk8 l9):E4 1 ((G4 lf).keep 27) (bd (G4 lf) cl yh (cd [1,1,1,1,1,1,1,1,1,1,1,0,0,0,1,0,1,0,1,0,0] R6)) n ⟨gp [(0,pS s0),(5,.s (.sl false false 1 out1)),(1,pI at2),(0,pI n3),(0,pI i4),(0,pI bias5),(0,pB false),(0,pI old6),(0,pI w7),(0,pI kk8)] 119,[.arr true 3 1 l9],s⟩ k =
 P2 lf n s0 out1 at2 n3 i4 bias5 old6 w7 kk8 l9 (λn0 l1=>k .ret ⟨gp [(2,.fl 1),(0,pI n0)] 131,[.arr true 3 1 l1,.arr true 3 1 []],s⟩) (λs0 out1 at2 n3 i4 old5 l6=>k (.exit 6) ⟨gp [(0,pS s0),(5,.s (.sl false false 1 out1)),(1,pI at2),(0,pI n3),(0,pI i4),(1,pB false),(0,pI old5)] 121,[.arr true 3 1 l6],s⟩):=by
 induction n generalizing s0 out1 at2 n3 i4 bias5 old6 w7 kk8 l9 with
 | zero=>rfl
 | succ n ih=>rw [P2];simp only [<-ih];kernel_rfl
noncomputable def K7 {R:Type} (lf n:Nat) (s0:By) (out1:LL) (at2 n3 i4 bias5:Int) (l6:LL) (k0:Int->LL->Option R) (k1:LL->LL->Option R) (k2:LL->LL->Option R):Option R:=match n with | 0=>none | n+1=>cond (ltI at2 (s0.length:Int)) (P2 lf lf s0 out1 at2 n3 i4 bias5 i4 1 0 l6 (λn'14 l'15=>k0 n'14 l'15) (λs'16 out'17 at'18 n'19 i'20 old'21 l'22=>vl (A1 ((out'17.length:Int)+1)) λn'25=>cond (ltN (A1 (i'20-old'21)) 1152921504606846976) (cond (ltN n'25 1000000) (cond (ltI 0 n'25) (vl (↑(L7 (Int.toNat (A1 (i'20-old'21))) (Int.toNat n'25) false):Int) λn'26=>vl (A1 ((out'17.length:Int)+1)) λn'29=>cond (n'29 != 0) (vl (A1 (Int.tdiv i'20 n'29)) λn'30=>vl (A1 ((out'17.length:Int)+1)) λn'32=>cond (n'32 != 0) (cond (not (ptI (A1 (n'19+n'30)))) (k0 2 l'22) (cond (O6 0 (Int.tmod i'20 n'32) out'17.length) (vl (cut out'17 0 (Int.tmod i'20 n'32)) λl'33=>cond (O6 (Int.tmod i'20 n'32) (out'17.length:Int) out'17.length) (vl (cut out'17 (Int.tmod i'20 n'32) (out'17.length:Int)) λl'34=>cond (G0 (0+l'33.length)) (cond (G0 (l'33.length+1)) (cond (G0 ((List.length (l'33++[[(SV.int .i64 (A1 (n'19+n'30)))]]))+l'34.length)) (cond (ltI 256 (↑(List.length ((l'33++[[(SV.int .i64 (A1 (n'19+n'30)))]])++l'34)):Int)) (k1 l'22 ((l'33++[[(SV.int .i64 (A1 (n'19+n'30)))]])++l'34)) (vl (A1 ((Int.tmod i'20 n'32)+1)) λn'35=>K7 lf n s'16 ((l'33++[[(SV.int .i64 (A1 (n'19+n'30)))]])++l'34) at'18 (A1 (n'19+n'30)) n'35 n'26 l'22 k0 k1 k2)) none) none) none) none) none)) none) none) none) none) none)) (k2 out1 l6)
theorem NT (n s0 out1 at2 n3 i4 bias5 l6):E4 1 ((G4 lf).keep 23) (bd (G4 lf) cl yh (cd [1,1,1,1,1,1,1,1,1,1,1,0,0,0] R6)) n ⟨gp [(0,pS s0),(5,.s (.sl false false 1 out1)),(1,pI at2),(0,pI n3),(0,pI i4),(0,pI bias5),(0,pB false)] 122,[.arr true 3 1 l6],s⟩ k =
 K7 lf n s0 out1 at2 n3 i4 bias5 l6 (λn0 l1=>k .ret ⟨gp [(2,.fl 1),(0,pI n0)] 131,[.arr true 3 1 l1,.arr true 3 1 []],s⟩) (λl0 l1=>k .ret ⟨gp [(2,.fl 2),(0,pI (3:Int))] 131,[.arr true 3 1 l0,.arr false 3 1 l1,.arr true 3 1 []],s⟩) (λout0 l1=>k (.exit 4) ⟨gp [(6,.s (.sl false false 1 out0))] 128,[.arr true 3 1 l1],s⟩):=by
 induction n generalizing s0 out1 at2 n3 i4 bias5 l6 with
 | zero=>rfl
 | succ n ih=>rw [K7];exact (Eq.trans (by kernel_rfl) (A0 ((NS lf cl yh s (H4 6 (I5 (G4 lf) cl yh (cd [1,1,1,1,1,1,1,1,1,1,1,0,0,0,1,0,1,1] R6) (H4 5 (lpK 1 ((G4 lf).keep 23) (bd (G4 lf) cl yh (cd [1,1,1,1,1,1,1,1,1,1,1,0,0,0] R6)) n k)))) lf s0 out1 at2 n3 i4 bias5 i4 1 0 l6).trans (congr (congr rfl (by kernel_rfl)) (fx7 λs'16 out'17 at'18 n'19 i'20 old'21 l'22=>(Eq.trans (by kernel_rfl) (A8 λn'25=>(A0 (A0 (A0 (A8 λn'26=>(A8 λn'29=>(A0 (A8 λn'30=>(A8 λn'32=>(A0 (A0 rfl (A0 (A8 λl'33=>(A0 (A8 λl'34=>(A0 (A0 (A0 (A0 rfl (A8 λn'35=>(ih s'16 ((l'33++[[(SV.int .i64 (A1 (n'19+n'30)))]])++l'34) at'18 (A1 (n'19+n'30)) n'35 n'26 l'22))) rfl) rfl) rfl)) rfl)) rfl)) rfl))) rfl))) rfl) rfl) rfl)))))) rfl))
noncomputable def P3 {R:Type} (lf n:Nat) (s0:By) (at1 i2 w3 kk4:Int) (l5:LL) (k0:Int->LL->Option R) (k1:By->Int->Int->LL->Option R):Option R:=match n with | 0=>none | n+1=>cond (not (ltI at1 (s0.length:Int))) (k0 4 l5) (cond (inR at1 s0.length) (cond (inR (bAt s0 at1) 256) (vl (C3 (u8n (bAt s0 at1))) λn'37=>cond (ltI n'37 0) (k0 4 l5) (vl (A1 (i2+(A1 (n'37*w3)))) λn'39=>cond (ltI 1099511627776 n'39) (k0 19 l5) (cond (ltN kk4 10000000000) (cond (ltN 72 1000000) (vl (H9 (Int.mul (36:Int) kk4) (72:Int)) λn'41=>cond (ltI n'37 n'41) (k1 s0 (A1 (at1+1)) n'39 l5) (vl (A1 ((36:Int)-n'41)) λn'42=>cond (ltI 1099511627776 (A1 (w3*n'42))) (k0 19 l5) (P3 lf n s0 (A1 (at1+1)) n'39 (A1 (w3*n'42)) (A1 (kk4+1)) l5 k0 k1))) none) none))) none) none)
theorem NU (n s0 at1 i2 w3 kk4 l5):E4 1 ((G4 lf).keep 27) (bd (G4 lf) cl yh (cd [1,1,1,1,1,1,1,1,1,1,1,0,0,0,1,0,1,0,1,0,0] R6)) n ⟨gp [(0,pS s0),(5,.fl 0),(1,pI at1),(0,pI (128:Int)),(0,pI i2),(0,pI (72:Int)),(0,pB true),(0,pI (0:Int)),(0,pI w3),(0,pI kk4)] 119,[.arr true 3 1 l5],s⟩ k =
 P3 lf n s0 at1 i2 w3 kk4 l5 (λn0 l1=>k .ret ⟨gp [(2,.fl 1),(0,pI n0)] 131,[.arr true 3 1 l1,.arr true 3 1 []],s⟩) (λs0 at1 i2 l3=>k (.exit 6) ⟨gp [(0,pS s0),(5,.fl 0),(1,pI at1),(0,pI (128:Int)),(0,pI i2),(1,pB true),(0,pI (0:Int))] 121,[.arr true 3 1 l3],s⟩):=by
 induction n generalizing s0 at1 i2 w3 kk4 l5 with
 | zero=>rfl
 | succ n ih=>rw [P3];simp only [<-ih];kernel_rfl
noncomputable def H7 {R:Type} (lf n:Nat) (s0:By) (at1:Int) (l2:LL) (k0:Int->LL->Option R) (k1:LL->LL->Option R) (k2:LL->LL->Option R) (k3:LL->Option R):Option R:=match n with | 0=>none | n+1=>cond (ltI at1 (s0.length:Int)) (P3 lf lf s0 at1 0 1 0 l2 (λn'43 l'44=>k0 n'43 l'44) (λs'45 at'46 i'47 l'48=>vl (A1 (i'47-0)) λn'52=>vl (A1 ((l'48.length:Int)+1)) λn'53=>cond (ltN n'52 1152921504606846976) (cond (ltN n'53 1000000) (cond (ltI 0 n'53) (vl (↑(L7 (Int.toNat n'52) (Int.toNat n'53) true):Int) λn'54=>vl (A1 ((l'48.length:Int)+1)) λn'58=>cond (n'58 != 0) (vl (A1 (Int.tdiv i'47 n'58)) λn'59=>vl (A1 ((128:Int)+n'59)) λn'60=>vl (A1 ((l'48.length:Int)+1)) λn'62=>cond (n'62 != 0) (cond (not (ptI n'60)) (k0 2 l'48) (cond (O6 0 (Int.tmod i'47 n'62) l'48.length) (cond (O6 (Int.tmod i'47 n'62) (l'48.length:Int) l'48.length) (cond (G0 (0+(List.length (List.take ((Int.toNat (Int.tmod i'47 n'62))-0) (List.drop 0 l'48))))) (cond (G0 ((List.length (List.take ((Int.toNat (Int.tmod i'47 n'62))-0) (List.drop 0 l'48)))+1)) (vl ((List.take ((Int.toNat (Int.tmod i'47 n'62))-0) (List.drop 0 l'48))++[[(SV.int .i64 n'60)]]) λl'63=>cond (G0 (l'63.length+(List.length (List.take ((Int.toNat (l'48.length:Int))-(Int.toNat (Int.tmod i'47 n'62))) (List.drop (Int.toNat (Int.tmod i'47 n'62)) l'48))))) (vl (l'63++(List.take ((Int.toNat (l'48.length:Int))-(Int.toNat (Int.tmod i'47 n'62))) (List.drop (Int.toNat (Int.tmod i'47 n'62)) l'48))) λl'64=>cond (ltI 256 (l'64.length:Int)) (k1 l'48 l'64) (vl (A1 ((Int.tmod i'47 n'62)+1)) λn'65=>K7 lf n s'45 l'64 at'46 n'60 n'65 n'54 l'48 (λn'66 l'67=>k0 n'66 l'67) (λl'68 l'69=>k1 l'68 l'69) (λout'70 l'71=>k2 out'70 l'71))) none) none) none) none) none)) none) none) none) none) none)) (k3 l2)
theorem Ts (n s0 at1 l2):E4 1 ((G4 lf).keep 23) (bd (G4 lf) cl yh (cd [1,1,1,1,1,1,1,1,1,1,1,0,0,0] R6)) n ⟨gp [(0,pS s0),(5,.fl 0),(1,pI at1),(0,pI (128:Int)),(0,pI (0:Int)),(0,pI (72:Int)),(0,pB true)] 122,[.arr true 3 1 l2],s⟩ k =
 H7 lf n s0 at1 l2 (λn0 l1=>k .ret ⟨gp [(2,.fl 1),(0,pI n0)] 131,[.arr true 3 1 l1,.arr true 3 1 []],s⟩) (λl0 l1=>k .ret ⟨gp [(2,.fl 2),(0,pI (3:Int))] 131,[.arr true 3 1 l0,.arr false 3 1 l1,.arr true 3 1 []],s⟩) (λout0 l1=>k (.exit 4) ⟨gp [(6,.s (.sl false false 1 out0))] 128,[.arr true 3 1 l1],s⟩) (λl0=>k (.exit 4) ⟨gp [(6,.fl 0)] 128,[.arr true 3 1 l0],s⟩):=by
 induction n generalizing s0 at1 l2 with
 | zero=>rfl
 | succ n ih=>rw [H7];exact (Eq.trans (by kernel_rfl) (A0 ((NU lf cl yh s (H4 6 (I5 (G4 lf) cl yh (cd [1,1,1,1,1,1,1,1,1,1,1,0,0,0,1,0,1,1] R6) (H4 5 (lpK 1 ((G4 lf).keep 23) (bd (G4 lf) cl yh (cd [1,1,1,1,1,1,1,1,1,1,1,0,0,0] R6)) n k)))) lf s0 at1 0 1 0 l2).trans (congr (congr rfl (by kernel_rfl)) (fx4 λs'45 at'46 i'47 l'48=>(Eq.trans (by kernel_rfl) (A8 λn'52=>(A8 λn'53=>(A0 (A0 (A0 (A8 λn'54=>(A8 λn'58=>(A0 (A8 λn'59=>(A8 λn'60=>(A8 λn'62=>(A0 (A0 rfl (A0 (A0 (A0 (A0 (A8 λl'63=>(A0 (A8 λl'64=>(A0 rfl (A8 λn'65=>((NT lf cl yh s k n s'45 l'64 at'46 n'60 n'65 n'54 l'48).trans (congr (congr (congr rfl (fx2 λn'66 l'67=>rfl)) (fx2 λl'68 l'69=>rfl)) (fx2 λout'70 l'71=>rfl)))))) rfl)) rfl) rfl) rfl) rfl)) rfl)))) rfl))) rfl) rfl) rfl))))))) rfl))
noncomputable def Aa5 {R:Type} (lf:Nat) (s0:By) (k0:Int->LL->Option R) (k1:Int->LL->Option R) (k2:LL->LL->Option R) (k3:LL->LL->Option R):Option R:=cond (ltI 1024 (s0.length:Int)) (k0 3 []) (Aq lf lf s0 0 0 (λ_=>k0 4 []) (λs'0 cut'1=>Dc lf lf s'0 cut'1 0 [] (λs'2 cut'3 l'4=>cond (ltI 256 (l'4.length:Int)) (k1 3 l'4) (cond (ltI 0 cut'3) (vl (A1 (cut'3+1)) λn'6=>H7 lf lf s'2 n'6 l'4 (λn'72 l'73=>k1 n'72 l'73) (λl'74 l'75=>k2 l'74 l'75) (λout'76 l'77=>k3 out'76 l'77) (λl'78=>k0 0 l'78)) (H7 lf lf s'2 cut'3 l'4 (λn'79 l'80=>k1 n'79 l'80) (λl'81 l'82=>k2 l'81 l'82) (λout'83 l'84=>k3 out'83 l'84) (λl'85=>k0 0 l'85))))))
theorem A10 (d:Nat) (s0):evC (G4 lf) (d+1) σ yh 146 [pS s0] [] s=Aa5 lf s0 (λr0 l1=>some (.tup [.fl 0,pI r0],[.arr true 3 1 l1],s)) (λr0 l1=>some (.tup [.fl 1,pI r0],[.arr true 3 1 l1,.arr true 3 1 []],s)) (λl0 l1=>some (.tup [.fl 2,pI (3:Int)],[.arr true 3 1 l0,.arr false 3 1 l1,.arr true 3 1 []],s)) (λr0 l1=>some (.tup [.s (.sl false false 1 r0),pI (0:Int)],[.arr true 3 1 l1],s)):=by
 refine (evE (fn:=Tryz.f146) (by kernel_rfl)).trans ?_
 generalize evC (G4 lf) d=cl
 unfold Aa5;exact let K0:=(H4 4 (I5 (G4 lf) cl yh (cd [1,1,1,1,1,1,1,1,1,1,1,1] R6) (G9 (G4 lf) Tryz.f146)));(Eq.trans (by kernel_rfl) (A0 rfl ((NQ lf cl yh s (H4 0 (I5 (G4 lf) cl yh (cd [1,1,1,1] R6) (G9 (G4 lf) Tryz.f146))) lf s0 0 0).trans (congr (congr rfl (by kernel_rfl)) (fx2 λs'0 cut'1=>(Eq.trans (by kernel_rfl) ((NR lf cl yh s (H4 2 (I5 (G4 lf) cl yh (cd [1,1,1,1,1,1] R6) (G9 (G4 lf) Tryz.f146))) lf s'0 cut'1 0 []).trans (congr rfl (fx3 λs'2 cut'3 l'4=>(Eq.trans (by kernel_rfl) (A0 rfl (A0 (A8 λn'6=>((Ts lf cl yh s K0 lf s'2 n'6 l'4).trans (by kernel_rfl))) ((Ts lf cl yh s K0 lf s'2 cut'3 l'4).trans (by kernel_rfl))))))))))))))
noncomputable def JL {R:Type} (lf n:Nat) (s0:By) (i1 v2:Int) (l3:LL) (k0:By->Int->Int->LL->Option R):Option R:=match n with | 0=>none | n+1=>k0 s0 i1 v2 l3
noncomputable def JK {R:Type} (lf:Nat) (s0:By) (i1 b2:Int) (l4:LL) (k0:LL->Option R) (k1:By->Int->LL->Option R):Option R:=vl (A1 ((s0.length:Int)-i1)) λn'1=>cond (ltI n'1 1) (k0 l4) (JL lf lf s0 i1 b2 l4 (λs'2 i'3 v'4 l'5=>cond (ltI v'4 0) (k0 l'5) (cond (not (ptI v'4)) (k0 l'5) (cond (G0 (l'5.length+1)) (k1 s'2 (A1 (i'3+1)) (l'5++[[(SV.int .i64 v'4)]])) none))))
noncomputable def Ow {R:Type} (s0:By) (i1 b2:Int) (b3:Bool) (l4:LL) (k0:By->Int->Int->Int->Int->LL->Option R) (k1:LL->Option R):Option R:=cond b3 (vl (A1 (b2-224)) λn'11=>k0 s0 i1 3 n'11 2048 l4) (cond (not (ltI b2 240)) (cond (ltI b2 245) (vl (A1 (b2-240)) λn'12=>k0 s0 i1 4 n'12 65536 l4) (k1 l4)) (k1 l4))
noncomputable def Ox {R:Type} (s0:By) (i1 b2:Int) (b3:Bool) (l4:LL) (k0:By->Int->Int->Int->Int->LL->Option R) (k1:LL->Option R):Option R:=cond b3 (vl (A1 (b2-192)) λn'10=>k0 s0 i1 2 n'10 128 l4) (cond (not (ltI b2 224)) (Ow s0 i1 b2 (ltI b2 240) l4 (λs'13 i'14 n'15 v'16 least'17 l'18=>k0 s'13 i'14 n'15 v'16 least'17 l'18) (λl'19=>k1 l'19)) (Ow s0 i1 b2 false l4 (λs'20 i'21 n'22 v'23 least'24 l'25=>k0 s'20 i'21 n'22 v'23 least'24 l'25) (λl'26=>k1 l'26)))
noncomputable def Hf {R:Type} (lf n:Nat) (s0:By) (i1 n2 v3 least4 kk5:Int) (l6:LL) (k0:LL->Option R) (k1:By->Int->Int->Int->Int->LL->Option R):Option R:=match n with | 0=>none | n+1=>cond (ltI kk5 n2) (cond (inR (A1 (i1+kk5)) s0.length) (vl (bAt s0 (A1 (i1+kk5))) λn'37=>cond (ltI (A1 n'37) (128:Int)) (k0 l6) (cond (ltI 191 (A1 n'37)) (k0 l6) (vl (A1 ((A1 (v3*64))+(A1 n'37))) λn'38=>vl (A1 (n'38-128)) λn'39=>Hf lf n s0 i1 n2 n'39 least4 (A1 (kk5+1)) l6 k0 k1))) none) (k1 s0 i1 n2 v3 least4 l6)
noncomputable def Ee {R:Type} (lf:Nat) (s0:By) (i1 n2 v3 least4:Int) (l5:LL) (k0:LL->Option R) (k1:By->Int->LL->Option R):Option R:=vl (A1 ((s0.length:Int)-i1)) λn'35=>cond (ltI n'35 n2) (k0 l5) (Hf lf lf s0 i1 n2 v3 least4 1 l5 (λl'40=>k0 l'40) (λs'41 i'42 n'43 v'44 least'45 l'46=>cond (ltI v'44 least'45) (k0 l'46) (cond (not (ptI v'44)) (k0 l'46) (cond (G0 (l'46.length+1)) (k1 s'41 (A1 (i'42+n'43)) (l'46++[[(SV.int .i64 v'44)]])) none))))
noncomputable def X1 {R:Type} (lf n:Nat) (s0:By) (i1:Int) (l2:LL) (k0:LL->Option R) (k1:LL->Option R):Option R:=match n with | 0=>none | n+1=>cond (ltI i1 (s0.length:Int)) (cond (inR i1 s0.length) (cond (ltI (A1 (bAt s0 i1)) (128:Int)) (JK lf s0 i1 (A1 (bAt s0 i1)) l2 (λl'6=>k0 l'6) (λs'7 i'8 l'9=>X1 lf n s'7 i'8 l'9 k0 k1)) (cond (not (ltI (A1 (bAt s0 i1)) (194:Int))) (Ox s0 i1 (A1 (bAt s0 i1)) (ltI (A1 (bAt s0 i1)) (224:Int)) l2 (λs'27 i'28 n'29 v'30 least'31 l'32=>Ee lf s'27 i'28 n'29 v'30 least'31 l'32 (λl'47=>k0 l'47) (λs'48 i'49 l'50=>X1 lf n s'48 i'49 l'50 k0 k1)) (λl'33=>k0 l'33)) (Ox s0 i1 (A1 (bAt s0 i1)) false l2 (λs'51 i'52 n'53 v'54 least'55 l'56=>Ee lf s'51 i'52 n'53 v'54 least'55 l'56 (λl'58=>k0 l'58) (λs'59 i'60 l'61=>X1 lf n s'59 i'60 l'61 k0 k1)) (λl'57=>k0 l'57)))) none) (k1 l2)
noncomputable def B19 {R:Type} (lf:Nat) (s0:By) (k0:LL->Option R) (k1:LL->Option R):Option R:=X1 lf lf s0 0 [] (λl'62=>k0 l'62) (λl'63=>k1 l'63)
noncomputable abbrev YV:Code:=D2 Tryz.f103
noncomputable def Gh (lf:Nat):Cfg:=B8 lf [103] (A4 [(6,[0,1,0,1,0])]) [(146,YJ),(125,Ap2)] (A4 [(12,[2]),(11,[0,4,1,0]),(7,[0,2,1,0]),(10,[2]),(9,[0,2,1,0,34]),(8,[0,2,1,0]),(6,[0,2,1,0,12]),(5,[0,2,1,0]),(4,[0,2,1]),(3,[2]),(2,[0,2,11]),(1,[0,2,0]),(0,[0])]) [125] (A4 [(0,[0,2,1]),(1,[0,2,1,0])]) (some [2]) [] [] []
noncomputable def R3 {R:Type} (lf n:Nat) (rest0:By) (p_z1:Bool) (p2:LL) (other3:Bool) (i4:Int) (k0:Unit->Option R) (k1:By->Bool->LL->Bool->Option R):Option R:=match n with | 0=>none | n+1=>cond (ltI i4 (p2.length:Int)) (cond other3 (cond (inR i4 p2.length) (cond (okE Fw p2 (Int.toNat i4) 0) (cond (not (ltI (gE p2 (Int.toNat i4) 0) (65:Int))) (cond (inR i4 p2.length) (cond (okE Fw p2 (Int.toNat i4) 0) (cond (not (ltI 90 (gE p2 (Int.toNat i4) 0))) (k0 ()) (R3 lf n rest0 p_z1 p2 true (A1 (i4+1)) k0 k1)) none) none) (R3 lf n rest0 p_z1 p2 true (A1 (i4+1)) k0 k1)) none) none) (cond (inR i4 p2.length) (cond (okE Fw p2 (Int.toNat i4) 0) (cond (inR i4 p2.length) (cond (okE Fw p2 (Int.toNat i4) 0) (cond (not (ltI (gE p2 (Int.toNat i4) 0) (65:Int))) (cond (inR i4 p2.length) (cond (okE Fw p2 (Int.toNat i4) 0) (cond (not (ltI 90 (gE p2 (Int.toNat i4) 0))) (k0 ()) (R3 lf n rest0 p_z1 p2 (not (ltI (gE p2 (Int.toNat i4) 0) (128:Int))) (A1 (i4+1)) k0 k1)) none) none) (R3 lf n rest0 p_z1 p2 (not (ltI (gE p2 (Int.toNat i4) 0) (128:Int))) (A1 (i4+1)) k0 k1)) none) none) none) none)) (k1 rest0 p_z1 p2 other3)
theorem NW (n rest0 p_z1 p2 other3 i4):E4 0 ((Gh lf).keep 6) (bd (Gh lf) cl yh (cd [1,1,1,1,0,1,0,0] YV)) n ⟨gp [(0,pS rest0),(2,.s (.sl p_z1 p_z1 1 p2)),(1,pB other3),(0,pI i4)] 50,[],s⟩ k =
 R3 lf n rest0 p_z1 p2 other3 i4 (λ_=>k .ret ⟨gp [(2,pB false)] 54,[],s⟩) (λrest0 p_z1 p2 other3=>k (.exit 0) ⟨gp [(0,pS rest0),(2,.s (.sl p_z1 p_z1 1 p2)),(1,pB other3)] 51,[],s⟩):=by
 induction n generalizing rest0 p_z1 p2 other3 i4 with
 | zero=>rfl
 | succ n ih=>rw [R3];simp only [<-ih];kernel_rfl
noncomputable def Aa6 {R:Type} (lf:Nat) (rest0:By) (k0:Bool->Option R):Option R:=cond (A2 rest0.length) (vl (↑((J5 rest0)).2:Int) λn'1=>cond (n'1 != 0) (k0 false) (R3 lf lf rest0 (List.isEmpty ((J5 rest0)).1) (Rz ((J5 rest0)).1) false 0 (λ_=>k0 false) (λrest'2 p_z'3 p'4 other'5=>cond (List.all p'4 Ns) (vl ((X9 (List.map elI p'4))).1 λs'8=>vl (↑((X9 (List.map elI p'4))).2:Int) λn'9=>cond (n'9==0) (cond (s'8==rest'2) (k0 other'5) (k0 false)) (k0 false)) none))) none
theorem A12 (d:Nat) (rest0):evC (Gh lf) (d+1) σ yh 103 [pS rest0] [] s=Aa6 lf rest0 (λr0=>some (pB r0,[],s)):=by
 refine (evE (fn:=Tryz.f103) (by kernel_rfl)).trans ?_
 generalize evC (Gh lf) d=cl
 unfold Aa6;exact (Eq.trans (by kernel_rfl) (A0 (A8 λn'1=>(A0 rfl ((NW lf cl yh s (H4 0 (I5 (Gh lf) cl yh (cd [1,1,1,1,1] YV) (G9 (Gh lf) Tryz.f103))) lf rest0 (List.isEmpty ((J5 rest0)).1) (Rz ((J5 rest0)).1) false 0).trans (by kernel_rfl)))) rfl))
noncomputable abbrev YU:Code:=D2 Tryz.f69
noncomputable def Gg (lf:Nat):Cfg:=B8 lf [69] (A4 [(4,[0,1,0])]) [(103,YK)] (A4 [(9,[2]),(5,[0,2]),(8,[2]),(7,[0,2,52]),(6,[0,2,0]),(4,[0,2,24]),(3,[0,2]),(2,[2]),(1,[0,23]),(0,[0])]) [103] (A4 [(0,[0]),(1,[0,2])]) (some [2]) [] [] []
noncomputable def J9 {R:Type} (lf n:Nat) (s0:By) (i1:Int) (k0:Unit->Option R) (k1:By->Option R):Option R:=match n with | 0=>none | n+1=>cond (ltI i1 (s0.length:Int)) (cond (inR i1 s0.length) (cond (not (ltI (bAt s0 i1) (97:Int))) (cond (not (ltI 122 (bAt s0 i1))) (J9 lf n s0 (A1 (i1+1)) k0 k1) (cond (not (ltI (bAt s0 i1) (48:Int))) (cond (not (ltI 57 (bAt s0 i1))) (J9 lf n s0 (A1 (i1+1)) k0 k1) (cond ((bAt s0 i1)==45) (J9 lf n s0 (A1 (i1+1)) k0 k1) (cond (not ((bAt s0 i1)==95)) (k0 ()) (J9 lf n s0 (A1 (i1+1)) k0 k1)))) (cond ((bAt s0 i1)==45) (J9 lf n s0 (A1 (i1+1)) k0 k1) (cond (not ((bAt s0 i1)==95)) (k0 ()) (J9 lf n s0 (A1 (i1+1)) k0 k1))))) (cond (not (ltI (bAt s0 i1) (48:Int))) (cond (not (ltI 57 (bAt s0 i1))) (J9 lf n s0 (A1 (i1+1)) k0 k1) (cond ((bAt s0 i1)==45) (J9 lf n s0 (A1 (i1+1)) k0 k1) (cond (not ((bAt s0 i1)==95)) (k0 ()) (J9 lf n s0 (A1 (i1+1)) k0 k1)))) (cond ((bAt s0 i1)==45) (J9 lf n s0 (A1 (i1+1)) k0 k1) (cond (not ((bAt s0 i1)==95)) (k0 ()) (J9 lf n s0 (A1 (i1+1)) k0 k1))))) none) (k1 s0)
theorem NM (n s0 i1):E4 0 ((Gg lf).keep 4) (bd (Gg lf) cl yh (cd [1,1,0,1,0,0] YU)) n ⟨gp [(0,pS s0),(2,pI i1)] 66,[],s⟩ k =
 J9 lf n s0 i1 (λ_=>k .ret ⟨gp [(2,pB false)] 67,[],s⟩) (λs0=>k (.exit 0) ⟨gp [(0,pS s0)] 69,[],s⟩):=by
 induction n generalizing s0 i1 with
 | zero=>rfl
 | succ n ih=>rw [J9];simp only [<-ih];kernel_rfl
noncomputable def Aa3 {R:Type} (lf:Nat) (s0:By) (k0:Bool->Option R):Option R:=cond (s0==[]) (k0 false) (cond (ltI 63 (s0.length:Int)) (k0 false) (cond (inR 0 s0.length) (cond ((bAt s0 (0:Int))==45) (k0 false) (vl (A1 ((s0.length:Int)-1)) λn'1=>cond (inR n'1 s0.length) (cond ((bAt s0 n'1)==45) (k0 false) (J9 lf lf s0 0 (λ_=>k0 false) (λs'2=>cond (ltI (s'2.length:Int) (4:Int)) (k0 true) (cond (O6 0 (4:Int) s'2.length) (vl (cut s'2 0 (4:Int)) λs'3=>cond (not (s'3==[120,110,45,45])) (k0 true) (cond (O6 4 (s'2.length:Int) s'2.length) (vl (cut s'2 4 (s'2.length:Int)) λs'4=>cond (A2 s'4.length) (k0 (Ad s'4)) none) none)) none)))) none)) none))
theorem A07 (d:Nat) (s0):evC (Gg lf) (d+1) σ yh 69 [pS s0] [] s=Aa3 lf s0 (λr0=>some (pB r0,[],s)):=by
 refine (evE (fn:=Tryz.f69) (by kernel_rfl)).trans ?_
 generalize evC (Gg lf) d=cl
 unfold Aa3;exact (Eq.trans (by kernel_rfl) (A0 rfl (A0 rfl (A0 (A0 rfl (A8 λn'1=>(A0 (A0 rfl ((NM lf cl yh s (H4 0 (I5 (Gg lf) cl yh (cd [1,1,1] YU) (G9 (Gg lf) Tryz.f69))) lf s0 0).trans (by kernel_rfl))) rfl))) rfl))))
end
theorem NV {R:Type} {k0:Bool->Option R} (n:Int):JJ LF n k0=k0 (ptI n):=by
 unfold JJ
 by_cases h:n<0
 ·rw [C6 h]
  have:ptI n=false:=by
   cases n with
   | ofNat m=>exact absurd h (by simp)
   | negSucc m=>rfl
  grind
 ·obtain ⟨m,rfl⟩:=Int.eq_ofNat_of_zero_le (show 0<=n by omega)
  rw [A7,Ha]
  unfold Q6
  by_cases h1:1114111<m
  ·rw [A9]
   have:Nat.ble m 1114111=false:=by rw [Bool.eq_false_iff,ne_eq,Nat.ble_eq];omega
   grind
  ·rw [A7]
   have:Nat.ble m 1114111=true:=by rw [Nat.ble_eq];omega
   rw [this]
   by_cases h2:m<55296
   ·rw [A9]
    have:Nat.blt m 55296=true:=by rw [Nat.blt_eq];omega
    grind
   ·rw [A7]
    have e:Nat.blt m 55296=false:=by rw [Bool.eq_false_iff,ne_eq,Nat.blt_eq];omega
    rw [e]
    simp only [Bool.not_false,cond_true,cond_false,Bool.false_or,Bool.true_and]
    congr 1
theorem NH {R:Type} {k0:Int->Int->Option R}:∀ (d n k:Nat),d<2305843009213693952->d<n->k+d<=4611686018427387904->
  ∃ d' k',d'<=455/\k'<=k+d/\Ql d k=k'+36*d' / (d'+38)/\Bz LF n (d:Int) (k:Int) k0=k0 (d':Int) (k':Int):=by
 intro d
 induction d using Nat.strongRecOn with
 | _ d ih=>
  intro n k hd hn hk
  obtain ⟨n,rfl⟩:∃ m,n=m+1:=⟨n-1,by omega⟩
  rw [Bz]
  by_cases h:455<d
  ·obtain ⟨d',k',h1,h2,h3,h4⟩:=ih (d / 35) (by omega) n (k+36) (by omega) (by omega) (by omega)
   refine ⟨d',k',h1,by omega,by rw [Wt h];exact h3,?_⟩
   have e:Int.tdiv (d:Int) 35=((d / 35:Nat):Int):=K2 d 35
   have e1:A1 ((d / 35:Nat):Int)=((d / 35:Nat):Int):=A5
   have e2:A1 ((k:Int)+36)=((k+36:Nat):Int):=by rw [A5];rfl
   rw [A9]
   simp only [cond_true,vl,e,e1,e2]
   exact h4
  ·refine ⟨d,k,by omega,by omega,Lc h,?_⟩
   rw [A7]
   rfl
theorem NI {R:Type} {k0:Int->Option R} (d c:Int) (f:Bool) (h0:ltN d 1152921504606846976=true) (h1:ltN c 1000000=true) (h2:ltI 0 c=true):Yy LF d c f k0=k0 (L7 d.toNat c.toNat f:Nat):=by
 obtain ⟨hd0,hd1⟩:=I3.1 h0
 obtain ⟨hc0,hc1⟩:=I3.1 h1
 obtain ⟨d,rfl⟩:=Int.eq_ofNat_of_zero_le hd0
 obtain ⟨c,rfl⟩:=Int.eq_ofNat_of_zero_le hc0
 have hc:=ZP.1 h2
 have hLF:=E8
 have key:∀ x:Nat,x<1152921504606846976->Bx LF (x:Int) (c:Int) k0=k0 ((Ql (x+x / c) 0:Nat):Int):=by
  intro x hx
  have hxc:x / c<=x:=Nat.div_le_self _ _
  unfold Bx
  have e1:Int.tdiv (x:Int) (c:Int)=((x / c:Nat):Int):=K2 x c
  generalize x / c=q at *
  have e2:A1 (q:Int)=(q:Int):=A5
  have e3:A1 ((x:Int)+(q:Int))=((x+q:Nat):Int):=by rw [A5];rfl
  rw [show ((c:Int) != 0)=true by simp;omega]
  simp only [cond_true,vl,e1,e2,e3]
  obtain ⟨d',k',g1,g2,g3,g4⟩:=NH (R:=R) (k0:=λdelta'7 k'8=>vl (A1 ((36)*delta'7)) λn'9=>vl (A1 (delta'7+(38))) λn'10=>cond (n'10 != (0)) (vl (A1 (Int.tdiv n'9 n'10)) λn'11=>k0 (A1 (k'8+n'11))) none) (x+q) LF 0 (by omega) (by omega) (by omega)
  refine Eq.trans g4 ?_
  have hq:36*d' / (d'+38)<=36*d':=Nat.div_le_self _ _
  have f1:A1 (36*(d':Int))=((36*d':Nat):Int):=by rw [A5];rfl
  have f2:A1 ((d':Int)+38)=((d'+38:Nat):Int):=by rw [A5];rfl
  have f3:Int.tdiv ((36*d':Nat):Int) ((d'+38:Nat):Int)=((36*d' / (d'+38):Nat):Int):=K2 _ _
  have f4:A1 ((36*d' / (d'+38):Nat):Int)=((36*d' / (d'+38):Nat):Int):=A5
  have f5:A1 ((k':Int)+((36*d' / (d'+38):Nat):Int))=((k'+36*d' / (d'+38):Nat):Int):=by rw [A5];rfl
  simp only [vl,f1,f2,f3,f4,f5]
  rw [show (((d'+38:Nat):Int) != 0)=true by simp;omega,g3]
  rfl
 unfold Yy L7
 rw [Int.toNat_natCast,Int.toNat_natCast]
 cases f with
 | true=>
  have e1:Int.tdiv (d:Int) 700=((d / 700:Nat):Int):=K2 d 700
  have e2:A1 ((d / 700:Nat):Int)=((d / 700:Nat):Int):=A5
  simp only [cond_true,vl,e1,e2,if_true]
  exact key _ (by omega)
 | false=>
  have e1:Int.tdiv (d:Int) 2=((d / 2:Nat):Int):=K2 d 2
  have e2:A1 ((d / 2:Nat):Int)=((d / 2:Nat):Int):=A5
  simp only [cond_false,vl,e1,e2,Bool.false_eq_true,if_false]
  exact key _ (by omega)
theorem VH {R:Type} {k0:Int->Option R} (d:Int) (h0:ltN d 36=true):Aa0 LF d k0=k0 ((T6 d.toNat).toNat:Nat):=by
 obtain ⟨hd0,hd1⟩:=I3.1 h0
 obtain ⟨d,rfl⟩:=Int.eq_ofNat_of_zero_le hd0
 unfold Aa0
 rw [Int.toNat_natCast,CC (by omega)]
 by_cases h:d<26
 ·rw [A9,if_pos h]
  simp only [cond_true,vl]
  congr 1
  rw [A5,Y3]
  rfl
 ·rw [A7,if_neg h]
  simp only [cond_false,vl]
  congr 1
  rw [E3 (n:=48+(d:Int)) (by omega) (by omega),A5,Y3]
  omega
theorem Ak5 {R:Type} {k0:Int->Option R} (b:Int) (h0:inR b 256=true):A13 LF b k0=k0 (C3 (u8n b)):=by
 simp only [inR,Bool.and_eq_true,decide_eq_true_eq] at h0
 have hc:b=((u8n b).toNat:Int):=by
  unfold u8n
  simp
  omega
 generalize u8n b=c at *
 subst hc
 have hbt:=c.toNat_lt
 unfold A13 C3
 simp only [Pa,Oz,vl]
 rcases Tz c with ⟨h1,h2,e⟩ | ⟨h1,h2,e⟩ | ⟨h1,h2,e⟩ | ⟨h1,h2,h3,e⟩
 ·have e2:A1 (wu8 ((c.toNat:Int)-97))=((c.toNat-97:Nat):Int):=by
   rw [Y3,A5];omega
  simp (disch:=omega) only [C6,E5,Bool.not_true,Bool.not_false,cond_false,cond_true,e2,e]
 ·have e2:A1 (wu8 ((c.toNat:Int)-65))=((c.toNat-65:Nat):Int):=by
   rw [Y3,A5];omega
  simp (disch:=omega) only [C6,E5,Bool.not_true,Bool.not_false,cond_false,cond_true,e2,e]
 ·have e2:A1 (A1 (wu8 ((c.toNat:Int)-48))+26)=((c.toNat-22:Nat):Int):=by
   rw [Y3,E3 (n:=(c.toNat:Int)-48) (by omega) (by omega),A5];omega
  simp (disch:=omega) only [C6,E5,Bool.not_true,Bool.not_false,cond_false,cond_true,e2,e]
 ·rw [e]
  by_cases c1:c.toNat<48
  ·simp (disch:=omega) only [C6,E5,Bool.not_true,Bool.not_false,cond_false,cond_true]
  ·by_cases c2:c.toNat<65
   ·simp (disch:=omega) only [C6,E5,Bool.not_true,Bool.not_false,cond_false,cond_true]
   ·by_cases c3:c.toNat<97
    ·simp (disch:=omega) only [C6,E5,Bool.not_true,Bool.not_false,cond_false,cond_true]
    ·simp (disch:=omega) only [C6,E5,Bool.not_true,Bool.not_false,cond_false,cond_true]
theorem Ak4 {R:Type} {k0:Int->Option R} (k b:Int) (h0:ltN k 10000000000=true) (h1:ltN b 1000000=true):Bi9 LF k b k0=k0 (H9 (Int.mul 36 k) b):=by
 obtain ⟨k1,k2⟩:=I3.1 h0
 obtain ⟨b1,b2⟩:=I3.1 h1
 unfold Bi9 H9
 have e1:A1 (k+1)=k+1:=A5
 have e2:A1 ((36:Int)*(k+1))=36*(k+1):=A5
 have e3:A1 (36*(k+1)-b)=36*(k+1)-b:=A5
 grind
theorem A04 (z t:Bool) (pts:LL) (done basic nn delta i:Int) (b:Nat) (hb:b<1000000):∀ (r q k n:Nat) (l:LL),q<10 ^ r->q<1152921504606846976->k+r<=1000->r<n->l.length+r<=200000->
  ∃ (q':Nat) (pre:By),q'<36/\L0 q k b=pre++[T6 q']/\∀ (R:Type) (k0:Bool->Bool->LL->Int->Int->Int->Int->Int->Int->LL->Option R),Bg LF n z t pts done basic nn delta (b:Int) i (q:Int) (k:Int) l k0=k0 z t pts done basic nn delta i (q':Int) (l++pre.map F5):=by
 have hthr:∀ k:Nat,H9 (Int.mul 36 (k:Int)) (b:Int)=(thr k b:Int):=λk=>by
  rw [show Int.mul 36 (k:Int)=((36*k:Nat):Int) from rfl,Pm]
 have fin:∀ (q k n:Nat) (l:LL),q<thr k b->k<=1000->∃ (q':Nat) (pre:By),q'<36/\L0 q k b=pre++[T6 q']/\∀ (R:Type) (k0:Bool->Bool->LL->Int->Int->Int->Int->Int->Int->LL->Option R),Bg LF (n+1) z t pts done basic nn delta (b:Int) i (q:Int) (k:Int) l k0=k0 z t pts done basic nn delta i (q':Int) (l++pre.map F5):=by
  intro q k n l hq hk
  have ht:=P6 k b
  refine ⟨q,[],by omega,by rw [Jt hq];rfl,λR k0=>?_⟩
  rw [Bg]
  have hq':ltI (q:Int) (thr k b:Int)=true:=A9
  rw [L2,L2,hthr]
  grind
 intro r
 induction r with
 | zero=>
  intro q k n l h _ hk hn hl
  have ht:=P6 k b
  obtain ⟨n,rfl⟩:∃ m,n=m+1:=⟨n-1,by omega⟩
  exact fin q k n l (by simp at h;omega) (by omega)
 | succ r ih=>
  intro q k n l h hq60 hk hn hl
  have ht:=P6 k b
  obtain ⟨n,rfl⟩:∃ m,n=m+1:=⟨n-1,by omega⟩
  by_cases hq:q<thr k b
  ·exact fin q k n l hq (by omega)
  ·have hd:(q-thr k b) / (36-thr k b)<10 ^ r:=HZ (by omega) (by rw [Nat.pow_succ] at h;omega)
   have hd2:(q-thr k b) / (36-thr k b)<=q:=Nat.le_trans (Nat.div_le_self _ _) (by omega)
   have hm2:(q-thr k b) % (36-thr k b)<36-thr k b:=Nat.mod_lt _ (by omega)
   obtain ⟨q',pre,e0,e1,e⟩:=ih ((q-thr k b) / (36-thr k b)) (k+1) n (l++[F5 (T6 (thr k b+(q-thr k b) % (36-thr k b)))]) hd (by omega) (by omega) (by omega) (by rw [List.length_append,List.length_singleton];omega)
   refine ⟨q',T6 (thr k b+(q-thr k b) % (36-thr k b))::pre,e0,by rw [Ri hq,e1];rfl,λR k0=>?_⟩
   rw [Bg]
   have c1:A1 ((q:Int)-(thr k b:Int))=((q-thr k b:Nat):Int):=by rw [A5];omega
   have c2:A1 ((36:Int)-(thr k b:Int))=((36-thr k b:Nat):Int):=by rw [A5];omega
   have c3:Int.tmod ((q-thr k b:Nat):Int) ((36-thr k b:Nat):Int)=(((q-thr k b) % (36-thr k b):Nat):Int):=Fy _ _
   have c4:Int.tdiv ((q-thr k b:Nat):Int) ((36-thr k b:Nat):Int)=(((q-thr k b) / (36-thr k b):Nat):Int):=K2 _ _
   have c7:((((36-thr k b:Nat):Int)) != 0)=true:=by rw [bne_iff_ne];omega
   have c8:A1 ((k:Int)+1)=((k+1:Nat):Int):=by rw [A5];rfl
   have hq':ltI (q:Int) (thr k b:Int)=false:=A7
   rw [L2,L2,hthr]
   simp only [vl,hq',c1,c2,c3,c4,c7,c8,cond_true,cond_false,Bool.not_false]
   generalize hA:(q-thr k b) / (36-thr k b)=A at *
   generalize hB:(q-thr k b) % (36-thr k b)=B at *
   have c5:A1 ((thr k b:Int)+(B:Int))=((thr k b+B:Nat):Int):=by rw [A5];rfl
   have c6:A1 (A:Int)=(A:Int):=A5
   rw [c5,c6,L2,G1 (by omega),Int.toNat_natCast]
   refine Eq.trans (e R k0) ?_
   simp [List.append_assoc,F5]
theorem Bi2 (z t:Bool) (pts:List Nat) (basic m:Nat) (hm:m<=1114112) (hl:pts.length<=256):∀ (r i n:Nat) (s:KA),i+r=pts.length->r<n->s.delta+r<=1000000000000->s.bias<=500->s.out.length+20*r<=90000->s.done+r<=1000->basic<=256->
  (∀ (R:Type) (k0:Bool->Bool->LL->Int->Int->Int->Int->Int->LL->Option R),U0 LF n z t (B3 pts) (s.done:Int) (basic:Int) (m:Int) (s.delta:Int) (s.bias:Int) (i:Int) (s.out.map F5) k0 =
   k0 z t (B3 pts) ((F6 m basic (pts.drop i) s).done:Int) (basic:Int) (m:Int) ((F6 m basic (pts.drop i) s).delta:Int) ((F6 m basic (pts.drop i) s).bias:Int) ((F6 m basic (pts.drop i) s).out.map F5))/\
  (F6 m basic (pts.drop i) s).bias<=500/\(F6 m basic (pts.drop i) s).out.length<=s.out.length+20*(pts.drop i).countP (· == m)/\(F6 m basic (pts.drop i) s).done=s.done+(pts.drop i).countP (· == m)/\
  (F6 m basic (pts.drop i) s).delta<=(if 0<(pts.drop i).countP (· == m) then r else s.delta+r):=by
 have hLF:=E8
 intro r
 induction r with
 | zero=>
  intro i n s hi hn h1 h2 h3 h4 hb
  obtain ⟨n,rfl⟩:∃ m,n=m+1:=⟨n-1,by omega⟩
  rw [List.drop_of_length_le (by omega)]
  refine ⟨λR k0=>?_,h2,by simp [F6],by simp [F6],by simp [F6]⟩
  rw [U0]
  rw [B9,A7]
  rfl
 | succ r ih=>
  intro i n s hi hn h1 h2 h3 h4 hb
  obtain ⟨n,rfl⟩:∃ m,n=m+1:=⟨n-1,by omega⟩
  rw [Nj pts i (by omega)]
  have hg:=Rn pts i (by omega)
  have ok:=Jx (l:=pts) (i:=i) (by omega)
  have hin:inR (i:Int) (B3 pts).length=true:=J6 (by omega) (by rw [B9];omega)
  have hlt:ltI (i:Int) ((B3 pts).length:Int)=true:=C6 (by rw [B9];omega)
  generalize pts.getD i 0=p at *
  have e1:A1 ((i:Int)+1)=((i+1:Nat):Int):=by rw [A5];rfl
  have e2:A1 ((s.delta:Int)+1)=((s.delta+1:Nat):Int):=by rw [A5];rfl
  have e3:A1 ((s.done:Int)+1)=((s.done+1:Nat):Int):=by rw [A5];rfl
  by_cases hp:p<m
  ·have hne:(p==m)=false:=by rw [beq_eq_false_iff_ne];omega
   have hs:F6 m basic (p::pts.drop (i+1)) s=F6 m basic (pts.drop (i+1)) { s with delta:=s.delta+1 }:=by rw [F6,if_pos hp]
   obtain ⟨q1,q2,q3,q4,q5⟩:=ih (i+1) n { s with delta:=s.delta+1 } (by omega) (by omega) (by simp only;omega) h2 (by simp only;omega) (by simp only;omega) hb
   rw [hs,List.countP_cons_of_neg (by rw [hne];simp)]
   refine ⟨λR k0=>?_,q2,q3,q4,?_⟩
   ·rw [U0]
    rw [Int.toNat_natCast]
    simp only [hin,hlt,ok,cond_true,vl,hg,e1,e2]
    rw [A9,cond_true,show ((p:Int) != (m:Int))=true by rw [bne_iff_ne];omega,cond_true]
    exact q1 R k0
   ·simp only at q5
    split at q5<;>split<;>omega
  ·by_cases hq:p=m
   ·subst hq
    have hn20:=CE (q:=s.delta) (k:=0) (b:=s.bias) (by omega)
    have had:=Hy s.delta (s.done+1) (s.done==basic) (by omega)
    have hs:F6 p basic (p::pts.drop (i+1)) s=F6 p basic (pts.drop (i+1)) { delta:=0,bias:=L7 s.delta (s.done+1) (s.done==basic),done:=s.done+1,out:=s.out++L0 s.delta 0 s.bias }:=by rw [F6,if_neg hp,if_pos rfl]
    obtain ⟨q1,q2,q3,q4,q5⟩:=ih (i+1) n { delta:=0,bias:=L7 s.delta (s.done+1) (s.done==basic),done:=s.done+1,out:=s.out++L0 s.delta 0 s.bias } (by omega) (by omega) (by simp only;omega) had (by simp only [List.length_append];omega) (by simp only;omega) hb
    obtain ⟨q',pre,f1,f2,f3⟩:=A04 z t (B3 pts) (s.done:Int) (basic:Int) (p:Int) (s.delta:Int) (i:Int) s.bias (by omega) 19 s.delta 0 LF (s.out.map F5) (by omega) (by omega) (by omega) (by omega) (by rw [List.length_map];omega)
    rw [hs,List.countP_cons_of_pos (by simp)]
    refine ⟨λR k0=>?_,q2,?_,?_,?_⟩
    ·rw [U0]
     have hbeq:((s.done:Int)==(basic:Int))=(s.done==basic):=by
      rw [Bool.eq_iff_iff,beq_iff_eq,beq_iff_eq];omega
     rw [Int.toNat_natCast]
     simp only [hin,hlt,ok,cond_true,vl,hg,e1,e3]
     rw [A7,cond_false,bne_self_eq_false,cond_false]
     refine Eq.trans (f3 R _) ?_
     have hpl:pre.length+1=(L0 s.delta 0 s.bias).length:=by rw [f2];simp
     rw [L2,Int.toNat_natCast,G1 (by rw [List.length_append,List.length_map,List.length_map];omega)]
     simp only [vl,cond_true,e1,e3]
     rw [L2,L2,A9,hbeq]
     simp only [cond_true,Int.toNat_natCast]
     have hrow:s.out.map F5++pre.map F5++[[SV.int .u8 (((T6 q').toNat:Nat):Int)]]=(s.out++L0 s.delta 0 s.bias).map F5:=by
      rw [f2,List.map_append,List.map_append,List.append_assoc];rfl
     rw [hrow]
     exact q1 R k0
    ·simp only [List.length_append] at q3;omega
    ·simp only at q4;omega
    ·simp only at q5
     rw [Fq]
     split at q5<;>omega
   ·have hne:(p==m)=false:=by rw [beq_eq_false_iff_ne];omega
    have hs:F6 m basic (p::pts.drop (i+1)) s=F6 m basic (pts.drop (i+1)) s:=by rw [F6,if_neg hp,if_neg hq]
    obtain ⟨q1,q2,q3,q4,q5⟩:=ih (i+1) n s (by omega) (by omega) (by omega) h2 (by omega) (by omega) hb
    rw [hs,List.countP_cons_of_neg (by rw [hne];simp)]
    refine ⟨λR k0=>?_,q2,q3,q4,?_⟩
    ·rw [U0]
     rw [Int.toNat_natCast]
     simp only [hin,hlt,ok,cond_true,vl,hg,e1]
     rw [A7,cond_false,show ((p:Int) != (m:Int))=true by rw [bne_iff_ne];omega,cond_true]
     exact q1 R k0
    ·split at q5<;>split<;>omega
theorem WA {R:Type} {k0:Bool->Bool->LL->Int->Int->Int->Int->Int->Int->LL->Option R} (z t:Bool) (pts:List Nat) (hl:pts.length<=256) (n0:Nat) (basic delta bias done:Int) (l:LL):∀ (r i n m:Nat),i+r=pts.length->r<n->
  Ec LF n z t (B3 pts) done basic (n0:Int) delta bias (m:Int) (i:Int) l k0=k0 z t (B3 pts) done basic (n0:Int) delta bias ((G8 n0 (pts.drop i) m:Nat):Int) l:=by
 intro r
 induction r with
 | zero=>
  intro i n m hi hn
  obtain ⟨n,rfl⟩:∃ m,n=m+1:=⟨n-1,by omega⟩
  rw [Ec]
  rw [B9,A7,List.drop_of_length_le (by omega)]
  rfl
 | succ r ih=>
  intro i n m hi hn
  obtain ⟨n,rfl⟩:∃ m,n=m+1:=⟨n-1,by omega⟩
  have hg:=Rn pts i (by omega)
  have ok:=Jx (l:=pts) (i:=i) (by omega)
  have hin:inR (i:Int) (B3 pts).length=true:=J6 (by omega) (by rw [B9];omega)
  have hlt:ltI (i:Int) ((B3 pts).length:Int)=true:=C6 (by rw [B9];omega)
  rw [Ec,Nj pts i (by omega)]
  generalize pts.getD i 0=p at *
  have e1:A1 ((i:Int)+1)=((i+1:Nat):Int):=by rw [A5];rfl
  rw [Int.toNat_natCast]
  simp only [hin,hlt,ok,cond_true,vl,hg,e1,G8]
  by_cases h:n0<=p
  ·rw [if_pos h,A7,Bool.not_false,cond_true]
   have:(if (p:Int)<(m:Int) then (p:Int) else (m:Int))=((min m p:Nat):Int):=by split<;>omega
   rw [this]
   exact ih (i+1) n (min m p) (by omega) (by omega)
  ·rw [if_neg h,A9,Bool.not_true,cond_false]
   exact ih (i+1) n m (by omega) (by omega)
theorem A05 (z t:Bool) (pts:List Nat) (basic:Nat) (hl:pts.length<=256) (hb:basic<=256) (hall:∀ p∈pts,p<=1114111):∀ (f n n':Nat) (s:KA),s.done=pts.countP (λp=>decide (p<n))->pts.length<=s.done+f->f<n'->s.delta<=300->s.bias<=500->s.out.length+20*(pts.length-s.done)<=80000->n<=1114112->
  ∀ (R:Type) (k0:LL->Option R),Bh LF n' z t (B3 pts) (s.done:Int) (basic:Int) (n:Int) (s.delta:Int) (s.bias:Int) (s.out.map F5) k0=k0 ((T2 pts basic f n s).out.map F5):=by
 intro f
 have hLF:=E8
 induction f with
 | zero=>
  intro n n' s hd hf hn h1 h2 h3 h4 R k0
  obtain ⟨n',rfl⟩:∃ m,n'=m+1:=⟨n'-1,by omega⟩
  rw [Bh]
  rw [B9,A7]
  rfl
 | succ f ih=>
  intro n n' s hd hf hn h1 h2 h3 h4 R k0
  obtain ⟨n',rfl⟩:∃ m,n'=m+1:=⟨n'-1,by omega⟩
  rw [Bh]
  rw [B9]
  have hcl:pts.countP (λp=>decide (p<n))<=pts.length:=List.countP_le_length
  by_cases hlt:s.done<pts.length
  ·obtain ⟨p0,hp0,hp1⟩:=Au3 (n:=n) (l:=pts) (by omega)
   obtain ⟨g1,g2,g3⟩:=Dx n pts 1114112
   obtain ⟨b1,b2,b3⟩:=Dx n pts 1073741824
   have g4:=g3 p0 hp0 hp1
   have b4:=b3 p0 hp0 hp1
   have g5:=hall p0 hp0
   have hmem:G8 n pts 1114112∈pts/\n<=G8 n pts 1114112:=by grind
   have bmem:G8 n pts 1073741824∈pts/\n<=G8 n pts 1073741824:=by grind
   have heq:G8 n pts 1073741824=G8 n pts 1114112:=by grind
   have he:T2 pts basic (f+1) n s=T2 pts basic f (G8 n pts 1114112+1) { F6 (G8 n pts 1114112) basic pts { s with delta:=s.delta+(G8 n pts 1114112-n)*(s.done+1) } with delta:=(F6 (G8 n pts 1114112) basic pts { s with delta:=s.delta+(G8 n pts 1114112-n)*(s.done+1) }).delta+1 }:=by
    rw [T2,if_pos hlt]
   rw [he,A9,cond_true]
   have hleast:=λ(K:Bool->Bool->LL->Int->Int->Int->Int->Int->Int->LL->Option R)=>WA (k0:=K) z t pts hl n (basic:Int) (s.delta:Int) (s.bias:Int) (s.done:Int) (s.out.map F5) pts.length 0 LF 1073741824 (by omega) (by omega)
   rw [List.drop_zero,heq] at hleast
   refine Eq.trans (hleast _) ?_
   clear hleast heq b1 b2 b3 b4 bmem
   generalize G8 n pts 1114112=m at *
   have hmul:(m-n)*(s.done+1)<=1114112*256:=Nat.mul_le_mul (by omega) (by omega)
   have e1:A1 ((s.done:Int)+1)=((s.done+1:Nat):Int):=by rw [A5];rfl
   have e2:A1 ((m:Int)-(n:Int))=((m-n:Nat):Int):=by rw [A5];omega
   have e3:A1 (((m-n:Nat):Int)*((s.done+1:Nat):Int))=(((m-n)*(s.done+1):Nat):Int):=by
    rw [<-Int.natCast_mul]
    exact A5
   have e4:A1 ((s.delta:Int)+(((m-n)*(s.done+1):Nat):Int))=((s.delta+(m-n)*(s.done+1):Nat):Int):=by
    rw [A5];rfl
   simp only [vl,e1,e2,e3,e4]
   have hin:=Bi2 z t pts basic m (by omega) hl pts.length 0 LF { s with delta:=s.delta+(m-n)*(s.done+1) } (by omega) (by omega) (by simp only;omega) h2 (by simp only;omega) (by simp only;omega) hb
   rw [List.drop_zero] at hin
   obtain ⟨q1,q2,q3,q4,q5⟩:=hin
   refine Eq.trans (q1 R _) ?_
   have hcnt:0<pts.countP (· == m):=List.countP_pos_iff.2 ⟨m,hmem.1,by simp⟩
   rw [if_pos hcnt] at q5
   have hstep:=Xk hmem.2 pts g3
   generalize F6 m basic pts { s with delta:=s.delta+(m-n)*(s.done+1) } = s' at *
   simp only at q3 q4
   have e5:A1 ((s'.delta:Int)+1)=((s'.delta+1:Nat):Int):=by rw [A5];rfl
   have e6:A1 ((m:Int)+1)=((m+1:Nat):Int):=by rw [A5];rfl
   have hcl2:pts.countP (λp=>decide (p<m+1))<=pts.length:=List.countP_le_length
   simp only [e5,e6]
   exact ih (m+1) n' { s' with delta:=s'.delta+1 } (by simp only;omega) (by simp only;omega) (by omega) (by simp only;omega) q2 (by simp only;omega) (by omega) R k0
  ·rw [A7]
   rw [T2,if_neg hlt]
   rfl
theorem VV (z t:Bool) (P:List Int) (hl:P.length<=256):∀ (r i n:Nat) (out:By),i+r=P.length->r<n->out.length+r<=1000->
  ((P.drop i).all ptI=true->∀ (R:Type) (k0:LL->Option R) (k1:Bool->Bool->LL->LL->Option R),O4 LF n z t (U1 P) (i:Int) (out.map F5) k0 k1=k1 z t (U1 P) ((out++P7 (P.drop i)).map F5))/\
  ((P.drop i).all ptI=false->∃ l,∀ (R:Type) (k0:LL->Option R) (k1:Bool->Bool->LL->LL->Option R),O4 LF n z t (U1 P) (i:Int) (out.map F5) k0 k1=k0 l):=by
 intro r
 induction r with
 | zero=>
  intro i n out hi hn ho
  obtain ⟨n,rfl⟩:∃ m,n=m+1:=⟨n-1,by omega⟩
  rw [List.drop_of_length_le (by omega)]
  refine ⟨λ_ R k0 k1=>?_,λh=>(by cases h)⟩
  rw [O4]
  rw [O9,A7]
  simp [P7]
 | succ r ih=>
  intro i n out hi hn ho
  obtain ⟨n,rfl⟩:∃ m,n=m+1:=⟨n-1,by omega⟩
  have hg:=TA P i (by omega)
  have ok:=IR (l:=P) (i:=i) (by omega)
  have hin:inR (i:Int) (U1 P).length=true:=J6 (by omega) (by rw [O9];omega)
  have hlt:ltI (i:Int) ((U1 P).length:Int)=true:=C6 (by rw [O9];omega)
  rw [LH P i (by omega)]
  generalize P.getD i 0=x at *
  have e1:A1 ((i:Int)+1)=((i+1:Nat):Int):=by rw [A5];rfl
  cases hx:ptI x with
  | false=>
   refine ⟨λh=>?_,λ_=>⟨out.map F5,λR k0 k1=>?_⟩⟩
   ·rw [List.all_cons,hx] at h;cases h
   ·rw [O4]
    rw [Int.toNat_natCast]
    simp only [hin,hlt,ok,cond_true,vl,hg,hx,Bool.not_false]
  | true=>
   obtain ⟨p0,p1⟩:=Lz hx
   rw [List.all_cons,hx,Bool.true_and]
   by_cases h128:x<128
   ·have hbs:P7 (x::P.drop (i+1))=UInt8.ofNat x.toNat::P7 (P.drop (i+1)):=by
     unfold P7;rw [List.filter_cons_of_pos (by simpa using h128)];rfl
    have hrow:out.map F5++[[SV.int .u8 (wu8 x)]]=(out++[UInt8.ofNat x.toNat]).map F5:=by rw [A34 x p0 h128];simp
    obtain ⟨q1,q2⟩:=ih (i+1) n (out++[UInt8.ofNat x.toNat]) (by omega) (by omega) (by simp;omega)
    have step:∀ (R:Type) (k0:LL->Option R) (k1:Bool->Bool->LL->LL->Option R),O4 LF (n+1) z t (U1 P) (i:Int) (out.map F5) k0 k1=O4 LF n z t (U1 P) ((i+1:Nat):Int) ((out++[UInt8.ofNat x.toNat]).map F5) k0 k1:=by
     intro R k0 k1
     rw [O4]
     rw [Int.toNat_natCast]
     simp only [hin,hlt,ok,cond_true,vl,hg,hx,Bool.not_true,cond_false,e1]
     rw [C6 h128,List.length_map,G1 (by omega),hrow]
     rfl
    refine ⟨λh R k0 k1=>?_,λh=>?_⟩
    ·rw [step,q1 h,hbs];simp
    ·obtain ⟨l,e⟩:=q2 h
     exact ⟨l,λR k0 k1=>by rw [step];exact e R k0 k1⟩
   ·have hbs:P7 (x::P.drop (i+1))=P7 (P.drop (i+1)):=by
     unfold P7;rw [List.filter_cons_of_neg (by simpa using h128)]
    obtain ⟨q1,q2⟩:=ih (i+1) n out (by omega) (by omega) (by omega)
    have step:∀ (R:Type) (k0:LL->Option R) (k1:Bool->Bool->LL->LL->Option R),O4 LF (n+1) z t (U1 P) (i:Int) (out.map F5) k0 k1=O4 LF n z t (U1 P) ((i+1:Nat):Int) (out.map F5) k0 k1:=by
     intro R k0 k1
     rw [O4]
     rw [Int.toNat_natCast]
     simp only [hin,hlt,ok,cond_true,vl,hg,hx,Bool.not_true,cond_false,e1]
     rw [A7]
     rfl
    refine ⟨λh R k0 k1=>?_,λh=>?_⟩
    ·rw [step,q1 h,hbs]
    ·obtain ⟨l,e⟩:=q2 h
     exact ⟨l,λR k0 k1=>by rw [step];exact e R k0 k1⟩
theorem VW (z t:Bool) (P:List Int):(X9 P=([],3)/\∀ (R:Type) (k0:Unit->Option R) (k1:By->Int->LL->Option R),NK LF z t (U1 P) k0 k1=k0 ())\/
  (∃ l,∀ (R:Type) (k0:Unit->Option R) (k1:By->Int->LL->Option R),NK LF z t (U1 P) k0 k1=k1 (X9 P).1 ((X9 P).2:Nat) l):=by
 have hLF:=E8
 by_cases hl:256<P.length
 ·refine .inl ⟨by unfold X9;rw [if_pos hl],λR k0 k1=>?_⟩
  unfold NK
  rw [O9,A9]
  rfl
 ·right
  obtain ⟨q1,q2⟩:=VV z t P (by omega) P.length 0 LF [] (by omega) (by omega) (by simp;omega)
  rw [List.drop_zero] at q1 q2
  cases ha:P.all ptI with
  | false=>
   obtain ⟨l,e⟩:=q2 ha
   refine ⟨l,λR k0 k1=>?_⟩
   unfold NK
   rw [O9,A7,cond_false]
   refine Eq.trans (e R _ _) ?_
   unfold X9
   rw [if_neg hl,ha]
   rfl
  | true=>
   obtain ⟨pts,rfl,hp1,hp2⟩:=ZZ ha
   rw [List.length_map] at hl
   have hen:X9 (pts.map λn:Nat=>(n:Int))=Gj pts:=by
    unfold X9
    rw [List.length_map,if_neg hl,ha]
    simp [Function.comp_def]
   have hbl:=Wx pts
   have hbc:pts.countP (λp=>decide (p<128))<=pts.length:=List.countP_le_length
   have main:∀ (o:By),o.length<=300->∀ (R:Type) (k0:LL->Option R),Bh LF LF z t (B3 pts) ((F4 pts).length:Int) ((F4 pts).length:Int) 128 0 72 (o.map F5) k0=k0 ((T2 pts (F4 pts).length 256 128 { delta:=0,bias:=72,done:=(F4 pts).length,out:=o }).out.map F5):=by
    intro o ho R k0
    exact A05 z t pts (F4 pts).length (by omega) (by omega) hp2 256 128 LF { delta:=0,bias:=72,done:=(F4 pts).length,out:=o } hbl (by simp only;omega) (by omega) (by simp) (by simp) (by simp only;omega) (by omega) R k0
   have he2:Gj pts=((T2 pts (F4 pts).length 256 128 { delta:=0,bias:=72,done:=(F4 pts).length,out:=if (F4 pts).isEmpty then [] else F4 pts++[45] }).out,0):=by
    unfold Gj
    grind
   refine ⟨(Gj pts).1.map F5,λR k0 k1=>?_⟩
   unfold NK
   rw [O9,List.length_map,A7,cond_false,hen]
   have q1':=q1 ha R
   refine Eq.trans (q1' _ _) ?_
   rw [List.nil_append,Wy,Jw]
   simp only [vl,List.length_map]
   by_cases hbe:F4 pts=[]
   ·rw [hbe,List.length_nil,A7,cond_false]
    have mm:=main [] (by simp) R
    rw [hbe,List.length_nil] at mm
    rw [List.map_nil] at mm
    refine Eq.trans (mm _) ?_
    rw [hbe] at he2
    rw [he2]
    simp only [List.isEmpty_nil,if_true,List.length_nil]
    rw [Ml,Nz]
    rfl
   ·have hpos:0<(F4 pts).length:=List.length_pos_iff.2 hbe
    rw [A9,cond_true,G1 (by omega),cond_true]
    have hrow:(F4 pts).map F5++[[SV.int .u8 (45:Int)]]=(F4 pts++[45]).map F5:=by rw [List.map_append];rfl
    rw [hrow]
    refine Eq.trans (main (F4 pts++[45]) (by simp;omega) R _) ?_
    rw [he2,if_neg (by simpa using hbe)]
    rw [Ml,Nz]
    rfl
theorem Bi3 (z t:Bool) (p:LL) (h0:p.all Ns=true):∃ r H,NK LF z t p (λ_=>rv (.tup [.s (.str []),.s (.int .i64 3)]) []) (λr0 r1 l=>rv (.tup [.s (.str r0),.s (.int .i64 r1)]) [.arr true 5 1 l])=rv r H/\
  r.stab [0,0] H = .tup [.s (.str (X9 (p.map elI)).1),.s (.int .i64 ((X9 (p.map elI)).2:Nat))]:=by
 obtain ⟨P,rfl⟩:=ZE h0
 rw [LI]
 rcases VW z t P with ⟨h1,h2⟩ | ⟨l,h2⟩
 ·exact ⟨_,_,h2 _ _ _,by rw [h1];rfl⟩
 ·exact ⟨_,_,h2 _ _ _,rfl⟩
theorem WW {R:Type} {k0:Unit->Option R} {k1:By->Int->Option R} (s:By) (hs:s.length<=1000000):∀ (r i n cut:Nat),i+r=s.length->r<n->
  Aq LF n s (cut:Int) (i:Int) k0 k1=if (s.drop i).any (λb=>Nat.ble 128 b.toNat) then k0 () else k1 s ((if 45∈s.drop i then i+E1 (s.drop i) else cut:Nat):Int):=by
 intro r
 induction r with
 | zero=>
  intro i n cut hi hn
  obtain ⟨n,rfl⟩:∃ m,n=m+1:=⟨n-1,by omega⟩
  rw [Aq]
  rw [A7,List.drop_of_length_le (by omega)]
  rfl
 | succ r ih=>
  intro i n cut hi hn
  obtain ⟨n,rfl⟩:∃ m,n=m+1:=⟨n-1,by omega⟩
  rw [Aq]
  have e1:A1 ((i:Int)+1)=((i+1:Nat):Int):=by rw [A5];rfl
  rw [A9,L1,L9,L5 s i (by omega),e1,List.any_cons]
  simp only [cond_true]
  generalize s.getD i 0=b
  by_cases h:128<=b.toNat
  ·rw [A7,Nat.ble_eq_true_of_le h]
   rfl
  ·have:Nat.ble 128 b.toNat=false:=by rw [Bool.eq_false_iff,ne_eq,Nat.ble_eq];exact h
   rw [A9,this,Bool.false_or,Bool.not_true,cond_false]
   have hb:((b.toNat:Int)==45)=(b==45):=U5 b 45 (by omega)
   rw [hb]
   by_cases h45:b=45
   ·subst h45
    rw [show ((45:UInt8)==45)=true from rfl,cond_true]
    refine (ih (i+1) n i (by omega) (by omega)).trans ?_
    have hm:(45:UInt8)∈45::s.drop (i+1):=by simp
    rw [if_pos hm]
    have:(if (45:UInt8)∈s.drop (i+1) then i+1+E1 (s.drop (i+1)) else i)=i+E1 (45::s.drop (i+1)):=by
     rw [E1]
     grind
    rw [this]
   ·rw [show (b==45)=false from beq_eq_false_iff_ne.2 h45,cond_false]
    refine (ih (i+1) n cut (by omega) (by omega)).trans ?_
    have hm:((45:UInt8)∈b::s.drop (i+1))↔((45:UInt8)∈s.drop (i+1)):=by simp [Ne.symm h45]
    have:(if (45:UInt8)∈s.drop (i+1) then i+1+E1 (s.drop (i+1)) else cut)=(if (45:UInt8)∈b::s.drop (i+1) then i+E1 (b::s.drop (i+1)) else cut):=by
     by_cases q:(45:UInt8)∈s.drop (i+1)
     ·rw [if_pos q,if_pos (hm.2 q),E1,if_pos q];omega
     grind
    rw [this]
theorem WQ {R:Type} {k0:By->Int->LL->Option R} (s:By) (hs:s.length<=1000000) (k:Nat) (hk:k<=s.length):∀ (r i n:Nat) (l:List Nat),i+r=k->r<n->l.length=i->
  Dc LF n s (k:Int) (i:Int) (B3 l) k0=k0 s (k:Int) (B3 (l++((s.take k).drop i).map (·.toNat))):=by
 intro r
 induction r with
 | zero=>
  intro i n l hi hn hl
  obtain ⟨n,rfl⟩:∃ m,n=m+1:=⟨n-1,by omega⟩
  rw [Dc]
  rw [A7,List.drop_of_length_le (by rw [List.length_take];omega)]
  simp
 | succ r ih=>
  intro i n l hi hn hl
  obtain ⟨n,rfl⟩:∃ m,n=m+1:=⟨n-1,by omega⟩
  rw [Dc]
  have e1:A1 ((i:Int)+1)=((i+1:Nat):Int):=by rw [A5];rfl
  have hd:(s.take k).drop i=s.getD i 0::(s.take k).drop (i+1):=by
   rw [L5 (s.take k) i (by rw [List.length_take];omega)]
   congr 1
   rw [List.getD_eq_getElem?_getD,List.getD_eq_getElem?_getD,List.getElem?_take_of_lt (by omega)]
  rw [A9,L1,L9,hd,B9,G1 (by omega),e1]
  simp only [cond_true]
  generalize s.getD i 0=b
  have hb:=b.toNat_lt
  have e2:A1 (b.toNat:Int)=(b.toNat:Int):=A5
  have hrow:B3 l++[[SV.int .i64 (A1 (b.toNat:Int))]]=B3 (l++[b.toNat]):=by rw [e2,Iw];rfl
  rw [hrow]
  refine (ih (i+1) n _ (by omega) (by omega) (by simp;omega)).trans ?_
  simp
theorem WT (s:By) (hs:s.length<=1000000) (out:LL) (n3 b old:Int) (l:LL) (hb0:0<=b) (hb1:b<1000000):∀ (r p n k:Nat) (i w:Int),p+r=s.length->r<n->0<=i->i<=1099511627776->0<=w->w<=1099511627776->k+r<=10000000->
  ((N7 b (s.drop p) i w ((36*k:Nat):Int)).1=0->∃ p',p<p'/\p'<=s.length/\(N7 b (s.drop p) i w ((36*k:Nat):Int)).2.1=s.drop p'/\∀ (R:Type) (k0:Int->LL->Option R) (k1:By->LL->Int->Int->Int->Int->LL->Option R),P2 LF n s out (p:Int) n3 i b old w (k:Int) l k0 k1=k1 s out (p':Int) n3 (N7 b (s.drop p) i w ((36*k:Nat):Int)).2.2 old l)/\
  ((N7 b (s.drop p) i w ((36*k:Nat):Int)).1≠0->∀ (R:Type) (k0:Int->LL->Option R) (k1:By->LL->Int->Int->Int->Int->LL->Option R),P2 LF n s out (p:Int) n3 i b old w (k:Int) l k0 k1=k0 (N7 b (s.drop p) i w ((36*k:Nat):Int)).1 l):=by
 intro r
 induction r with
 | zero=>
  intro p n k i w hp hn hi hi1 hw hw1 hk
  obtain ⟨n,rfl⟩:∃ m,n=m+1:=⟨n-1,by omega⟩
  rw [List.drop_of_length_le (by omega)]
  refine ⟨λh=>by simp [N7] at h,λ_ R k0 k1=>?_⟩
  rw [P2]
  rw [A7]
  rfl
 | succ r ih=>
  intro p n k i w hp hn hi hi1 hw hw1 hk
  obtain ⟨n,rfl⟩:∃ m,n=m+1:=⟨n-1,by omega⟩
  have hc:=L5 s p (by omega)
  have hbt:=L9 s p
  rw [hc]
  generalize s.getD p 0=c at *
  have hv:=Bo c
  have ht:=Hh ((36*k:Nat):Int) b
  have e0:Int.mul 36 (k:Int)=((36*k:Nat):Int):=rfl
  have e6:A1 ((p:Int)+1)=((p+1:Nat):Int):=by rw [A5];rfl
  have e7:A1 ((k:Int)+1)=((k+1:Nat):Int):=by rw [A5];rfl
  have start:∀ (R:Type) (k0:Int->LL->Option R) (k1:By->LL->Int->Int->Int->Int->LL->Option R),P2 LF (n+1) s out (p:Int) n3 i b old w (k:Int) l k0 k1 =
    cond (ltI (C3 c) 0) (k0 4 l)
     (vl (A1 (i+(A1 (C3 c*w)))) λn10=>cond (ltI 1099511627776 n10) (k0 19 l)
      (cond (ltI (C3 c) (H9 ((36*k:Nat):Int) b)) (k1 s out ((p+1:Nat):Int) n3 n10 old l)
       (vl (A1 (36-(H9 ((36*k:Nat):Int) b))) λn13=>cond (ltI 1099511627776 (A1 (w*n13))) (k0 19 l) (P2 LF n s out ((p+1:Nat):Int) n3 n10 b old (A1 (w*n13)) ((k+1:Nat):Int) l k0 k1)))):=by
   intro R k0 k1
   rw [P2]
   have hcl:=c.toNat_lt
   rw [A9,L1,hbt,L1,Vn,L2,L2,e0,e6,e7]
   rfl
  unfold N7
  by_cases h1:C3 c<0
  ·rw [if_pos h1]
   refine ⟨λh=>by simp at h,λ_ R k0 k1=>?_⟩
   rw [start,C6 h1]
   rfl
  ·rw [if_neg h1]
   have hm:=Z6 (by omega) hv.2 hw hw1
   have e1:A1 (C3 c*w)=C3 c*w:=A5
   have e2:A1 (i+C3 c*w)=i+C3 c*w:=A5
   by_cases h2:1099511627776<i+C3 c*w
   ·rw [if_pos h2]
    refine ⟨λh=>by simp at h,λ_ R k0 k1=>?_⟩
    rw [start,A7,e1,e2]
    simp only [vl,cond_false]
    rw [C6 h2]
    rfl
   ·rw [if_neg h2]
    by_cases h3:C3 c<H9 ((36*k:Nat):Int) b
    ·rw [if_pos h3]
     refine ⟨λ_=>⟨p+1,by omega,by omega,rfl,λR k0 k1=>?_⟩,λh=>absurd rfl h⟩
     rw [start,A7,e1,e2]
     simp only [vl,cond_false]
     rw [A7,C6 h3]
     rfl
    ·rw [if_neg h3]
     have e3:A1 (36-H9 ((36*k:Nat):Int) b)=36-H9 ((36*k:Nat):Int) b:=A5
     have hm2:=Z6 (x:=36-H9 ((36*k:Nat):Int) b) (by omega) (by omega) hw hw1
     rw [Int.mul_comm] at hm2
     have e4:A1 (w*(36-H9 ((36*k:Nat):Int) b))=w*(36-H9 ((36*k:Nat):Int) b):=A5
     by_cases h4:1099511627776<w*(36-H9 ((36*k:Nat):Int) b)
     ·rw [if_pos h4]
      refine ⟨λh=>by simp at h,λ_ R k0 k1=>?_⟩
      rw [start,A7,e1,e2]
      simp only [vl,cond_false]
      rw [A7,A7,e3,e4,C6 h4]
      rfl
     ·rw [if_neg h4]
      have ek:((36*k:Nat):Int)+36=((36*(k+1):Nat):Int):=by omega
      rw [ek]
      obtain ⟨q1,q2⟩:=ih (p+1) n (k+1) (i+C3 c*w) (w*(36-H9 ((36*k:Nat):Int) b)) (by omega) (by omega) (by omega) (by omega) (by omega) (by omega) (by omega)
      have st2:∀ (R:Type) (k0:Int->LL->Option R) (k1:By->LL->Int->Int->Int->Int->LL->Option R),P2 LF (n+1) s out (p:Int) n3 i b old w (k:Int) l k0 k1=P2 LF n s out ((p+1:Nat):Int) n3 (i+C3 c*w) b old (w*(36-H9 ((36*k:Nat):Int) b)) ((k+1:Nat):Int) l k0 k1:=by simp_all
      refine ⟨λh=>?_,λh R k0 k1=>by rw [st2];exact q2 h R k0 k1⟩
      obtain ⟨p',g1,g2,g3,g4⟩:=q1 h
      exact ⟨p',by omega,g2,g3,λR k0 k1=>by rw [st2];exact g4 R k0 k1⟩
theorem WU (s:By) (hs:s.length<=1000000) (l:LL):∀ (r p n k:Nat) (i w:Int),p+r=s.length->r<n->0<=i->i<=1099511627776->0<=w->w<=1099511627776->k+r<=10000000->
  ((N7 72 (s.drop p) i w ((36*k:Nat):Int)).1=0->∃ p',p<p'/\p'<=s.length/\(N7 72 (s.drop p) i w ((36*k:Nat):Int)).2.1=s.drop p'/\∀ (R:Type) (k0:Int->LL->Option R) (k1:By->Int->Int->LL->Option R),P3 LF n s (p:Int) i w (k:Int) l k0 k1=k1 s (p':Int) (N7 72 (s.drop p) i w ((36*k:Nat):Int)).2.2 l)/\
  ((N7 72 (s.drop p) i w ((36*k:Nat):Int)).1≠0->∀ (R:Type) (k0:Int->LL->Option R) (k1:By->Int->Int->LL->Option R),P3 LF n s (p:Int) i w (k:Int) l k0 k1=k0 (N7 72 (s.drop p) i w ((36*k:Nat):Int)).1 l):=by
 intro r
 induction r with
 | zero=>
  intro p n k i w hp hn hi hi1 hw hw1 hk
  obtain ⟨n,rfl⟩:∃ m,n=m+1:=⟨n-1,by omega⟩
  rw [List.drop_of_length_le (by omega)]
  refine ⟨λh=>by simp [N7] at h,λ_ R k0 k1=>?_⟩
  rw [P3]
  rw [A7]
  rfl
 | succ r ih=>
  intro p n k i w hp hn hi hi1 hw hw1 hk
  obtain ⟨n,rfl⟩:∃ m,n=m+1:=⟨n-1,by omega⟩
  have hc:=L5 s p (by omega)
  have hbt:=L9 s p
  rw [hc]
  generalize s.getD p 0=c at *
  have hv:=Bo c
  have ht:=Hh ((36*k:Nat):Int) 72
  have e0:Int.mul 36 (k:Int)=((36*k:Nat):Int):=rfl
  have e6:A1 ((p:Int)+1)=((p+1:Nat):Int):=by rw [A5];rfl
  have e7:A1 ((k:Int)+1)=((k+1:Nat):Int):=by rw [A5];rfl
  have start:∀ (R:Type) (k0:Int->LL->Option R) (k1:By->Int->Int->LL->Option R),P3 LF (n+1) s (p:Int) i w (k:Int) l k0 k1 =
    cond (ltI (C3 c) 0) (k0 4 l)
     (vl (A1 (i+(A1 (C3 c*w)))) λn10=>cond (ltI 1099511627776 n10) (k0 19 l)
      (cond (ltI (C3 c) (H9 ((36*k:Nat):Int) 72)) (k1 s ((p+1:Nat):Int) n10 l)
       (vl (A1 (36-(H9 ((36*k:Nat):Int) 72))) λn13=>cond (ltI 1099511627776 (A1 (w*n13))) (k0 19 l) (P3 LF n s ((p+1:Nat):Int) n10 (A1 (w*n13)) ((k+1:Nat):Int) l k0 k1)))):=by
   intro R k0 k1
   rw [P3]
   have hcl:=c.toNat_lt
   rw [A9,L1,hbt,L1,Vn,L2,L2,e0,e6,e7]
   rfl
  unfold N7
  by_cases h1:C3 c<0
  ·rw [if_pos h1]
   refine ⟨λh=>by simp at h,λ_ R k0 k1=>?_⟩
   rw [start,C6 h1]
   rfl
  ·rw [if_neg h1]
   have hm:=Z6 (by omega) hv.2 hw hw1
   have e1:A1 (C3 c*w)=C3 c*w:=A5
   have e2:A1 (i+C3 c*w)=i+C3 c*w:=A5
   by_cases h2:1099511627776<i+C3 c*w
   ·rw [if_pos h2]
    refine ⟨λh=>by simp at h,λ_ R k0 k1=>?_⟩
    rw [start,A7,e1,e2]
    simp only [vl,cond_false]
    rw [C6 h2]
    rfl
   ·rw [if_neg h2]
    by_cases h3:C3 c<H9 ((36*k:Nat):Int) 72
    ·rw [if_pos h3]
     refine ⟨λ_=>⟨p+1,by omega,by omega,rfl,λR k0 k1=>?_⟩,λh=>absurd rfl h⟩
     rw [start,A7,e1,e2]
     simp only [vl,cond_false]
     rw [A7,C6 h3]
     rfl
    ·rw [if_neg h3]
     have e3:A1 (36-H9 ((36*k:Nat):Int) 72)=36-H9 ((36*k:Nat):Int) 72:=A5
     have hm2:=Z6 (x:=36-H9 ((36*k:Nat):Int) 72) (by omega) (by omega) hw hw1
     rw [Int.mul_comm] at hm2
     have e4:A1 (w*(36-H9 ((36*k:Nat):Int) 72))=w*(36-H9 ((36*k:Nat):Int) 72):=A5
     by_cases h4:1099511627776<w*(36-H9 ((36*k:Nat):Int) 72)
     ·rw [if_pos h4]
      refine ⟨λh=>by simp at h,λ_ R k0 k1=>?_⟩
      rw [start,A7,e1,e2]
      simp only [vl,cond_false]
      rw [A7,A7,e3,e4,C6 h4]
      rfl
     ·rw [if_neg h4]
      have ek:((36*k:Nat):Int)+36=((36*(k+1):Nat):Int):=by omega
      rw [ek]
      obtain ⟨q1,q2⟩:=ih (p+1) n (k+1) (i+C3 c*w) (w*(36-H9 ((36*k:Nat):Int) 72)) (by omega) (by omega) (by omega) (by omega) (by omega) (by omega) (by omega)
      have st2:∀ (R:Type) (k0:Int->LL->Option R) (k1:By->Int->Int->LL->Option R),P3 LF (n+1) s (p:Int) i w (k:Int) l k0 k1=P3 LF n s ((p+1:Nat):Int) (i+C3 c*w) (w*(36-H9 ((36*k:Nat):Int) 72)) ((k+1:Nat):Int) l k0 k1:=by simp_all
      refine ⟨λh=>?_,λh R k0 k1=>by rw [st2];exact q2 h R k0 k1⟩
      obtain ⟨p',g1,g2,g3,g4⟩:=q1 h
      exact ⟨p',by omega,g2,g3,λR k0 k1=>by rw [st2];exact g4 R k0 k1⟩
theorem DA (l:List Nat) (k:Nat):(B3 l).take k=B3 (l.take k):=by unfold B3;rw [List.map_take]
theorem CZ (l:List Nat) (k:Nat):(B3 l).drop k=B3 (l.drop k):=by unfold B3;rw [List.map_drop]
theorem WS (s:By) (hs:s.length<=1000000) (l:LL):∀ (r p f:Nat) (pts:List Nat) (n i b:Nat),p+r=s.length->r<f->pts.length<=256->n<=1114111->i<=1000->b<=500->
  ((E9 (s.drop p) pts n i b false).2=0->∀ (R:Type) (k0:Int->LL->Option R) (k1 k2:LL->LL->Option R),K7 LF f s (B3 pts) (p:Int) (n:Int) (i:Int) (b:Int) l k0 k1 k2=k2 (B3 (E9 (s.drop p) pts n i b false).1) l)/\
  ((E9 (s.drop p) pts n i b false).2≠0->(E9 (s.drop p) pts n i b false).1=[]/\((∀ (R:Type) (k0:Int->LL->Option R) (k1 k2:LL->LL->Option R),K7 LF f s (B3 pts) (p:Int) (n:Int) (i:Int) (b:Int) l k0 k1 k2=k0 ((E9 (s.drop p) pts n i b false).2:Nat) l)\/
   ((E9 (s.drop p) pts n i b false).2=3/\∃ l',∀ (R:Type) (k0:Int->LL->Option R) (k1 k2:LL->LL->Option R),K7 LF f s (B3 pts) (p:Int) (n:Int) (i:Int) (b:Int) l k0 k1 k2=k1 l l'))):=by
 have hLF:=E8
 intro r
 induction r using Nat.strongRecOn with
 | _ r ih=>
  intro p f pts n i b hp hf h2 h3 h4 h5
  obtain ⟨f,rfl⟩:∃ m,f=m+1:=⟨f-1,by omega⟩
  by_cases hr:r=0
  ·rw [List.drop_of_length_le (by omega),Y7]
   refine ⟨λ_ R k0 k1 k2=>?_,λh=>absurd rfl h⟩
   rw [K7]
   rw [A7]
   rfl
  ·have hne:s.drop p≠[]:=λh=>by
    have:=congrArg List.length h
    rw [List.length_drop] at this
    simp at this
    omega
   obtain ⟨g1,g2⟩:=WT s hs (B3 pts) (n:Int) (b:Int) (i:Int) l (by omega) (by omega) r p LF 0 (i:Int) 1 hp (by omega) (by omega) (by omega) (by omega) (by omega) (by omega)
   obtain ⟨d1,d2⟩:=Ni b (s.drop p) i 1 0
   have e36:N7 (b:Int) (s.drop p) (i:Int) 1 ((36*0:Nat):Int)=N7 (b:Int) (s.drop p) (i:Int) ((1:Nat):Int) ((36*0:Nat):Int):=rfl
   rw [e36] at g1 g2
   by_cases he:(C2 b (s.drop p) i 1 0).2.2=0
   ·rw [Aj hne pts n i b false he]
    have d3:=d2 he
    have hz:(N7 (b:Int) (s.drop p) (i:Int) ((1:Nat):Int) ((36*0:Nat):Int)).1=0:=by rw [d1,he];rfl
    obtain ⟨p',a1,a2,a3,a4⟩:=g1 hz
    obtain ⟨q1,q2,_⟩:=Nh (b:Int) (s.drop p) (i:Int) ((1:Nat):Int) ((36*0:Nat):Int) (by omega) (by omega) (by omega) hz
    rw [d3] at q1 q2 a3 a4
    simp only at q1 q2 a3 a4
    rw [a3]
    generalize (C2 b (s.drop p) i 1 0).1=X at *
    have el:A1 (((B3 pts).length:Int)+1)=((pts.length+1:Nat):Int):=by rw [B9,A5];rfl
    have e1:A1 ((X:Int)-(i:Int))=((X-i:Nat):Int):=by rw [A5];omega
    have ed:Int.tdiv (X:Int) ((pts.length+1:Nat):Int)=((X / (pts.length+1):Nat):Int):=K2 _ _
    have em:Int.tmod (X:Int) ((pts.length+1:Nat):Int)=((X % (pts.length+1):Nat):Int):=Fy _ _
    have hdv:X / (pts.length+1)<=X:=Nat.div_le_self _ _
    have hmod:=Nat.mod_lt X (show 0<pts.length+1 by omega)
    have had:=Hy (X-i) (pts.length+1) false (by omega)
    generalize hQ:X / (pts.length+1)=Q at *
    generalize hM:X % (pts.length+1)=M at *
    have e2:A1 (Q:Int)=(Q:Int):=A5
    have e3:A1 ((n:Int)+(Q:Int))=((n+Q:Nat):Int):=by rw [A5];rfl
    have e4:A1 ((M:Int)+1)=((M+1:Nat):Int):=by rw [A5];rfl
    have hnz:(((pts.length+1:Nat):Int) != 0)=true:=by rw [bne_iff_ne];omega
    have c1:cut (B3 pts) 0 (M:Int)=B3 (pts.take M):=by rw [Ai,Int.toNat_natCast,DA]
    have c2:cut (B3 pts) (M:Int) ((B3 pts).length:Int)=B3 (pts.drop M):=by rw [M7,Int.toNat_natCast,CZ]
    have hrow:∀ N:Nat,B3 (pts.take M)++[[SV.int .i64 (N:Int)]]++B3 (pts.drop M)=B3 (P0 pts M N):=λN=>by
     unfold P0
     rw [Iw,List.append_assoc]
     rfl
    have start:∀ (R:Type) (k0:Int->LL->Option R) (k1 k2:LL->LL->Option R),K7 LF (f+1) s (B3 pts) (p:Int) (n:Int) (i:Int) (b:Int) l k0 k1 k2 =
      cond (not (Q6 (n+Q))) (k0 2 l) (cond (ltI 256 ((pts.length+1:Nat):Int)) (k1 l (B3 (P0 pts M (n+Q))))
       (K7 LF f s (B3 (P0 pts M (n+Q))) (p':Int) ((n+Q:Nat):Int) ((M+1:Nat):Int) ((L7 (X-i) (pts.length+1) false:Nat):Int) l k0 k1 k2)):=by
     intro R k0 k1 k2
     rw [K7]
     rw [A9,cond_true]
     refine (a4 R _ _).trans ?_
     have s1:O6 (0:Int) (M:Int) (B3 pts).length=true:=U4 (by omega) (by omega) (by rw [B9];omega)
     have s2:O6 (M:Int) ((B3 pts).length:Int) (B3 pts).length=true:=U4 (by omega) (by rw [B9];omega) (by omega)
     have t1:ltN ((X-i:Nat):Int) 1152921504606846976=true:=L2
     have t2:ltN ((pts.length+1:Nat):Int) 1000000=true:=L2
     have t3:ltI 0 ((pts.length+1:Nat):Int)=true:=A9
     have l1:(B3 (pts.take M)).length=M:=by rw [B9,List.length_take];omega
     have l2:(B3 (pts.drop M)).length=pts.length-M:=by rw [B9,List.length_drop]
     have r1:G0 (0+(B3 (pts.take M)).length)=true:=G1 (by omega)
     have r2:G0 ((B3 (pts.take M)).length+1)=true:=G1 (by omega)
     have r3:G0 ((B3 (pts.take M)++[[SV.int .i64 ((n+Q:Nat):Int)]]).length+(B3 (pts.drop M)).length)=true:=G1 (by rw [List.length_append,List.length_singleton];omega)
     have l3:(B3 (P0 pts M (n+Q))).length=pts.length+1:=by rw [B9,V2]
     simp only [vl,el,e1,ed,em,e2,e3,e4,hnz,s1,s2,t1,t2,t3,c1,c2,r1,r2,r3,hrow,l3,cond_true,Int.toNat_natCast,Ha]
    cases hpt:Q6 (n+Q) with
    | false=>
     rw [if_neg (by simp)]
     refine ⟨λh=>by simp at h,λ_=>⟨rfl,.inl λR k0 k1 k2=>?_⟩⟩
     rw [start,hpt]
     rfl
    | true=>
     rw [if_pos rfl]
     by_cases hc:256<pts.length+1
     ·rw [if_pos hc]
      refine ⟨λh=>by simp at h,λ_=>⟨rfl,.inr ⟨rfl,B3 (P0 pts M (n+Q)),λR k0 k1 k2=>?_⟩⟩⟩
      rw [start,hpt,A9]
      rfl
     ·rw [if_neg hc]
      have hn':n+Q<=1114111:=by
       unfold Q6 at hpt
       simp only [Bool.and_eq_true,Nat.ble_eq] at hpt
       exact hpt.1
      have st2:∀ (R:Type) (k0:Int->LL->Option R) (k1 k2:LL->LL->Option R),K7 LF (f+1) s (B3 pts) (p:Int) (n:Int) (i:Int) (b:Int) l k0 k1 k2=K7 LF f s (B3 (P0 pts M (n+Q))) (p':Int) ((n+Q:Nat):Int) ((M+1:Nat):Int) ((L7 (X-i) (pts.length+1) false:Nat):Int) l k0 k1 k2:=by
       intro R k0 k1 k2
       rw [start,hpt,A7]
       rfl
      obtain ⟨z1,z2⟩:=ih (s.length-p') (by omega) p' f (P0 pts M (n+Q)) (n+Q) (M+1) (L7 (X-i) (pts.length+1) false) (by omega) (by omega) (by rw [V2];omega) hn' (by omega) had
      refine ⟨λh R k0 k1 k2=>by rw [st2];exact z1 h R k0 k1 k2,λh=>?_⟩
      obtain ⟨y1,y2⟩:=z2 h
      refine ⟨y1,?_⟩
      rcases y2 with y2 | ⟨y2,l',y3⟩
      ·exact .inl λR k0 k1 k2=>by rw [st2];exact y2 R k0 k1 k2
      ·exact .inr ⟨y2,l',λR k0 k1 k2=>by rw [st2];exact y3 R k0 k1 k2⟩
   ·rw [Co hne pts n i b false he]
    clear g1 d2
    refine ⟨λh=>absurd h he,λ_=>⟨rfl,.inl λR k0 k1 k2=>?_⟩⟩
    rw [K7]
    rw [A9,cond_true]
    have hfst:=congrArg Prod.fst d1
    simp only at hfst
    refine (g2 (by rw [hfst];omega) R _ _).trans ?_
    rw [hfst]
theorem Ac7:∀ (r:Nat) (s:By) (pts:List Nat) (n i b:Nat) (f:Bool),s.length<=r->0<pts.length->(E9 s pts n i b f).2=0->(E9 s pts n i b f).1≠[]:=by
 intro r
 induction r with
 | zero=>
  intro s pts n i b f hr hp h
  obtain rfl:=List.length_eq_zero_iff.1 (Nat.le_zero.1 hr)
  rw [Y7]
  grind
 | succ r ih=>
  intro s pts n i b f hr hp h
  by_cases hs:s=[]
  ·grind
  ·by_cases he:(C2 b s i 1 0).2.2=0
   ·rw [Aj hs pts n i b f he] at h ⊢
    split at h
    ·rename_i h1
     rw [if_pos h1]
     split at h
     ·omega
     ·rename_i h2
      rw [if_neg h2]
      have hlt:=Jr b s i 1 0 he
      exact ih _ _ _ _ _ _ (by omega) (by rw [V2];omega) h
    omega
   ·rw [Co hs pts n i b f he] at h
    omega
theorem WR (s:By) (hs:s.length<=1000000) (p:Nat) (pts:List Nat) (h2:pts.length<=256) (hp:p<=s.length) :
  (s.drop p=[]/\∀ (R:Type) (k0:Int->LL->Option R) (k1 k2:LL->LL->Option R) (k3:LL->Option R),H7 LF LF s (p:Int) (B3 pts) k0 k1 k2 k3=k3 (B3 pts))\/
  ((E9 (s.drop p) pts 128 0 72 true).2=0/\(E9 (s.drop p) pts 128 0 72 true).1≠[]/\∀ (R:Type) (k0:Int->LL->Option R) (k1 k2:LL->LL->Option R) (k3:LL->Option R),H7 LF LF s (p:Int) (B3 pts) k0 k1 k2 k3=k2 (B3 (E9 (s.drop p) pts 128 0 72 true).1) (B3 pts))\/
  ((E9 (s.drop p) pts 128 0 72 true).1=[]/\((∀ (R:Type) (k0:Int->LL->Option R) (k1 k2:LL->LL->Option R) (k3:LL->Option R),H7 LF LF s (p:Int) (B3 pts) k0 k1 k2 k3=k0 ((E9 (s.drop p) pts 128 0 72 true).2:Nat) (B3 pts))\/
   ((E9 (s.drop p) pts 128 0 72 true).2=3/\∃ l',∀ (R:Type) (k0:Int->LL->Option R) (k1 k2:LL->LL->Option R) (k3:LL->Option R),H7 LF LF s (p:Int) (B3 pts) k0 k1 k2 k3=k1 (B3 pts) l'))):=by
 have hLF:=E8
 obtain ⟨f,hf⟩:∃ m,LF=m+1:=⟨LF-1,by omega⟩
 by_cases hr:s.length<=p
 ·refine .inl ⟨List.drop_of_length_le hr,λR k0 k1 k2 k3=>?_⟩
  have e:H7 LF LF s (p:Int) (B3 pts) k0 k1 k2 k3=H7 LF (f+1) s (p:Int) (B3 pts) k0 k1 k2 k3:=by rw [<-hf]
  rw [e,H7]
  rw [A7]
  rfl
 ·right
  have hne:s.drop p≠[]:=λh=>by
   have:=congrArg List.length h
   grind
  obtain ⟨g1,g2⟩:=WU s hs (B3 pts) (s.length-p) p LF 0 0 1 (by omega) (by omega) (by omega) (by omega) (by omega) (by omega) (by omega)
  obtain ⟨d1,d2⟩:=Ni 72 (s.drop p) 0 1 0
  have e36:N7 72 (s.drop p) 0 1 ((36*0:Nat):Int)=N7 ((72:Nat):Int) (s.drop p) ((0:Nat):Int) ((1:Nat):Int) ((36*0:Nat):Int):=rfl
  rw [e36] at g1 g2
  by_cases he:(C2 72 (s.drop p) 0 1 0).2.2=0
  ·rw [Aj hne pts 128 0 72 true he]
   have d3:=d2 he
   have hz:(N7 ((72:Nat):Int) (s.drop p) ((0:Nat):Int) ((1:Nat):Int) ((36*0:Nat):Int)).1=0:=by grind
   obtain ⟨p',a1,a2,a3,a4⟩:=g1 hz
   obtain ⟨q1,q2,_⟩:=Nh ((72:Nat):Int) (s.drop p) ((0:Nat):Int) ((1:Nat):Int) ((36*0:Nat):Int) (by omega) (by omega) (by omega) hz
   rw [d3] at q1 q2 a3 a4
   simp only at q1 q2 a3 a4
   clear g1 g2 d1 d2 d3 hz e36
   rw [a3]
   generalize (C2 72 (s.drop p) 0 1 0).1=X at *
   have el:A1 (((B3 pts).length:Int)+1)=((pts.length+1:Nat):Int):=by rw [B9,A5];rfl
   have e1:A1 ((X:Int)-0)=(X:Int):=by rw [A5];omega
   have ed:Int.tdiv (X:Int) ((pts.length+1:Nat):Int)=((X / (pts.length+1):Nat):Int):=K2 _ _
   have em:Int.tmod (X:Int) ((pts.length+1:Nat):Int)=((X % (pts.length+1):Nat):Int):=Fy _ _
   have hdv:X / (pts.length+1)<=X:=Nat.div_le_self _ _
   have hmod:=Nat.mod_lt X (show 0<pts.length+1 by omega)
   have had:=Hy X (pts.length+1) true (by omega)
   generalize hQ:X / (pts.length+1)=Q at *
   generalize hM:X % (pts.length+1)=M at *
   have e2:A1 (Q:Int)=(Q:Int):=A5
   have e3:A1 ((128:Int)+(Q:Int))=((128+Q:Nat):Int):=by rw [A5];rfl
   have e4:A1 ((M:Int)+1)=((M+1:Nat):Int):=by rw [A5];rfl
   have hnz:(((pts.length+1:Nat):Int) != 0)=true:=by rw [bne_iff_ne];omega
   have c1:List.take (M-0) (List.drop 0 (B3 pts))=B3 (pts.take M):=by rw [Nat.sub_zero,List.drop_zero,DA]
   have c2:List.take ((B3 pts).length-M) (List.drop M (B3 pts))=B3 (pts.drop M):=by
    rw [List.take_of_length_le (by rw [List.length_drop];omega),CZ]
   have hrow:∀ N:Nat,B3 (pts.take M)++[[SV.int .i64 (N:Int)]]++B3 (pts.drop M)=B3 (P0 pts M N):=λN=>by
    unfold P0
    rw [Iw,List.append_assoc]
    rfl
   have start:∀ (R:Type) (k0:Int->LL->Option R) (k1 k2:LL->LL->Option R) (k3:LL->Option R),H7 LF LF s (p:Int) (B3 pts) k0 k1 k2 k3 =
     cond (not (Q6 (128+Q))) (k0 2 (B3 pts)) (cond (ltI 256 ((pts.length+1:Nat):Int)) (k1 (B3 pts) (B3 (P0 pts M (128+Q))))
      (K7 LF f s (B3 (P0 pts M (128+Q))) (p':Int) ((128+Q:Nat):Int) ((M+1:Nat):Int) ((L7 X (pts.length+1) true:Nat):Int) (B3 pts) k0 k1 k2)):=by
    intro R k0 k1 k2 k3
    have e:H7 LF LF s (p:Int) (B3 pts) k0 k1 k2 k3=H7 LF (f+1) s (p:Int) (B3 pts) k0 k1 k2 k3:=by rw [<-hf]
    rw [e,H7]
    rw [A9,cond_true]
    refine (a4 R _ _).trans ?_
    have s1:O6 (0:Int) (M:Int) (B3 pts).length=true:=U4 (by omega) (by omega) (by rw [B9];omega)
    have s2:O6 (M:Int) ((B3 pts).length:Int) (B3 pts).length=true:=U4 (by omega) (by rw [B9];omega) (by omega)
    have t1:ltN (X:Int) 1152921504606846976=true:=L2
    have t2:ltN ((pts.length+1:Nat):Int) 1000000=true:=L2
    have t3:ltI 0 ((pts.length+1:Nat):Int)=true:=A9
    have l1:(B3 (pts.take M)).length=M:=by rw [B9,List.length_take];omega
    have l2:(B3 (pts.drop M)).length=pts.length-M:=by rw [B9,List.length_drop]
    have r1:G0 (0+(B3 (pts.take M)).length)=true:=G1 (by omega)
    have r2:G0 ((B3 (pts.take M)).length+1)=true:=G1 (by omega)
    have r3:G0 ((B3 (pts.take M)++[[SV.int .i64 ((128+Q:Nat):Int)]]).length+(B3 (pts.drop M)).length)=true:=G1 (by rw [List.length_append,List.length_singleton];omega)
    have l3:(B3 (P0 pts M (128+Q))).length=pts.length+1:=by rw [B9,V2]
    simp only [vl,el,e1,ed,em,e2,e3,e4,hnz,s1,s2,t1,t2,t3,Int.toNat_natCast,c1,c2,r1,r2,r3,hrow,l3,cond_true,Ha]
   cases hpt:Q6 (128+Q) with
   | false=>
    rw [if_neg (by simp)]
    refine .inr ⟨rfl,.inl λR k0 k1 k2 k3=>?_⟩
    rw [start,hpt]
    rfl
   | true=>
    rw [if_pos rfl]
    by_cases hc:256<pts.length+1
    ·rw [if_pos hc]
     refine .inr ⟨rfl,.inr ⟨rfl,B3 (P0 pts M (128+Q)),λR k0 k1 k2 k3=>?_⟩⟩
     rw [start,hpt,A9]
     rfl
    ·rw [if_neg hc]
     have hn':128+Q<=1114111:=by
      unfold Q6 at hpt
      simp_all
     have st2:∀ (R:Type) (k0:Int->LL->Option R) (k1 k2:LL->LL->Option R) (k3:LL->Option R),H7 LF LF s (p:Int) (B3 pts) k0 k1 k2 k3=K7 LF f s (B3 (P0 pts M (128+Q))) (p':Int) ((128+Q:Nat):Int) ((M+1:Nat):Int) ((L7 X (pts.length+1) true:Nat):Int) (B3 pts) k0 k1 k2:=by
      intro R k0 k1 k2 k3
      rw [start,hpt,A7]
      rfl
     obtain ⟨z1,z2⟩:=WS s hs (B3 pts) (s.length-p') p' f (P0 pts M (128+Q)) (128+Q) (M+1) (L7 X (pts.length+1) true) (by omega) (by omega) (by rw [V2];omega) hn' (by omega) had
     have hX:X-0=X:=Nat.sub_zero X
     rw [hX]
     by_cases hz:(E9 (s.drop p') (P0 pts M (128+Q)) (128+Q) (M+1) (L7 X (pts.length+1) true) false).2=0
     ·refine .inl ⟨hz,?_,λR k0 k1 k2 k3=>by rw [st2];exact z1 hz R k0 k1 k2⟩
      exact Ac7 _ _ _ _ _ _ _ (Nat.le_refl _) (by rw [V2];omega) hz
     ·obtain ⟨y1,y2⟩:=z2 hz
      refine .inr ⟨y1,?_⟩
      rcases y2 with y2 | ⟨y2,l',y3⟩
      ·exact .inl λR k0 k1 k2 k3=>by rw [st2];exact y2 R k0 k1 k2
      ·exact .inr ⟨y2,l',λR k0 k1 k2 k3=>by rw [st2];exact y3 R k0 k1 k2⟩
  ·rw [Co hne pts 128 0 72 true he]
   clear g1 d2
   refine .inr ⟨rfl,.inl λR k0 k1 k2 k3=>?_⟩
   have e:H7 LF LF s (p:Int) (B3 pts) k0 k1 k2 k3=H7 LF (f+1) s (p:Int) (B3 pts) k0 k1 k2 k3:=by rw [<-hf]
   rw [e,H7]
   rw [A9,cond_true]
   have hfst:=congrArg Prod.fst d1
   simp only at hfst
   refine (g2 (by rw [hfst];omega) R _ _).trans ?_
   rw [hfst]
theorem A11 (s:By) (h0:A2 s.length=true):∃ r H,Aa5 LF s (λr0 l1=>rv (.tup [.fl 0,.s (.int .i64 r0)]) [.arr true 3 1 l1]) (λr0 l1=>rv (.tup [.fl 1,.s (.int .i64 r0)]) [.arr true 3 1 l1,.arr true 3 1 []]) (λl0 l1=>rv (.tup [.fl 2,.s (.int .i64 (3:Int))]) [.arr true 3 1 l0,.arr false 3 1 l1,.arr true 3 1 []]) (λr0 l1=>rv (.tup [.s (.sl false false 1 r0),.s (.int .i64 (0:Int))]) [.arr true 3 1 l1])=rv r H/\
  r.stab [1,0] H = .tup [.s (.sl (J5 s).1.isEmpty (J5 s).1.isEmpty 1 (Rz (J5 s).1)),.s (.int .i64 ((J5 s).2:Nat))]:=by
 have hLF:=E8
 unfold Aa5 J5
 by_cases hl:1024<s.length
 ·rw [if_pos hl,A9]
  exact ⟨_,_,rfl,rfl⟩
 ·rw [if_neg hl,A7,cond_false]
  have asc:=λ(R:Type) (K0:Unit->Option R) (K1:By->Int->Option R)=>WW (k0:=K0) (k1:=K1) s (by omega) s.length 0 LF 0 (by omega) (by omega)
  rw [List.drop_zero] at asc
  cases ha:s.any (λb=>Nat.ble 128 b.toNat) with
  | true=>
   rw [if_pos rfl]
   refine ⟨.tup [.fl 0,.s (.int .i64 4)],[.arr true 3 1 []],(asc _ _ _).trans ?_,rfl⟩
   rw [ha,if_pos rfl]
  | false=>
   rw [if_neg (by simp)]
   obtain ⟨d1,d2⟩:=It s
   have hlt:=Iu s
   have hcut:(if (45:UInt8)∈s then 0+E1 s else 0)=E1 s:=by
    split
    ·omega
    ·rename_i h;exact (d2 h).2.symm
   rw [ha,hcut] at asc
   have hcopy:=λ(R:Type) (K:By->Int->LL->Option R)=>WQ (k0:=K) s (by omega) (E1 s) (by omega) (E1 s) 0 LF [] (by omega) (by omega) rfl
   rw [List.drop_zero] at hcopy
   have hlen:((s.take (E1 s)).map (·.toNat)).length=E1 s:=by rw [List.length_map,List.length_take];omega
   generalize hm:E1 s=m at *
   generalize hpts:(s.take m).map (·.toNat)=pts at *
   by_cases h256:256<m
   ·rw [if_pos h256]
    refine ⟨.tup [.fl 1,.s (.int .i64 3)],[.arr true 3 1 (B3 pts),.arr true 3 1 []],(asc _ _ _).trans ?_,rfl⟩
    rw [if_neg (by simp)]
    refine (hcopy _ _).trans ?_
    rw [List.nil_append,B9,hlen,A9]
    rfl
   ·rw [if_neg h256]
    have fin:∀ p:Nat,p<=s.length->∀ (X:Option (PV × List Blk × Unit)),X=H7 LF LF s (p:Int) (B3 pts) (λr0 l1=>rv (.tup [.fl 1,.s (.int .i64 r0)]) [.arr true 3 1 l1,.arr true 3 1 []]) (λl0 l1=>rv (.tup [.fl 2,.s (.int .i64 (3:Int))]) [.arr true 3 1 l0,.arr false 3 1 l1,.arr true 3 1 []]) (λr0 l1=>rv (.tup [.s (.sl false false 1 r0),.s (.int .i64 (0:Int))]) [.arr true 3 1 l1]) (λl=>rv (.tup [.fl 0,.s (.int .i64 0)]) [.arr true 3 1 l])->
      ∃ r H,X=rv r H/\r.stab [1,0] H = .tup [.s (.sl (E9 (s.drop p) pts 128 0 72 true).1.isEmpty (E9 (s.drop p) pts 128 0 72 true).1.isEmpty 1 (Rz (E9 (s.drop p) pts 128 0 72 true).1)),.s (.int .i64 ((E9 (s.drop p) pts 128 0 72 true).2:Nat))]:=by
     intro p hp X hX
     rcases WR s (by omega) p pts (by omega) hp with ⟨e1,e2⟩ | ⟨e1,e3,e2⟩ | ⟨e1,e2 | ⟨e3,l',e2⟩⟩
     ·refine ⟨_,_,hX.trans (e2 _ _ _ _ _),?_⟩
      rw [e1,Y7,Fs]
      simp [PV.stab,Im,Rm,PV.snap,I6,Oc]
     ·refine ⟨_,_,hX.trans (e2 _ _ _ _ _),?_⟩
      rw [e1,Fs]
      have:(E9 (s.drop p) pts 128 0 72 true).1.isEmpty=false:=by
       cases h:(E9 (s.drop p) pts 128 0 72 true).1 with
       | nil=>exact absurd h e3
       | cons a r=>rfl
      rw [this]
      rfl
     ·refine ⟨_,_,hX.trans (e2 _ _ _ _ _),?_⟩
      rw [e1]
      rfl
     ·refine ⟨_,_,hX.trans (e2 _ _ _ _ _),?_⟩
      rw [e1,e3]
      rfl
    by_cases hz:m=0
    ·subst hz
     rw [if_pos rfl]
     have:=fin 0 (by omega) _ rfl
     rw [List.drop_zero] at this
     obtain ⟨r,H,g1,g2⟩:=this
     refine ⟨r,H,(asc _ _ _).trans ?_,g2⟩
     rw [if_neg (by simp)]
     refine (hcopy _ _).trans ?_
     rw [List.nil_append,B9,hlen,A7,cond_false,A7,cond_false]
     exact g1
    ·rw [if_neg hz]
     obtain ⟨r,H,g1,g2⟩:=fin (m+1) (by omega) _ rfl
     refine ⟨r,H,(asc _ _ _).trans ?_,g2⟩
     rw [if_neg (by simp)]
     refine (hcopy _ _).trans ?_
     have e1:A1 ((m:Int)+1)=((m+1:Nat):Int):=by rw [A5];rfl
     rw [List.nil_append,B9,hlen,A7,cond_false,A9,cond_true,e1]
     exact g1
theorem S8 {R:Type} {k0:LL->Option R} {k1:By->Int->Int->Int->Int->LL->Option R} (s:By) (hs:s.length<=1000000000) (n i m v least kk:Nat) (l:LL) (hk:kk<m) (hm:m<=4) (hi:i+kk<s.length) (hv:v<=100000) (hn:0<n) :
  Hf LF n s i m v least kk l k0 k1=if 128<=(s.getD (i+kk) 0).toNat/\(s.getD (i+kk) 0).toNat<=191 then Hf LF (n-1) s i m ((v*64+(s.getD (i+kk) 0).toNat-128:Nat):Int) least ((kk+1:Nat):Int) l k0 k1 else k0 l:=by
 have hb:=(s.getD (i+kk) 0).toNat_lt
 obtain ⟨n,rfl⟩:∃ m,n=m+1:=⟨n-1,by omega⟩
 rw [Hf]
 have e1:A1 ((i:Int)+kk)=((i+kk:Nat):Int):=by rw [A5];rfl
 have e2:A1 ((kk:Int)+1)=((kk+1:Nat):Int):=by rw [A5];rfl
 rw [A9,e1,e2,L1,L9]
 generalize (s.getD (i+kk) 0).toNat=b at *
 simp only [cond_true,vl]
 rw [E3 (n:=(b:Int)) (by omega) (by omega),Nat.add_sub_cancel]
 by_cases h1:b<128
 ·rw [A9,G7]
  rfl
 ·rw [A7,cond_false]
  by_cases h2:191<b
  ·rw [A9,G7]
   rfl
  ·rw [A7,cond_false,Fq]
   have e3:A1 (A1 (A1 ((v:Int)*64)+(b:Int))-128)=((v*64+b-128:Nat):Int):=by
    rw [E3 (n:=(v:Int)*64) (by omega) (by omega),E3 (n:=(v:Int)*64+b) (by omega) (by omega),A5]
    omega
   rw [e3]
theorem Je {R:Type} {k0:LL->Option R} {k1:By->Int->Int->Int->Int->LL->Option R} (s:By) (n i m v least:Nat) (l:LL) (hn:0<n) :
  Hf LF n s i m v least m l k0 k1=k1 s i m v least l:=by
 obtain ⟨n,rfl⟩:∃ m,n=m+1:=⟨n-1,by omega⟩
 rw [Hf]
 rw [A7]
 rfl
theorem Kj {R:Type} {k0:LL->Option R} {k1:By->Int->LL->Option R} (s:By) (hs:s.length<=1000000000) (i m v least:Nat) (P:List Nat) (hP:P.length<=1000000000) (hi:i+m<=s.length) (hv:v<=10000000) (hm:m<=4) :
  cond (ltI (v:Int) (least:Int)) (k0 (B3 P)) (cond (not (ptI v)) (k0 (B3 P)) (cond (G0 ((B3 P).length+1)) (k1 s (A1 ((i:Int)+m)) (B3 P++[[SV.int .i64 (v:Int)]])) none)) =
   if least<=v/\Q6 v=true then k1 s ((i+m:Nat):Int) (B3 (P++[v])) else k0 (B3 P):=by
 have e1:A1 ((i:Int)+m)=((i+m:Nat):Int):=by rw [A5];rfl
 rw [e1,B9,G1 (by omega),Iw,show ptI (v:Int)=Q6 v from rfl]
 by_cases h:v<least
 ·rw [A9,G7]
  rfl
 ·rw [A7,cond_false]
  cases hp:Q6 v with
  | false=>rw [if_neg (by simp)];rfl
  | true=>rw [if_pos ⟨by omega,rfl⟩];rfl
theorem Aj9 {R:Type} {k0:LL->Option R} {k1:By->Int->LL->Option R} (s:By) (hs:s.length<=1000000000) (i v least:Nat) (P:List Nat) (hP:P.length<=1000000000) (hi:i<s.length) (hv:v<=32) :
  Ee LF s i 2 v least (B3 P) k0 k1=if 2<=s.length-i/\128<=(s.getD (i+1) 0).toNat/\(s.getD (i+1) 0).toNat<=191 then
   (if least<=v*64+(s.getD (i+1) 0).toNat-128/\Q6 (v*64+(s.getD (i+1) 0).toNat-128)=true then k1 s ((i+2:Nat):Int) (B3 (P++[v*64+(s.getD (i+1) 0).toNat-128])) else k0 (B3 P)) else k0 (B3 P):=by
 have hb:=(s.getD (i+1) 0).toNat_lt
 have hLF:=E8
 unfold Ee
 have e1:A1 ((s.length:Int)-i)=((s.length-i:Nat):Int):=by rw [A5];omega
 rw [e1]
 simp only [vl]
 by_cases h:s.length-i<2
 ·rw [A9,G7]
  rfl
 ·rw [A7,cond_false]
  refine Eq.trans (S8 s hs LF i 2 v least 1 (B3 P) (by omega) (by omega) (by omega) (by omega) (by omega)) ?_
  generalize (s.getD (i+1) 0).toNat=b at *
  by_cases h1:128<=b/\b<=191
  ·rw [if_pos h1,if_pos ⟨by omega,h1⟩]
   refine Eq.trans (Je s (LF-1) i 2 _ least (B3 P) (by omega)) ?_
   exact Kj s hs i 2 _ least P hP (by omega) (by omega) (by omega)
  ·rw [if_neg h1,if_neg (λh=>h1 h.2)]
theorem Ak0 {R:Type} {k0:LL->Option R} {k1:By->Int->LL->Option R} (s:By) (hs:s.length<=1000000000) (i v least:Nat) (P:List Nat) (hP:P.length<=1000000000) (hi:i<s.length) (hv:v<=32) :
  Ee LF s i 3 v least (B3 P) k0 k1=if 3<=s.length-i/\(128<=(s.getD (i+1) 0).toNat/\(s.getD (i+1) 0).toNat<=191)/\(128<=(s.getD (i+2) 0).toNat/\(s.getD (i+2) 0).toNat<=191) then
   (if least<=(v*64+(s.getD (i+1) 0).toNat-128)*64+(s.getD (i+2) 0).toNat-128/\Q6 ((v*64+(s.getD (i+1) 0).toNat-128)*64+(s.getD (i+2) 0).toNat-128)=true then k1 s ((i+3:Nat):Int) (B3 (P++[(v*64+(s.getD (i+1) 0).toNat-128)*64+(s.getD (i+2) 0).toNat-128])) else k0 (B3 P)) else k0 (B3 P):=by
 have hb:=(s.getD (i+1) 0).toNat_lt
 have hb2:=(s.getD (i+2) 0).toNat_lt
 have hLF:=E8
 unfold Ee
 have e1:A1 ((s.length:Int)-i)=((s.length-i:Nat):Int):=by rw [A5];omega
 rw [e1]
 simp only [vl]
 by_cases h:s.length-i<3
 ·rw [A9,G7]
  rfl
 ·rw [A7,cond_false]
  refine Eq.trans (S8 s hs LF i 3 v least 1 (B3 P) (by omega) (by omega) (by omega) (by omega) (by omega)) ?_
  by_cases h1:128<=(s.getD (i+1) 0).toNat/\(s.getD (i+1) 0).toNat<=191
  ·rw [if_pos h1]
   refine Eq.trans (S8 s hs (LF-1) i 3 _ least 2 (B3 P) (by omega) (by omega) (by omega) (by omega) (by omega)) ?_
   by_cases h2:128<=(s.getD (i+2) 0).toNat/\(s.getD (i+2) 0).toNat<=191
   ·rw [if_pos h2,if_pos ⟨by omega,h1,h2⟩]
    refine Eq.trans (Je s (LF-2) i 3 _ least (B3 P) (by omega)) ?_
    exact Kj s hs i 3 _ least P hP (by omega) (by omega) (by omega)
   ·rw [if_neg h2,if_neg (λh=>h2 h.2.2)]
  ·rw [if_neg h1,if_neg (λh=>h1 h.2.1)]
theorem Ak1 {R:Type} {k0:LL->Option R} {k1:By->Int->LL->Option R} (s:By) (hs:s.length<=1000000000) (i v least:Nat) (P:List Nat) (hP:P.length<=1000000000) (hi:i<s.length) (hv:v<=20) :
  Ee LF s i 4 v least (B3 P) k0 k1=if 4<=s.length-i/\(128<=(s.getD (i+1) 0).toNat/\(s.getD (i+1) 0).toNat<=191)/\(128<=(s.getD (i+2) 0).toNat/\(s.getD (i+2) 0).toNat<=191)/\(128<=(s.getD (i+3) 0).toNat/\(s.getD (i+3) 0).toNat<=191) then
   (if least<=((v*64+(s.getD (i+1) 0).toNat-128)*64+(s.getD (i+2) 0).toNat-128)*64+(s.getD (i+3) 0).toNat-128/\Q6 (((v*64+(s.getD (i+1) 0).toNat-128)*64+(s.getD (i+2) 0).toNat-128)*64+(s.getD (i+3) 0).toNat-128)=true then k1 s ((i+4:Nat):Int) (B3 (P++[((v*64+(s.getD (i+1) 0).toNat-128)*64+(s.getD (i+2) 0).toNat-128)*64+(s.getD (i+3) 0).toNat-128])) else k0 (B3 P)) else k0 (B3 P):=by
 have hb:=(s.getD (i+1) 0).toNat_lt
 have hb2:=(s.getD (i+2) 0).toNat_lt
 have hb3:=(s.getD (i+3) 0).toNat_lt
 have hLF:=E8
 unfold Ee
 have e1:A1 ((s.length:Int)-i)=((s.length-i:Nat):Int):=by rw [A5];omega
 rw [e1]
 simp only [vl]
 by_cases h:s.length-i<4
 ·rw [A9,G7]
  rfl
 ·rw [A7,cond_false]
  refine Eq.trans (S8 s hs LF i 4 v least 1 (B3 P) (by omega) (by omega) (by omega) (by omega) (by omega)) ?_
  by_cases h1:128<=(s.getD (i+1) 0).toNat/\(s.getD (i+1) 0).toNat<=191
  ·rw [if_pos h1]
   refine Eq.trans (S8 s hs (LF-1) i 4 _ least 2 (B3 P) (by omega) (by omega) (by omega) (by omega) (by omega)) ?_
   by_cases h2:128<=(s.getD (i+2) 0).toNat/\(s.getD (i+2) 0).toNat<=191
   ·rw [if_pos h2]
    refine Eq.trans (S8 s hs (LF-2) i 4 _ least 3 (B3 P) (by omega) (by omega) (by omega) (by omega) (by omega)) ?_
    by_cases h3:128<=(s.getD (i+3) 0).toNat/\(s.getD (i+3) 0).toNat<=191
    ·rw [if_pos h3,if_pos ⟨by omega,h1,h2,h3⟩]
     refine Eq.trans (Je s (LF-3) i 4 _ least (B3 P) (by omega)) ?_
     exact Kj s hs i 4 _ least P hP (by omega) (by omega) (by omega)
    ·rw [if_neg h3,if_neg (λh=>h3 h.2.2.2)]
   ·rw [if_neg h2,if_neg (λh=>h2 h.2.2.1)]
  ·rw [if_neg h1,if_neg (λh=>h1 h.2.1)]
theorem XA {R:Type} {k0:By->Int->Int->LL->Option R} (n:Nat) (hn:0<n) (s:By) (i v:Int) (l:LL):JL LF n s i v l k0=k0 s i v l:=by
 obtain ⟨n,rfl⟩:∃ m,n=m+1:=⟨n-1,by omega⟩
 rw [JL]
theorem WZ {R:Type} {k0:LL->Option R} {k1:By->Int->LL->Option R} (s:By) (hs:s.length<=1000000000) (i v:Nat) (P:List Nat) (hP:P.length<=1000000000) (hi:i<s.length) (hv:v<128) :
  JK LF s i v (B3 P) k0 k1=k1 s ((i+1:Nat):Int) (B3 (P++[v])):=by
 unfold JK
 have e1:A1 ((s.length:Int)-i)=((s.length-i:Nat):Int):=by rw [A5];omega
 rw [e1]
 simp only [vl]
 rw [A7,cond_false]
 refine Eq.trans (show _=cond (ltI (v:Int) ((0:Nat):Int)) (k0 (B3 P)) (cond (not (ptI v)) (k0 (B3 P)) (cond (G0 ((B3 P).length+1)) (k1 s (A1 ((i:Int)+(1:Nat))) (B3 P++[[SV.int .i64 (v:Int)]])) none)) from XA LF (by have:=E8;omega) _ _ _ _) ?_
 rw [Kj s hs i 1 v 0 P hP (by omega) (by omega) (by omega),if_pos]
 refine ⟨Nat.zero_le _,?_⟩
 simp only [Q6,Bool.and_eq_true,Bool.or_eq_true,Nat.ble_eq,Nat.blt_eq]
 omega
theorem Aw5 {v:Nat} (h:v<2048):Q6 v=true:=by
 simp only [Q6,Bool.and_eq_true,Bool.or_eq_true,Nat.ble_eq,Nat.blt_eq]
 omega
theorem XB {R:Type} {k0 k1:LL->Option R} (s:By) (hs:s.length<=1000000000) (n i:Nat) (P:List Nat) (hP:P.length<=1000000000) (hi:i<s.length) :
  X1 LF (n+1) s i (B3 P) k0 k1=if (Lib.decodeL (s.drop i)).1=65533/\(Lib.decodeL (s.drop i)).2=1 then k0 (B3 P) else X1 LF n s ((i+(Lib.decodeL (s.drop i)).2:Nat):Int) (B3 (P++[(Lib.decodeL (s.drop i)).1])) k0 k1:=by
 have g:∀ k,(s.drop i).getD k 0=s.getD (i+k) 0:=λk=>by grind
 have hd:Lib.decodeL (s.drop i)=Lib.decodeN (s.length-i) (s.getD i 0).toNat (s.getD (i+1) 0).toNat (s.getD (i+2) 0).toNat (s.getD (i+3) 0).toNat:=by
  rw [Lib.decodeL_N,g,g,g,g,List.length_drop]
  rfl
 have l0:=(s.getD i 0).toNat_lt
 have l1:=(s.getD (i+1) 0).toNat_lt
 have l2:=(s.getD (i+2) 0).toNat_lt
 have l3:=(s.getD (i+3) 0).toNat_lt
 rw [hd]
 rw [X1,A9,L1,L9,E3 (n:=((s.getD i 0).toNat:Int)) (by omega) (by omega)]
 simp only [cond_true]
 generalize (s.getD i 0).toNat=b at *
 by_cases h1:b<128
 ·rw [A9,cond_true]
  have e:Lib.decodeN (s.length-i) b (s.getD (i+1) 0).toNat (s.getD (i+2) 0).toNat (s.getD (i+3) 0).toNat=(b,1):=by unfold Lib.decodeN;rw [if_pos h1]
  rw [e]
  simp only
  rw [G7]
  exact WZ s hs i b P hP hi h1
 ·rw [E5 (show (128:Int)<=b by omega),cond_false]
  by_cases h2:b<194
  ·rw [C6 (show (b:Int)<194 by omega)]
   have e:Lib.decodeN (s.length-i) b (s.getD (i+1) 0).toNat (s.getD (i+2) 0).toNat (s.getD (i+3) 0).toNat=(65533,1):=by
    unfold Lib.decodeN
    grind
   rw [e,if_pos ⟨rfl,rfl⟩]
   simp only [Bool.not_true,cond_false]
   unfold Ox
   unfold Ow
   rw [cond_false,C6 (show (b:Int)<224 by omega),C6 (show (b:Int)<240 by omega)]
   rfl
  ·rw [E5 (show (194:Int)<=b by omega)]
   simp only [Bool.not_false,cond_true]
   by_cases h3:b<224
   ·rw [C6 (show (b:Int)<224 by omega)]
    unfold Ox
    have e1:A1 ((b:Int)-192)=((b-192:Nat):Int):=by rw [A5];omega
    rw [cond_true,e1,B15 _ _ _ _ _ ⟨by omega,h3⟩ l1]
    simp only [vl]
    refine Eq.trans (Aj9 s hs i (b-192) 128 P hP hi (by omega)) ?_
    by_cases hc:2<=s.length-i/\128<=(s.getD (i+1) 0).toNat/\(s.getD (i+1) 0).toNat<=191
    ·rw [if_pos hc,if_pos hc]
     simp only
     rw [if_pos ⟨by omega,Aw5 (by omega)⟩,G7]
    ·rw [if_neg hc,if_neg hc,if_pos ⟨rfl,rfl⟩]
   ·rw [E5 (show (224:Int)<=b by omega)]
    unfold Ox
    rw [cond_false,E5 (show (224:Int)<=b by omega)]
    simp only [Bool.not_false,cond_true]
    by_cases h4:b<240
    ·rw [C6 (show (b:Int)<240 by omega)]
     unfold Ow
     have e1:A1 ((b:Int)-224)=((b-224:Nat):Int):=by rw [A5];omega
     rw [cond_true,e1,B16 _ _ _ _ _ ⟨by omega,h4⟩ l1 l2]
     simp only [vl]
     refine Eq.trans (Ak0 s hs i (b-224) 2048 P hP hi (by omega)) ?_
     by_cases hc:3<=s.length-i/\(128<=(s.getD (i+1) 0).toNat/\(s.getD (i+1) 0).toNat<=191)/\(128<=(s.getD (i+2) 0).toNat/\(s.getD (i+2) 0).toNat<=191)
     ·rw [if_pos hc,if_pos hc]
      split
      ·simp only;rw [G7]
      ·rw [if_pos ⟨rfl,rfl⟩]
     ·rw [if_neg hc,if_neg hc,if_pos ⟨rfl,rfl⟩]
    ·rw [E5 (show (240:Int)<=b by omega)]
     unfold Ow
     rw [cond_false,E5 (show (240:Int)<=b by omega)]
     simp only [Bool.not_false,cond_true]
     by_cases h5:b<245
     ·rw [C6 (show (b:Int)<245 by omega),cond_true]
      have e1:A1 ((b:Int)-240)=((b-240:Nat):Int):=by rw [A5];omega
      rw [e1,B17 _ _ _ _ _ ⟨by omega,h5⟩ l1 l2 l3]
      simp only [vl]
      refine Eq.trans (Ak1 s hs i (b-240) 65536 P hP hi (by omega)) ?_
      by_cases hc:4<=s.length-i/\(128<=(s.getD (i+1) 0).toNat/\(s.getD (i+1) 0).toNat<=191)/\(128<=(s.getD (i+2) 0).toNat/\(s.getD (i+2) 0).toNat<=191)/\(128<=(s.getD (i+3) 0).toNat/\(s.getD (i+3) 0).toNat<=191)
      ·rw [if_pos hc,if_pos hc]
       split
       ·simp only;rw [G7]
       ·rw [if_pos ⟨rfl,rfl⟩]
      ·rw [if_neg hc,if_neg hc,if_pos ⟨rfl,rfl⟩]
     ·rw [E5 (show (245:Int)<=b by omega),cond_false]
      have e:Lib.decodeN (s.length-i) b (s.getD (i+1) 0).toNat (s.getD (i+2) 0).toNat (s.getD (i+3) 0).toNat=(65533,1):=by
       unfold Lib.decodeN
       grind
      rw [e,if_pos ⟨rfl,rfl⟩]
theorem Ak2 (s:By) (hs:s.length<=1000000000):∀ (r i n:Nat) (P:List Nat),i+r=s.length->r<n->P.length<=i->
  (Sb (s.drop i)=none->∃ l,∀ (R:Type) (k0 k1:LL->Option R),X1 LF n s i (B3 P) k0 k1=k0 l)/\
  (∀ q,Sb (s.drop i)=some q->∀ (R:Type) (k0 k1:LL->Option R),X1 LF n s i (B3 P) k0 k1=k1 (B3 (P++q))):=by
 intro r
 induction r using Nat.strongRecOn with
 | _ r ih=>
  intro i n P hi hn hP
  obtain ⟨n,rfl⟩:∃ m,n=m+1:=⟨n-1,by omega⟩
  by_cases hr:i<s.length
  ·have hne:s.drop i≠[]:=by rw [ne_eq,<-List.length_eq_zero_iff,List.length_drop];omega
   have hst:=λ(R:Type) (k0 k1:LL->Option R)=>XB (k0:=k0) (k1:=k1) s hs n i P (by omega) hr
   have hw:=Lib.decodeL_width (s.drop i)
   have hle:=Lib.decodeL_le (s.drop i) hne
   rw [List.length_drop] at hle
   rw [Ai2 _ hne]
   by_cases hbad:(Lib.decodeL (s.drop i)).1=65533/\(Lib.decodeL (s.drop i)).2=1
   ·rw [if_pos hbad]
    refine ⟨λ_=>⟨B3 P,λR k0 k1=>?_⟩,λq hq=>by cases hq⟩
    refine (hst R k0 k1).trans ?_
    rw [if_pos hbad]
   ·rw [if_neg hbad,List.drop_drop]
    obtain ⟨w1,w2⟩:=ih (r-(Lib.decodeL (s.drop i)).2) (by omega) (i+(Lib.decodeL (s.drop i)).2) n (P++[(Lib.decodeL (s.drop i)).1]) (by omega) (by omega) (by rw [List.length_append,List.length_singleton];omega)
    constructor
    ·intro h
     cases hq:Sb (s.drop (i+(Lib.decodeL (s.drop i)).2)) with
     | some q=>rw [hq] at h;cases h
     | none=>
      obtain ⟨l,e⟩:=w1 hq
      refine ⟨l,λR k0 k1=>?_⟩
      refine (hst R k0 k1).trans ?_
      rw [if_neg hbad]
      exact e R k0 k1
    ·intro q h R k0 k1
     cases hq:Sb (s.drop (i+(Lib.decodeL (s.drop i)).2)) with
     | none=>rw [hq] at h;cases h
     | some q'=>
      rw [hq] at h
      simp only [Option.map_some,Option.some.injEq] at h
      subst h
      refine (hst R k0 k1).trans ?_
      rw [if_neg hbad]
      refine (w2 q' hq R k0 k1).trans ?_
      rw [List.append_assoc]
      rfl
  ·have hnil:s.drop i=[]:=by rw [<-List.length_eq_zero_iff,List.length_drop];omega
   have e:∀ (R:Type) (k0 k1:LL->Option R),X1 LF (n+1) s i (B3 P) k0 k1=k1 (B3 P):=λR k0 k1=>by
    rw [X1]
    rw [A7]
    rfl
   rw [hnil,show Sb []=some [] from rfl]
   refine ⟨λh=>(by cases h),λq hq R k0 k1=>?_⟩
   simp only [Option.some.injEq] at hq
   subst hq
   rw [List.append_nil]
   exact e R k0 k1
theorem B11 (s:By) (h0:A2 s.length=true):∃ r H,B19 LF s (λl0=>rv (.tup [.fl 1,.s (.bool false)]) [.arr true 3 1 l0,.arr true 3 1 []]) (λl0=>rv (.tup [.fl 0,.s (.bool true)]) [.arr true 3 1 l0])=rv r H/\
  r.stab [1,0] H = .tup [.s (.sl (Bh3 s).isEmpty (Bh3 s).isEmpty 1 (Rz (Bh3 s))),.s (.bool (Sb s).isSome)]:=by
 have hs:=N8 h0
 obtain ⟨w1,w2⟩:=Ak2 s hs s.length 0 LF [] (by omega) (by have:=E8;omega) (Nat.zero_le _)
 rw [List.drop_zero] at w1 w2
 unfold Bh3
 cases hp:Sb s with
 | none=>
  obtain ⟨l,e⟩:=w1 hp
  exact ⟨_,_,e _ _ _,rfl⟩
 | some q=>
  refine ⟨_,_,w2 q hp _ _ _,?_⟩
  cases q<;>rfl
theorem WX {R:Type} {k0:Unit->Option R} {k1:By->Bool->LL->Bool->Option R} (s:By) (z:Bool) (p:List Nat) (hp:p.length<=1000000000):∀ (r i n:Nat) (b:Bool),i+r=p.length->r<n->
  R3 LF n s z (B3 p) b (i:Int) k0 k1=if (p.drop i).any (λp=>Nat.ble 65 p&&Nat.ble p 90) then k0 () else k1 s z (B3 p) (b || ((p.drop i).any λp=>Nat.ble 128 p)):=by
 intro r
 induction r with
 | zero=>
  intro i n b hi hn
  obtain ⟨n,rfl⟩:∃ m,n=m+1:=⟨n-1,by omega⟩
  rw [R3]
  rw [B9,A7,List.drop_of_length_le (by omega)]
  simp
 | succ r ih=>
  intro i n b hi hn
  obtain ⟨n,rfl⟩:∃ m,n=m+1:=⟨n-1,by omega⟩
  rw [R3]
  have e1:A1 ((i:Int)+1)=((i+1:Nat):Int):=by rw [A5];rfl
  have hd:p.drop i=p.getD i 0::p.drop (i+1):=by
   rw [List.getD_eq_getElem?_getD,List.getElem?_eq_getElem (by omega),Option.getD_some,List.getElem_cons_drop]
  rw [B9,A9,L1,Int.toNat_natCast,Jx (by omega),Rn _ _ (by omega),hd,List.any_cons,List.any_cons,e1]
  simp only [cond_true]
  generalize p.getD i 0=q
  have go:∀ c:Bool,R3 LF n s z (B3 p) c ((i+1:Nat):Int) k0 k1=_:=λc=>ih (i+1) n c (by omega) (by omega)
  simp only [go]
  by_cases h1:q<65
  ·rw [show ltI (q:Int) (65:Int)=true from A9,show Nat.ble 65 q=false by rw [Bool.eq_false_iff,ne_eq,Nat.ble_eq];omega]
   have h2:Nat.ble 128 q=false:=by rw [Bool.eq_false_iff,ne_eq,Nat.ble_eq];omega
   rw [show ltI (q:Int) (128:Int)=true from A9,h2]
   cases b<;>simp
  ·rw [show ltI (q:Int) (65:Int)=false from A7,show Nat.ble 65 q=true by rw [Nat.ble_eq];omega]
   by_cases h2:90<q
   ·rw [show ltI (90:Int) (q:Int)=true from A9,show Nat.ble q 90=false by rw [Bool.eq_false_iff,ne_eq,Nat.ble_eq];omega]
    by_cases h3:q<128
    ·rw [show ltI (q:Int) (128:Int)=true from A9,show Nat.ble 128 q=false by rw [Bool.eq_false_iff,ne_eq,Nat.ble_eq];omega]
     cases b<;>simp
    ·rw [show ltI (q:Int) (128:Int)=false from A7,show Nat.ble 128 q=true by rw [Nat.ble_eq];omega]
     cases b<;>simp
   ·rw [show ltI (90:Int) (q:Int)=false from A7,show Nat.ble q 90=true by rw [Nat.ble_eq];omega]
    cases b<;>simp
theorem WY {R:Type} {k0:Bool->Option R} (s:By) (h0:A2 s.length=true):Aa6 LF s k0=k0 (Ad s):=by
 have hLF:=E8
 unfold Aa6 Ad
 rw [h0,cond_true]
 simp only [vl]
 by_cases h:(J5 s).2=0
 ·have e:(((J5 s).2:Int) != (0:Int))=false:=by rw [h];rfl
  rw [e,cond_false,Fs,h]
  have hl:=LD s
  refine Eq.trans (WX s _ (J5 s).1 (by omega) (J5 s).1.length 0 LF false (by omega) (by omega)) ?_
  rw [List.drop_zero]
  cases h1:(J5 s).1.any (λp=>Nat.ble 65 p&&Nat.ble p 90) with
  | true=>simp
  | false=>
   rw [if_neg (by simp),Kn,LJ,LK]
   simp only [cond_true,vl,Bool.false_or,Bool.not_false]
   by_cases h3:(Gj (J5 s).1).2=0
   all_goals grind
 grind
theorem WE {R:Type} {k0:Unit->Option R} {k1:By->Option R} (s:By) (hs:s.length<=1000000000):∀ (r i n:Nat),i+r=s.length->r<n->
  J9 LF n s (i:Int) k0 k1=if (s.drop i).all Q5 then k1 s else k0 ():=by
 intro r
 induction r with
 | zero=>
  intro i n hi hn
  obtain ⟨n,rfl⟩:∃ m,n=m+1:=⟨n-1,by omega⟩
  rw [J9]
  rw [A7,List.drop_of_length_le (by omega)]
  rfl
 | succ r ih=>
  intro i n hi hn
  obtain ⟨n,rfl⟩:∃ m,n=m+1:=⟨n-1,by omega⟩
  rw [J9]
  have e1:A1 ((i:Int)+1)=((i+1:Nat):Int):=by rw [A5];rfl
  rw [A9,L1,L9,L5 s i (by omega),e1,List.all_cons]
  simp only [cond_true]
  rw [ih (i+1) n (by omega) (by omega)]
  generalize s.getD i 0=b
  have hb:=Tf b
  have q1:((b.toNat:Int)==45)=(b==45):=U5 b 45 (by omega)
  have q2:((b.toNat:Int)==95)=(b==95):=U5 b 95 (by omega)
  rw [q1,q2]
  cases hl:Q5 b with
  | true=>
   rw [hb] at hl
   simp only [Bool.true_and]
   by_cases h1:b=45
   ·subst h1
    simp (disch:=decide) [ltI]
   ·by_cases h2:b=95
    ·subst h2
     simp (disch:=decide) [ltI]
    ·rcases hl with hl | hl | hl | hl
     ·rw [show ltI (b.toNat:Int) 97=false from A7,show ltI (122:Int) b.toNat=false from A7];rfl
     ·rw [show ltI (b.toNat:Int) 97=true from A9,show ltI (b.toNat:Int) 48=false from A7,show ltI (57:Int) b.toNat=false from A7];rfl
     ·exact absurd hl h1
     ·exact absurd hl h2
  | false=>
   have hn:¬ ((97<=b.toNat/\b.toNat<=122)\/(48<=b.toNat/\b.toNat<=57)\/b=45\/b=95):=λh=>by rw [hb.2 h] at hl;cases hl
   have n1:(b==45)=false:=by simpa using λh=>hn (.inr (.inr (.inl h)))
   have n2:(b==95)=false:=by simpa using λh=>hn (.inr (.inr (.inr h)))
   rw [n1,n2]
   simp only [Bool.not_false,cond_true,cond_false,Bool.false_and,Bool.false_eq_true,if_false]
   by_cases h1:b.toNat<48
   ·rw [show ltI (b.toNat:Int) 97=true from A9,show ltI (b.toNat:Int) 48=true from A9];rfl
   ·by_cases h2:b.toNat<97
    ·rw [show ltI (b.toNat:Int) 97=true from A9,show ltI (b.toNat:Int) 48=false from A7,show ltI (57:Int) b.toNat=true from A9];rfl
    ·rw [show ltI (b.toNat:Int) 97=false from A7,show ltI (122:Int) b.toNat=true from A9,show ltI (b.toNat:Int) 48=false from A7,show ltI (57:Int) b.toNat=true from A9];rfl
theorem A21 (s:By) (h:4<=s.length):(s.take 4==([120,110,45,45]:List UInt8))=xnB.isPrefixOf s:=by
 match s,h with
 | a::b::c::d::t,_=>
  simp only [List.take_succ_cons,List.take_zero,xnB,List.isPrefixOf,Bool.and_true]
  rw [show ((a::b::c::d::[])==([120,110,45,45]:List UInt8))=(a==120&&(b==110&&(c==45&&(d==45&&true)))) from rfl,Bool.and_true]
  rw [Bool.eq_iff_iff]
  simp only [Bool.and_eq_true,beq_iff_eq]
  exact ⟨λh=>⟨h.1.symm,h.2.1.symm,h.2.2.1.symm,h.2.2.2.symm⟩,λh=>⟨h.1.symm,h.2.1.symm,h.2.2.1.symm,h.2.2.2.symm⟩⟩
theorem WF {R:Type} {k0:Bool->Option R} (s:By) (h0:A2 s.length=true):Aa3 LF s k0=k0 (O7 s):=by
 have hs:=N8 h0
 have hLF:=E8
 unfold Aa3 O7
 by_cases h1:s=[]
 ·grind
 ·have hl:0<s.length:=List.length_pos_iff.2 h1
  have he:s.isEmpty=false:=by simpa using h1
  have he2:(s==([]:List UInt8))=false:=by simpa using h1
  rw [he2,cond_false,he]
  by_cases h2:63<s.length
  ·rw [A9,show Nat.ble s.length 63=false by rw [Bool.eq_false_iff,ne_eq,Nat.ble_eq];omega]
   rfl
  ·rw [A7,cond_false,show Nat.ble s.length 63=true by rw [Nat.ble_eq];omega,L1]
   have q1:(bAt s 0==(45:Int))=(s.getD 0 0==45):=by rw [Ia];exact U5 _ 45 (by omega)
   have e1:A1 ((s.length:Int)-1)=((s.length-1:Nat):Int):=by rw [A5];omega
   rw [q1,e1]
   simp only [cond_true,vl]
   rw [L1,L9,show ((((s.getD (s.length-1) 0).toNat:Nat):Int)==45)=(s.getD (s.length-1) 0==45) from U5 _ 45 (by omega)]
   cases h3:(s.getD 0 0==45) with
   | true=>
    grind
   | false=>
    rw [show (s.getD 0 0 != 45)=true by unfold bne;rw [h3];rfl]
    simp only [cond_true,cond_false]
    cases h4:(s.getD (s.length-1) 0==45) with
    | true=>
     grind
    | false=>
     rw [show (s.getD (s.length-1) 0 != 45)=true by unfold bne;rw [h4];rfl]
     simp only [cond_false]
     refine Eq.trans (WE s hs s.length 0 LF (by omega) (by omega)) ?_
     rw [List.drop_zero]
     cases h5:s.all Q5 with
     | false=>simp
     | true=>
      rw [if_pos rfl]
      simp only [Bool.not_false,Bool.true_and,Bool.and_true]
      by_cases h6:s.length<4
      ·rw [A9]
       have:xnB.isPrefixOf s=false:=by
        rw [Bool.eq_false_iff,ne_eq,List.isPrefixOf_iff_prefix]
        intro h
        have:=h.length_le
        simp only [xnB,List.length_cons,List.length_nil] at this
        omega
       grind
      ·rw [A7,cond_false,Q1,cond_true,Ai]
       have ht:(List.take (Int.toNat 4) s==([120,110,45,45]:List UInt8))=xnB.isPrefixOf s:=A21 s (by omega)
       rw [ht]
       cases h7:xnB.isPrefixOf s with
       | false=>rfl
       | true=>
        rw [Q1,M7]
        simp only [Bool.not_true,cond_false,cond_true]
        rw [I9 (by rw [List.length_drop];omega)]
        rfl
section
variable {σ R : Type} (lf : Nat) (cl : D4) (yh : Yh σ) (s : σ) (k : Out -> St σ -> Option R)
noncomputable def NL {R:Type} (lf n:Nat) (s0:By) (i1:Int) (l2:LL) (k0:LL->Option R) (k1:LL->Option R):Option R:=match n with | 0=>none | n+1=>cond (ltI i1 (s0.length:Int)) (cond (inR i1 s0.length) (cond ((bAt s0 i1) != 37) (cond (inR i1 s0.length) (cond (G0 (l2.length+1)) (NL lf n s0 (A1 (i1+1)) (l2++[[(SV.int .u8 (bAt s0 i1))]]) k0 k1) none) none) (vl (A1 ((s0.length:Int)-i1)) λn'3=>cond (ltI n'3 3) (k0 l2) (cond (inR (A1 (i1+1)) s0.length) (vl (bAt s0 (A1 (i1+1))) λn'4=>cond (inR n'4 256) (cond (ltI (Ba5 (u8n n'4)) (0:Int)) (k0 l2) (cond (inR (A1 (i1+2)) s0.length) (vl (bAt s0 (A1 (i1+2))) λn'5=>cond (inR n'5 256) (cond (ltI (Ba5 (u8n n'5)) (0:Int)) (k0 l2) (cond (inR (A1 (i1+1)) s0.length) (vl (bAt s0 (A1 (i1+1))) λn'6=>cond (inR n'6 256) (vl (A1 ((16:Int)*(Ba5 (u8n n'6)))) λn'7=>cond (inR (A1 (i1+2)) s0.length) (vl (bAt s0 (A1 (i1+2))) λn'8=>cond (inR n'8 256) (vl (A1 (n'7+(Ba5 (u8n n'8)))) λn'9=>cond (G0 (l2.length+1)) (vl (A1 ((A1 (i1+2))+1)) λn'10=>NL lf n s0 n'10 (l2++[[(SV.int .u8 (wu8 n'9))]]) k0 k1) none) none) none) none) none)) none) none)) none) none))) none) (k1 l2)
noncomputable abbrev Ar3:Code:=D2 Tryz.f32
noncomputable def Lp (lf:Nat):Cfg:=B8 lf [32] (A4 [(5,[2,0,0])]) [(68,Wi),(53,Wm),(69,YI)] (A4 [(9,[2]),(6,[3,0]),(8,[2]),(7,[3,0,24]),(5,[3,0,16]),(4,[3,0]),(3,[3]),(2,[2]),(1,[0,14]),(0,[0])]) [68,69] (A4 [(0,[]),(1,[3,0])]) (some [2]) [] [] []
noncomputable def He {R:Type} (lf n:Nat) (p0:LL) (i1:Int) (k0:Unit->Option R) (k1:Unit->Option R):Option R:=match n with | 0=>none | n+1=>cond (ltI i1 (p0.length:Int)) (cond (inR i1 p0.length) (cond (okE Dh p0 (Int.toNat i1) 0) (cond (A2 (List.length (gX p0 (Int.toNat i1) 0))) (cond (not (O7 (gX p0 (Int.toNat i1) 0))) (k0 ()) (He lf n p0 (A1 (i1+1)) k0 k1)) none) none) none) (k1 ())
theorem WD (n p0 i1):E4 0 ((Lp lf).keep 5) (bd (Lp lf) cl yh (cd [1,1,1,0,1,0,0] Ar3)) n ⟨gp [(3,.s (.sl false false 1 p0)),(0,pI i1)] 25,[],s⟩ k =
 He lf n p0 i1 (λ_=>k .ret ⟨gp [(2,pB false)] 27,[],s⟩) (λ_=>k (.exit 0) ⟨gp [] 30,[],s⟩):=by
 induction n generalizing p0 i1 with
 | zero=>rfl
 | succ n ih=>rw [He];simp only [<-ih];kernel_rfl
noncomputable def Bi4 {R:Type} (lf:Nat) (name0:By) (k0:Bool->Option R):Option R:=cond (name0==[]) (k0 false) (cond (ltI 253 (name0.length:Int)) (k0 false) (cond (A2 name0.length) (cond (N5 name0) (k0 false) (cond (A2 name0.length) (vl (H6 (pcs (u8n (46:Int)) name0)) λl'1=>He lf lf l'1 0 (λ_=>k0 false) (λ_=>k0 true)) none)) none))
theorem Bi5 (d:Nat) (name0):evC (Lp lf) (d+1) σ yh 32 [pS name0] [] s=Bi4 lf name0 (λr0=>some (pB r0,[],s)):=by
 refine (evE (fn:=Tryz.f32) (by kernel_rfl)).trans ?_
 generalize evC (Lp lf) d=cl
 unfold Bi4;exact (Eq.trans (by kernel_rfl) (A0 rfl (A0 rfl (A0 (A0 rfl (A0 (A8 λl'1=>((WD lf cl yh s (H4 0 (I5 (Lp lf) cl yh (cd [1,1,1,1] Ar3) (G9 (Lp lf) Tryz.f32))) lf l'1 0).trans (by kernel_rfl))) rfl)) rfl))))
noncomputable def HO (lf:Nat):Cfg:=B8 lf [19] (A4 []) [(32,Ap3)] (A4 [(3,[4]),(2,[4]),(1,[0,0,10]),(0,[0,0])]) [32] (A4 []) (some [4]) [] [] []
noncomputable def Aa1 {R:Type} (lf:Nat) (super0 name1:By) (k0:Bool->Option R):Option R:=cond (A2 super0.length) (cond (not (D3 super0)) (k0 false) (cond (A2 name1.length) (cond (not (D3 name1)) (k0 false) (cond (super0==name1) (k0 true) (cond (ltI (super0.length:Int) (name1.length:Int)) (vl (A1 ((name1.length:Int)-(super0.length:Int))) λn'0=>cond (O6 (A1 (n'0-1)) (name1.length:Int) name1.length) (vl (cut name1 (A1 (n'0-1)) (name1.length:Int)) λs'1=>cond (At0 1 super0.length) (vl (([46]:List UInt8)++super0) λs'2=>k0 (s'1==s'2)) none) none) (k0 false)))) none)) none
theorem A06 (d:Nat) (super0 name1):evC (HO lf) (d+1) σ yh 19 [pS super0,pS name1] [] s=Aa1 lf super0 name1 (λr0=>some (pB r0,[],s)):=by
 refine (evE (fn:=Tryz.f19) (by kernel_rfl)).trans ?_
 generalize evC (HO lf) d=cl
 unfold Aa1;kernel_rfl
end
theorem Aj1 {R:Type} {k0 k1:Unit->Option R} (l:List By) (hl:l.length<=1000000001) (h:∀ x∈l,x.length<=1000000000):∀ (r i n:Nat),i+r=l.length->r<n->
  He LF n (H6 l) (i:Int) k0 k1=if (l.drop i).all O7 then k1 () else k0 ():=by
 intro r
 induction r with
 | zero=>
  intro i n hi hn
  obtain ⟨n,rfl⟩:∃ m,n=m+1:=⟨n-1,by omega⟩
  rw [He]
  rw [N0,A7,List.drop_of_length_le (by omega)]
  rfl
 | succ r ih=>
  intro i n hi hn
  obtain ⟨n,rfl⟩:∃ m,n=m+1:=⟨n-1,by omega⟩
  rw [He]
  have e1:A1 ((i:Int)+1)=((i+1:Nat):Int):=by rw [A5];rfl
  have hd:l.drop i=l.getD i []::l.drop (i+1):=by
   rw [List.getD_eq_getElem?_getD,List.getElem?_eq_getElem (by omega),Option.getD_some,List.getElem_cons_drop]
  have hx:(l.getD i []).length<=1000000000:=h _ (by
   rw [List.getD_eq_getElem?_getD,List.getElem?_eq_getElem (by omega),Option.getD_some];exact List.getElem_mem _)
  rw [N0,A9,L1,Int.toNat_natCast,Cy (by omega),Gq,I9 hx,hd,List.all_cons,e1]
  simp only [cond_true]
  rw [ih (i+1) n (by omega) (by omega)]
  cases O7 (l.getD i []) with
  | true=>rw [Bool.true_and];rfl
  | false=>rfl
theorem Aj2 {R:Type} {k0:Bool->Option R} (s:By) (h0:A2 s.length=true):Bi4 LF s k0=k0 (D3 s):=by
 have hs:=N8 h0
 have hLF:=E8
 unfold Bi4
 by_cases hnil:s=[]
 ·subst hnil
  rfl
 ·have he:(s==([]:By))=false:=by simpa using hnil
  rw [he,cond_false]
  unfold D3
  by_cases h1:253<s.length
  ·rw [A9,show Nat.ble s.length 253=false by rw [Bool.eq_false_iff,ne_eq,Nat.ble_eq];omega]
   rfl
  ·rw [A7,cond_false,h0,cond_true,show Nat.ble s.length 253=true by rw [Nat.ble_eq];omega]
   cases h2:N5 s with
   | true=>rfl
   | false=>
    rw [cond_false,cond_true]
    have hpl:=Gy 46 s
    have hcl:=Fl 46 s
    refine Eq.trans (Aj1 (pcs 46 s) (by omega) (λx hx=>by have:=(Kb hx).2;omega) (pcs 46 s).length 0 LF (by omega) (by omega)) ?_
    grind
theorem Bk0 (p s:By):p.isSuffixOf s=(Nat.ble p.length s.length&&s.drop (s.length-p.length)==p):=by
 rw [Bool.eq_iff_iff,List.isSuffixOf_iff_suffix,Bool.and_eq_true,Nat.ble_eq,beq_iff_eq]
 constructor
 ·rintro ⟨t,rfl⟩
  simp_all
 ·rintro ⟨h1,h2⟩
  rw [<-h2]
  exact List.drop_suffix _ _
theorem WC {R:Type} {k0:Bool->Option R} (p s:By) (h0:A2 p.length=true) (h1:A2 s.length=true):Aa1 LF p s k0=k0 (E6 p s):=by
 have hp:=N8 h0
 have hs:=N8 h1
 unfold Aa1 E6
 rw [h0,h1,A84 (by omega)]
 cases D3 p with
 | false=>rfl
 | true=>
  cases D3 s with
  | false=>rfl
  | true=>
   simp only [Bool.not_true,cond_false,cond_true,Bool.true_and]
   cases (p==s) with
   | true=>rfl
   | false=>
    rw [Bk0,List.length_cons]
    by_cases h:p.length<s.length
    ·have e1:A1 (A1 ((s.length:Int)-p.length)-1)=((s.length-(p.length+1):Nat):Int):=by
      rw [E3 (n:=(s.length:Int)-p.length) (by omega) (by omega),A5];omega
     rw [A9]
     simp only [vl,cond_true,cond_false]
     rw [e1,Q1,M7,Int.toNat_natCast,show Nat.ble (p.length+1) s.length=true by rw [Nat.ble_eq];omega]
     rfl
    ·rw [A7,show Nat.ble (p.length+1) s.length=false by rw [Bool.eq_false_iff,ne_eq,Nat.ble_eq];omega]
     rfl
section
theorem OZ:B1 Tryz.prog GX 165 Wk:=xf [] (Xd LF) Qg rfl trivial rfl (by kernel_rfl) follows λargs=>by
 unfold Qg;split
 ·rename_i n;exact ⟨rfl,rfl,rfl,_,_,(Aj8 LF noY () 0 n).trans (NV n ),rfl⟩
 ·trivial
theorem OY:B1 Tryz.prog GX 168 We:=xf [] (Q9 LF) Qe rfl trivial rfl (by kernel_rfl) follows λargs=>by
 unfold Qe;split
 ·rename_i d c f;exact λh0=>λh1=>λh2=>⟨rfl,rfl,rfl,_,_,(Ai5 LF noY () 0 d c f).trans (NI d c f h0 h1 h2),rfl⟩
 ·trivial
theorem A54:B1 Tryz.prog GX 166 PT:=xf [] (RC LF) GA rfl trivial rfl (by kernel_rfl) follows λargs=>by
 unfold GA;split
 ·rename_i k b;exact λh0=>λh1=>⟨rfl,rfl,rfl,_,_,(Bj0 LF noY () 0 k b).trans (Ak4 k b h0 h1),rfl⟩
 ·trivial
theorem Bm3:B1 Tryz.prog GX 167 YH:=xf [] (HN LF) Wf rfl trivial rfl (by kernel_rfl) follows λargs=>by
 unfold Wf;split
 ·rename_i d;exact λh0=>⟨rfl,rfl,rfl,_,_,(A00 LF noY () 0 d).trans (VH d h0),rfl⟩
 ·trivial
theorem Bw8:B1 Tryz.prog GX 176 Ap5:=xf [] (Es LF) GB rfl trivial rfl (by kernel_rfl) follows λargs=>by
 unfold GB;split
 ·rename_i b;exact λh0=>⟨rfl,rfl,rfl,_,_,(Bj2 LF noY () 0 b).trans (Ak5 b h0),rfl⟩
 ·trivial
theorem Bw5:B1 Tryz.prog GX 125 Ap2:=xf [0,0] (J1 LF) FW rfl ⟨OZ,A54,Bm3,OY,trivial⟩ rfl (by kernel_rfl) follows λargs=>by
 unfold FW;split
 ·rename_i p_z p_t p;exact λh0=>(let ⟨rr,hH,ee,qq⟩:=Bi3 p_z p_t p h0;⟨rfl,rfl,rfl,rr,hH,(Bi1 LF noY () 0 p_z p_t p).trans ee,qq⟩)
 ·trivial
theorem Bm6:B1 Tryz.prog GX 146 YJ:=xf [1,0] (G4 LF) Wj rfl ⟨Bw8,A54,OY,OZ,trivial⟩ rfl (by kernel_rfl) follows λargs=>by
 unfold Wj;split
 ·rename_i s;exact λh0=>(let ⟨rr,hH,ee,qq⟩:=A11 s h0;⟨rfl,rfl,rfl,rr,hH,(A10 LF noY () 0 s).trans ee,qq⟩)
 ·trivial
theorem Bm7:B1 Tryz.prog GX 103 YK:=xf [] (Gh LF) Wl rfl ⟨Bm6,Bw5,trivial⟩ rfl (by kernel_rfl) follows λargs=>by
 unfold Wl;split
 ·rename_i s;exact λh0=>⟨rfl,rfl,rfl,_,_,(A12 LF noY () 0 s).trans (WY s h0),rfl⟩
 ·trivial
theorem Bm5:B1 Tryz.prog GX 69 YI:=xf [] (Gg LF) Wh rfl ⟨Bm7,trivial⟩ rfl (by kernel_rfl) follows λargs=>by
 unfold Wh;split
 ·rename_i s;exact λh0=>⟨rfl,rfl,rfl,_,_,(A07 LF noY () 0 s).trans (WF s h0),rfl⟩
 ·trivial
theorem Bw6:B1 Tryz.prog GX 32 Ap3:=xf [] (Lp LF) FY rfl ⟨XW,PA,Bm5,trivial⟩ rfl (by kernel_rfl) follows λargs=>by
 unfold FY;split
 ·rename_i s;exact λh0=>⟨rfl,rfl,rfl,_,_,(Bi5 LF noY () 0 s).trans (Aj2 s h0),rfl⟩
 ·trivial
theorem Bm4:B1 Tryz.prog GX 19 FX:=xf [] (HO LF) Wg rfl ⟨Bw6,trivial⟩ rfl (by kernel_rfl) follows λargs=>by
 unfold Wg;split
 ·rename_i p s;exact λh0=>λh1=>⟨rfl,rfl,rfl,_,_,(A06 LF noY () 0 p s).trans (WC p s h0 h1),rfl⟩
 ·trivial
end
section
theorem Bv2:B1 Tryz.prog GX 11 PI:=xf [] (Lj LF) ET rfl trivial rfl (by kernel_rfl) follows λargs=>by
 unfold ET;split
 ·rename_i t_z t_t t n;exact λh0=>λh1=>⟨rfl,rfl,rfl,_,_,(Bc8 LF noY () 0 t_z t_t t n).trans (Ae9 t_z t_t t n h0 h1),rfl⟩
 ·trivial
theorem Bv1:B1 Tryz.prog GX 12 PH:=xf [] (Li LF) ES rfl trivial rfl (by kernel_rfl) follows λargs=>by
 unfold ES;split
 ·rename_i l_z l_t l n;exact λh0=>λh1=>⟨rfl,rfl,rfl,_,_,(Bc6 LF noY () 0 l_z l_t l n).trans (Ae8 l_z l_t l n h0 h1),rfl⟩
 ·trivial
theorem Bv6:B1 Tryz.prog GX 14 PN:=by
 refine B1.fix (pf:=FG) _ (Dm [0,0,0] [] (C₀:=QU LF) (K5.ok (l:=[(38,Wc),(26,PL)]) rfl ⟨A52,Bv4,trivial⟩) (F0 rfl (by kernel_rfl)) follows ?_)
 intro args ret Hc h
 unfold FG at h
 split at h
 ·rename_i t_z t_t t l_z l_t l
  obtain ⟨h0,h⟩:=B4 h
  obtain ⟨h1,h⟩:=B4 h
  obtain ⟨h2,h⟩:=B4 h
  obtain ⟨h3,h⟩:=B4 h
  obtain ⟨h4,h⟩:=B4 h
  obtain ⟨h5,h⟩:=B4 h
  obtain ⟨h6,h⟩:=B4 h
  obtain ⟨h7,h⟩:=B4 h
  rcases Fz h with ⟨h8,h⟩ | ⟨h8,h⟩
  ·skip
   rcases Fz h with ⟨h9,h⟩ | ⟨h9,h⟩
   ·skip
    obtain ⟨rfl,rfl⟩:=H3 h
    obtain ⟨rr,hH,ee,qq⟩:=Vb t_z t_t t l_z l_t l h0 h1 h2 h3 h4 h5 h6 h7 h8 h9
    exact ⟨rfl,rfl,rfl,1,rr,hH,(Va LF noY () 0 t_z t_t t l_z l_t l).trans ee,qq⟩
   ·skip
    obtain ⟨rfl,rfl⟩:=H3 h
    obtain ⟨rr,hH,ee,qq⟩:=Vb t_z t_t t l_z l_t l h0 h1 h2 h3 h4 h5 h6 h7 h8 h9
    exact ⟨rfl,rfl,rfl,1,rr,hH,(Va LF noY () 0 t_z t_t t l_z l_t l).trans ee,qq⟩
  ·skip
   rcases Fz h with ⟨h9,h⟩ | ⟨h9,h⟩
   ·skip
    obtain ⟨rfl,rfl⟩:=H3 h
    obtain ⟨rr,hH,ee,qq⟩:=Vb t_z t_t t l_z l_t l h0 h1 h2 h3 h4 h5 h6 h7 h8 h9
    exact ⟨rfl,rfl,rfl,1,rr,hH,(Va LF noY () 0 t_z t_t t l_z l_t l).trans ee,qq⟩
   ·skip
    obtain ⟨rfl,rfl⟩:=H3 h
    obtain ⟨rr,hH,ee,qq⟩:=Vb t_z t_t t l_z l_t l h0 h1 h2 h3 h4 h5 h6 h7 h8 h9
    exact ⟨rfl,rfl,rfl,1,rr,hH,(Va LF noY () 0 t_z t_t t l_z l_t l).trans ee,qq⟩
 ·cases h
end
noncomputable def QI:Cfg:=B8 100000 [13,38,73,26,15,17,40,20,44,28] (λ_=>none)
 [(45,FP),(63,Qb),(75,GE),(57,EX),(60,EV),(74,GL),(65,PJ),(77,PX),(39,El),(41,Ek)]
 (S:=[(76,V9)]) (lend:=[38,26]) (nt:=[(105,0,63,2),(87,0,48,3)]) (Z:=[(61,Py)])
theorem A60:XOK QI:=Bo8 (ly:=[]) rfl rfl rfl rfl ⟨A50,JV,XX,A48,A47,A58,A46,A57,Zs,Zr,trivial⟩ trivial ⟨Pr,trivial⟩ ⟨Ab8,trivial⟩
theorem Aq4:Vi (evC QI 8 Unit noY 13 [] [] ())=true:=by kernel_rfl
theorem Am5:B1 Tryz.prog GX 13 Pu:=
 B1.fix (pf:=Kv) _ (by
  have h:=XY (C₀:=QI) A60 (F0 rfl (by kernel_rfl)) follows Aq4
  have e:(λargs:List PV=>match args with | []=>Tr.ret (.s (.bool true)) [] | _=>.fail)=Kv:=by
   funext args
   cases args<;>rfl
  rw [<-e]
  exact h)
section
theorem A45:B1 Tryz.prog GX 18 Vr:=xf [] (Ci LF) Px rfl trivial rfl (by kernel_rfl) follows λargs=>by
 unfold Px;split
 ·rename_i n l_z l_t l;exact λh0=>λh1=>⟨rfl,rfl,rfl,_,_,(Ae7 LF noY () 0 n l_z l_t l).trans (MN n l_z l_t l h0 h1),rfl⟩
 ·trivial
end
end
section
open Go Go.ChangeAt Go.ChangeShapes Go.Proofs Go.RowKit Go.WideShapes
set_option maxRecDepth 100000
section
theorem TQ (os:Os) (started:os.Started) (H:Type) (enc:TypeId × Value->H) :
  ReturnsInHanded {} Tryz.checked os 4 .any (λw args=>(Rows.coverageSubdomainsSpec.pre enc Tryz.prog Tryz.f4 Rows.coverageSubdomainsRow.domain false w args/\laidMetH Tryz.prog Dv w)/\sizedMet enc Tryz.prog Tryz.f4 (OpenSpec.ofChange Rows.coverageSubdomainsSpec) false w args) (Rows.coverageSubdomainsSpec.post enc Tryz.prog Tryz.f4 false true false false):=
 TN started (C:=Ko LF) (tb:=4) rfl rfl (K5.ok (l:=[(11,PI),(12,PH),(18,Vr),(13,Pu),(14,PN),(15,Vo),(19,FX),(17,Vp)]) rfl ⟨Bv2,Bv1,A45,Am5,Bv6,OU,Bm4,A40,trivial⟩) (F0 rfl (by kernel_rfl)) (by kernel_rfl) Tryz.func4 (c:=D2 Tryz.f4) rfl (by kernel_rfl)
  (by
   intro t ht
   have:t=3\/t=22\/t=23\/t=42:=by simpa only [List.mem_cons,List.mem_nil_iff,or_false] using (show t∈[3,22,23,42] from ht)
   rcases this with rfl | rfl | rfl | rfl
   all_goals exact ⟨⟨by kernel_rfl,of_decide_eq_true (by kernel_rfl)⟩,by kernel_rfl⟩) rfl (by kernel_rfl) rfl
  (λds hds=>by
   match ds,hds with
   | [d0,d1,d2,d3],_=>rfl)
  #[(.int .i64 0),(.slice none 0 0),(.slice none 0 0),(.agg #[(.string ⟨#[]⟩),(.string ⟨#[]⟩)])] 8 (by kernel_rfl) (by kernel_rfl) (by kernel_rfl)
  (λargs h=>Bd6 args h)
set_option maxHeartbeats 4000000 in theorem Af3:Rows.CoverageSubdomainsSaid:=
 OpenClaim.holds_of_wide 4 Tryz.f4 rfl rfl rfl rfl rfl rfl rfl ⟨rfl,rfl,rfl,rfl,rfl⟩ rfl rfl rfl rfl rfl (by kernel_rfl) Tryz.func4 (by unfold joinedFacts;simp only [Bool.and_eq_true];(repeat' apply And.intro)<;>as_aux_lemma=>kernel_rfl)
  (of_decide_eq_true (by as_aux_lemma=>kernel_rfl)) (by unfold Func.isWrapper;first | (rw [if_pos (by decide +kernel)];kernel_rfl) | (rw [if_neg (by decide +kernel)];exact ⟨rfl,rfl⟩))
  (λos started H enc _=>TQ os started H enc)
theorem lcs_card:Rows.CoverageSubdomainsCardSaid:=
 Claim7.holds_tied_plain_at .later [] [.data,.pinned] true (true, "7afd958ced9ec1c0e92f7929c3d546df191af6d231ea740845f3a84d94481a7c") false Af3 (λ_ h=>by cases h) (by as_aux_lemma=>kernel_rfl) (λ_ h=>by cases h) coverageSubdomains_row_tie rfl ⟨rfl,rfl⟩ (by as_aux_lemma=>kernel_rfl) rfl
  (λf fn hf hfn=>by
   obtain rfl:f=4:=Option.some.inj ((show Tryz.prog.funcNamed "hstsstore/hstsstorelaw26.CoverageSubdomains" = some 4 by as_aux_lemma=>kernel_rfl).symm.trans hf) |>.symm
   obtain rfl:fn=Tryz.f4:=(Option.some.inj (Tryz.func4.symm.trans hfn)).symm
   exact ⟨by as_aux_lemma=>kernel_rfl,λj t ht=>by
    have hm:t∈[3,22,23,42]:=Array.mem_toList_iff.2 (Array.mem_of_getElem? ht)
    have hall:([3,22,23,42].all λu=>!Tryz.prog.wantsStandIn u)=true:=by as_aux_lemma=>kernel_rfl
    exact (show Tryz.prog.wantsStandIn t=false by simpa using List.all_eq_true.1 hall t hm)⟩)
  (by as_aux_lemma=>kernel_rfl)
end
end
#print axioms lcs_card
end Go.Proofs.YtelhbgonncceeaaGreatDoor.E
