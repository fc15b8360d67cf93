/-
  PreloadFindNearest, as its tied card says. Conditions: what the card itself names (the package-level variables that are listed, tied to the program's text).
-/
import Derived.Test.YtelhbgonncceeaaGreatDoorKCD4
import Derived.Shelf.SlSortCmp.NoneTotal
import Derived.Test.YtelhbgonncceeaaGreatDoorCards
import Derived.Test.YtelhbgonncceeaaGreatDoorTie
namespace Go.Proofs.YtelhbgonncceeaaGreatDoor.E
set_option linter.all false
section
open Go Go.Proofs Go.RowKit Go.Sort
set_option maxRecDepth 100000
abbrev cfE:Ku->Ku->Int:=λx y=>Q1 x.1.1 y.1.1
def Nb (e:Ku):List Value:=[.string ⟨e.1.1.toArray⟩,.bool e.1.2]
theorem Ai3 (blk off size:Nat) (w:World):CmpLays Tryz.prog 62 #[] Nb 2 cfE blk off size w:=by
 intro m os dk hs x y
 have h:=Bf9 ⟨x.1.1.toArray⟩ ⟨y.1.1.toArray⟩ x.1.2 y.1.2 (by have:=x.2;simpa [ByteArray.size] using this) (by have:=y.2;simpa [ByteArray.size] using this) (sortWorldK Nb 2 w blk off m dk os)
 exact h
theorem Ap2 {w:World} {blk e:Nat} {cur:Array Value} {fr:Nat × Nat} (h:w.heap[blk]? = some (.cells cur e fr)) (d:Array Ku) :
  (putRowK Nb 2 w blk 0 d).heap[blk]? = some (.cells (putCells id 0 (flatK Nb 2 d) cur) e fr)/\(∀ k,k≠blk->(putRowK Nb 2 w blk 0 d).heap[k]? = w.heap[k]?):=by
 unfold putRowK putRow mapBlock
 constructor
 ·simp only [Array.getElem?_modify,if_true,h,Option.map_some,onCells]
 ·intro k hk
  simp only [Array.getElem?_modify]
  rw [if_neg (λe=>hk e.symm)]
theorem A40 {cur:Array Value} {d:Array Ku} {i j:Nat} (hi:i<d.size) (hj:j<2) (hs:d.size*2<=cur.size):(putCells id 0 (flatK Nb 2 d) cur)[i*2+j]? = some ((Nb d[i]!)[j]!):=by
 have hlt:i*2+j<d.size*2:=by omega
 have hc:i*2+j<cur.size:=by omega
 unfold putCells
 rw [Array.getElem?_mapIdx,Array.getElem?_eq_getElem hc]
 simp only [Option.map_some,size_flatK,Nat.zero_le,true_and,Nat.zero_add,hlt,if_true,Nat.sub_zero,id]
 rw [get_flatK _ _ _ _ hlt,show (i*2+j) / 2=i by omega,show (i*2+j) % 2=j by omega]
theorem XG:HV Tryz.prog 61 Pq:=by
 intro St w x X els hx h
 generalize hp:Pq x els=pr at h ⊢
 obtain ⟨b,L⟩:=pr
 dsimp only at h ⊢
 unfold Pq at hp
 split at hp
 case h_2=>
  obtain ⟨rfl,_⟩:=Prod.mk.inj hp
  cases h
 have eX:X = .func (.func 62) #[] #[]:=by
  cases hx with
  | fn _ _ _ A B As Bs _ hA hB _ _ _ _=>
   have:A = #[]:=by simpa using hA
   have:B = #[]:=by simpa using hB
   simp_all
 subst eX
 obtain ⟨hb,hL⟩:=Prod.mk.inj hp
 rw [<-hb] at h
 simp only [Bool.and_eq_true] at h
 obtain ⟨h0,h1,h2⟩:=h
 have none':∀ (p:Option Addr) cap,K5 Tryz.prog ((callFunc 61 #[.slice p 0 cap,.func (.func 62) #[] #[]]).run Tryz.prog w) λV w'=>V=undef/\w'=w:=λp cap=>
  Z9 (fn:=Tryz.f61) (by kernel_rfl) (by kernel_rfl) (by kernel_rfl) ((AnyF.slices_SortFunc_none Tryz.sortEnt p cap _ w).mono λe w' ⟨he,hw⟩=>⟨_,he,rfl,hw⟩)
 obtain ⟨E,rfl⟩:∃ E,els=F8 E:=⟨_,Df h0⟩
 rw [Nc] at hL
 subst hL
 have hsm:=Ar2 h1
 have hlen:=(Cy hsm).length_eq
 refine ⟨λhn=>?_,?_⟩
 ·have hE:E=[]:=by
   cases E with
   | nil=>rfl
   | cons a r=>cases hn
  subst hE
  refine (none' none 0).mono λV w' ⟨hv,hw⟩=>⟨hv,?_,hw ▸ I6.refl _⟩
  have:R1 []=[]:=List.length_eq_zero_iff.1 hlen
  rw [this];rfl
 intro g0 cur e sz cap hg hcs hle hcap hst hlt hsz hcells
 by_cases hn:E=[]
 ·subst hn
  have hs0:R1 []=[]:=List.length_eq_zero_iff.1 hlen
  refine (none' _ cap).mono λV w' ⟨hv,hw⟩=>?_
  rw [hw]
  rw [hs0]
  exact ⟨hv,rfl,w,cur,hg,rfl,λ_ _=>rfl,rfl,rfl,rfl,rfl,λi h=>absurd h (Nat.not_lt_zero _),λi h=>absurd h (Nat.not_lt_zero _),I6.refl _⟩
 have hE:0<E.length:=List.length_pos_iff.2 hn
 have hel:∀ i (h:i<(F8 E).length),(F8 E)[i]=Qs (E[i]'(by simpa using h)):=λi h=>by simp [F8]
 have hs2:sz=2:=by
  have:=hsz 0 (by simpa using hE)
  rw [<-this,hel];rfl
 subst hs2
 obtain ⟨d,hd⟩:∃ d,(E.map mkS).toArray=d:=⟨_,rfl⟩
 have dsz:d.size=E.length:=by rw [<-hd];simp
 have dval:∀ i (hi:i<E.length),(d[i]!).1=E[i]:=λi hi=>by
  subst hd
  rw [getElem!_pos _ _ (by simpa using hi)]
  simp only [List.getElem_toArray,List.getElem_map]
  exact WJ (hsm _ (List.getElem_mem hi))
 have hcell:∀ t,t<d.size*2->cur[t]? = some ((Nb d[t / 2]!)[t % 2]!):=λt ht=>by
  have hi:t / 2<E.length:=by omega
  have hi':t / 2<(F8 E).length:=by simpa using hi
  have hl:((F8 E)[t / 2]).length=2:=by rw [hel];rfl
  obtain ⟨V,hV,hs⟩:=hcells (t / 2) hi' (t % 2) (by rw [hl];omega)
  rw [show t / 2*2+t % 2=t by omega] at hV
  have hx:((F8 E)[t / 2][t % 2]'(by rw [hl];omega))=(Qs E[t / 2])[t % 2]'(by show t % 2<2;omega):=by simp only [hel]
  rw [hx] at hs
  rw [hV]
  have dv:=dval _ hi
  rcases (show t % 2=0\/t % 2=1 by omega) with h | h
  ·have hs:VS St w (.str (E[t / 2]).1) V:=by simpa [h,Qs] using hs
   obtain ⟨s,hV2,hs2⟩:=hs.inv_str
   rw [hV2,h]
   show _=some (Value.string ⟨(d[t / 2]!).1.1.toArray⟩)
   rw [dv,<-hs2]
  ·have hs:VS St w (.bool (E[t / 2]).2) V:=by simpa [h,Qs] using hs
   rw [hs.inv_bool,h]
   show _=some (Value.bool (d[t / 2]!).1.2)
   rw [dv]
 have hH:HoldsK Nb 2 w g0 0 d:=λj hj=>by
  have hj':j<d.size*2:=by simpa using hj
  constructor
  ·simp only [World.cell?,hg,Nat.zero_add]
   rw [get_flatK _ _ _ _ hj']
   exact hcell j hj'
  ·simp [World.frozen?,hg]
 have hblk:g0<w.heap.size:=(Array.getElem?_eq_some_iff.1 hg).1
 have eg:∀ args w,(callFunc 62 args).run Tryz.prog w = .ok (.enter 62 args) w:=enters_of Tryz.func62 (by kernel_rfl) rfl
 have hm:cap<=9223372036854775807:=hcap
 have h2:(A4 (F8 E).length)=true:=h2
 have hb:d.size<4611686018427387904:=by
  have:=L8 h2
  rw [C8] at this
  omega
 have hh:=AnyQ.slices_SortFunc_eq Tryz.sortEnt 2 (λw=>by kernel_rfl) (λw=>by kernel_rfl) Nb (λ_=>rfl) (λx v hv=>by simp [Nb] at hv;rcases hv with rfl | rfl<;>rfl) cfE (LT λx:Ku=>x.1.1) 62 #[] g0 0 cap d w eg (Ai3 g0 0 d.size w) hH hblk hb
 have hsrt:=Yi d
 have hS:R1 E=(Es d).toList.map (·.1):=by unfold R1;rw [hd]
 have ssz:(Es d).size=d.size:=hsrt.2.1
 rw [show (F8 E).length=d.size by rw [C8,dsz]]
 refine Z9 (fn:=Tryz.f61) (by kernel_rfl) (by kernel_rfl) (by kernel_rfl) (hh.mono λe' w' ⟨he,n,os,hw⟩=>⟨_,he,rfl,by rw [C8,hlen,dsz],?_⟩)
 have hcur:cur.size=cap*2:=hcs
 have hcap2:d.size*2<=cur.size:=by
  have:(F8 E).length<=cap:=hle
  rw [C8] at this
  omega
 obtain ⟨p1,p2⟩:=Ap2 hg (Es d)
 have hel2:∀ i (h:i<(F8 (R1 E)).length),(F8 (R1 E))[i]=Qs ((Es d)[i]!).1:=λi h=>by
  have hi:i<(Es d).size:=by rw [C8,hlen] at h;omega
  rw [getElem!_pos (Es d) i hi]
  simp [F8,hS]
 refine ⟨putRowK Nb 2 w g0 0 (Es d),putCells id 0 (flatK Nb 2 (Es d)) cur,p1,by simp [putCells],p2,by simp [putRowK,putRow,mapBlock],rfl,rfl,rfl,λi h=>by rw [hel2];rfl,λi h j h'=>?_,?_⟩
 ·have hl:((F8 (R1 E))[i]).length=2:=by rw [hel2];rfl
  have hj:j<2:=by rw [<-hl];exact h'
  have hi:i<(Es d).size:=by rw [C8,hlen] at h;omega
  refine ⟨_,A40 hi hj (by omega),?_⟩
  have hx:(F8 (R1 E))[i][j]=(Qs ((Es d)[i]!).1)[j]'(by show j<2;exact hj):=by simp only [hel2]
  rw [hx]
  rcases (show j=0\/j=1 by omega) with rfl | rfl
  ·have:=VS.str (St:=St) (w:=putRowK Nb 2 w g0 0 (Es d)) ⟨((Es d)[i]!).1.1.toArray⟩
   exact this
  ·exact VS.bool _
 ·rw [hw]
  refine ⟨⟨λg hgl=>heap_grow_old _ _ hgl,by simp only [sortWorldK,grow,Array.size_append];exact Nat.le_add_right _ _⟩,rfl,rfl,rfl⟩
end
section
open Go Go.Proofs Go.Sort
set_option maxRecDepth 100000
theorem HD:HM Tryz.prog GX 76 Ft:=by
 refine Sz (C₀:=Jl LF) ((K6.ok (l:=[(59,UF),(50,DU)]) rfl ⟨Ba9,Au7,trivial⟩)) (F7 rfl (by kernel_rfl)) follows ?_
 intro args H L h σ yh s s' hr
 unfold Ft at h
 split at h
 ·rename_i t
  simp only [Option.some.injEq,Prod.mk.injEq] at h
  obtain ⟨h1,rfl⟩:=h
  obtain ⟨t',f⟩:=PA (R:=PV × List Blk × σ) yh t s s' h1 hr
  exact ⟨1,_,(Al1 LF yh 0 t s).trans (f _)⟩
 ·cases h
end
section
open Go Go.Proofs
set_option maxRecDepth 100000
section
theorem Bg9:B1 Tryz.prog GX 26 MS:=by
 refine B1.fix (pf:=CS) _ (Yp [0,0] [2] (C₀:=Ln LF) (Bb0 (lx:=[(57,CO),(60,CM)]) (ly:=[]) (ls:=[]) (lz:=[(61,Pq)]) rfl rfl rfl rfl ⟨At6,At5,trivial⟩ trivial trivial ⟨XG,trivial⟩) (F7 rfl (by kernel_rfl)) follows ?_)
 intro args ret Hc h
 unfold CS at h
 split at h
 ·rename_i l_z l_t l
  obtain ⟨h0,h⟩:=C4 h
  obtain ⟨h1,h⟩:=C4 h
  obtain ⟨h2,h⟩:=C4 h
  obtain ⟨h3,h⟩:=C4 h
  rcases LV h with ⟨h4,h⟩ | ⟨h4,h⟩
  ·skip
   obtain ⟨rfl,rfl⟩:=I2 h
   obtain ⟨rr,hH,ee,qq⟩:=WA l_z l_t l h0 h1 h2 h3 h4
   exact ⟨rfl,rfl,rfl,1,rr,hH,(VZ LF noY () 0 l_z l_t l).trans ee,qq⟩
  ·skip
   obtain ⟨rfl,rfl⟩:=I2 h
   obtain ⟨rr,hH,ee,qq⟩:=WA l_z l_t l h0 h1 h2 h3 h4
   exact ⟨rfl,rfl,rfl,1,rr,hH,(VZ LF noY () 0 l_z l_t l).trans ee,qq⟩
 ·cases h
theorem A79:B1 Tryz.prog GX 28 UJ:=xf [0,0] (EM LF) Ui rfl ⟨At4,trivial⟩ rfl (by kernel_rfl) follows λargs=>by
 unfold Ui;split
 ·rename_i lz lt l q;exact λh0=>λh1=>λh2=>λh3=>(let ⟨rr,hH,ee,qq⟩:=Am6 lz lt l q h0 h1 h2 h3;⟨rfl,rfl,rfl,rr,hH,(Am5 LF noY () 0 lz lt l q).trans ee,qq⟩)
 ·trivial
theorem A80:B1 Tryz.prog GX 28 UK:=xf [0,0] (EN LF) Uj rfl trivial rfl (by kernel_rfl) follows λargs=>by
 unfold Uj;split
 ·rename_i q;exact (let ⟨rr,hH,ee,qq⟩:=Am9 q ; ⟨rfl,rfl,rfl,rr,hH,(Am8 LF noY () 0 q).trans ee,qq⟩)
 ·trivial
theorem At7:B1 Tryz.prog GX 28 Uh:=(Bl6 A79 A80)
theorem A77:B1 Tryz.prog GX 30 UH:=by
 refine B1.fix (pf:=Uf) _ (M7 [0,0] (C₀:=V9 LF) (Eu (lx:=[(28,Uh),(41,Po)]) (ly:=[]) (ls:=[(76,Ft)]) rfl rfl rfl ⟨At7,TZ,trivial⟩ trivial ⟨HD,trivial⟩) (F7 rfl (by kernel_rfl)) follows ?_)
 intro args ret Hc h
 unfold Uf at h
 split at h
 ·rename_i lz lt l q
  obtain ⟨h0,h⟩:=C4 h
  obtain ⟨h1,h⟩:=C4 h
  obtain ⟨h2,h⟩:=C4 h
  obtain ⟨h3,h⟩:=C4 h
  obtain ⟨rfl,rfl⟩:=I2 h
  obtain ⟨rr,hH,ee,qq⟩:=Am1 lz lt l q h0 h1 h2 h3
  exact ⟨rfl,rfl,rfl,1,rr,hH,(Am0 LF noY () 0 lz lt l q).trans ee,qq⟩
 ·cases h
theorem A78:B1 Tryz.prog GX 30 UI:=by
 refine B1.fix (pf:=Ug) _ (M7 [0,0] (C₀:=W0 LF) (Eu (lx:=[(28,Uh),(41,Po)]) (ly:=[]) (ls:=[(76,Ft)]) rfl rfl rfl ⟨At7,TZ,trivial⟩ trivial ⟨HD,trivial⟩) (F7 rfl (by kernel_rfl)) follows ?_)
 intro args ret Hc h
 unfold Ug at h
 split at h
 ·rename_i q
  obtain ⟨h0,h⟩:=C4 h
  obtain ⟨rfl,rfl⟩:=I2 h
  obtain ⟨rr,hH,ee,qq⟩:=Am4 q h0
  exact ⟨rfl,rfl,rfl,1,rr,hH,(Am3 LF noY () 0 q).trans ee,qq⟩
 ·cases h
theorem Bg7:B1 Tryz.prog GX 30 MQ:=(Bl6 A77 A78)
end
section
variable {σ R : Type} (lf : Nat) (cl : D1) (yh : Yh σ) (s : σ) (k : Out -> St σ -> Option R)
noncomputable def Vo (lf:Nat):Cfg:=C2 lf [165] (A5 []) [] (A5 [(1,[2]),(0,[0])]) [] (A5 []) (some [2]) [] [] []
noncomputable def GM {R:Type} (lf:Nat) (n0:Int) (k0:Bool->Option R):Option R:=cond (not (ltI n0 0)) (cond (not (ltI 1114111 n0)) (cond (ltI n0 55296) (k0 true) (k0 (ltI 57343 n0))) (k0 false)) (k0 false)
theorem Ab6 (d:Nat) (n0):evC (Vo lf) (d+1) σ yh 165 [pI n0] [] s=GM lf n0 (λr0=>some (pB r0,[],s)):=by
 refine (evE (fn:=Tryz.f165) (by kernel_rfl)).trans ?_
 generalize evC (Vo lf) d=cl
 unfold GM;kernel_rfl
noncomputable abbrev Ht:Code:=E3 Tryz.f168
noncomputable def Q4 (lf:Nat):Cfg:=C2 lf [168] (A5 [(6,[0,5,0])]) [] (A5 [(9,[6]),(8,[0,6]),(7,[0,6]),(6,[0,6,11]),(5,[0,6]),(4,[0]),(2,[0,0]),(3,[0,0]),(1,[0,0,6]),(0,[0,0,0])]) [] (A5 [(0,[0,6]),(1,[0,6])]) (some [6]) [] [] []
noncomputable def Bu {R:Type} (lf n:Nat) (delta0 kk1:Int) (k0:Int->Int->Option R):Option R:=match n with | 0=>none | n+1=>cond (ltI 455 delta0) (vl (A1 (Int.tdiv delta0 (35:Int))) λn'6=>vl (A1 (kk1+36)) λn'7=>Bu lf n n'6 n'7 k0) (k0 delta0 kk1)
theorem GE (n delta0 kk1):E6 0 ((Q4 lf).keep 6) (bd (Q4 lf) cl yh (cd [1,1,1,1,0,0,0] Ht)) n ⟨gp [(0,pI delta0),(6,pI kk1)] 23,[],s⟩ k =
 Bu lf n delta0 kk1 (λdelta0 kk1=>k (.exit 0) ⟨gp [(0,pI delta0),(6,pI kk1)] 23,[],s⟩):=by
 induction n generalizing delta0 kk1 with
 | zero=>rfl
 | succ n ih=>rw [Bu];simp only [<-ih];kernel_rfl
noncomputable def Bt {R:Type} (lf:Nat) (delta0 n1:Int) (k0:Int->Option R):Option R:=cond (n1 != 0) (vl (A1 (Int.tdiv delta0 n1)) λn'5=>Bu lf lf (A1 (delta0+n'5)) 0 (λdelta'8 kk'9=>vl (A1 ((36:Int)*delta'8)) λn'10=>vl (A1 (delta'8+38)) λn'11=>cond (n'11 != 0) (vl (A1 (Int.tdiv n'10 n'11)) λn'12=>k0 (A1 (kk'9+n'12))) none)) none
abbrev Su (b:Code):Prop:=∀ (k:Out->St σ->Option R) delta0 n1,B0 (Q4 lf) cl yh b ⟨gp [(0,pI delta0),(0,pI n1)] 29,[],s⟩ k=Bt lf delta0 n1 (λn0=>k .ret ⟨gp [(6,pI n0)] 24,[],s⟩)
theorem GD:Su (R:=R) lf cl yh s (cd [1,1] Ht):=by
 intro k delta0 n1;unfold Bt;exact (Eq.trans (by kernel_rfl) (A0 (A8 λn'5=>((GE lf cl yh s (G5 0 (H5 (Q4 lf) cl yh (cd [1,1,1,1,1] Ht) k)) lf (A1 (delta0+n'5)) 0).trans (by kernel_rfl))) rfl))
noncomputable def Xt {R:Type} (lf:Nat) (delta0 n1:Int) (first2:Bool) (k0:Int->Option R):Option R:=cond first2 (vl (A1 (Int.tdiv delta0 (700:Int))) λn'2=>Bt lf n'2 n1 (λn'13=>k0 n'13)) (vl (A1 (Int.tdiv delta0 (2:Int))) λn'3=>Bt lf n'3 n1 (λn'14=>k0 n'14))
theorem Aa3 (b_11:Code) (h_radapt_j0:Su (R:=PV × List Blk × σ) lf cl yh s b_11) (delta0 n1:Int) (first2:Bool):B0 (Q4 lf) cl yh (cd [] (Q2 [1,1] b_11 Ht)) ⟨[pI delta0,pI n1,pB first2]++tps 28,[],s⟩ (I4 (Q4 lf) Tryz.f168)=Xt lf delta0 n1 first2 (λr0=>some (pI r0,[],s)):=by
 unfold Xt;exact let K0:=(I4 (Q4 lf) Tryz.f168);(Eq.trans (by kernel_rfl) (A0 (A8 λn'2=>((h_radapt_j0 K0 n'2 n1).trans (by kernel_rfl))) (A8 λn'3=>((h_radapt_j0 K0 n'3 n1).trans (by kernel_rfl)))))
theorem Aa4 (d:Nat) (delta0 n1 first2):evC (Q4 lf) (d+1) σ yh 168 [pI delta0,pI n1,pB first2] [] s=Xt lf delta0 n1 first2 (λr0=>some (pI r0,[],s)):=
 (evE (fn:=Tryz.f168) (by kernel_rfl)).trans (Eq.trans (by kernel_rfl) (Aa3 lf (evC (Q4 lf) d) yh s (cd [1,1] Ht) (GD lf (evC (Q4 lf) d) yh s) delta0 n1 first2))
noncomputable def NZ (lf:Nat):Cfg:=C2 lf [166] (A5 []) [] (A5 [(1,[4]),(0,[0,0])]) [] (A5 []) (some [4]) [] [] []
noncomputable def A56 {R:Type} (lf:Nat) (kk0 bias1:Int) (k0:Int->Option R):Option R:=vl (A1 ((36:Int)*(A1 (kk0+1)))) λn'0=>vl (if ((if ((A1 (n'0-bias1))<(26:Int)) then (A1 (n'0-bias1)) else (26:Int)) > (1:Int)) then (if ((A1 (n'0-bias1))<(26:Int)) then (A1 (n'0-bias1)) else (26:Int)) else (1:Int)) λn'1=>k0 n'1
theorem A57 (d:Nat) (kk0 bias1):evC (NZ lf) (d+1) σ yh 166 [pI kk0,pI bias1] [] s=A56 lf kk0 bias1 (λr0=>some (pI r0,[],s)):=by
 refine (evE (fn:=Tryz.f166) (by kernel_rfl)).trans ?_
 generalize evC (NZ lf) d=cl
 unfold A56;kernel_rfl
noncomputable def ES (lf:Nat):Cfg:=C2 lf [167] (A5 []) [] (A5 [(3,[2]),(2,[2]),(1,[0,3]),(0,[0])]) [] (A5 []) (some [2]) [] [] []
noncomputable def WQ {R:Type} (lf:Nat) (d0:Int) (k0:Int->Option R):Option R:=cond (ltI d0 26) (vl (wu8 (A1 ((97:Int)+d0))) λn'0=>k0 n'0) (vl (A1 ((A1 ((48:Int)+d0))-26)) λn'1=>k0 (wu8 n'1))
theorem Ap5 (d:Nat) (d0):evC (ES lf) (d+1) σ yh 167 [pI d0] [] s=WQ lf d0 (λr0=>some (p8 r0,[],s)):=by
 refine (evE (fn:=Tryz.f167) (by kernel_rfl)).trans ?_
 generalize evC (ES lf) d=cl
 unfold WQ;kernel_rfl
noncomputable abbrev Lg:Code:=E3 Tryz.f176
noncomputable def Ef (lf:Nat):Cfg:=C2 lf [176] (A5 []) [] (A5 [(7,[2]),(2,[2]),(4,[2]),(6,[2]),(5,[0,22]),(3,[0,12]),(1,[0,2]),(0,[0])]) [] (A5 [(0,[])]) (some [2]) [] [] []
noncomputable def On {R:Type} (b0:Int) (b1:Bool) (k0:Int->Option R) (k1:Int->Bool->Option R):Option R:=cond b1 (vl (A1 (wu8 (b0-65))) λn'1=>k0 n'1) (cond (not (ltI b0 48)) (cond (not (ltI 57 b0)) (vl (A1 (wu8 (b0-48))) λn'2=>vl (A1 (n'2+26)) λn'3=>k0 n'3) (k1 b0 (not (ltI 57 b0)))) (k1 b0 false))
abbrev BK (b:Code):Prop:=∀ (k:Out->St σ->Option R) b0 b1,B0 (Ef lf) cl yh b ⟨gp [(0,p8 b0),(12,pB b1)] 20,[],s⟩ k=On b0 b1 (λn0=>k .ret ⟨gp [(2,pI n0)] 31,[],s⟩) (λb0 b1=>k .normal ⟨gp [(0,p8 b0),(22,pB b1)] 10,[],s⟩)
theorem TF:BK (R:=R) lf cl yh s (cd [1,0,0,1,1,1] Lg):=by
 intro k b0 b1;unfold On;kernel_rfl
noncomputable def Oo {R:Type} (b0:Int) (b1:Bool) (k0:Int->Option R) (k1:Int->Bool->Option R):Option R:=cond b1 (vl (A1 (wu8 (b0-97))) λn'0=>k0 n'0) (cond (not (ltI b0 65)) (On b0 (not (ltI 90 b0)) (λn'4=>k0 n'4) (λb'5 b'6=>k1 b'5 b'6)) (On b0 false (λn'7=>k0 n'7) (λb'8 b'9=>k1 b'8 b'9)))
abbrev Rp (b:Code):Prop:=∀ (k:Out->St σ->Option R) b0 b1,B0 (Ef lf) cl yh b ⟨gp [(0,p8 b0),(2,pB b1)] 30,[],s⟩ k=Oo b0 b1 (λn0=>k .ret ⟨gp [(2,pI n0)] 31,[],s⟩) (λb0 b1=>k .normal ⟨gp [(0,p8 b0),(22,pB b1)] 10,[],s⟩)
theorem TG (b_100111:Code) (h_rval_j0:BK (R:=R) lf cl yh s b_100111):Rp (R:=R) lf cl yh s (cd [1,0,0,1] (Q2 [1,0,0,1,1,1] b_100111 Lg)):=by
 intro k b0 b1;unfold Oo;simp only [<-h_rval_j0 k];kernel_rfl
theorem TH:Rp (R:=R) lf cl yh s (cd [1,0,0,1] Lg):=by
 intro k b0 b1;exact Eq.trans (by kernel_rfl) (TG lf cl yh s (cd [1,0,0,1,1,1] Lg) (TF lf cl yh s) k b0 b1)
noncomputable def Aq8 {R:Type} (lf:Nat) (b0:Int) (k0:Int->Option R):Option R:=cond (not (ltI b0 97)) (Oo b0 (not (ltI 122 b0)) (λn'10=>k0 n'10) (λb'11 b'12=>k0 (-1))) (Oo b0 false (λn'13=>k0 n'13) (λb'14 b'15=>k0 (-1)))
theorem A58 (b_1001:Code) (h_rval_j1:Rp (R:=PV × List Blk × σ) lf cl yh s b_1001) (b0:Int):B0 (Ef lf) cl yh (cd [] (Q2 [1,0,0,1] b_1001 Lg)) ⟨[p8 b0]++tps 33,[],s⟩ (I4 (Ef lf) Tryz.f176)=Aq8 lf b0 (λr0=>some (pI r0,[],s)):=by
 unfold Aq8;exact let K0:=(G5 0 (H5 (Ef lf) cl yh (cd [1,1] Lg) (I4 (Ef lf) Tryz.f176)));(Eq.trans (by kernel_rfl) (A0 ((h_rval_j1 K0 b0 (not (ltI 122 b0))).trans (by kernel_rfl)) ((h_rval_j1 K0 b0 false).trans (by kernel_rfl))))
theorem A59 (d:Nat) (b0):evC (Ef lf) (d+1) σ yh 176 [p8 b0] [] s=Aq8 lf b0 (λr0=>some (pI r0,[],s)):=
 (evE (fn:=Tryz.f176) (by kernel_rfl)).trans (Eq.trans (by kernel_rfl) (A58 lf (evC (Ef lf) d) yh s (cd [1,0,0,1] Lg) (TH lf (evC (Ef lf) d) yh s) b0))
noncomputable abbrev V8:Code:=E3 Tryz.f125
noncomputable def J0 (lf:Nat):Cfg:=C2 lf [125] (A5 [(32,[0,1,0,0,1,0,0,0,0,2,0,0]),(25,[0,1,0,0,1,0,0,0,0,2]),(18,[0,1,0,0,1,0,0,0,0,0,0]),(15,[0,1,0,0,1,0,0,0,0]),(5,[0,1,0,0,0])]) [(165,Uw),(166,NA),(167,UO),(168,Up)] (A5 [(43,[2,0]),(42,[0,3,1,0,0,0,0]),(41,[0,3,1,0,0,0,0]),(26,[0,3,1,0,0,0,0,2]),(40,[0,3,1,0,0,0,0,2]),(39,[0,3,1,0,0,0,0,2]),(38,[0,3,1,0,0,1,2]),(37,[0,3,1,0,0,0,3]),(36,[0,3,1,0,0,0,0,2,0,0]),(35,[0,3,1,0,0,0,0,2,0,0]),(34,[0,3,1,0,0,0,0,2,0,0,0]),(33,[0,3,1,0,0,0,0,2,0,0,0]),(32,[0,3,1,0,0,0,0,2,0,0,94]),(31,[0,3,1,0,0,0,0,2,0,0]),(30,[0,3,1,0,0,0,0,2,0]),(29,[0,3,1,0,0,0,0,2,90]),(28,[0,3,1,0,0,0,0,2]),(27,[0,3,1,0,0,0,0,2,82]),(25,[0,3,1,0,0,0,0,2,74]),(24,[0,3,1,0,0,0,0,2]),(23,[0,3,1,0,0,0,0]),(22,[0,3,1,0,1,0,0]),(19,[0,3,1,0,0,0,0,0,0]),(21,[0,3,1,0,0,0,0,0,0]),(20,[0,3,1,0,0,0,0,0,0,56]),(18,[0,3,1,0,0,0,0,0,0,48]),(17,[0,3,1,0,0,0,0,0,0]),(16,[0,3,1,0,0,0,0,0]),(15,[0,3,1,0,0,0,0,46]),(14,[0,3,1,0,0,0,0]),(13,[0,3,1,0]),(12,[0,3,1,0,42]),(11,[0,3,1,0]),(6,[0,3,0]),(10,[0,3,0]),(9,[0,3,0,30]),(8,[2,0]),(7,[0,3,0,25]),(5,[0,3,0,17]),(4,[0,3,0]),(3,[0,3]),(2,[2,0]),(1,[0,18]),(0,[0])]) [165,166,167,168] (A5 [(2,[4]),(3,[0,3,1,0,0,0,0]),(6,[0,3,1,0,0,0,0]),(7,[0,3,1,0,0,0,0,2]),(8,[0,3,1,0,0,0,3,0]),(9,[0,3,1,0,0,0,0,2,0,0]),(4,[0,3,1,0,0,0,0,0]),(5,[0,3,1,0,0,0,0,0,0]),(0,[0,3]),(1,[0,3,0])]) (some [2,0]) [] [] []
noncomputable def N8 {R:Type} (lf n:Nat) (points_z0 points_t1:Bool) (points2:LL) (i3:Int) (l4:LL) (k0:LL->Option R) (k1:Bool->Bool->LL->LL->Option R):Option R:=match n with | 0=>none | n+1=>cond (ltI i3 (points2.length:Int)) (cond (inR i3 points2.length) (cond (okE Fp points2 (Int.toNat i3) 0) (vl (gE points2 (Int.toNat i3) 0) λn'1=>cond (not (ptI n'1)) (k0 l4) (cond (inR i3 points2.length) (cond (okE Fp points2 (Int.toNat i3) 0) (vl (gE points2 (Int.toNat i3) 0) λn'3=>cond (ltI n'3 128) (cond (inR i3 points2.length) (cond (okE Fp points2 (Int.toNat i3) 0) (vl (gE points2 (Int.toNat i3) 0) λn'4=>cond (E4 (l4.length+1)) (N8 lf n points_z0 points_t1 points2 (A1 (i3+1)) (l4++[[(SV.int .u8 (wu8 n'4))]]) k0 k1) none) none) none) (N8 lf n points_z0 points_t1 points2 (A1 (i3+1)) l4 k0 k1)) none) none)) none) none) (k1 points_z0 points_t1 points2 l4)
theorem RS (n points_z0 points_t1 points2 i3 l4):E6 1 ((J0 lf).keep 5) (bd (J0 lf) cl yh (cd [1,1,1,0,1,0,0] V8)) n ⟨gp [(0,.s (.sl points_z0 points_t1 1 points2)),(3,.fl 0),(0,pI i3)] 148,[.arr true 5 1 l4],s⟩ k =
 N8 lf n points_z0 points_t1 points2 i3 l4 (λl0=>k .ret ⟨gp [(2,pS ([]:List UInt8)),(0,pI (2:Int))] 150,[.arr true 5 1 l0],s⟩) (λpoints_z0 points_t1 points2 l3=>k (.exit 0) ⟨gp [(0,.s (.sl points_z0 points_t1 1 points2)),(3,.fl 0)] 149,[.arr true 5 1 l3],s⟩):=by
 induction n generalizing points_z0 points_t1 points2 i3 l4 with
 | zero=>rfl
 | succ n ih=>rw [N8];simp only [<-ih];kernel_rfl
noncomputable def Dq {R:Type} (lf n:Nat) (points_z0 points_t1:Bool) (points2:LL) (done3 basic4 n5 delta6 bias7 least8 i9:Int) (l10:LL) (k0:Bool->Bool->LL->Int->Int->Int->Int->Int->Int->LL->Option R):Option R:=match n with | 0=>none | n+1=>cond (ltI i9 (points2.length:Int)) (cond (inR i9 points2.length) (cond (okE Fp points2 (Int.toNat i9) 0) (vl (gE points2 (Int.toNat i9) 0) λn'14=>cond (not (ltI n'14 n5)) (cond (inR i9 points2.length) (cond (okE Fp points2 (Int.toNat i9) 0) (vl (gE points2 (Int.toNat i9) 0) λn'15=>vl (if (n'15<least8) then n'15 else least8) λn'16=>Dq lf n points_z0 points_t1 points2 done3 basic4 n5 delta6 bias7 n'16 (A1 (i9+1)) l10 k0) none) none) (Dq lf n points_z0 points_t1 points2 done3 basic4 n5 delta6 bias7 least8 (A1 (i9+1)) l10 k0)) none) none) (k0 points_z0 points_t1 points2 done3 basic4 n5 delta6 bias7 least8 l10)
theorem RT (n points_z0 points_t1 points2 done3 basic4 n5 delta6 bias7 least8 i9 l10):E6 1 ((J0 lf).keep 18) (bd (J0 lf) cl yh (cd [1,1,1,1,1,1,1,0,0,0,1,0,1,0,1,0,0] V8)) n ⟨gp [(0,.s (.sl points_z0 points_t1 1 points2)),(3,.fl 0),(1,pI done3),(0,pI basic4),(0,pI n5),(0,pI delta6),(0,pI bias7),(0,pI least8),(0,pI i9)] 141,[.arr true 5 1 l10],s⟩ k =
 Dq lf n points_z0 points_t1 points2 done3 basic4 n5 delta6 bias7 least8 i9 l10 (λpoints_z0 points_t1 points2 done3 basic4 n5 delta6 bias7 least8 l9=>k (.exit 4) ⟨gp [(0,.s (.sl points_z0 points_t1 1 points2)),(3,.fl 0),(1,pI done3),(0,pI basic4),(0,pI n5),(0,pI delta6),(0,pI bias7),(0,pI least8)] 142,[.arr true 5 1 l9],s⟩):=by
 induction n generalizing points_z0 points_t1 points2 done3 basic4 n5 delta6 bias7 least8 i9 l10 with
 | zero=>rfl
 | succ n ih=>rw [Dq];simp only [<-ih];kernel_rfl
noncomputable def Bd {R:Type} (lf n:Nat) (points_z0 points_t1:Bool) (points2:LL) (done3 basic4 n5 delta6 bias7 i8 q9 kk10:Int) (l11:LL) (k0:Bool->Bool->LL->Int->Int->Int->Int->Int->Int->LL->Option R):Option R:=match n with | 0=>none | n+1=>cond (ltN kk10 10000000000) (cond (ltN bias7 1000000) (vl (H4 (Int.mul (36:Int) kk10) bias7) λn'40=>cond (not (ltI q9 n'40)) (cond (ltN kk10 10000000000) (cond (ltN bias7 1000000) (vl (H4 (Int.mul (36:Int) kk10) bias7) λn'42=>vl (A1 ((36:Int)-n'42)) λn'46=>cond (n'46 != 0) (vl (Int.tmod (A1 (q9-n'42)) n'46) λn'47=>cond (ltN (A1 (n'42+n'47)) 36) (vl (↑(UInt8.toNat (T3 (Int.toNat (A1 (n'42+n'47))))):Int) λn'48=>cond (E4 (l11.length+1)) (vl (A1 ((36:Int)-n'42)) λn'49=>cond (n'49 != 0) (vl (A1 (Int.tdiv (A1 (q9-n'42)) n'49)) λn'50=>vl (A1 (kk10+1)) λn'51=>Bd lf n points_z0 points_t1 points2 done3 basic4 n5 delta6 bias7 i8 n'50 n'51 (l11++[[(SV.int .u8 n'48)]]) k0) none) none) none) none) none) none) (k0 points_z0 points_t1 points2 done3 basic4 n5 delta6 i8 q9 l11)) none) none
theorem Xv (n points_z0 points_t1 points2 done3 basic4 n5 delta6 bias7 i8 q9 kk10 l11):E6 1 ((J0 lf).keep 32) (bd (J0 lf) cl yh (cd [1,1,1,1,1,1,1,0,0,0,1,0,1,1,1,1,0,1,0,0,1,0,0,1,1,1,1,0,0,0] V8)) n ⟨gp [(0,.s (.sl points_z0 points_t1 1 points2)),(3,.fl 0),(1,pI done3),(0,pI basic4),(0,pI n5),(0,pI delta6),(0,pI bias7),(2,pI i8),(0,pI q9),(0,pI kk10)] 138,[.arr true 5 1 l11],s⟩ k =
 Bd lf n points_z0 points_t1 points2 done3 basic4 n5 delta6 bias7 i8 q9 kk10 l11 (λpoints_z0 points_t1 points2 done3 basic4 n5 delta6 i7 q8 l9=>k (.exit 8) ⟨gp [(0,.s (.sl points_z0 points_t1 1 points2)),(3,.fl 0),(1,pI done3),(0,pI basic4),(0,pI n5),(0,pI delta6),(3,pI i7),(0,pI q8)] 139,[.arr true 5 1 l9],s⟩):=by
 induction n generalizing points_z0 points_t1 points2 done3 basic4 n5 delta6 bias7 i8 q9 kk10 l11 with
 | zero=>rfl
 | succ n ih=>rw [Bd];simp only [<-ih];kernel_rfl
noncomputable def T8 {R:Type} (lf n:Nat) (points_z0 points_t1:Bool) (points2:LL) (done3 basic4 n5 delta6 bias7 i8:Int) (l9:LL) (k0:Bool->Bool->LL->Int->Int->Int->Int->Int->LL->Option R):Option R:=match n with | 0=>none | n+1=>cond (ltI i8 (points2.length:Int)) (cond (inR i8 points2.length) (cond (okE Fp points2 (Int.toNat i8) 0) (vl (gE points2 (Int.toNat i8) 0) λn'33=>cond (ltI n'33 n5) (vl (A1 (delta6+1)) λn'34=>cond (inR i8 points2.length) (cond (okE Fp points2 (Int.toNat i8) 0) (vl (gE points2 (Int.toNat i8) 0) λn'36=>cond (n'36 != n5) (T8 lf n points_z0 points_t1 points2 done3 basic4 n5 n'34 bias7 (A1 (i8+1)) l9 k0) (Bd lf lf points_z0 points_t1 points2 done3 basic4 n5 n'34 bias7 i8 n'34 0 l9 (λpoints_z'52 points_t'53 points'54 done'55 basic'56 n'57 delta'58 i'59 q'60 l'61=>cond (ltN q'60 36) (vl (↑(UInt8.toNat (T3 (Int.toNat q'60))):Int) λn'63=>cond (E4 (l'61.length+1)) (vl (A1 (done'55+1)) λn'64=>cond (ltN delta'58 1152921504606846976) (cond (ltN n'64 1000000) (cond (ltI 0 n'64) (vl (↑(L2 (Int.toNat delta'58) (Int.toNat n'64) (done'55==basic'56)):Int) λn'65=>vl (A1 (done'55+1)) λn'66=>vl (A1 (i'59+1)) λn'67=>T8 lf n points_z'52 points_t'53 points'54 n'66 basic'56 n'57 0 n'65 n'67 (l'61++[[(SV.int .u8 n'63)]]) k0) none) none) none) none) none))) none) none) (cond (inR i8 points2.length) (cond (okE Fp points2 (Int.toNat i8) 0) (vl (gE points2 (Int.toNat i8) 0) λn'38=>cond (n'38 != n5) (T8 lf n points_z0 points_t1 points2 done3 basic4 n5 delta6 bias7 (A1 (i8+1)) l9 k0) (Bd lf lf points_z0 points_t1 points2 done3 basic4 n5 delta6 bias7 i8 delta6 0 l9 (λpoints_z'68 points_t'69 points'70 done'71 basic'72 n'73 delta'74 i'75 q'76 l'77=>cond (ltN q'76 36) (vl (↑(UInt8.toNat (T3 (Int.toNat q'76))):Int) λn'79=>cond (E4 (l'77.length+1)) (vl (A1 (done'71+1)) λn'80=>cond (ltN delta'74 1152921504606846976) (cond (ltN n'80 1000000) (cond (ltI 0 n'80) (vl (↑(L2 (Int.toNat delta'74) (Int.toNat n'80) (done'71==basic'72)):Int) λn'81=>vl (A1 (done'71+1)) λn'82=>vl (A1 (i'75+1)) λn'83=>T8 lf n points_z'68 points_t'69 points'70 n'82 basic'72 n'73 0 n'81 n'83 (l'77++[[(SV.int .u8 n'79)]]) k0) none) none) none) none) none))) none) none)) none) none) (k0 points_z0 points_t1 points2 done3 basic4 n5 delta6 bias7 l9)
theorem RU (n points_z0 points_t1 points2 done3 basic4 n5 delta6 bias7 i8 l9):E6 1 ((J0 lf).keep 25) (bd (J0 lf) cl yh (cd [1,1,1,1,1,1,1,0,0,0,1,0,1,1,1,1,0,1,0,0] V8)) n ⟨gp [(0,.s (.sl points_z0 points_t1 1 points2)),(3,.fl 0),(1,pI done3),(0,pI basic4),(0,pI n5),(0,pI delta6),(0,pI bias7),(2,pI i8)] 140,[.arr true 5 1 l9],s⟩ k =
 T8 lf n points_z0 points_t1 points2 done3 basic4 n5 delta6 bias7 i8 l9 (λpoints_z0 points_t1 points2 done3 basic4 n5 delta6 bias7 l8=>k (.exit 6) ⟨gp [(0,.s (.sl points_z0 points_t1 1 points2)),(3,.fl 0),(1,pI done3),(0,pI basic4),(0,pI n5),(0,pI delta6),(0,pI bias7)] 143,[.arr true 5 1 l8],s⟩):=by
 induction n generalizing points_z0 points_t1 points2 done3 basic4 n5 delta6 bias7 i8 l9 with
 | zero=>rfl
 | succ n ih=>rw [T8];exact let K0:=(G5 8 (H5 (J0 lf) cl yh (cd [1,1,1,1,1,1,1,0,0,0,1,0,1,1,1,1,0,1,0,0,1,0,0,1,1,1,1,1] V8) (G5 7 (H5 (J0 lf) cl yh (cd [1,1,1,1,1,1,1,0,0,0,1,0,1,1,1,1,0,1,0,0,1,1] V8) (lpK 1 ((J0 lf).keep 25) (bd (J0 lf) cl yh (cd [1,1,1,1,1,1,1,0,0,0,1,0,1,1,1,1,0,1,0,0] V8)) n k)))));(Eq.trans (by kernel_rfl) (A0 (A0 (A0 (A8 λn'33=>(A0 (A8 λn'34=>(A0 (A0 (A8 λn'36=>(A0 (ih points_z0 points_t1 points2 done3 basic4 n5 n'34 bias7 (A1 (i8+1)) l9) ((Xv lf cl yh s K0 lf points_z0 points_t1 points2 done3 basic4 n5 n'34 bias7 i8 n'34 0 l9).trans (congr rfl (Ax9 λpoints_z'52 points_t'53 points'54 done'55 basic'56 n'57 delta'58 i'59 q'60 l'61=>(Eq.trans (by kernel_rfl) (A0 (A8 λn'63=>(A0 (A8 λn'64=>(A0 (A0 (A0 (A8 λn'65=>(A8 λn'66=>(A8 λn'67=>(ih points_z'52 points_t'53 points'54 n'66 basic'56 n'57 0 n'65 n'67 (l'61++[[(SV.int .u8 n'63)]]))))) rfl) rfl) rfl)) rfl)) rfl))))))) rfl) rfl)) (A0 (A0 (A8 λn'38=>(A0 (ih points_z0 points_t1 points2 done3 basic4 n5 delta6 bias7 (A1 (i8+1)) l9) ((Xv lf cl yh s K0 lf points_z0 points_t1 points2 done3 basic4 n5 delta6 bias7 i8 delta6 0 l9).trans (congr rfl (Ax9 λpoints_z'68 points_t'69 points'70 done'71 basic'72 n'73 delta'74 i'75 q'76 l'77=>(Eq.trans (by kernel_rfl) (A0 (A8 λn'79=>(A0 (A8 λn'80=>(A0 (A0 (A0 (A8 λn'81=>(A8 λn'82=>(A8 λn'83=>(ih points_z'68 points_t'69 points'70 n'82 basic'72 n'73 0 n'81 n'83 (l'77++[[(SV.int .u8 n'79)]]))))) rfl) rfl) rfl)) rfl)) rfl))))))) rfl) rfl))) rfl) rfl) rfl))
noncomputable def Be {R:Type} (lf n:Nat) (points_z0 points_t1:Bool) (points2:LL) (done3 basic4 n5 delta6 bias7:Int) (l8:LL) (k0:LL->Option R):Option R:=match n with | 0=>none | n+1=>cond (ltI done3 (points2.length:Int)) (Dq lf lf points_z0 points_t1 points2 done3 basic4 n5 delta6 bias7 1073741824 0 l8 (λpoints_z'17 points_t'18 points'19 done'20 basic'21 n'22 delta'23 bias'24 least'25 l'26=>vl (A1 (done'20+1)) λn'29=>vl (A1 ((A1 (least'25-n'22))*n'29)) λn'30=>T8 lf lf points_z'17 points_t'18 points'19 done'20 basic'21 least'25 (A1 (delta'23+n'30)) bias'24 0 l'26 (λpoints_z'84 points_t'85 points'86 done'87 basic'88 n'89 delta'90 bias'91 l'92=>vl (A1 (delta'90+1)) λn'93=>vl (A1 (n'89+1)) λn'94=>Be lf n points_z'84 points_t'85 points'86 done'87 basic'88 n'94 n'93 bias'91 l'92 k0))) (k0 l8)
theorem Xw (n points_z0 points_t1 points2 done3 basic4 n5 delta6 bias7 l8):E6 1 ((J0 lf).keep 15) (bd (J0 lf) cl yh (cd [1,1,1,1,1,1,1,0,0,0] V8)) n ⟨gp [(0,.s (.sl points_z0 points_t1 1 points2)),(3,.fl 0),(1,pI done3),(0,pI basic4),(0,pI n5),(0,pI delta6),(0,pI bias7)] 143,[.arr true 5 1 l8],s⟩ k =
 Be lf n points_z0 points_t1 points2 done3 basic4 n5 delta6 bias7 l8 (λl0=>k (.exit 2) ⟨gp [(4,.fl 0)] 149,[.arr true 5 1 l0],s⟩):=by
 induction n generalizing points_z0 points_t1 points2 done3 basic4 n5 delta6 bias7 l8 with
 | zero=>rfl
 | succ n ih=>rw [Be];exact (Eq.trans (by kernel_rfl) (A0 ((RT lf cl yh s (G5 4 (H5 (J0 lf) cl yh (cd [1,1,1,1,1,1,1,0,0,0,1,0,1,1] V8) (G5 3 (lpK 1 ((J0 lf).keep 15) (bd (J0 lf) cl yh (cd [1,1,1,1,1,1,1,0,0,0] V8)) n k)))) lf points_z0 points_t1 points2 done3 basic4 n5 delta6 bias7 1073741824 0 l8).trans (congr rfl (Ax9 λpoints_z'17 points_t'18 points'19 done'20 basic'21 n'22 delta'23 bias'24 least'25 l'26=>(Eq.trans (by kernel_rfl) (A8 λn'29=>(A8 λn'30=>((RU lf cl yh s (G5 6 (H5 (J0 lf) cl yh (cd [1,1,1,1,1,1,1,0,0,0,1,0,1,1,1,1,1] V8) (G5 3 (lpK 1 ((J0 lf).keep 15) (bd (J0 lf) cl yh (cd [1,1,1,1,1,1,1,0,0,0] V8)) n k)))) lf points_z'17 points_t'18 points'19 done'20 basic'21 least'25 (A1 (delta'23+n'30)) bias'24 0 l'26).trans (congr rfl (fx9 λpoints_z'84 points_t'85 points'86 done'87 basic'88 n'89 delta'90 bias'91 l'92=>(Eq.trans (by kernel_rfl) (A8 λn'93=>(A8 λn'94=>(ih points_z'84 points_t'85 points'86 done'87 basic'88 n'94 n'93 bias'91 l'92))))))))))))) rfl))
noncomputable def KN {R:Type} (lf:Nat) (points_z0 points_t1:Bool) (points2:LL) (k0:Unit->Option R) (k1:By->Int->LL->Option R):Option R:=cond (ltI 256 (points2.length:Int)) (k0 ()) (N8 lf lf points_z0 points_t1 points2 0 [] (λl'5=>k1 ([]:List UInt8) 2 l'5) (λpoints_z'6 points_t'7 points'8 l'9=>vl (l'9.length:Int) λn'12=>vl (l'9.length:Int) λn'13=>cond (ltI 0 n'13) (cond (E4 (l'9.length+1)) (Be lf lf points_z'6 points_t'7 points'8 n'12 n'13 128 0 72 (l'9++[[(SV.int .u8 (45:Int))]]) (λl'95=>cond (List.all l'95 Tg) (k1 (List.map Qq l'95) 0 l'95) none)) none) (Be lf lf points_z'6 points_t'7 points'8 n'12 n'13 128 0 72 l'9 (λl'96=>cond (List.all l'96 Tg) (k1 (List.map Qq l'96) 0 l'96) none))))
theorem A48 (d:Nat) (points_z0 points_t1 points2):evC (J0 lf) (d+1) σ yh 125 [.s (.sl points_z0 points_t1 1 points2)] [] s=KN lf points_z0 points_t1 points2 (λ_=>some (.tup [pS ([]:List UInt8),pI (3:Int)],[],s)) (λr0 r1 l2=>some (.tup [pS r0,pI r1],[.arr true 5 1 l2],s)):=by
 refine (evE (fn:=Tryz.f125) (by kernel_rfl)).trans ?_
 generalize evC (J0 lf) d=cl
 unfold KN;exact let K0:=(G5 2 (H5 (J0 lf) cl yh (cd [1,1,1,1,1,1,1,1] V8) (I4 (J0 lf) Tryz.f125)));(Eq.trans (by kernel_rfl) (A0 rfl ((RS lf cl yh s (G5 0 (H5 (J0 lf) cl yh (cd [1,1,1,1] V8) (I4 (J0 lf) Tryz.f125))) lf points_z0 points_t1 points2 0 []).trans (congr (congr rfl (by kernel_rfl)) (fx4 λpoints_z'6 points_t'7 points'8 l'9=>(Eq.trans (by kernel_rfl) (A8 λn'12=>(A8 λn'13=>(A0 (A0 ((Xw lf cl yh s K0 lf points_z'6 points_t'7 points'8 n'12 n'13 128 0 72 (l'9++[[(SV.int .u8 (45:Int))]])).trans (by kernel_rfl)) rfl) ((Xw lf cl yh s K0 lf points_z'6 points_t'7 points'8 n'12 n'13 128 0 72 l'9).trans (by kernel_rfl)))))))))))
noncomputable abbrev R4:Code:=E3 Tryz.f146
noncomputable def G1 (lf:Nat):Cfg:=C2 lf [146] (A5 [(27,[0,1,0,2,1,0,0,0,0,0,0,0]),(23,[0,1,0,2,1,0,0,0,0]),(13,[0,1,0,0,1,0]),(5,[0,1,0,0,0])]) [(176,Af7),(166,NA),(168,Up),(165,Uw)] (A5 [(51,[2,0]),(50,[0,5,1,0,0,0,0]),(49,[2,0]),(48,[0,5,1,0,0,0,0,118]),(47,[0,5,1,0,0,0,0]),(46,[2,0]),(45,[0,5,1,0,0,0,0,103]),(44,[0,5,1,0,0,0,0]),(43,[0,5,1,0,0,0,0]),(42,[0,5,1,0,0,0,0]),(41,[0,5,1,0,0,0]),(26,[0,5,1,0,0,0,0,0,0,0]),(40,[2,0]),(39,[0,5,1,0,0,0,0,0,0,0,77]),(38,[0,5,1,0,0,0,0,0,0,0]),(37,[0,5,1,0,0,0,0,0,0,0,1,69]),(36,[0,5,1,0,0,0,0,0,0,0,0,0]),(35,[2,0]),(34,[0,5,1,0,0,0,0,0,0,0,0,64]),(33,[0,5,1,0,0,0,0,0,0,0,0]),(32,[2,0]),(31,[0,5,1,0,0,0,0,0,0,0,0,57]),(30,[0,5,1,0,0,0,0,0,0,0,0]),(29,[0,5,1,0,0,0,0,0,0,0,0]),(28,[2,0]),(27,[0,5,1,0,0,0,0,0,0,0,50]),(25,[0,5,1,0,0,0,0,0,0,0]),(24,[0,5,1,0,0,0,0,0,0]),(23,[0,5,1,0,0,0,0,46]),(22,[0,5,1,0,0,0,0]),(21,[0,5,1,0,0,0]),(20,[0,5,1]),(19,[0,5,1,44]),(18,[0,3,1,1]),(17,[2,0]),(16,[0,3,1,43]),(14,[0,3,1,0]),(15,[0,3,1,0]),(13,[0,3,1,0,30]),(12,[0,3,1,0]),(11,[0,3,1]),(6,[0,3,0]),(10,[0,3,0]),(9,[0,3,0,28]),(8,[2,0]),(7,[0,3,0,24]),(5,[0,3,0,18]),(4,[0,3,0]),(3,[0,3]),(2,[2,0]),(1,[0,19]),(0,[0])]) [176,166,168,165] (A5 [(4,[6]),(5,[0,5,1,0,0,0,0]),(6,[0,5,1,0,0,1,0]),(7,[0,5,1,0,0,0,0,0,0,0]),(2,[0,3,1]),(3,[0,3,1,0]),(0,[0,3]),(1,[0,3,0])]) (some [2,0]) [] [] [] (rw:=[(47,6)])
noncomputable def Ak {R:Type} (lf n:Nat) (s0:By) (cut1 i2:Int) (k0:Unit->Option R) (k1:By->Int->Option R):Option R:=match n with | 0=>none | n+1=>cond (ltI i2 (s0.length:Int)) (cond (inR i2 s0.length) (cond (not (ltI (bAt s0 i2) (128:Int))) (k0 ()) (cond (inR i2 s0.length) (cond ((bAt s0 i2)==45) (Ak lf n s0 i2 (A1 (i2+1)) k0 k1) (Ak lf n s0 cut1 (A1 (i2+1)) k0 k1)) none)) none) (k1 s0 cut1)
theorem KU (n s0 cut1 i2):E6 0 ((G1 lf).keep 5) (bd (G1 lf) cl yh (cd [1,1,1,0,1,0,0] R4)) n ⟨gp [(0,pS s0),(3,pI cut1),(0,pI i2)] 129,[],s⟩ k =
 Ak lf n s0 cut1 i2 (λ_=>k .ret ⟨gp [(2,.fl 0),(0,pI (4:Int))] 131,[.arr true 3 1 []],s⟩) (λs0 cut1=>k (.exit 0) ⟨gp [(0,pS s0),(3,pI cut1)] 130,[],s⟩):=by
 induction n generalizing s0 cut1 i2 with
 | zero=>rfl
 | succ n ih=>rw [Ak];simp only [<-ih];kernel_rfl
noncomputable def Cu {R:Type} (lf n:Nat) (s0:By) (cut1 i2:Int) (l3:LL) (k0:By->Int->LL->Option R):Option R:=match n with | 0=>none | n+1=>cond (ltI i2 cut1) (cond (inR i2 s0.length) (cond (E4 (l3.length+1)) (Cu lf n s0 cut1 (A1 (i2+1)) (l3++[[(SV.int .i64 (A1 (bAt s0 i2)))]]) k0) none) none) (k0 s0 cut1 l3)
theorem KV (n s0 cut1 i2 l3):E6 1 ((G1 lf).keep 13) (bd (G1 lf) cl yh (cd [1,1,1,1,1,0,1,0,0] R4)) n ⟨gp [(0,pS s0),(3,pI cut1),(1,.fl 0),(0,pI i2)] 127,[.arr true 3 1 l3],s⟩ k =
 Cu lf n s0 cut1 i2 l3 (λs0 cut1 l2=>k (.exit 2) ⟨gp [(0,pS s0),(3,pI cut1),(1,.fl 0)] 128,[.arr true 3 1 l2],s⟩):=by
 induction n generalizing s0 cut1 i2 l3 with
 | zero=>rfl
 | succ n ih=>rw [Cu];simp only [<-ih];kernel_rfl
noncomputable def O6 {R:Type} (lf n:Nat) (s0:By) (out1:LL) (at2 n3 i4 bias5 old6 w7 kk8:Int) (l9:LL) (k0:Int->LL->Option R) (k1:By->LL->Int->Int->Int->Int->LL->Option R):Option R:=match n with | 0=>none | n+1=>cond (not (ltI at2 (s0.length:Int))) (k0 4 l9) (cond (inR at2 s0.length) (cond (inR (bAt s0 at2) 256) (vl (C1 (u8n (bAt s0 at2))) λn'8=>cond (ltI n'8 0) (k0 4 l9) (vl (A1 (i4+(A1 (n'8*w7)))) λn'10=>cond (ltI 1099511627776 n'10) (k0 19 l9) (cond (ltN kk8 10000000000) (cond (ltN bias5 1000000) (vl (H4 (Int.mul (36:Int) kk8) bias5) λn'12=>cond (ltI n'8 n'12) (k1 s0 out1 (A1 (at2+1)) n3 n'10 old6 l9) (vl (A1 ((36:Int)-n'12)) λn'13=>cond (ltI 1099511627776 (A1 (w7*n'13))) (k0 19 l9) (O6 lf n s0 out1 (A1 (at2+1)) n3 n'10 bias5 old6 (A1 (w7*n'13)) (A1 (kk8+1)) l9 k0 k1))) none) none))) none) none)
theorem KW (n s0 out1 at2 n3 i4 bias5 old6 w7 kk8 l9):E6 1 ((G1 lf).keep 27) (bd (G1 lf) cl yh (cd [1,1,1,1,1,1,1,1,1,1,1,0,0,0,1,0,1,0,1,0,0] R4)) n ⟨gp [(0,pS s0),(5,.s (.sl false false 1 out1)),(1,pI at2),(0,pI n3),(0,pI i4),(0,pI bias5),(0,pB false),(0,pI old6),(0,pI w7),(0,pI kk8)] 119,[.arr true 3 1 l9],s⟩ k =
 O6 lf n s0 out1 at2 n3 i4 bias5 old6 w7 kk8 l9 (λn0 l1=>k .ret ⟨gp [(2,.fl 1),(0,pI n0)] 131,[.arr true 3 1 l1,.arr true 3 1 []],s⟩) (λs0 out1 at2 n3 i4 old5 l6=>k (.exit 6) ⟨gp [(0,pS s0),(5,.s (.sl false false 1 out1)),(1,pI at2),(0,pI n3),(0,pI i4),(1,pB false),(0,pI old5)] 121,[.arr true 3 1 l6],s⟩):=by
 induction n generalizing s0 out1 at2 n3 i4 bias5 old6 w7 kk8 l9 with
 | zero=>rfl
 | succ n ih=>rw [O6];simp only [<-ih];kernel_rfl
noncomputable def K4 {R:Type} (lf n:Nat) (s0:By) (out1:LL) (at2 n3 i4 bias5:Int) (l6:LL) (k0:Int->LL->Option R) (k1:LL->LL->Option R) (k2:LL->LL->Option R):Option R:=match n with | 0=>none | n+1=>cond (ltI at2 (s0.length:Int)) (O6 lf lf s0 out1 at2 n3 i4 bias5 i4 1 0 l6 (λn'14 l'15=>k0 n'14 l'15) (λs'16 out'17 at'18 n'19 i'20 old'21 l'22=>vl (A1 ((out'17.length:Int)+1)) λn'25=>cond (ltN (A1 (i'20-old'21)) 1152921504606846976) (cond (ltN n'25 1000000) (cond (ltI 0 n'25) (vl (↑(L2 (Int.toNat (A1 (i'20-old'21))) (Int.toNat n'25) false):Int) λn'26=>vl (A1 ((out'17.length:Int)+1)) λn'29=>cond (n'29 != 0) (vl (A1 (Int.tdiv i'20 n'29)) λn'30=>vl (A1 ((out'17.length:Int)+1)) λn'32=>cond (n'32 != 0) (cond (not (ptI (A1 (n'19+n'30)))) (k0 2 l'22) (cond (N3 0 (Int.tmod i'20 n'32) out'17.length) (vl (cut out'17 0 (Int.tmod i'20 n'32)) λl'33=>cond (N3 (Int.tmod i'20 n'32) (out'17.length:Int) out'17.length) (vl (cut out'17 (Int.tmod i'20 n'32) (out'17.length:Int)) λl'34=>cond (E4 (0+l'33.length)) (cond (E4 (l'33.length+1)) (cond (E4 ((List.length (l'33++[[(SV.int .i64 (A1 (n'19+n'30)))]]))+l'34.length)) (cond (ltI 256 (↑(List.length ((l'33++[[(SV.int .i64 (A1 (n'19+n'30)))]])++l'34)):Int)) (k1 l'22 ((l'33++[[(SV.int .i64 (A1 (n'19+n'30)))]])++l'34)) (vl (A1 ((Int.tmod i'20 n'32)+1)) λn'35=>K4 lf n s'16 ((l'33++[[(SV.int .i64 (A1 (n'19+n'30)))]])++l'34) at'18 (A1 (n'19+n'30)) n'35 n'26 l'22 k0 k1 k2)) none) none) none) none) none)) none) none) none) none) none)) (k2 out1 l6)
theorem KX (n s0 out1 at2 n3 i4 bias5 l6):E6 1 ((G1 lf).keep 23) (bd (G1 lf) cl yh (cd [1,1,1,1,1,1,1,1,1,1,1,0,0,0] R4)) n ⟨gp [(0,pS s0),(5,.s (.sl false false 1 out1)),(1,pI at2),(0,pI n3),(0,pI i4),(0,pI bias5),(0,pB false)] 122,[.arr true 3 1 l6],s⟩ k =
 K4 lf n s0 out1 at2 n3 i4 bias5 l6 (λn0 l1=>k .ret ⟨gp [(2,.fl 1),(0,pI n0)] 131,[.arr true 3 1 l1,.arr true 3 1 []],s⟩) (λl0 l1=>k .ret ⟨gp [(2,.fl 2),(0,pI (3:Int))] 131,[.arr true 3 1 l0,.arr false 3 1 l1,.arr true 3 1 []],s⟩) (λout0 l1=>k (.exit 4) ⟨gp [(6,.s (.sl false false 1 out0))] 128,[.arr true 3 1 l1],s⟩):=by
 induction n generalizing s0 out1 at2 n3 i4 bias5 l6 with
 | zero=>rfl
 | succ n ih=>rw [K4];exact (Eq.trans (by kernel_rfl) (A0 ((KW lf cl yh s (G5 6 (H5 (G1 lf) cl yh (cd [1,1,1,1,1,1,1,1,1,1,1,0,0,0,1,0,1,1] R4) (G5 5 (lpK 1 ((G1 lf).keep 23) (bd (G1 lf) cl yh (cd [1,1,1,1,1,1,1,1,1,1,1,0,0,0] R4)) n k)))) lf s0 out1 at2 n3 i4 bias5 i4 1 0 l6).trans (congr (congr rfl (by kernel_rfl)) (fx7 λs'16 out'17 at'18 n'19 i'20 old'21 l'22=>(Eq.trans (by kernel_rfl) (A8 λn'25=>(A0 (A0 (A0 (A8 λn'26=>(A8 λn'29=>(A0 (A8 λn'30=>(A8 λn'32=>(A0 (A0 rfl (A0 (A8 λl'33=>(A0 (A8 λl'34=>(A0 (A0 (A0 (A0 rfl (A8 λn'35=>(ih s'16 ((l'33++[[(SV.int .i64 (A1 (n'19+n'30)))]])++l'34) at'18 (A1 (n'19+n'30)) n'35 n'26 l'22))) rfl) rfl) rfl)) rfl)) rfl)) rfl))) rfl))) rfl) rfl) rfl)))))) rfl))
noncomputable def O7 {R:Type} (lf n:Nat) (s0:By) (at1 i2 w3 kk4:Int) (l5:LL) (k0:Int->LL->Option R) (k1:By->Int->Int->LL->Option R):Option R:=match n with | 0=>none | n+1=>cond (not (ltI at1 (s0.length:Int))) (k0 4 l5) (cond (inR at1 s0.length) (cond (inR (bAt s0 at1) 256) (vl (C1 (u8n (bAt s0 at1))) λn'37=>cond (ltI n'37 0) (k0 4 l5) (vl (A1 (i2+(A1 (n'37*w3)))) λn'39=>cond (ltI 1099511627776 n'39) (k0 19 l5) (cond (ltN kk4 10000000000) (cond (ltN 72 1000000) (vl (H4 (Int.mul (36:Int) kk4) (72:Int)) λn'41=>cond (ltI n'37 n'41) (k1 s0 (A1 (at1+1)) n'39 l5) (vl (A1 ((36:Int)-n'41)) λn'42=>cond (ltI 1099511627776 (A1 (w3*n'42))) (k0 19 l5) (O7 lf n s0 (A1 (at1+1)) n'39 (A1 (w3*n'42)) (A1 (kk4+1)) l5 k0 k1))) none) none))) none) none)
theorem KY (n s0 at1 i2 w3 kk4 l5):E6 1 ((G1 lf).keep 27) (bd (G1 lf) cl yh (cd [1,1,1,1,1,1,1,1,1,1,1,0,0,0,1,0,1,0,1,0,0] R4)) n ⟨gp [(0,pS s0),(5,.fl 0),(1,pI at1),(0,pI (128:Int)),(0,pI i2),(0,pI (72:Int)),(0,pB true),(0,pI (0:Int)),(0,pI w3),(0,pI kk4)] 119,[.arr true 3 1 l5],s⟩ k =
 O7 lf n s0 at1 i2 w3 kk4 l5 (λn0 l1=>k .ret ⟨gp [(2,.fl 1),(0,pI n0)] 131,[.arr true 3 1 l1,.arr true 3 1 []],s⟩) (λs0 at1 i2 l3=>k (.exit 6) ⟨gp [(0,pS s0),(5,.fl 0),(1,pI at1),(0,pI (128:Int)),(0,pI i2),(1,pB true),(0,pI (0:Int))] 121,[.arr true 3 1 l3],s⟩):=by
 induction n generalizing s0 at1 i2 w3 kk4 l5 with
 | zero=>rfl
 | succ n ih=>rw [O7];simp only [<-ih];kernel_rfl
noncomputable def G7 {R:Type} (lf n:Nat) (s0:By) (at1:Int) (l2:LL) (k0:Int->LL->Option R) (k1:LL->LL->Option R) (k2:LL->LL->Option R) (k3:LL->Option R):Option R:=match n with | 0=>none | n+1=>cond (ltI at1 (s0.length:Int)) (O7 lf lf s0 at1 0 1 0 l2 (λn'43 l'44=>k0 n'43 l'44) (λs'45 at'46 i'47 l'48=>vl (A1 (i'47-0)) λn'52=>vl (A1 ((l'48.length:Int)+1)) λn'53=>cond (ltN n'52 1152921504606846976) (cond (ltN n'53 1000000) (cond (ltI 0 n'53) (vl (↑(L2 (Int.toNat n'52) (Int.toNat n'53) true):Int) λn'54=>vl (A1 ((l'48.length:Int)+1)) λn'58=>cond (n'58 != 0) (vl (A1 (Int.tdiv i'47 n'58)) λn'59=>vl (A1 ((128:Int)+n'59)) λn'60=>vl (A1 ((l'48.length:Int)+1)) λn'62=>cond (n'62 != 0) (cond (not (ptI n'60)) (k0 2 l'48) (cond (N3 0 (Int.tmod i'47 n'62) l'48.length) (cond (N3 (Int.tmod i'47 n'62) (l'48.length:Int) l'48.length) (cond (E4 (0+(List.length (List.take ((Int.toNat (Int.tmod i'47 n'62))-0) (List.drop 0 l'48))))) (cond (E4 ((List.length (List.take ((Int.toNat (Int.tmod i'47 n'62))-0) (List.drop 0 l'48)))+1)) (vl ((List.take ((Int.toNat (Int.tmod i'47 n'62))-0) (List.drop 0 l'48))++[[(SV.int .i64 n'60)]]) λl'63=>cond (E4 (l'63.length+(List.length (List.take ((Int.toNat (l'48.length:Int))-(Int.toNat (Int.tmod i'47 n'62))) (List.drop (Int.toNat (Int.tmod i'47 n'62)) l'48))))) (vl (l'63++(List.take ((Int.toNat (l'48.length:Int))-(Int.toNat (Int.tmod i'47 n'62))) (List.drop (Int.toNat (Int.tmod i'47 n'62)) l'48))) λl'64=>cond (ltI 256 (l'64.length:Int)) (k1 l'48 l'64) (vl (A1 ((Int.tmod i'47 n'62)+1)) λn'65=>K4 lf n s'45 l'64 at'46 n'60 n'65 n'54 l'48 (λn'66 l'67=>k0 n'66 l'67) (λl'68 l'69=>k1 l'68 l'69) (λout'70 l'71=>k2 out'70 l'71))) none) none) none) none) none)) none) none) none) none) none)) (k3 l2)
theorem Sx (n s0 at1 l2):E6 1 ((G1 lf).keep 23) (bd (G1 lf) cl yh (cd [1,1,1,1,1,1,1,1,1,1,1,0,0,0] R4)) n ⟨gp [(0,pS s0),(5,.fl 0),(1,pI at1),(0,pI (128:Int)),(0,pI (0:Int)),(0,pI (72:Int)),(0,pB true)] 122,[.arr true 3 1 l2],s⟩ k =
 G7 lf n s0 at1 l2 (λn0 l1=>k .ret ⟨gp [(2,.fl 1),(0,pI n0)] 131,[.arr true 3 1 l1,.arr true 3 1 []],s⟩) (λl0 l1=>k .ret ⟨gp [(2,.fl 2),(0,pI (3:Int))] 131,[.arr true 3 1 l0,.arr false 3 1 l1,.arr true 3 1 []],s⟩) (λout0 l1=>k (.exit 4) ⟨gp [(6,.s (.sl false false 1 out0))] 128,[.arr true 3 1 l1],s⟩) (λl0=>k (.exit 4) ⟨gp [(6,.fl 0)] 128,[.arr true 3 1 l0],s⟩):=by
 induction n generalizing s0 at1 l2 with
 | zero=>rfl
 | succ n ih=>rw [G7];exact (Eq.trans (by kernel_rfl) (A0 ((KY lf cl yh s (G5 6 (H5 (G1 lf) cl yh (cd [1,1,1,1,1,1,1,1,1,1,1,0,0,0,1,0,1,1] R4) (G5 5 (lpK 1 ((G1 lf).keep 23) (bd (G1 lf) cl yh (cd [1,1,1,1,1,1,1,1,1,1,1,0,0,0] R4)) n k)))) lf s0 at1 0 1 0 l2).trans (congr (congr rfl (by kernel_rfl)) (fx4 λs'45 at'46 i'47 l'48=>(Eq.trans (by kernel_rfl) (A8 λn'52=>(A8 λn'53=>(A0 (A0 (A0 (A8 λn'54=>(A8 λn'58=>(A0 (A8 λn'59=>(A8 λn'60=>(A8 λn'62=>(A0 (A0 rfl (A0 (A0 (A0 (A0 (A8 λl'63=>(A0 (A8 λl'64=>(A0 rfl (A8 λn'65=>((KX lf cl yh s k n s'45 l'64 at'46 n'60 n'65 n'54 l'48).trans (congr (congr (congr rfl (fx2 λn'66 l'67=>rfl)) (fx2 λl'68 l'69=>rfl)) (fx2 λout'70 l'71=>rfl)))))) rfl)) rfl) rfl) rfl) rfl)) rfl)))) rfl))) rfl) rfl) rfl))))))) rfl))
noncomputable def WW {R:Type} (lf:Nat) (s0:By) (k0:Int->LL->Option R) (k1:Int->LL->Option R) (k2:LL->LL->Option R) (k3:LL->LL->Option R):Option R:=cond (ltI 1024 (s0.length:Int)) (k0 3 []) (Ak lf lf s0 0 0 (λ_=>k0 4 []) (λs'0 cut'1=>Cu lf lf s'0 cut'1 0 [] (λs'2 cut'3 l'4=>cond (ltI 256 (l'4.length:Int)) (k1 3 l'4) (cond (ltI 0 cut'3) (vl (A1 (cut'3+1)) λn'6=>G7 lf lf s'2 n'6 l'4 (λn'72 l'73=>k1 n'72 l'73) (λl'74 l'75=>k2 l'74 l'75) (λout'76 l'77=>k3 out'76 l'77) (λl'78=>k0 0 l'78)) (G7 lf lf s'2 cut'3 l'4 (λn'79 l'80=>k1 n'79 l'80) (λl'81 l'82=>k2 l'81 l'82) (λout'83 l'84=>k3 out'83 l'84) (λl'85=>k0 0 l'85))))))
theorem Aq5 (d:Nat) (s0):evC (G1 lf) (d+1) σ yh 146 [pS s0] [] s=WW lf s0 (λr0 l1=>some (.tup [.fl 0,pI r0],[.arr true 3 1 l1],s)) (λr0 l1=>some (.tup [.fl 1,pI r0],[.arr true 3 1 l1,.arr true 3 1 []],s)) (λl0 l1=>some (.tup [.fl 2,pI (3:Int)],[.arr true 3 1 l0,.arr false 3 1 l1,.arr true 3 1 []],s)) (λr0 l1=>some (.tup [.s (.sl false false 1 r0),pI (0:Int)],[.arr true 3 1 l1],s)):=by
 refine (evE (fn:=Tryz.f146) (by kernel_rfl)).trans ?_
 generalize evC (G1 lf) d=cl
 unfold WW;exact let K0:=(G5 4 (H5 (G1 lf) cl yh (cd [1,1,1,1,1,1,1,1,1,1,1,1] R4) (I4 (G1 lf) Tryz.f146)));(Eq.trans (by kernel_rfl) (A0 rfl ((KU lf cl yh s (G5 0 (H5 (G1 lf) cl yh (cd [1,1,1,1] R4) (I4 (G1 lf) Tryz.f146))) lf s0 0 0).trans (congr (congr rfl (by kernel_rfl)) (fx2 λs'0 cut'1=>(Eq.trans (by kernel_rfl) ((KV lf cl yh s (G5 2 (H5 (G1 lf) cl yh (cd [1,1,1,1,1,1] R4) (I4 (G1 lf) Tryz.f146))) lf s'0 cut'1 0 []).trans (congr rfl (fx3 λs'2 cut'3 l'4=>(Eq.trans (by kernel_rfl) (A0 rfl (A0 (A8 λn'6=>((Sx lf cl yh s K0 lf s'2 n'6 l'4).trans (by kernel_rfl))) ((Sx lf cl yh s K0 lf s'2 cut'3 l'4).trans (by kernel_rfl))))))))))))))
noncomputable def GO {R:Type} (lf n:Nat) (s0:By) (i1 v2:Int) (l3:LL) (k0:By->Int->Int->LL->Option R):Option R:=match n with | 0=>none | n+1=>k0 s0 i1 v2 l3
noncomputable def GN {R:Type} (lf:Nat) (s0:By) (i1 b2:Int) (l4:LL) (k0:LL->Option R) (k1:By->Int->LL->Option R):Option R:=vl (A1 ((s0.length:Int)-i1)) λn'1=>cond (ltI n'1 1) (k0 l4) (GO lf lf s0 i1 b2 l4 (λs'2 i'3 v'4 l'5=>cond (ltI v'4 0) (k0 l'5) (cond (not (ptI v'4)) (k0 l'5) (cond (E4 (l'5.length+1)) (k1 s'2 (A1 (i'3+1)) (l'5++[[(SV.int .i64 v'4)]])) none))))
noncomputable def Ok {R:Type} (s0:By) (i1 b2:Int) (b3:Bool) (l4:LL) (k0:By->Int->Int->Int->Int->LL->Option R) (k1:LL->Option R):Option R:=cond b3 (vl (A1 (b2-224)) λn'11=>k0 s0 i1 3 n'11 2048 l4) (cond (not (ltI b2 240)) (cond (ltI b2 245) (vl (A1 (b2-240)) λn'12=>k0 s0 i1 4 n'12 65536 l4) (k1 l4)) (k1 l4))
noncomputable def Ol {R:Type} (s0:By) (i1 b2:Int) (b3:Bool) (l4:LL) (k0:By->Int->Int->Int->Int->LL->Option R) (k1:LL->Option R):Option R:=cond b3 (vl (A1 (b2-192)) λn'10=>k0 s0 i1 2 n'10 128 l4) (cond (not (ltI b2 224)) (Ok s0 i1 b2 (ltI b2 240) l4 (λs'13 i'14 n'15 v'16 least'17 l'18=>k0 s'13 i'14 n'15 v'16 least'17 l'18) (λl'19=>k1 l'19)) (Ok s0 i1 b2 false l4 (λs'20 i'21 n'22 v'23 least'24 l'25=>k0 s'20 i'21 n'22 v'23 least'24 l'25) (λl'26=>k1 l'26)))
noncomputable def Gu {R:Type} (lf n:Nat) (s0:By) (i1 n2 v3 least4 kk5:Int) (l6:LL) (k0:LL->Option R) (k1:By->Int->Int->Int->Int->LL->Option R):Option R:=match n with | 0=>none | n+1=>cond (ltI kk5 n2) (cond (inR (A1 (i1+kk5)) s0.length) (vl (bAt s0 (A1 (i1+kk5))) λn'37=>cond (ltI (A1 n'37) (128:Int)) (k0 l6) (cond (ltI 191 (A1 n'37)) (k0 l6) (vl (A1 ((A1 (v3*64))+(A1 n'37))) λn'38=>vl (A1 (n'38-128)) λn'39=>Gu lf n s0 i1 n2 n'39 least4 (A1 (kk5+1)) l6 k0 k1))) none) (k1 s0 i1 n2 v3 least4 l6)
noncomputable def Dt {R:Type} (lf:Nat) (s0:By) (i1 n2 v3 least4:Int) (l5:LL) (k0:LL->Option R) (k1:By->Int->LL->Option R):Option R:=vl (A1 ((s0.length:Int)-i1)) λn'35=>cond (ltI n'35 n2) (k0 l5) (Gu lf lf s0 i1 n2 v3 least4 1 l5 (λl'40=>k0 l'40) (λs'41 i'42 n'43 v'44 least'45 l'46=>cond (ltI v'44 least'45) (k0 l'46) (cond (not (ptI v'44)) (k0 l'46) (cond (E4 (l'46.length+1)) (k1 s'41 (A1 (i'42+n'43)) (l'46++[[(SV.int .i64 v'44)]])) none))))
noncomputable def W9 {R:Type} (lf n:Nat) (s0:By) (i1:Int) (l2:LL) (k0:LL->Option R) (k1:LL->Option R):Option R:=match n with | 0=>none | n+1=>cond (ltI i1 (s0.length:Int)) (cond (inR i1 s0.length) (cond (ltI (A1 (bAt s0 i1)) (128:Int)) (GN lf s0 i1 (A1 (bAt s0 i1)) l2 (λl'6=>k0 l'6) (λs'7 i'8 l'9=>W9 lf n s'7 i'8 l'9 k0 k1)) (cond (not (ltI (A1 (bAt s0 i1)) (194:Int))) (Ol s0 i1 (A1 (bAt s0 i1)) (ltI (A1 (bAt s0 i1)) (224:Int)) l2 (λs'27 i'28 n'29 v'30 least'31 l'32=>Dt lf s'27 i'28 n'29 v'30 least'31 l'32 (λl'47=>k0 l'47) (λs'48 i'49 l'50=>W9 lf n s'48 i'49 l'50 k0 k1)) (λl'33=>k0 l'33)) (Ol s0 i1 (A1 (bAt s0 i1)) false l2 (λs'51 i'52 n'53 v'54 least'55 l'56=>Dt lf s'51 i'52 n'53 v'54 least'55 l'56 (λl'58=>k0 l'58) (λs'59 i'60 l'61=>W9 lf n s'59 i'60 l'61 k0 k1)) (λl'57=>k0 l'57)))) none) (k1 l2)
noncomputable def Bn0 {R:Type} (lf:Nat) (s0:By) (k0:LL->Option R) (k1:LL->Option R):Option R:=W9 lf lf s0 0 [] (λl'62=>k0 l'62) (λl'63=>k1 l'63)
noncomputable abbrev VB:Code:=E3 Tryz.f103
noncomputable def Ga (lf:Nat):Cfg:=C2 lf [103] (A5 [(6,[0,1,0,1,0])]) [(146,UQ),(125,Af5)] (A5 [(12,[2]),(11,[0,4,1,0]),(7,[0,2,1,0]),(10,[2]),(9,[0,2,1,0,34]),(8,[0,2,1,0]),(6,[0,2,1,0,12]),(5,[0,2,1,0]),(4,[0,2,1]),(3,[2]),(2,[0,2,11]),(1,[0,2,0]),(0,[0])]) [125] (A5 [(0,[0,2,1]),(1,[0,2,1,0])]) (some [2]) [] [] []
noncomputable def Q9 {R:Type} (lf n:Nat) (rest0:By) (p_z1:Bool) (p2:LL) (other3:Bool) (i4:Int) (k0:Unit->Option R) (k1:By->Bool->LL->Bool->Option R):Option R:=match n with | 0=>none | n+1=>cond (ltI i4 (p2.length:Int)) (cond other3 (cond (inR i4 p2.length) (cond (okE Fp p2 (Int.toNat i4) 0) (cond (not (ltI (gE p2 (Int.toNat i4) 0) (65:Int))) (cond (inR i4 p2.length) (cond (okE Fp p2 (Int.toNat i4) 0) (cond (not (ltI 90 (gE p2 (Int.toNat i4) 0))) (k0 ()) (Q9 lf n rest0 p_z1 p2 true (A1 (i4+1)) k0 k1)) none) none) (Q9 lf n rest0 p_z1 p2 true (A1 (i4+1)) k0 k1)) none) none) (cond (inR i4 p2.length) (cond (okE Fp p2 (Int.toNat i4) 0) (cond (inR i4 p2.length) (cond (okE Fp p2 (Int.toNat i4) 0) (cond (not (ltI (gE p2 (Int.toNat i4) 0) (65:Int))) (cond (inR i4 p2.length) (cond (okE Fp p2 (Int.toNat i4) 0) (cond (not (ltI 90 (gE p2 (Int.toNat i4) 0))) (k0 ()) (Q9 lf n rest0 p_z1 p2 (not (ltI (gE p2 (Int.toNat i4) 0) (128:Int))) (A1 (i4+1)) k0 k1)) none) none) (Q9 lf n rest0 p_z1 p2 (not (ltI (gE p2 (Int.toNat i4) 0) (128:Int))) (A1 (i4+1)) k0 k1)) none) none) none) none)) (k1 rest0 p_z1 p2 other3)
theorem LA (n rest0 p_z1 p2 other3 i4):E6 0 ((Ga lf).keep 6) (bd (Ga lf) cl yh (cd [1,1,1,1,0,1,0,0] VB)) n ⟨gp [(0,pS rest0),(2,.s (.sl p_z1 p_z1 1 p2)),(1,pB other3),(0,pI i4)] 50,[],s⟩ k =
 Q9 lf n rest0 p_z1 p2 other3 i4 (λ_=>k .ret ⟨gp [(2,pB false)] 54,[],s⟩) (λrest0 p_z1 p2 other3=>k (.exit 0) ⟨gp [(0,pS rest0),(2,.s (.sl p_z1 p_z1 1 p2)),(1,pB other3)] 51,[],s⟩):=by
 induction n generalizing rest0 p_z1 p2 other3 i4 with
 | zero=>rfl
 | succ n ih=>rw [Q9];simp only [<-ih];kernel_rfl
noncomputable def WX {R:Type} (lf:Nat) (rest0:By) (k0:Bool->Option R):Option R:=cond (A4 rest0.length) (vl (↑((J3 rest0)).2:Int) λn'1=>cond (n'1 != 0) (k0 false) (Q9 lf lf rest0 (List.isEmpty ((J3 rest0)).1) (Rj ((J3 rest0)).1) false 0 (λ_=>k0 false) (λrest'2 p_z'3 p'4 other'5=>cond (List.all p'4 Ig) (vl ((Q5 (List.map elI p'4))).1 λs'8=>vl (↑((Q5 (List.map elI p'4))).2:Int) λn'9=>cond (n'9==0) (cond (s'8==rest'2) (k0 other'5) (k0 false)) (k0 false)) none))) none
theorem Aq7 (d:Nat) (rest0):evC (Ga lf) (d+1) σ yh 103 [pS rest0] [] s=WX lf rest0 (λr0=>some (pB r0,[],s)):=by
 refine (evE (fn:=Tryz.f103) (by kernel_rfl)).trans ?_
 generalize evC (Ga lf) d=cl
 unfold WX;exact (Eq.trans (by kernel_rfl) (A0 (A8 λn'1=>(A0 rfl ((LA lf cl yh s (G5 0 (H5 (Ga lf) cl yh (cd [1,1,1,1,1] VB) (I4 (Ga lf) Tryz.f103))) lf rest0 (List.isEmpty ((J3 rest0)).1) (Rj ((J3 rest0)).1) false 0).trans (by kernel_rfl)))) rfl))
noncomputable abbrev VA:Code:=E3 Tryz.f69
noncomputable def Fz (lf:Nat):Cfg:=C2 lf [69] (A5 [(4,[0,1,0])]) [(103,UR)] (A5 [(9,[2]),(5,[0,2]),(8,[2]),(7,[0,2,52]),(6,[0,2,0]),(4,[0,2,24]),(3,[0,2]),(2,[2]),(1,[0,23]),(0,[0])]) [103] (A5 [(0,[0]),(1,[0,2])]) (some [2]) [] [] []
noncomputable def J5 {R:Type} (lf n:Nat) (s0:By) (i1:Int) (k0:Unit->Option R) (k1:By->Option R):Option R:=match n with | 0=>none | n+1=>cond (ltI i1 (s0.length:Int)) (cond (inR i1 s0.length) (cond (not (ltI (bAt s0 i1) (97:Int))) (cond (not (ltI 122 (bAt s0 i1))) (J5 lf n s0 (A1 (i1+1)) k0 k1) (cond (not (ltI (bAt s0 i1) (48:Int))) (cond (not (ltI 57 (bAt s0 i1))) (J5 lf n s0 (A1 (i1+1)) k0 k1) (cond ((bAt s0 i1)==45) (J5 lf n s0 (A1 (i1+1)) k0 k1) (cond (not ((bAt s0 i1)==95)) (k0 ()) (J5 lf n s0 (A1 (i1+1)) k0 k1)))) (cond ((bAt s0 i1)==45) (J5 lf n s0 (A1 (i1+1)) k0 k1) (cond (not ((bAt s0 i1)==95)) (k0 ()) (J5 lf n s0 (A1 (i1+1)) k0 k1))))) (cond (not (ltI (bAt s0 i1) (48:Int))) (cond (not (ltI 57 (bAt s0 i1))) (J5 lf n s0 (A1 (i1+1)) k0 k1) (cond ((bAt s0 i1)==45) (J5 lf n s0 (A1 (i1+1)) k0 k1) (cond (not ((bAt s0 i1)==95)) (k0 ()) (J5 lf n s0 (A1 (i1+1)) k0 k1)))) (cond ((bAt s0 i1)==45) (J5 lf n s0 (A1 (i1+1)) k0 k1) (cond (not ((bAt s0 i1)==95)) (k0 ()) (J5 lf n s0 (A1 (i1+1)) k0 k1))))) none) (k1 s0)
theorem KP (n s0 i1):E6 0 ((Fz lf).keep 4) (bd (Fz lf) cl yh (cd [1,1,0,1,0,0] VA)) n ⟨gp [(0,pS s0),(2,pI i1)] 66,[],s⟩ k =
 J5 lf n s0 i1 (λ_=>k .ret ⟨gp [(2,pB false)] 67,[],s⟩) (λs0=>k (.exit 0) ⟨gp [(0,pS s0)] 69,[],s⟩):=by
 induction n generalizing s0 i1 with
 | zero=>rfl
 | succ n ih=>rw [J5];simp only [<-ih];kernel_rfl
noncomputable def WT {R:Type} (lf:Nat) (s0:By) (k0:Bool->Option R):Option R:=cond (s0==[]) (k0 false) (cond (ltI 63 (s0.length:Int)) (k0 false) (cond (inR 0 s0.length) (cond ((bAt s0 (0:Int))==45) (k0 false) (vl (A1 ((s0.length:Int)-1)) λn'1=>cond (inR n'1 s0.length) (cond ((bAt s0 n'1)==45) (k0 false) (J5 lf lf s0 0 (λ_=>k0 false) (λs'2=>cond (ltI (s'2.length:Int) (4:Int)) (k0 true) (cond (N3 0 (4:Int) s'2.length) (vl (cut s'2 0 (4:Int)) λs'3=>cond (not (s'3==[120,110,45,45])) (k0 true) (cond (N3 4 (s'2.length:Int) s'2.length) (vl (cut s'2 4 (s'2.length:Int)) λs'4=>cond (A4 s'4.length) (k0 (Z6 s'4)) none) none)) none)))) none)) none))
theorem Aq2 (d:Nat) (s0):evC (Fz lf) (d+1) σ yh 69 [pS s0] [] s=WT lf s0 (λr0=>some (pB r0,[],s)):=by
 refine (evE (fn:=Tryz.f69) (by kernel_rfl)).trans ?_
 generalize evC (Fz lf) d=cl
 unfold WT;exact (Eq.trans (by kernel_rfl) (A0 rfl (A0 rfl (A0 (A0 rfl (A8 λn'1=>(A0 (A0 rfl ((KP lf cl yh s (G5 0 (H5 (Fz lf) cl yh (cd [1,1,1] VA) (I4 (Fz lf) Tryz.f69))) lf s0 0).trans (by kernel_rfl))) rfl))) rfl))))
end
theorem KZ {R:Type} {k0:Bool->Option R} (n:Int):GM LF n k0=k0 (ptI n):=by
 unfold GM
 by_cases h:n<0
 ·rw [C0 h]
  have:ptI n=false:=by
   cases n with
   | ofNat m=>exact absurd h (by simp)
   | negSucc m=>rfl
  grind
 ·obtain ⟨m,rfl⟩:=Int.eq_ofNat_of_zero_le (show 0<=n by omega)
  rw [A6,Gr]
  unfold O4
  by_cases h1:1114111<m
  ·rw [A7]
   have:Nat.ble m 1114111=false:=by rw [Bool.eq_false_iff,ne_eq,Nat.ble_eq];omega
   grind
  ·rw [A6]
   have:Nat.ble m 1114111=true:=by rw [Nat.ble_eq];omega
   rw [this]
   by_cases h2:m<55296
   ·rw [A7]
    have:Nat.blt m 55296=true:=by rw [Nat.blt_eq];omega
    grind
   ·rw [A6]
    have e:Nat.blt m 55296=false:=by rw [Bool.eq_false_iff,ne_eq,Nat.blt_eq];omega
    rw [e]
    simp only [Bool.not_false,cond_true,cond_false,Bool.false_or,Bool.true_and]
    congr 1
theorem KK {R:Type} {k0:Int->Int->Option R}:∀ (d n k:Nat),d<2305843009213693952->d<n->k+d<=4611686018427387904->
  ∃ d' k',d'<=455/\k'<=k+d/\Qb d k=k'+36*d' / (d'+38)/\Bu LF n (d:Int) (k:Int) k0=k0 (d':Int) (k':Int):=by
 intro d
 induction d using Nat.strongRecOn with
 | _ d ih=>
  intro n k hd hn hk
  obtain ⟨n,rfl⟩:∃ m,n=m+1:=⟨n-1,by omega⟩
  rw [Bu]
  by_cases h:455<d
  ·obtain ⟨d',k',h1,h2,h3,h4⟩:=ih (d / 35) (by omega) n (k+36) (by omega) (by omega) (by omega)
   refine ⟨d',k',h1,by omega,by rw [Ve h];exact h3,?_⟩
   have e:Int.tdiv (d:Int) 35=((d / 35:Nat):Int):=J6 d 35
   have e1:A1 ((d / 35:Nat):Int)=((d / 35:Nat):Int):=A3
   have e2:A1 ((k:Int)+36)=((k+36:Nat):Int):=by rw [A3];rfl
   rw [A7]
   simp only [cond_true,vl,e,e1,e2]
   exact h4
  ·refine ⟨d,k,by omega,by omega,La h,?_⟩
   rw [A6]
   rfl
theorem KL {R:Type} {k0:Int->Option R} (d c:Int) (f:Bool) (h0:ltN d 1152921504606846976=true) (h1:ltN c 1000000=true) (h2:ltI 0 c=true):Xt LF d c f k0=k0 (L2 d.toNat c.toNat f:Nat):=by
 obtain ⟨hd0,hd1⟩:=K9.1 h0
 obtain ⟨hc0,hc1⟩:=K9.1 h1
 obtain ⟨d,rfl⟩:=Int.eq_ofNat_of_zero_le hd0
 obtain ⟨c,rfl⟩:=Int.eq_ofNat_of_zero_le hc0
 have hc:=WD.1 h2
 have hLF:=E5
 have key:∀ x:Nat,x<1152921504606846976->Bt LF (x:Int) (c:Int) k0=k0 ((Qb (x+x / c) 0:Nat):Int):=by
  intro x hx
  have hxc:x / c<=x:=Nat.div_le_self _ _
  unfold Bt
  have e1:Int.tdiv (x:Int) (c:Int)=((x / c:Nat):Int):=J6 x c
  generalize x / c=q at *
  have e2:A1 (q:Int)=(q:Int):=A3
  have e3:A1 ((x:Int)+(q:Int))=((x+q:Nat):Int):=by rw [A3];rfl
  rw [show ((c:Int) != 0)=true by simp;omega]
  simp only [cond_true,vl,e1,e2,e3]
  obtain ⟨d',k',g1,g2,g3,g4⟩:=KK (R:=R) (k0:=λdelta'7 k'8=>vl (A1 ((36)*delta'7)) λn'9=>vl (A1 (delta'7+(38))) λn'10=>cond (n'10 != (0)) (vl (A1 (Int.tdiv n'9 n'10)) λn'11=>k0 (A1 (k'8+n'11))) none) (x+q) LF 0 (by omega) (by omega) (by omega)
  refine Eq.trans g4 ?_
  have hq:36*d' / (d'+38)<=36*d':=Nat.div_le_self _ _
  have f1:A1 (36*(d':Int))=((36*d':Nat):Int):=by rw [A3];rfl
  have f2:A1 ((d':Int)+38)=((d'+38:Nat):Int):=by rw [A3];rfl
  have f3:Int.tdiv ((36*d':Nat):Int) ((d'+38:Nat):Int)=((36*d' / (d'+38):Nat):Int):=J6 _ _
  have f4:A1 ((36*d' / (d'+38):Nat):Int)=((36*d' / (d'+38):Nat):Int):=A3
  have f5:A1 ((k':Int)+((36*d' / (d'+38):Nat):Int))=((k'+36*d' / (d'+38):Nat):Int):=by rw [A3];rfl
  simp only [vl,f1,f2,f3,f4,f5]
  rw [show (((d'+38:Nat):Int) != 0)=true by simp;omega,g3]
  rfl
 unfold Xt L2
 rw [Int.toNat_natCast,Int.toNat_natCast]
 cases f with
 | true=>
  have e1:Int.tdiv (d:Int) 700=((d / 700:Nat):Int):=J6 d 700
  have e2:A1 ((d / 700:Nat):Int)=((d / 700:Nat):Int):=A3
  simp only [cond_true,vl,e1,e2,if_true]
  exact key _ (by omega)
 | false=>
  have e1:Int.tdiv (d:Int) 2=((d / 2:Nat):Int):=J6 d 2
  have e2:A1 ((d / 2:Nat):Int)=((d / 2:Nat):Int):=A3
  simp only [cond_false,vl,e1,e2,Bool.false_eq_true,if_false]
  exact key _ (by omega)
theorem RF {R:Type} {k0:Int->Option R} (d:Int) (h0:ltN d 36=true):WQ LF d k0=k0 ((T3 d.toNat).toNat:Nat):=by
 obtain ⟨hd0,hd1⟩:=K9.1 h0
 obtain ⟨d,rfl⟩:=Int.eq_ofNat_of_zero_le hd0
 unfold WQ
 rw [Int.toNat_natCast,Zw (by omega)]
 by_cases h:d<26
 ·rw [A7,if_pos h]
  simp only [cond_true,vl]
  congr 1
  rw [A3,R3]
  rfl
 ·rw [A6,if_neg h]
  simp only [cond_false,vl]
  congr 1
  rw [D0 (n:=48+(d:Int)) (by omega) (by omega),A3,R3]
  omega
theorem Ac3 {R:Type} {k0:Int->Option R} (b:Int) (h0:inR b 256=true):Aq8 LF b k0=k0 (C1 (u8n b)):=by
 simp only [inR,Bool.and_eq_true,decide_eq_true_eq] at h0
 have hc:b=((u8n b).toNat:Int):=by
  unfold u8n
  simp
  omega
 generalize u8n b=c at *
 subst hc
 have hbt:=c.toNat_lt
 unfold Aq8 C1
 simp only [Oo,On,vl]
 rcases Td c with ⟨h1,h2,e⟩ | ⟨h1,h2,e⟩ | ⟨h1,h2,e⟩ | ⟨h1,h2,h3,e⟩
 ·have e2:A1 (wu8 ((c.toNat:Int)-97))=((c.toNat-97:Nat):Int):=by
   rw [R3,A3];omega
  simp (disch:=omega) only [C0,E0,Bool.not_true,Bool.not_false,cond_false,cond_true,e2,e]
 ·have e2:A1 (wu8 ((c.toNat:Int)-65))=((c.toNat-65:Nat):Int):=by
   rw [R3,A3];omega
  simp (disch:=omega) only [C0,E0,Bool.not_true,Bool.not_false,cond_false,cond_true,e2,e]
 ·have e2:A1 (A1 (wu8 ((c.toNat:Int)-48))+26)=((c.toNat-22:Nat):Int):=by
   rw [R3,D0 (n:=(c.toNat:Int)-48) (by omega) (by omega),A3];omega
  simp (disch:=omega) only [C0,E0,Bool.not_true,Bool.not_false,cond_false,cond_true,e2,e]
 ·rw [e]
  by_cases c1:c.toNat<48
  ·simp (disch:=omega) only [C0,E0,Bool.not_true,Bool.not_false,cond_false,cond_true]
  ·by_cases c2:c.toNat<65
   ·simp (disch:=omega) only [C0,E0,Bool.not_true,Bool.not_false,cond_false,cond_true]
   ·by_cases c3:c.toNat<97
    ·simp (disch:=omega) only [C0,E0,Bool.not_true,Bool.not_false,cond_false,cond_true]
    ·simp (disch:=omega) only [C0,E0,Bool.not_true,Bool.not_false,cond_false,cond_true]
theorem Ac2 {R:Type} {k0:Int->Option R} (k b:Int) (h0:ltN k 10000000000=true) (h1:ltN b 1000000=true):A56 LF k b k0=k0 (H4 (Int.mul 36 k) b):=by
 obtain ⟨k1,k2⟩:=K9.1 h0
 obtain ⟨b1,b2⟩:=K9.1 h1
 unfold A56 H4
 have e1:A1 (k+1)=k+1:=A3
 have e2:A1 ((36:Int)*(k+1))=36*(k+1):=A3
 have e3:A1 (36*(k+1)-b)=36*(k+1)-b:=A3
 grind
theorem Ap9 (z t:Bool) (pts:LL) (done basic nn delta i:Int) (b:Nat) (hb:b<1000000):∀ (r q k n:Nat) (l:LL),q<10 ^ r->q<1152921504606846976->k+r<=1000->r<n->l.length+r<=200000->
  ∃ (q':Nat) (pre:By),q'<36/\K8 q k b=pre++[T3 q']/\∀ (R:Type) (k0:Bool->Bool->LL->Int->Int->Int->Int->Int->Int->LL->Option R),Bd LF n z t pts done basic nn delta (b:Int) i (q:Int) (k:Int) l k0=k0 z t pts done basic nn delta i (q':Int) (l++pre.map C9):=by
 have hthr:∀ k:Nat,H4 (Int.mul 36 (k:Int)) (b:Int)=(thr k b:Int):=λk=>by
  rw [show Int.mul 36 (k:Int)=((36*k:Nat):Int) from rfl,Pc]
 have fin:∀ (q k n:Nat) (l:LL),q<thr k b->k<=1000->∃ (q':Nat) (pre:By),q'<36/\K8 q k b=pre++[T3 q']/\∀ (R:Type) (k0:Bool->Bool->LL->Int->Int->Int->Int->Int->Int->LL->Option R),Bd LF (n+1) z t pts done basic nn delta (b:Int) i (q:Int) (k:Int) l k0=k0 z t pts done basic nn delta i (q':Int) (l++pre.map C9):=by
  intro q k n l hq hk
  have ht:=P0 k b
  refine ⟨q,[],by omega,by rw [Jr hq];rfl,λR k0=>?_⟩
  rw [Bd]
  have hq':ltI (q:Int) (thr k b:Int)=true:=A7
  rw [L0,L0,hthr]
  grind
 intro r
 induction r with
 | zero=>
  intro q k n l h _ hk hn hl
  have ht:=P0 k b
  obtain ⟨n,rfl⟩:∃ m,n=m+1:=⟨n-1,by omega⟩
  exact fin q k n l (by simp at h;omega) (by omega)
 | succ r ih=>
  intro q k n l h hq60 hk hn hl
  have ht:=P0 k b
  obtain ⟨n,rfl⟩:∃ m,n=m+1:=⟨n-1,by omega⟩
  by_cases hq:q<thr k b
  ·exact fin q k n l hq (by omega)
  ·have hd:(q-thr k b) / (36-thr k b)<10 ^ r:=EZ (by omega) (by rw [Nat.pow_succ] at h;omega)
   have hd2:(q-thr k b) / (36-thr k b)<=q:=Nat.le_trans (Nat.div_le_self _ _) (by omega)
   have hm2:(q-thr k b) % (36-thr k b)<36-thr k b:=Nat.mod_lt _ (by omega)
   obtain ⟨q',pre,e0,e1,e⟩:=ih ((q-thr k b) / (36-thr k b)) (k+1) n (l++[C9 (T3 (thr k b+(q-thr k b) % (36-thr k b)))]) hd (by omega) (by omega) (by omega) (by rw [List.length_append,List.length_singleton];omega)
   refine ⟨q',T3 (thr k b+(q-thr k b) % (36-thr k b))::pre,e0,by rw [Qr hq,e1];rfl,λR k0=>?_⟩
   rw [Bd]
   have c1:A1 ((q:Int)-(thr k b:Int))=((q-thr k b:Nat):Int):=by rw [A3];omega
   have c2:A1 ((36:Int)-(thr k b:Int))=((36-thr k b:Nat):Int):=by rw [A3];omega
   have c3:Int.tmod ((q-thr k b:Nat):Int) ((36-thr k b:Nat):Int)=(((q-thr k b) % (36-thr k b):Nat):Int):=Fr _ _
   have c4:Int.tdiv ((q-thr k b:Nat):Int) ((36-thr k b:Nat):Int)=(((q-thr k b) / (36-thr k b):Nat):Int):=J6 _ _
   have c7:((((36-thr k b:Nat):Int)) != 0)=true:=by rw [bne_iff_ne];omega
   have c8:A1 ((k:Int)+1)=((k+1:Nat):Int):=by rw [A3];rfl
   have hq':ltI (q:Int) (thr k b:Int)=false:=A6
   rw [L0,L0,hthr]
   simp only [vl,hq',c1,c2,c3,c4,c7,c8,cond_true,cond_false,Bool.not_false]
   generalize hA:(q-thr k b) / (36-thr k b)=A at *
   generalize hB:(q-thr k b) % (36-thr k b)=B at *
   have c5:A1 ((thr k b:Int)+(B:Int))=((thr k b+B:Nat):Int):=by rw [A3];rfl
   have c6:A1 (A:Int)=(A:Int):=A3
   rw [c5,c6,L0,E2 (by omega),Int.toNat_natCast]
   refine Eq.trans (e R k0) ?_
   simp [List.append_assoc,C9]
theorem A49 (z t:Bool) (pts:List Nat) (basic m:Nat) (hm:m<=1114112) (hl:pts.length<=256):∀ (r i n:Nat) (s:BZ),i+r=pts.length->r<n->s.delta+r<=1000000000000->s.bias<=500->s.out.length+20*r<=90000->s.done+r<=1000->basic<=256->
  (∀ (R:Type) (k0:Bool->Bool->LL->Int->Int->Int->Int->Int->LL->Option R),T8 LF n z t (A9 pts) (s.done:Int) (basic:Int) (m:Int) (s.delta:Int) (s.bias:Int) (i:Int) (s.out.map C9) k0 =
   k0 z t (A9 pts) ((F0 m basic (pts.drop i) s).done:Int) (basic:Int) (m:Int) ((F0 m basic (pts.drop i) s).delta:Int) ((F0 m basic (pts.drop i) s).bias:Int) ((F0 m basic (pts.drop i) s).out.map C9))/\
  (F0 m basic (pts.drop i) s).bias<=500/\(F0 m basic (pts.drop i) s).out.length<=s.out.length+20*(pts.drop i).countP (· == m)/\(F0 m basic (pts.drop i) s).done=s.done+(pts.drop i).countP (· == m)/\
  (F0 m basic (pts.drop i) s).delta<=(if 0<(pts.drop i).countP (· == m) then r else s.delta+r):=by
 have hLF:=E5
 intro r
 induction r with
 | zero=>
  intro i n s hi hn h1 h2 h3 h4 hb
  obtain ⟨n,rfl⟩:∃ m,n=m+1:=⟨n-1,by omega⟩
  rw [List.drop_of_length_le (by omega)]
  refine ⟨λR k0=>?_,h2,by simp [F0],by simp [F0],by simp [F0]⟩
  rw [T8]
  rw [B6,A6]
  rfl
 | succ r ih=>
  intro i n s hi hn h1 h2 h3 h4 hb
  obtain ⟨n,rfl⟩:∃ m,n=m+1:=⟨n-1,by omega⟩
  rw [Mz pts i (by omega)]
  have hg:=Qx pts i (by omega)
  have ok:=Jz (l:=pts) (i:=i) (by omega)
  have hin:inR (i:Int) (A9 pts).length=true:=M8 (by omega) (by rw [B6];omega)
  have hlt:ltI (i:Int) ((A9 pts).length:Int)=true:=C0 (by rw [B6];omega)
  generalize pts.getD i 0=p at *
  have e1:A1 ((i:Int)+1)=((i+1:Nat):Int):=by rw [A3];rfl
  have e2:A1 ((s.delta:Int)+1)=((s.delta+1:Nat):Int):=by rw [A3];rfl
  have e3:A1 ((s.done:Int)+1)=((s.done+1:Nat):Int):=by rw [A3];rfl
  by_cases hp:p<m
  ·have hne:(p==m)=false:=by rw [beq_eq_false_iff_ne];omega
   have hs:F0 m basic (p::pts.drop (i+1)) s=F0 m basic (pts.drop (i+1)) { s with delta:=s.delta+1 }:=by rw [F0,if_pos hp]
   obtain ⟨q1,q2,q3,q4,q5⟩:=ih (i+1) n { s with delta:=s.delta+1 } (by omega) (by omega) (by simp only;omega) h2 (by simp only;omega) (by simp only;omega) hb
   rw [hs,List.countP_cons_of_neg (by rw [hne];simp)]
   refine ⟨λR k0=>?_,q2,q3,q4,?_⟩
   ·rw [T8]
    rw [Int.toNat_natCast]
    simp only [hin,hlt,ok,cond_true,vl,hg,e1,e2]
    rw [A7,cond_true,show ((p:Int) != (m:Int))=true by rw [bne_iff_ne];omega,cond_true]
    exact q1 R k0
   ·simp only at q5
    split at q5<;>split<;>omega
  ·by_cases hq:p=m
   ·subst hq
    have hn20:=Zy (q:=s.delta) (k:=0) (b:=s.bias) (by omega)
    have had:=Hq s.delta (s.done+1) (s.done==basic) (by omega)
    have hs:F0 p basic (p::pts.drop (i+1)) s=F0 p basic (pts.drop (i+1)) { delta:=0,bias:=L2 s.delta (s.done+1) (s.done==basic),done:=s.done+1,out:=s.out++K8 s.delta 0 s.bias }:=by rw [F0,if_neg hp,if_pos rfl]
    obtain ⟨q1,q2,q3,q4,q5⟩:=ih (i+1) n { delta:=0,bias:=L2 s.delta (s.done+1) (s.done==basic),done:=s.done+1,out:=s.out++K8 s.delta 0 s.bias } (by omega) (by omega) (by simp only;omega) had (by simp only [List.length_append];omega) (by simp only;omega) hb
    obtain ⟨q',pre,f1,f2,f3⟩:=Ap9 z t (A9 pts) (s.done:Int) (basic:Int) (p:Int) (s.delta:Int) (i:Int) s.bias (by omega) 19 s.delta 0 LF (s.out.map C9) (by omega) (by omega) (by omega) (by omega) (by rw [List.length_map];omega)
    rw [hs,List.countP_cons_of_pos (by simp)]
    refine ⟨λR k0=>?_,q2,?_,?_,?_⟩
    ·rw [T8]
     have hbeq:((s.done:Int)==(basic:Int))=(s.done==basic):=by
      rw [Bool.eq_iff_iff,beq_iff_eq,beq_iff_eq];omega
     rw [Int.toNat_natCast]
     simp only [hin,hlt,ok,cond_true,vl,hg,e1,e3]
     rw [A6,cond_false,bne_self_eq_false,cond_false]
     refine Eq.trans (f3 R _) ?_
     have hpl:pre.length+1=(K8 s.delta 0 s.bias).length:=by rw [f2];simp
     rw [L0,Int.toNat_natCast,E2 (by rw [List.length_append,List.length_map,List.length_map];omega)]
     simp only [vl,cond_true,e1,e3]
     rw [L0,L0,A7,hbeq]
     simp only [cond_true,Int.toNat_natCast]
     have hrow:s.out.map C9++pre.map C9++[[SV.int .u8 (((T3 q').toNat:Nat):Int)]]=(s.out++K8 s.delta 0 s.bias).map C9:=by
      rw [f2,List.map_append,List.map_append,List.append_assoc];rfl
     rw [hrow]
     exact q1 R k0
    ·simp only [List.length_append] at q3;omega
    ·simp only at q4;omega
    ·simp only at q5
     rw [Ar]
     split at q5<;>omega
   ·have hne:(p==m)=false:=by rw [beq_eq_false_iff_ne];omega
    have hs:F0 m basic (p::pts.drop (i+1)) s=F0 m basic (pts.drop (i+1)) s:=by rw [F0,if_neg hp,if_neg hq]
    obtain ⟨q1,q2,q3,q4,q5⟩:=ih (i+1) n s (by omega) (by omega) (by omega) h2 (by omega) (by omega) hb
    rw [hs,List.countP_cons_of_neg (by rw [hne];simp)]
    refine ⟨λR k0=>?_,q2,q3,q4,?_⟩
    ·rw [T8]
     rw [Int.toNat_natCast]
     simp only [hin,hlt,ok,cond_true,vl,hg,e1]
     rw [A6,cond_false,show ((p:Int) != (m:Int))=true by rw [bne_iff_ne];omega,cond_true]
     exact q1 R k0
    ·split at q5<;>split<;>omega
theorem RV {R:Type} {k0:Bool->Bool->LL->Int->Int->Int->Int->Int->Int->LL->Option R} (z t:Bool) (pts:List Nat) (hl:pts.length<=256) (n0:Nat) (basic delta bias done:Int) (l:LL):∀ (r i n m:Nat),i+r=pts.length->r<n->
  Dq LF n z t (A9 pts) done basic (n0:Int) delta bias (m:Int) (i:Int) l k0=k0 z t (A9 pts) done basic (n0:Int) delta bias ((E9 n0 (pts.drop i) m:Nat):Int) l:=by
 intro r
 induction r with
 | zero=>
  intro i n m hi hn
  obtain ⟨n,rfl⟩:∃ m,n=m+1:=⟨n-1,by omega⟩
  rw [Dq]
  rw [B6,A6,List.drop_of_length_le (by omega)]
  rfl
 | succ r ih=>
  intro i n m hi hn
  obtain ⟨n,rfl⟩:∃ m,n=m+1:=⟨n-1,by omega⟩
  have hg:=Qx pts i (by omega)
  have ok:=Jz (l:=pts) (i:=i) (by omega)
  have hin:inR (i:Int) (A9 pts).length=true:=M8 (by omega) (by rw [B6];omega)
  have hlt:ltI (i:Int) ((A9 pts).length:Int)=true:=C0 (by rw [B6];omega)
  rw [Dq,Mz pts i (by omega)]
  generalize pts.getD i 0=p at *
  have e1:A1 ((i:Int)+1)=((i+1:Nat):Int):=by rw [A3];rfl
  rw [Int.toNat_natCast]
  simp only [hin,hlt,ok,cond_true,vl,hg,e1,E9]
  by_cases h:n0<=p
  ·rw [if_pos h,A6,Bool.not_false,cond_true]
   have:(if (p:Int)<(m:Int) then (p:Int) else (m:Int))=((min m p:Nat):Int):=by split<;>omega
   rw [this]
   exact ih (i+1) n (min m p) (by omega) (by omega)
  ·rw [if_neg h,A7,Bool.not_true,cond_false]
   exact ih (i+1) n m (by omega) (by omega)
theorem Aq0 (z t:Bool) (pts:List Nat) (basic:Nat) (hl:pts.length<=256) (hb:basic<=256) (hall:∀ p∈pts,p<=1114111):∀ (f n n':Nat) (s:BZ),s.done=pts.countP (λp=>decide (p<n))->pts.length<=s.done+f->f<n'->s.delta<=300->s.bias<=500->s.out.length+20*(pts.length-s.done)<=80000->n<=1114112->
  ∀ (R:Type) (k0:LL->Option R),Be LF n' z t (A9 pts) (s.done:Int) (basic:Int) (n:Int) (s.delta:Int) (s.bias:Int) (s.out.map C9) k0=k0 ((L6 pts basic f n s).out.map C9):=by
 intro f
 have hLF:=E5
 induction f with
 | zero=>
  intro n n' s hd hf hn h1 h2 h3 h4 R k0
  obtain ⟨n',rfl⟩:∃ m,n'=m+1:=⟨n'-1,by omega⟩
  rw [Be]
  rw [B6,A6]
  rfl
 | succ f ih=>
  intro n n' s hd hf hn h1 h2 h3 h4 R k0
  obtain ⟨n',rfl⟩:∃ m,n'=m+1:=⟨n'-1,by omega⟩
  rw [Be]
  rw [B6]
  have hcl:pts.countP (λp=>decide (p<n))<=pts.length:=List.countP_le_length
  by_cases hlt:s.done<pts.length
  ·obtain ⟨p0,hp0,hp1⟩:=OC (n:=n) (l:=pts) (by omega)
   obtain ⟨g1,g2,g3⟩:=Aj n pts 1114112
   obtain ⟨b1,b2,b3⟩:=Aj n pts 1073741824
   have g4:=g3 p0 hp0 hp1
   have b4:=b3 p0 hp0 hp1
   have g5:=hall p0 hp0
   have hmem:E9 n pts 1114112∈pts/\n<=E9 n pts 1114112:=by grind
   have bmem:E9 n pts 1073741824∈pts/\n<=E9 n pts 1073741824:=by grind
   have heq:E9 n pts 1073741824=E9 n pts 1114112:=by grind
   have he:L6 pts basic (f+1) n s=L6 pts basic f (E9 n pts 1114112+1) { F0 (E9 n pts 1114112) basic pts { s with delta:=s.delta+(E9 n pts 1114112-n)*(s.done+1) } with delta:=(F0 (E9 n pts 1114112) basic pts { s with delta:=s.delta+(E9 n pts 1114112-n)*(s.done+1) }).delta+1 }:=by
    rw [L6,if_pos hlt]
   rw [he,A7,cond_true]
   have hleast:=λ(K:Bool->Bool->LL->Int->Int->Int->Int->Int->Int->LL->Option R)=>RV (k0:=K) z t pts hl n (basic:Int) (s.delta:Int) (s.bias:Int) (s.done:Int) (s.out.map C9) pts.length 0 LF 1073741824 (by omega) (by omega)
   rw [List.drop_zero,heq] at hleast
   refine Eq.trans (hleast _) ?_
   clear hleast heq b1 b2 b3 b4 bmem
   generalize E9 n pts 1114112=m at *
   have hmul:(m-n)*(s.done+1)<=1114112*256:=Nat.mul_le_mul (by omega) (by omega)
   have e1:A1 ((s.done:Int)+1)=((s.done+1:Nat):Int):=by rw [A3];rfl
   have e2:A1 ((m:Int)-(n:Int))=((m-n:Nat):Int):=by rw [A3];omega
   have e3:A1 (((m-n:Nat):Int)*((s.done+1:Nat):Int))=(((m-n)*(s.done+1):Nat):Int):=by
    rw [<-Int.natCast_mul]
    exact A3
   have e4:A1 ((s.delta:Int)+(((m-n)*(s.done+1):Nat):Int))=((s.delta+(m-n)*(s.done+1):Nat):Int):=by
    rw [A3];rfl
   simp only [vl,e1,e2,e3,e4]
   have hin:=A49 z t pts basic m (by omega) hl pts.length 0 LF { s with delta:=s.delta+(m-n)*(s.done+1) } (by omega) (by omega) (by simp only;omega) h2 (by simp only;omega) (by simp only;omega) hb
   rw [List.drop_zero] at hin
   obtain ⟨q1,q2,q3,q4,q5⟩:=hin
   refine Eq.trans (q1 R _) ?_
   have hcnt:0<pts.countP (· == m):=List.countP_pos_iff.2 ⟨m,hmem.1,by simp⟩
   rw [if_pos hcnt] at q5
   have hstep:=Mq hmem.2 pts g3
   generalize F0 m basic pts { s with delta:=s.delta+(m-n)*(s.done+1) } = s' at *
   simp only at q3 q4
   have e5:A1 ((s'.delta:Int)+1)=((s'.delta+1:Nat):Int):=by rw [A3];rfl
   have e6:A1 ((m:Int)+1)=((m+1:Nat):Int):=by rw [A3];rfl
   have hcl2:pts.countP (λp=>decide (p<m+1))<=pts.length:=List.countP_le_length
   simp only [e5,e6]
   exact ih (m+1) n' { s' with delta:=s'.delta+1 } (by simp only;omega) (by simp only;omega) (by omega) (by simp only;omega) q2 (by simp only;omega) (by omega) R k0
  ·rw [A6]
   rw [L6,if_neg hlt]
   rfl
theorem RP (z t:Bool) (P:List Int) (hl:P.length<=256):∀ (r i n:Nat) (out:By),i+r=P.length->r<n->out.length+r<=1000->
  ((P.drop i).all ptI=true->∀ (R:Type) (k0:LL->Option R) (k1:Bool->Bool->LL->LL->Option R),N8 LF n z t (T9 P) (i:Int) (out.map C9) k0 k1=k1 z t (T9 P) ((out++P2 (P.drop i)).map C9))/\
  ((P.drop i).all ptI=false->∃ l,∀ (R:Type) (k0:LL->Option R) (k1:Bool->Bool->LL->LL->Option R),N8 LF n z t (T9 P) (i:Int) (out.map C9) k0 k1=k0 l):=by
 intro r
 induction r with
 | zero=>
  intro i n out hi hn ho
  obtain ⟨n,rfl⟩:∃ m,n=m+1:=⟨n-1,by omega⟩
  rw [List.drop_of_length_le (by omega)]
  refine ⟨λ_ R k0 k1=>?_,λh=>(by cases h)⟩
  rw [N8]
  rw [O0,A6]
  simp [P2]
 | succ r ih=>
  intro i n out hi hn ho
  obtain ⟨n,rfl⟩:∃ m,n=m+1:=⟨n-1,by omega⟩
  have hg:=OR P i (by omega)
  have ok:=FW (l:=P) (i:=i) (by omega)
  have hin:inR (i:Int) (T9 P).length=true:=M8 (by omega) (by rw [O0];omega)
  have hlt:ltI (i:Int) ((T9 P).length:Int)=true:=C0 (by rw [O0];omega)
  rw [IR P i (by omega)]
  generalize P.getD i 0=x at *
  have e1:A1 ((i:Int)+1)=((i+1:Nat):Int):=by rw [A3];rfl
  cases hx:ptI x with
  | false=>
   refine ⟨λh=>?_,λ_=>⟨out.map C9,λR k0 k1=>?_⟩⟩
   ·rw [List.all_cons,hx] at h;cases h
   ·rw [N8]
    rw [Int.toNat_natCast]
    simp only [hin,hlt,ok,cond_true,vl,hg,hx,Bool.not_false]
  | true=>
   obtain ⟨p0,p1⟩:=Lz hx
   rw [List.all_cons,hx,Bool.true_and]
   by_cases h128:x<128
   ·have hbs:P2 (x::P.drop (i+1))=UInt8.ofNat x.toNat::P2 (P.drop (i+1)):=by
     unfold P2;rw [List.filter_cons_of_pos (by simpa using h128)];rfl
    have hrow:out.map C9++[[SV.int .u8 (wu8 x)]]=(out++[UInt8.ofNat x.toNat]).map C9:=by rw [As2 x p0 h128];simp
    obtain ⟨q1,q2⟩:=ih (i+1) n (out++[UInt8.ofNat x.toNat]) (by omega) (by omega) (by simp;omega)
    have step:∀ (R:Type) (k0:LL->Option R) (k1:Bool->Bool->LL->LL->Option R),N8 LF (n+1) z t (T9 P) (i:Int) (out.map C9) k0 k1=N8 LF n z t (T9 P) ((i+1:Nat):Int) ((out++[UInt8.ofNat x.toNat]).map C9) k0 k1:=by
     intro R k0 k1
     rw [N8]
     rw [Int.toNat_natCast]
     simp only [hin,hlt,ok,cond_true,vl,hg,hx,Bool.not_true,cond_false,e1]
     rw [C0 h128,List.length_map,E2 (by omega),hrow]
     rfl
    refine ⟨λh R k0 k1=>?_,λh=>?_⟩
    ·rw [step,q1 h,hbs];simp
    ·obtain ⟨l,e⟩:=q2 h
     exact ⟨l,λR k0 k1=>by rw [step];exact e R k0 k1⟩
   ·have hbs:P2 (x::P.drop (i+1))=P2 (P.drop (i+1)):=by
     unfold P2;rw [List.filter_cons_of_neg (by simpa using h128)]
    obtain ⟨q1,q2⟩:=ih (i+1) n out (by omega) (by omega) (by omega)
    have step:∀ (R:Type) (k0:LL->Option R) (k1:Bool->Bool->LL->LL->Option R),N8 LF (n+1) z t (T9 P) (i:Int) (out.map C9) k0 k1=N8 LF n z t (T9 P) ((i+1:Nat):Int) (out.map C9) k0 k1:=by
     intro R k0 k1
     rw [N8]
     rw [Int.toNat_natCast]
     simp only [hin,hlt,ok,cond_true,vl,hg,hx,Bool.not_true,cond_false,e1]
     rw [A6]
     rfl
    refine ⟨λh R k0 k1=>?_,λh=>?_⟩
    ·rw [step,q1 h,hbs]
    ·obtain ⟨l,e⟩:=q2 h
     exact ⟨l,λR k0 k1=>by rw [step];exact e R k0 k1⟩
theorem RR (z t:Bool) (P:List Int):(Q5 P=([],3)/\∀ (R:Type) (k0:Unit->Option R) (k1:By->Int->LL->Option R),KN LF z t (T9 P) k0 k1=k0 ())\/
  (∃ l,∀ (R:Type) (k0:Unit->Option R) (k1:By->Int->LL->Option R),KN LF z t (T9 P) k0 k1=k1 (Q5 P).1 ((Q5 P).2:Nat) l):=by
 have hLF:=E5
 by_cases hl:256<P.length
 ·refine .inl ⟨by unfold Q5;rw [if_pos hl],λR k0 k1=>?_⟩
  unfold KN
  rw [O0,A7]
  rfl
 ·right
  obtain ⟨q1,q2⟩:=RP z t P (by omega) P.length 0 LF [] (by omega) (by omega) (by simp;omega)
  rw [List.drop_zero] at q1 q2
  cases ha:P.all ptI with
  | false=>
   obtain ⟨l,e⟩:=q2 ha
   refine ⟨l,λR k0 k1=>?_⟩
   unfold KN
   rw [O0,A6,cond_false]
   refine Eq.trans (e R _ _) ?_
   unfold Q5
   rw [if_neg hl,ha]
   rfl
  | true=>
   obtain ⟨pts,rfl,hp1,hp2⟩:=WO ha
   rw [List.length_map] at hl
   have hen:Q5 (pts.map λn:Nat=>(n:Int))=Ay pts:=by
    unfold Q5
    rw [List.length_map,if_neg hl,ha]
    simp [Function.comp_def]
   have hbl:=Lh pts
   have hbc:pts.countP (λp=>decide (p<128))<=pts.length:=List.countP_le_length
   have main:∀ (o:By),o.length<=300->∀ (R:Type) (k0:LL->Option R),Be LF LF z t (A9 pts) ((F4 pts).length:Int) ((F4 pts).length:Int) 128 0 72 (o.map C9) k0=k0 ((L6 pts (F4 pts).length 256 128 { delta:=0,bias:=72,done:=(F4 pts).length,out:=o }).out.map C9):=by
    intro o ho R k0
    exact Aq0 z t pts (F4 pts).length (by omega) (by omega) hp2 256 128 LF { delta:=0,bias:=72,done:=(F4 pts).length,out:=o } hbl (by simp only;omega) (by omega) (by simp) (by simp) (by simp only;omega) (by omega) R k0
   have he2:Ay pts=((L6 pts (F4 pts).length 256 128 { delta:=0,bias:=72,done:=(F4 pts).length,out:=if (F4 pts).isEmpty then [] else F4 pts++[45] }).out,0):=by
    unfold Ay
    grind
   refine ⟨(Ay pts).1.map C9,λR k0 k1=>?_⟩
   unfold KN
   rw [O0,List.length_map,A6,cond_false,hen]
   have q1':=q1 ha R
   refine Eq.trans (q1' _ _) ?_
   rw [List.nil_append,Vj,Jx]
   simp only [vl,List.length_map]
   by_cases hbe:F4 pts=[]
   ·rw [hbe,List.length_nil,A6,cond_false]
    have mm:=main [] (by simp) R
    rw [hbe,List.length_nil] at mm
    rw [List.map_nil] at mm
    refine Eq.trans (mm _) ?_
    rw [hbe] at he2
    rw [he2]
    simp only [List.isEmpty_nil,if_true,List.length_nil]
    rw [Ew,Fi]
    rfl
   ·have hpos:0<(F4 pts).length:=List.length_pos_iff.2 hbe
    rw [A7,cond_true,E2 (by omega),cond_true]
    have hrow:(F4 pts).map C9++[[SV.int .u8 (45:Int)]]=(F4 pts++[45]).map C9:=by rw [List.map_append];rfl
    rw [hrow]
    refine Eq.trans (main (F4 pts++[45]) (by simp;omega) R _) ?_
    rw [he2,if_neg (by simpa using hbe)]
    rw [Ew,Fi]
    rfl
theorem A50 (z t:Bool) (p:LL) (h0:p.all Ig=true):∃ r H,KN LF z t p (λ_=>rv (.tup [.s (.str []),.s (.int .i64 3)]) []) (λr0 r1 l=>rv (.tup [.s (.str r0),.s (.int .i64 r1)]) [.arr true 5 1 l])=rv r H/\
  r.stab [0,0] H = .tup [.s (.str (Q5 (p.map elI)).1),.s (.int .i64 ((Q5 (p.map elI)).2:Nat))]:=by
 obtain ⟨P,rfl⟩:=VM h0
 rw [IS]
 rcases RR z t P with ⟨h1,h2⟩ | ⟨l,h2⟩
 ·exact ⟨_,_,h2 _ _ _,by rw [h1];rfl⟩
 ·exact ⟨_,_,h2 _ _ _,rfl⟩
theorem SX {R:Type} {k0:Unit->Option R} {k1:By->Int->Option R} (s:By) (hs:s.length<=1000000):∀ (r i n cut:Nat),i+r=s.length->r<n->
  Ak LF n s (cut:Int) (i:Int) k0 k1=if (s.drop i).any (λb=>Nat.ble 128 b.toNat) then k0 () else k1 s ((if 45∈s.drop i then i+D8 (s.drop i) else cut:Nat):Int):=by
 intro r
 induction r with
 | zero=>
  intro i n cut hi hn
  obtain ⟨n,rfl⟩:∃ m,n=m+1:=⟨n-1,by omega⟩
  rw [Ak]
  rw [A6,List.drop_of_length_le (by omega)]
  rfl
 | succ r ih=>
  intro i n cut hi hn
  obtain ⟨n,rfl⟩:∃ m,n=m+1:=⟨n-1,by omega⟩
  rw [Ak]
  have e1:A1 ((i:Int)+1)=((i+1:Nat):Int):=by rw [A3];rfl
  rw [A7,I8,G9,I3 s i (by omega),e1,List.any_cons]
  simp only [cond_true]
  generalize s.getD i 0=b
  by_cases h:128<=b.toNat
  ·rw [A6,Nat.ble_eq_true_of_le h]
   rfl
  ·have:Nat.ble 128 b.toNat=false:=by rw [Bool.eq_false_iff,ne_eq,Nat.ble_eq];exact h
   rw [A7,this,Bool.false_or,Bool.not_true,cond_false]
   have hb:((b.toNat:Int)==45)=(b==45):=T0 b 45 (by omega)
   rw [hb]
   by_cases h45:b=45
   ·subst h45
    rw [show ((45:UInt8)==45)=true from rfl,cond_true]
    refine (ih (i+1) n i (by omega) (by omega)).trans ?_
    have hm:(45:UInt8)∈45::s.drop (i+1):=by simp
    rw [if_pos hm]
    have:(if (45:UInt8)∈s.drop (i+1) then i+1+D8 (s.drop (i+1)) else i)=i+D8 (45::s.drop (i+1)):=by
     rw [D8]
     grind
    rw [this]
   ·rw [show (b==45)=false from beq_eq_false_iff_ne.2 h45,cond_false]
    refine (ih (i+1) n cut (by omega) (by omega)).trans ?_
    have hm:((45:UInt8)∈b::s.drop (i+1))↔((45:UInt8)∈s.drop (i+1)):=by simp [Ne.symm h45]
    have:(if (45:UInt8)∈s.drop (i+1) then i+1+D8 (s.drop (i+1)) else cut)=(if (45:UInt8)∈b::s.drop (i+1) then i+D8 (b::s.drop (i+1)) else cut):=by
     by_cases q:(45:UInt8)∈s.drop (i+1)
     ·rw [if_pos q,if_pos (hm.2 q),D8,if_pos q];omega
     grind
    rw [this]
theorem SO {R:Type} {k0:By->Int->LL->Option R} (s:By) (hs:s.length<=1000000) (k:Nat) (hk:k<=s.length):∀ (r i n:Nat) (l:List Nat),i+r=k->r<n->l.length=i->
  Cu LF n s (k:Int) (i:Int) (A9 l) k0=k0 s (k:Int) (A9 (l++((s.take k).drop i).map (·.toNat))):=by
 intro r
 induction r with
 | zero=>
  intro i n l hi hn hl
  obtain ⟨n,rfl⟩:∃ m,n=m+1:=⟨n-1,by omega⟩
  rw [Cu]
  rw [A6,List.drop_of_length_le (by rw [List.length_take];omega)]
  simp
 | succ r ih=>
  intro i n l hi hn hl
  obtain ⟨n,rfl⟩:∃ m,n=m+1:=⟨n-1,by omega⟩
  rw [Cu]
  have e1:A1 ((i:Int)+1)=((i+1:Nat):Int):=by rw [A3];rfl
  have hd:(s.take k).drop i=s.getD i 0::(s.take k).drop (i+1):=by
   rw [I3 (s.take k) i (by rw [List.length_take];omega)]
   congr 1
   rw [List.getD_eq_getElem?_getD,List.getD_eq_getElem?_getD,List.getElem?_take_of_lt (by omega)]
  rw [A7,I8,G9,hd,B6,E2 (by omega),e1]
  simp only [cond_true]
  generalize s.getD i 0=b
  have hb:=b.toNat_lt
  have e2:A1 (b.toNat:Int)=(b.toNat:Int):=A3
  have hrow:A9 l++[[SV.int .i64 (A1 (b.toNat:Int))]]=A9 (l++[b.toNat]):=by rw [e2,Fj];rfl
  rw [hrow]
  refine (ih (i+1) n _ (by omega) (by omega) (by simp;omega)).trans ?_
  simp
theorem SU (s:By) (hs:s.length<=1000000) (out:LL) (n3 b old:Int) (l:LL) (hb0:0<=b) (hb1:b<1000000):∀ (r p n k:Nat) (i w:Int),p+r=s.length->r<n->0<=i->i<=1099511627776->0<=w->w<=1099511627776->k+r<=10000000->
  ((N5 b (s.drop p) i w ((36*k:Nat):Int)).1=0->∃ p',p<p'/\p'<=s.length/\(N5 b (s.drop p) i w ((36*k:Nat):Int)).2.1=s.drop p'/\∀ (R:Type) (k0:Int->LL->Option R) (k1:By->LL->Int->Int->Int->Int->LL->Option R),O6 LF n s out (p:Int) n3 i b old w (k:Int) l k0 k1=k1 s out (p':Int) n3 (N5 b (s.drop p) i w ((36*k:Nat):Int)).2.2 old l)/\
  ((N5 b (s.drop p) i w ((36*k:Nat):Int)).1≠0->∀ (R:Type) (k0:Int->LL->Option R) (k1:By->LL->Int->Int->Int->Int->LL->Option R),O6 LF n s out (p:Int) n3 i b old w (k:Int) l k0 k1=k0 (N5 b (s.drop p) i w ((36*k:Nat):Int)).1 l):=by
 intro r
 induction r with
 | zero=>
  intro p n k i w hp hn hi hi1 hw hw1 hk
  obtain ⟨n,rfl⟩:∃ m,n=m+1:=⟨n-1,by omega⟩
  rw [List.drop_of_length_le (by omega)]
  refine ⟨λh=>by simp [N5] at h,λ_ R k0 k1=>?_⟩
  rw [O6]
  rw [A6]
  rfl
 | succ r ih=>
  intro p n k i w hp hn hi hi1 hw hw1 hk
  obtain ⟨n,rfl⟩:∃ m,n=m+1:=⟨n-1,by omega⟩
  have hc:=I3 s p (by omega)
  have hbt:=G9 s p
  rw [hc]
  generalize s.getD p 0=c at *
  have hv:=Bk c
  have ht:=Gx ((36*k:Nat):Int) b
  have e0:Int.mul 36 (k:Int)=((36*k:Nat):Int):=rfl
  have e6:A1 ((p:Int)+1)=((p+1:Nat):Int):=by rw [A3];rfl
  have e7:A1 ((k:Int)+1)=((k+1:Nat):Int):=by rw [A3];rfl
  have start:∀ (R:Type) (k0:Int->LL->Option R) (k1:By->LL->Int->Int->Int->Int->LL->Option R),O6 LF (n+1) s out (p:Int) n3 i b old w (k:Int) l k0 k1 =
    cond (ltI (C1 c) 0) (k0 4 l)
     (vl (A1 (i+(A1 (C1 c*w)))) λn10=>cond (ltI 1099511627776 n10) (k0 19 l)
      (cond (ltI (C1 c) (H4 ((36*k:Nat):Int) b)) (k1 s out ((p+1:Nat):Int) n3 n10 old l)
       (vl (A1 (36-(H4 ((36*k:Nat):Int) b))) λn13=>cond (ltI 1099511627776 (A1 (w*n13))) (k0 19 l) (O6 LF n s out ((p+1:Nat):Int) n3 n10 b old (A1 (w*n13)) ((k+1:Nat):Int) l k0 k1)))):=by
   intro R k0 k1
   rw [O6]
   have hcl:=c.toNat_lt
   rw [A7,I8,hbt,I8,Pe,L0,L0,e0,e6,e7]
   rfl
  unfold N5
  by_cases h1:C1 c<0
  ·rw [if_pos h1]
   refine ⟨λh=>by simp at h,λ_ R k0 k1=>?_⟩
   rw [start,C0 h1]
   rfl
  ·rw [if_neg h1]
   have hm:=Z0 (by omega) hv.2 hw hw1
   have e1:A1 (C1 c*w)=C1 c*w:=A3
   have e2:A1 (i+C1 c*w)=i+C1 c*w:=A3
   by_cases h2:1099511627776<i+C1 c*w
   ·rw [if_pos h2]
    refine ⟨λh=>by simp at h,λ_ R k0 k1=>?_⟩
    rw [start,A6,e1,e2]
    simp only [vl,cond_false]
    rw [C0 h2]
    rfl
   ·rw [if_neg h2]
    by_cases h3:C1 c<H4 ((36*k:Nat):Int) b
    ·rw [if_pos h3]
     refine ⟨λ_=>⟨p+1,by omega,by omega,rfl,λR k0 k1=>?_⟩,λh=>absurd rfl h⟩
     rw [start,A6,e1,e2]
     simp only [vl,cond_false]
     rw [A6,C0 h3]
     rfl
    ·rw [if_neg h3]
     have e3:A1 (36-H4 ((36*k:Nat):Int) b)=36-H4 ((36*k:Nat):Int) b:=A3
     have hm2:=Z0 (x:=36-H4 ((36*k:Nat):Int) b) (by omega) (by omega) hw hw1
     rw [Int.mul_comm] at hm2
     have e4:A1 (w*(36-H4 ((36*k:Nat):Int) b))=w*(36-H4 ((36*k:Nat):Int) b):=A3
     by_cases h4:1099511627776<w*(36-H4 ((36*k:Nat):Int) b)
     ·rw [if_pos h4]
      refine ⟨λh=>by simp at h,λ_ R k0 k1=>?_⟩
      rw [start,A6,e1,e2]
      simp only [vl,cond_false]
      rw [A6,A6,e3,e4,C0 h4]
      rfl
     ·rw [if_neg h4]
      have ek:((36*k:Nat):Int)+36=((36*(k+1):Nat):Int):=by omega
      rw [ek]
      obtain ⟨q1,q2⟩:=ih (p+1) n (k+1) (i+C1 c*w) (w*(36-H4 ((36*k:Nat):Int) b)) (by omega) (by omega) (by omega) (by omega) (by omega) (by omega) (by omega)
      have st2:∀ (R:Type) (k0:Int->LL->Option R) (k1:By->LL->Int->Int->Int->Int->LL->Option R),O6 LF (n+1) s out (p:Int) n3 i b old w (k:Int) l k0 k1=O6 LF n s out ((p+1:Nat):Int) n3 (i+C1 c*w) b old (w*(36-H4 ((36*k:Nat):Int) b)) ((k+1:Nat):Int) l k0 k1:=by simp_all
      refine ⟨λh=>?_,λh R k0 k1=>by rw [st2];exact q2 h R k0 k1⟩
      obtain ⟨p',g1,g2,g3,g4⟩:=q1 h
      exact ⟨p',by omega,g2,g3,λR k0 k1=>by rw [st2];exact g4 R k0 k1⟩
theorem SW (s:By) (hs:s.length<=1000000) (l:LL):∀ (r p n k:Nat) (i w:Int),p+r=s.length->r<n->0<=i->i<=1099511627776->0<=w->w<=1099511627776->k+r<=10000000->
  ((N5 72 (s.drop p) i w ((36*k:Nat):Int)).1=0->∃ p',p<p'/\p'<=s.length/\(N5 72 (s.drop p) i w ((36*k:Nat):Int)).2.1=s.drop p'/\∀ (R:Type) (k0:Int->LL->Option R) (k1:By->Int->Int->LL->Option R),O7 LF n s (p:Int) i w (k:Int) l k0 k1=k1 s (p':Int) (N5 72 (s.drop p) i w ((36*k:Nat):Int)).2.2 l)/\
  ((N5 72 (s.drop p) i w ((36*k:Nat):Int)).1≠0->∀ (R:Type) (k0:Int->LL->Option R) (k1:By->Int->Int->LL->Option R),O7 LF n s (p:Int) i w (k:Int) l k0 k1=k0 (N5 72 (s.drop p) i w ((36*k:Nat):Int)).1 l):=by
 intro r
 induction r with
 | zero=>
  intro p n k i w hp hn hi hi1 hw hw1 hk
  obtain ⟨n,rfl⟩:∃ m,n=m+1:=⟨n-1,by omega⟩
  rw [List.drop_of_length_le (by omega)]
  refine ⟨λh=>by simp [N5] at h,λ_ R k0 k1=>?_⟩
  rw [O7]
  rw [A6]
  rfl
 | succ r ih=>
  intro p n k i w hp hn hi hi1 hw hw1 hk
  obtain ⟨n,rfl⟩:∃ m,n=m+1:=⟨n-1,by omega⟩
  have hc:=I3 s p (by omega)
  have hbt:=G9 s p
  rw [hc]
  generalize s.getD p 0=c at *
  have hv:=Bk c
  have ht:=Gx ((36*k:Nat):Int) 72
  have e0:Int.mul 36 (k:Int)=((36*k:Nat):Int):=rfl
  have e6:A1 ((p:Int)+1)=((p+1:Nat):Int):=by rw [A3];rfl
  have e7:A1 ((k:Int)+1)=((k+1:Nat):Int):=by rw [A3];rfl
  have start:∀ (R:Type) (k0:Int->LL->Option R) (k1:By->Int->Int->LL->Option R),O7 LF (n+1) s (p:Int) i w (k:Int) l k0 k1 =
    cond (ltI (C1 c) 0) (k0 4 l)
     (vl (A1 (i+(A1 (C1 c*w)))) λn10=>cond (ltI 1099511627776 n10) (k0 19 l)
      (cond (ltI (C1 c) (H4 ((36*k:Nat):Int) 72)) (k1 s ((p+1:Nat):Int) n10 l)
       (vl (A1 (36-(H4 ((36*k:Nat):Int) 72))) λn13=>cond (ltI 1099511627776 (A1 (w*n13))) (k0 19 l) (O7 LF n s ((p+1:Nat):Int) n10 (A1 (w*n13)) ((k+1:Nat):Int) l k0 k1)))):=by
   intro R k0 k1
   rw [O7]
   have hcl:=c.toNat_lt
   rw [A7,I8,hbt,I8,Pe,L0,L0,e0,e6,e7]
   rfl
  unfold N5
  by_cases h1:C1 c<0
  ·rw [if_pos h1]
   refine ⟨λh=>by simp at h,λ_ R k0 k1=>?_⟩
   rw [start,C0 h1]
   rfl
  ·rw [if_neg h1]
   have hm:=Z0 (by omega) hv.2 hw hw1
   have e1:A1 (C1 c*w)=C1 c*w:=A3
   have e2:A1 (i+C1 c*w)=i+C1 c*w:=A3
   by_cases h2:1099511627776<i+C1 c*w
   ·rw [if_pos h2]
    refine ⟨λh=>by simp at h,λ_ R k0 k1=>?_⟩
    rw [start,A6,e1,e2]
    simp only [vl,cond_false]
    rw [C0 h2]
    rfl
   ·rw [if_neg h2]
    by_cases h3:C1 c<H4 ((36*k:Nat):Int) 72
    ·rw [if_pos h3]
     refine ⟨λ_=>⟨p+1,by omega,by omega,rfl,λR k0 k1=>?_⟩,λh=>absurd rfl h⟩
     rw [start,A6,e1,e2]
     simp only [vl,cond_false]
     rw [A6,C0 h3]
     rfl
    ·rw [if_neg h3]
     have e3:A1 (36-H4 ((36*k:Nat):Int) 72)=36-H4 ((36*k:Nat):Int) 72:=A3
     have hm2:=Z0 (x:=36-H4 ((36*k:Nat):Int) 72) (by omega) (by omega) hw hw1
     rw [Int.mul_comm] at hm2
     have e4:A1 (w*(36-H4 ((36*k:Nat):Int) 72))=w*(36-H4 ((36*k:Nat):Int) 72):=A3
     by_cases h4:1099511627776<w*(36-H4 ((36*k:Nat):Int) 72)
     ·rw [if_pos h4]
      refine ⟨λh=>by simp at h,λ_ R k0 k1=>?_⟩
      rw [start,A6,e1,e2]
      simp only [vl,cond_false]
      rw [A6,A6,e3,e4,C0 h4]
      rfl
     ·rw [if_neg h4]
      have ek:((36*k:Nat):Int)+36=((36*(k+1):Nat):Int):=by omega
      rw [ek]
      obtain ⟨q1,q2⟩:=ih (p+1) n (k+1) (i+C1 c*w) (w*(36-H4 ((36*k:Nat):Int) 72)) (by omega) (by omega) (by omega) (by omega) (by omega) (by omega) (by omega)
      have st2:∀ (R:Type) (k0:Int->LL->Option R) (k1:By->Int->Int->LL->Option R),O7 LF (n+1) s (p:Int) i w (k:Int) l k0 k1=O7 LF n s ((p+1:Nat):Int) (i+C1 c*w) (w*(36-H4 ((36*k:Nat):Int) 72)) ((k+1:Nat):Int) l k0 k1:=by simp_all
      refine ⟨λh=>?_,λh R k0 k1=>by rw [st2];exact q2 h R k0 k1⟩
      obtain ⟨p',g1,g2,g3,g4⟩:=q1 h
      exact ⟨p',by omega,g2,g3,λR k0 k1=>by rw [st2];exact g4 R k0 k1⟩
theorem AV (l:List Nat) (k:Nat):(A9 l).take k=A9 (l.take k):=by unfold A9;rw [List.map_take]
theorem AU (l:List Nat) (k:Nat):(A9 l).drop k=A9 (l.drop k):=by unfold A9;rw [List.map_drop]
theorem SQ (s:By) (hs:s.length<=1000000) (l:LL):∀ (r p f:Nat) (pts:List Nat) (n i b:Nat),p+r=s.length->r<f->pts.length<=256->n<=1114111->i<=1000->b<=500->
  ((E8 (s.drop p) pts n i b false).2=0->∀ (R:Type) (k0:Int->LL->Option R) (k1 k2:LL->LL->Option R),K4 LF f s (A9 pts) (p:Int) (n:Int) (i:Int) (b:Int) l k0 k1 k2=k2 (A9 (E8 (s.drop p) pts n i b false).1) l)/\
  ((E8 (s.drop p) pts n i b false).2≠0->(E8 (s.drop p) pts n i b false).1=[]/\((∀ (R:Type) (k0:Int->LL->Option R) (k1 k2:LL->LL->Option R),K4 LF f s (A9 pts) (p:Int) (n:Int) (i:Int) (b:Int) l k0 k1 k2=k0 ((E8 (s.drop p) pts n i b false).2:Nat) l)\/
   ((E8 (s.drop p) pts n i b false).2=3/\∃ l',∀ (R:Type) (k0:Int->LL->Option R) (k1 k2:LL->LL->Option R),K4 LF f s (A9 pts) (p:Int) (n:Int) (i:Int) (b:Int) l k0 k1 k2=k1 l l'))):=by
 have hLF:=E5
 intro r
 induction r using Nat.strongRecOn with
 | _ r ih=>
  intro p f pts n i b hp hf h2 h3 h4 h5
  obtain ⟨f,rfl⟩:∃ m,f=m+1:=⟨f-1,by omega⟩
  by_cases hr:r=0
  ·rw [List.drop_of_length_le (by omega),Y2]
   refine ⟨λ_ R k0 k1 k2=>?_,λh=>absurd rfl h⟩
   rw [K4]
   rw [A6]
   rfl
  ·have hne:s.drop p≠[]:=λh=>by
    have:=congrArg List.length h
    rw [List.length_drop] at this
    simp at this
    omega
   obtain ⟨g1,g2⟩:=SU s hs (A9 pts) (n:Int) (b:Int) (i:Int) l (by omega) (by omega) r p LF 0 (i:Int) 1 hp (by omega) (by omega) (by omega) (by omega) (by omega) (by omega)
   obtain ⟨d1,d2⟩:=My b (s.drop p) i 1 0
   have e36:N5 (b:Int) (s.drop p) (i:Int) 1 ((36*0:Nat):Int)=N5 (b:Int) (s.drop p) (i:Int) ((1:Nat):Int) ((36*0:Nat):Int):=rfl
   rw [e36] at g1 g2
   by_cases he:(B9 b (s.drop p) i 1 0).2.2=0
   ·rw [Ae hne pts n i b false he]
    have d3:=d2 he
    have hz:(N5 (b:Int) (s.drop p) (i:Int) ((1:Nat):Int) ((36*0:Nat):Int)).1=0:=by rw [d1,he];rfl
    obtain ⟨p',a1,a2,a3,a4⟩:=g1 hz
    obtain ⟨q1,q2,_⟩:=Mx (b:Int) (s.drop p) (i:Int) ((1:Nat):Int) ((36*0:Nat):Int) (by omega) (by omega) (by omega) hz
    rw [d3] at q1 q2 a3 a4
    simp only at q1 q2 a3 a4
    rw [a3]
    generalize (B9 b (s.drop p) i 1 0).1=X at *
    have el:A1 (((A9 pts).length:Int)+1)=((pts.length+1:Nat):Int):=by rw [B6,A3];rfl
    have e1:A1 ((X:Int)-(i:Int))=((X-i:Nat):Int):=by rw [A3];omega
    have ed:Int.tdiv (X:Int) ((pts.length+1:Nat):Int)=((X / (pts.length+1):Nat):Int):=J6 _ _
    have em:Int.tmod (X:Int) ((pts.length+1:Nat):Int)=((X % (pts.length+1):Nat):Int):=Fr _ _
    have hdv:X / (pts.length+1)<=X:=Nat.div_le_self _ _
    have hmod:=Nat.mod_lt X (show 0<pts.length+1 by omega)
    have had:=Hq (X-i) (pts.length+1) false (by omega)
    generalize hQ:X / (pts.length+1)=Q at *
    generalize hM:X % (pts.length+1)=M at *
    have e2:A1 (Q:Int)=(Q:Int):=A3
    have e3:A1 ((n:Int)+(Q:Int))=((n+Q:Nat):Int):=by rw [A3];rfl
    have e4:A1 ((M:Int)+1)=((M+1:Nat):Int):=by rw [A3];rfl
    have hnz:(((pts.length+1:Nat):Int) != 0)=true:=by rw [bne_iff_ne];omega
    have c1:cut (A9 pts) 0 (M:Int)=A9 (pts.take M):=by rw [Ad,Int.toNat_natCast,AV]
    have c2:cut (A9 pts) (M:Int) ((A9 pts).length:Int)=A9 (pts.drop M):=by rw [M3,Int.toNat_natCast,AU]
    have hrow:∀ N:Nat,A9 (pts.take M)++[[SV.int .i64 (N:Int)]]++A9 (pts.drop M)=A9 (O2 pts M N):=λN=>by
     unfold O2
     rw [Fj,List.append_assoc]
     rfl
    have start:∀ (R:Type) (k0:Int->LL->Option R) (k1 k2:LL->LL->Option R),K4 LF (f+1) s (A9 pts) (p:Int) (n:Int) (i:Int) (b:Int) l k0 k1 k2 =
      cond (not (O4 (n+Q))) (k0 2 l) (cond (ltI 256 ((pts.length+1:Nat):Int)) (k1 l (A9 (O2 pts M (n+Q))))
       (K4 LF f s (A9 (O2 pts M (n+Q))) (p':Int) ((n+Q:Nat):Int) ((M+1:Nat):Int) ((L2 (X-i) (pts.length+1) false:Nat):Int) l k0 k1 k2)):=by
     intro R k0 k1 k2
     rw [K4]
     rw [A7,cond_true]
     refine (a4 R _ _).trans ?_
     have s1:N3 (0:Int) (M:Int) (A9 pts).length=true:=U2 (by omega) (by omega) (by rw [B6];omega)
     have s2:N3 (M:Int) ((A9 pts).length:Int) (A9 pts).length=true:=U2 (by omega) (by rw [B6];omega) (by omega)
     have t1:ltN ((X-i:Nat):Int) 1152921504606846976=true:=L0
     have t2:ltN ((pts.length+1:Nat):Int) 1000000=true:=L0
     have t3:ltI 0 ((pts.length+1:Nat):Int)=true:=A7
     have l1:(A9 (pts.take M)).length=M:=by rw [B6,List.length_take];omega
     have l2:(A9 (pts.drop M)).length=pts.length-M:=by rw [B6,List.length_drop]
     have r1:E4 (0+(A9 (pts.take M)).length)=true:=E2 (by omega)
     have r2:E4 ((A9 (pts.take M)).length+1)=true:=E2 (by omega)
     have r3:E4 ((A9 (pts.take M)++[[SV.int .i64 ((n+Q:Nat):Int)]]).length+(A9 (pts.drop M)).length)=true:=E2 (by rw [List.length_append,List.length_singleton];omega)
     have l3:(A9 (O2 pts M (n+Q))).length=pts.length+1:=by rw [B6,V0]
     simp only [vl,el,e1,ed,em,e2,e3,e4,hnz,s1,s2,t1,t2,t3,c1,c2,r1,r2,r3,hrow,l3,cond_true,Int.toNat_natCast,Gr]
    cases hpt:O4 (n+Q) with
    | false=>
     rw [if_neg (by simp)]
     refine ⟨λh=>by simp at h,λ_=>⟨rfl,.inl λR k0 k1 k2=>?_⟩⟩
     rw [start,hpt]
     rfl
    | true=>
     rw [if_pos rfl]
     by_cases hc:256<pts.length+1
     ·rw [if_pos hc]
      refine ⟨λh=>by simp at h,λ_=>⟨rfl,.inr ⟨rfl,A9 (O2 pts M (n+Q)),λR k0 k1 k2=>?_⟩⟩⟩
      rw [start,hpt,A7]
      rfl
     ·rw [if_neg hc]
      have hn':n+Q<=1114111:=by
       unfold O4 at hpt
       simp only [Bool.and_eq_true,Nat.ble_eq] at hpt
       exact hpt.1
      have st2:∀ (R:Type) (k0:Int->LL->Option R) (k1 k2:LL->LL->Option R),K4 LF (f+1) s (A9 pts) (p:Int) (n:Int) (i:Int) (b:Int) l k0 k1 k2=K4 LF f s (A9 (O2 pts M (n+Q))) (p':Int) ((n+Q:Nat):Int) ((M+1:Nat):Int) ((L2 (X-i) (pts.length+1) false:Nat):Int) l k0 k1 k2:=by
       intro R k0 k1 k2
       rw [start,hpt,A6]
       rfl
      obtain ⟨z1,z2⟩:=ih (s.length-p') (by omega) p' f (O2 pts M (n+Q)) (n+Q) (M+1) (L2 (X-i) (pts.length+1) false) (by omega) (by omega) (by rw [V0];omega) hn' (by omega) had
      refine ⟨λh R k0 k1 k2=>by rw [st2];exact z1 h R k0 k1 k2,λh=>?_⟩
      obtain ⟨y1,y2⟩:=z2 h
      refine ⟨y1,?_⟩
      rcases y2 with y2 | ⟨y2,l',y3⟩
      ·exact .inl λR k0 k1 k2=>by rw [st2];exact y2 R k0 k1 k2
      ·exact .inr ⟨y2,l',λR k0 k1 k2=>by rw [st2];exact y3 R k0 k1 k2⟩
   ·rw [Cf hne pts n i b false he]
    clear g1 d2
    refine ⟨λh=>absurd h he,λ_=>⟨rfl,.inl λR k0 k1 k2=>?_⟩⟩
    rw [K4]
    rw [A7,cond_true]
    have hfst:=congrArg Prod.fst d1
    simp only at hfst
    refine (g2 (by rw [hfst];omega) R _ _).trans ?_
    rw [hfst]
theorem XR:∀ (r:Nat) (s:By) (pts:List Nat) (n i b:Nat) (f:Bool),s.length<=r->0<pts.length->(E8 s pts n i b f).2=0->(E8 s pts n i b f).1≠[]:=by
 intro r
 induction r with
 | zero=>
  intro s pts n i b f hr hp h
  obtain rfl:=List.length_eq_zero_iff.1 (Nat.le_zero.1 hr)
  rw [Y2]
  grind
 | succ r ih=>
  intro s pts n i b f hr hp h
  by_cases hs:s=[]
  ·grind
  ·by_cases he:(B9 b s i 1 0).2.2=0
   ·rw [Ae hs pts n i b f he] at h ⊢
    split at h
    ·rename_i h1
     rw [if_pos h1]
     split at h
     ·omega
     ·rename_i h2
      rw [if_neg h2]
      have hlt:=Jo b s i 1 0 he
      exact ih _ _ _ _ _ _ (by omega) (by rw [V0];omega) h
    omega
   ·rw [Cf hs pts n i b f he] at h
    omega
theorem SP (s:By) (hs:s.length<=1000000) (p:Nat) (pts:List Nat) (h2:pts.length<=256) (hp:p<=s.length) :
  (s.drop p=[]/\∀ (R:Type) (k0:Int->LL->Option R) (k1 k2:LL->LL->Option R) (k3:LL->Option R),G7 LF LF s (p:Int) (A9 pts) k0 k1 k2 k3=k3 (A9 pts))\/
  ((E8 (s.drop p) pts 128 0 72 true).2=0/\(E8 (s.drop p) pts 128 0 72 true).1≠[]/\∀ (R:Type) (k0:Int->LL->Option R) (k1 k2:LL->LL->Option R) (k3:LL->Option R),G7 LF LF s (p:Int) (A9 pts) k0 k1 k2 k3=k2 (A9 (E8 (s.drop p) pts 128 0 72 true).1) (A9 pts))\/
  ((E8 (s.drop p) pts 128 0 72 true).1=[]/\((∀ (R:Type) (k0:Int->LL->Option R) (k1 k2:LL->LL->Option R) (k3:LL->Option R),G7 LF LF s (p:Int) (A9 pts) k0 k1 k2 k3=k0 ((E8 (s.drop p) pts 128 0 72 true).2:Nat) (A9 pts))\/
   ((E8 (s.drop p) pts 128 0 72 true).2=3/\∃ l',∀ (R:Type) (k0:Int->LL->Option R) (k1 k2:LL->LL->Option R) (k3:LL->Option R),G7 LF LF s (p:Int) (A9 pts) k0 k1 k2 k3=k1 (A9 pts) l'))):=by
 have hLF:=E5
 obtain ⟨f,hf⟩:∃ m,LF=m+1:=⟨LF-1,by omega⟩
 by_cases hr:s.length<=p
 ·refine .inl ⟨List.drop_of_length_le hr,λR k0 k1 k2 k3=>?_⟩
  have e:G7 LF LF s (p:Int) (A9 pts) k0 k1 k2 k3=G7 LF (f+1) s (p:Int) (A9 pts) k0 k1 k2 k3:=by rw [<-hf]
  rw [e,G7]
  rw [A6]
  rfl
 ·right
  have hne:s.drop p≠[]:=λh=>by
   have:=congrArg List.length h
   grind
  obtain ⟨g1,g2⟩:=SW s hs (A9 pts) (s.length-p) p LF 0 0 1 (by omega) (by omega) (by omega) (by omega) (by omega) (by omega) (by omega)
  obtain ⟨d1,d2⟩:=My 72 (s.drop p) 0 1 0
  have e36:N5 72 (s.drop p) 0 1 ((36*0:Nat):Int)=N5 ((72:Nat):Int) (s.drop p) ((0:Nat):Int) ((1:Nat):Int) ((36*0:Nat):Int):=rfl
  rw [e36] at g1 g2
  by_cases he:(B9 72 (s.drop p) 0 1 0).2.2=0
  ·rw [Ae hne pts 128 0 72 true he]
   have d3:=d2 he
   have hz:(N5 ((72:Nat):Int) (s.drop p) ((0:Nat):Int) ((1:Nat):Int) ((36*0:Nat):Int)).1=0:=by grind
   obtain ⟨p',a1,a2,a3,a4⟩:=g1 hz
   obtain ⟨q1,q2,_⟩:=Mx ((72:Nat):Int) (s.drop p) ((0:Nat):Int) ((1:Nat):Int) ((36*0:Nat):Int) (by omega) (by omega) (by omega) hz
   rw [d3] at q1 q2 a3 a4
   simp only at q1 q2 a3 a4
   clear g1 g2 d1 d2 d3 hz e36
   rw [a3]
   generalize (B9 72 (s.drop p) 0 1 0).1=X at *
   have el:A1 (((A9 pts).length:Int)+1)=((pts.length+1:Nat):Int):=by rw [B6,A3];rfl
   have e1:A1 ((X:Int)-0)=(X:Int):=by rw [A3];omega
   have ed:Int.tdiv (X:Int) ((pts.length+1:Nat):Int)=((X / (pts.length+1):Nat):Int):=J6 _ _
   have em:Int.tmod (X:Int) ((pts.length+1:Nat):Int)=((X % (pts.length+1):Nat):Int):=Fr _ _
   have hdv:X / (pts.length+1)<=X:=Nat.div_le_self _ _
   have hmod:=Nat.mod_lt X (show 0<pts.length+1 by omega)
   have had:=Hq X (pts.length+1) true (by omega)
   generalize hQ:X / (pts.length+1)=Q at *
   generalize hM:X % (pts.length+1)=M at *
   have e2:A1 (Q:Int)=(Q:Int):=A3
   have e3:A1 ((128:Int)+(Q:Int))=((128+Q:Nat):Int):=by rw [A3];rfl
   have e4:A1 ((M:Int)+1)=((M+1:Nat):Int):=by rw [A3];rfl
   have hnz:(((pts.length+1:Nat):Int) != 0)=true:=by rw [bne_iff_ne];omega
   have c1:List.take (M-0) (List.drop 0 (A9 pts))=A9 (pts.take M):=by rw [Nat.sub_zero,List.drop_zero,AV]
   have c2:List.take ((A9 pts).length-M) (List.drop M (A9 pts))=A9 (pts.drop M):=by
    rw [List.take_of_length_le (by rw [List.length_drop];omega),AU]
   have hrow:∀ N:Nat,A9 (pts.take M)++[[SV.int .i64 (N:Int)]]++A9 (pts.drop M)=A9 (O2 pts M N):=λN=>by
    unfold O2
    rw [Fj,List.append_assoc]
    rfl
   have start:∀ (R:Type) (k0:Int->LL->Option R) (k1 k2:LL->LL->Option R) (k3:LL->Option R),G7 LF LF s (p:Int) (A9 pts) k0 k1 k2 k3 =
     cond (not (O4 (128+Q))) (k0 2 (A9 pts)) (cond (ltI 256 ((pts.length+1:Nat):Int)) (k1 (A9 pts) (A9 (O2 pts M (128+Q))))
      (K4 LF f s (A9 (O2 pts M (128+Q))) (p':Int) ((128+Q:Nat):Int) ((M+1:Nat):Int) ((L2 X (pts.length+1) true:Nat):Int) (A9 pts) k0 k1 k2)):=by
    intro R k0 k1 k2 k3
    have e:G7 LF LF s (p:Int) (A9 pts) k0 k1 k2 k3=G7 LF (f+1) s (p:Int) (A9 pts) k0 k1 k2 k3:=by rw [<-hf]
    rw [e,G7]
    rw [A7,cond_true]
    refine (a4 R _ _).trans ?_
    have s1:N3 (0:Int) (M:Int) (A9 pts).length=true:=U2 (by omega) (by omega) (by rw [B6];omega)
    have s2:N3 (M:Int) ((A9 pts).length:Int) (A9 pts).length=true:=U2 (by omega) (by rw [B6];omega) (by omega)
    have t1:ltN (X:Int) 1152921504606846976=true:=L0
    have t2:ltN ((pts.length+1:Nat):Int) 1000000=true:=L0
    have t3:ltI 0 ((pts.length+1:Nat):Int)=true:=A7
    have l1:(A9 (pts.take M)).length=M:=by rw [B6,List.length_take];omega
    have l2:(A9 (pts.drop M)).length=pts.length-M:=by rw [B6,List.length_drop]
    have r1:E4 (0+(A9 (pts.take M)).length)=true:=E2 (by omega)
    have r2:E4 ((A9 (pts.take M)).length+1)=true:=E2 (by omega)
    have r3:E4 ((A9 (pts.take M)++[[SV.int .i64 ((128+Q:Nat):Int)]]).length+(A9 (pts.drop M)).length)=true:=E2 (by rw [List.length_append,List.length_singleton];omega)
    have l3:(A9 (O2 pts M (128+Q))).length=pts.length+1:=by rw [B6,V0]
    simp only [vl,el,e1,ed,em,e2,e3,e4,hnz,s1,s2,t1,t2,t3,Int.toNat_natCast,c1,c2,r1,r2,r3,hrow,l3,cond_true,Gr]
   cases hpt:O4 (128+Q) with
   | false=>
    rw [if_neg (by simp)]
    refine .inr ⟨rfl,.inl λR k0 k1 k2 k3=>?_⟩
    rw [start,hpt]
    rfl
   | true=>
    rw [if_pos rfl]
    by_cases hc:256<pts.length+1
    ·rw [if_pos hc]
     refine .inr ⟨rfl,.inr ⟨rfl,A9 (O2 pts M (128+Q)),λR k0 k1 k2 k3=>?_⟩⟩
     rw [start,hpt,A7]
     rfl
    ·rw [if_neg hc]
     have hn':128+Q<=1114111:=by
      unfold O4 at hpt
      simp_all
     have st2:∀ (R:Type) (k0:Int->LL->Option R) (k1 k2:LL->LL->Option R) (k3:LL->Option R),G7 LF LF s (p:Int) (A9 pts) k0 k1 k2 k3=K4 LF f s (A9 (O2 pts M (128+Q))) (p':Int) ((128+Q:Nat):Int) ((M+1:Nat):Int) ((L2 X (pts.length+1) true:Nat):Int) (A9 pts) k0 k1 k2:=by
      intro R k0 k1 k2 k3
      rw [start,hpt,A6]
      rfl
     obtain ⟨z1,z2⟩:=SQ s hs (A9 pts) (s.length-p') p' f (O2 pts M (128+Q)) (128+Q) (M+1) (L2 X (pts.length+1) true) (by omega) (by omega) (by rw [V0];omega) hn' (by omega) had
     have hX:X-0=X:=Nat.sub_zero X
     rw [hX]
     by_cases hz:(E8 (s.drop p') (O2 pts M (128+Q)) (128+Q) (M+1) (L2 X (pts.length+1) true) false).2=0
     ·refine .inl ⟨hz,?_,λR k0 k1 k2 k3=>by rw [st2];exact z1 hz R k0 k1 k2⟩
      exact XR _ _ _ _ _ _ _ (Nat.le_refl _) (by rw [V0];omega) hz
     ·obtain ⟨y1,y2⟩:=z2 hz
      refine .inr ⟨y1,?_⟩
      rcases y2 with y2 | ⟨y2,l',y3⟩
      ·exact .inl λR k0 k1 k2 k3=>by rw [st2];exact y2 R k0 k1 k2
      ·exact .inr ⟨y2,l',λR k0 k1 k2 k3=>by rw [st2];exact y3 R k0 k1 k2⟩
  ·rw [Cf hne pts 128 0 72 true he]
   clear g1 d2
   refine .inr ⟨rfl,.inl λR k0 k1 k2 k3=>?_⟩
   have e:G7 LF LF s (p:Int) (A9 pts) k0 k1 k2 k3=G7 LF (f+1) s (p:Int) (A9 pts) k0 k1 k2 k3:=by rw [<-hf]
   rw [e,G7]
   rw [A7,cond_true]
   have hfst:=congrArg Prod.fst d1
   simp only at hfst
   refine (g2 (by rw [hfst];omega) R _ _).trans ?_
   rw [hfst]
theorem Aq6 (s:By) (h0:A4 s.length=true):∃ r H,WW LF s (λr0 l1=>rv (.tup [.fl 0,.s (.int .i64 r0)]) [.arr true 3 1 l1]) (λr0 l1=>rv (.tup [.fl 1,.s (.int .i64 r0)]) [.arr true 3 1 l1,.arr true 3 1 []]) (λl0 l1=>rv (.tup [.fl 2,.s (.int .i64 (3:Int))]) [.arr true 3 1 l0,.arr false 3 1 l1,.arr true 3 1 []]) (λr0 l1=>rv (.tup [.s (.sl false false 1 r0),.s (.int .i64 (0:Int))]) [.arr true 3 1 l1])=rv r H/\
  r.stab [1,0] H = .tup [.s (.sl (J3 s).1.isEmpty (J3 s).1.isEmpty 1 (Rj (J3 s).1)),.s (.int .i64 ((J3 s).2:Nat))]:=by
 have hLF:=E5
 unfold WW J3
 by_cases hl:1024<s.length
 ·rw [if_pos hl,A7]
  exact ⟨_,_,rfl,rfl⟩
 ·rw [if_neg hl,A6,cond_false]
  have asc:=λ(R:Type) (K0:Unit->Option R) (K1:By->Int->Option R)=>SX (k0:=K0) (k1:=K1) s (by omega) s.length 0 LF 0 (by omega) (by omega)
  rw [List.drop_zero] at asc
  cases ha:s.any (λb=>Nat.ble 128 b.toNat) with
  | true=>
   rw [if_pos rfl]
   refine ⟨.tup [.fl 0,.s (.int .i64 4)],[.arr true 3 1 []],(asc _ _ _).trans ?_,rfl⟩
   rw [ha,if_pos rfl]
  | false=>
   rw [if_neg (by simp)]
   obtain ⟨d1,d2⟩:=Ii s
   have hlt:=Ij s
   have hcut:(if (45:UInt8)∈s then 0+D8 s else 0)=D8 s:=by
    split
    ·omega
    ·rename_i h;exact (d2 h).2.symm
   rw [ha,hcut] at asc
   have hcopy:=λ(R:Type) (K:By->Int->LL->Option R)=>SO (k0:=K) s (by omega) (D8 s) (by omega) (D8 s) 0 LF [] (by omega) (by omega) rfl
   rw [List.drop_zero] at hcopy
   have hlen:((s.take (D8 s)).map (·.toNat)).length=D8 s:=by rw [List.length_map,List.length_take];omega
   generalize hm:D8 s=m at *
   generalize hpts:(s.take m).map (·.toNat)=pts at *
   by_cases h256:256<m
   ·rw [if_pos h256]
    refine ⟨.tup [.fl 1,.s (.int .i64 3)],[.arr true 3 1 (A9 pts),.arr true 3 1 []],(asc _ _ _).trans ?_,rfl⟩
    rw [if_neg (by simp)]
    refine (hcopy _ _).trans ?_
    rw [List.nil_append,B6,hlen,A7]
    rfl
   ·rw [if_neg h256]
    have fin:∀ p:Nat,p<=s.length->∀ (X:Option (PV × List Blk × Unit)),X=G7 LF LF s (p:Int) (A9 pts) (λr0 l1=>rv (.tup [.fl 1,.s (.int .i64 r0)]) [.arr true 3 1 l1,.arr true 3 1 []]) (λl0 l1=>rv (.tup [.fl 2,.s (.int .i64 (3:Int))]) [.arr true 3 1 l0,.arr false 3 1 l1,.arr true 3 1 []]) (λr0 l1=>rv (.tup [.s (.sl false false 1 r0),.s (.int .i64 (0:Int))]) [.arr true 3 1 l1]) (λl=>rv (.tup [.fl 0,.s (.int .i64 0)]) [.arr true 3 1 l])->
      ∃ r H,X=rv r H/\r.stab [1,0] H = .tup [.s (.sl (E8 (s.drop p) pts 128 0 72 true).1.isEmpty (E8 (s.drop p) pts 128 0 72 true).1.isEmpty 1 (Rj (E8 (s.drop p) pts 128 0 72 true).1)),.s (.int .i64 ((E8 (s.drop p) pts 128 0 72 true).2:Nat))]:=by
     intro p hp X hX
     rcases SP s (by omega) p pts (by omega) hp with ⟨e1,e2⟩ | ⟨e1,e3,e2⟩ | ⟨e1,e2 | ⟨e3,l',e2⟩⟩
     ·refine ⟨_,_,hX.trans (e2 _ _ _ _ _),?_⟩
      rw [e1,Y2,Fk]
      simp [PV.stab,Ib,Qw,PV.snap,H9,Ny]
     ·refine ⟨_,_,hX.trans (e2 _ _ _ _ _),?_⟩
      rw [e1,Fk]
      have:(E8 (s.drop p) pts 128 0 72 true).1.isEmpty=false:=by
       cases h:(E8 (s.drop p) pts 128 0 72 true).1 with
       | nil=>exact absurd h e3
       | cons a r=>rfl
      rw [this]
      rfl
     ·refine ⟨_,_,hX.trans (e2 _ _ _ _ _),?_⟩
      rw [e1]
      rfl
     ·refine ⟨_,_,hX.trans (e2 _ _ _ _ _),?_⟩
      rw [e1,e3]
      rfl
    by_cases hz:m=0
    ·subst hz
     rw [if_pos rfl]
     have:=fin 0 (by omega) _ rfl
     rw [List.drop_zero] at this
     obtain ⟨r,H,g1,g2⟩:=this
     refine ⟨r,H,(asc _ _ _).trans ?_,g2⟩
     rw [if_neg (by simp)]
     refine (hcopy _ _).trans ?_
     rw [List.nil_append,B6,hlen,A6,cond_false,A6,cond_false]
     exact g1
    ·rw [if_neg hz]
     obtain ⟨r,H,g1,g2⟩:=fin (m+1) (by omega) _ rfl
     refine ⟨r,H,(asc _ _ _).trans ?_,g2⟩
     rw [if_neg (by simp)]
     refine (hcopy _ _).trans ?_
     have e1:A1 ((m:Int)+1)=((m+1:Nat):Int):=by rw [A3];rfl
     rw [List.nil_append,B6,hlen,A6,cond_false,A7,cond_true,e1]
     exact g1
theorem R8 {R:Type} {k0:LL->Option R} {k1:By->Int->Int->Int->Int->LL->Option R} (s:By) (hs:s.length<=1000000000) (n i m v least kk:Nat) (l:LL) (hk:kk<m) (hm:m<=4) (hi:i+kk<s.length) (hv:v<=100000) (hn:0<n) :
  Gu LF n s i m v least kk l k0 k1=if 128<=(s.getD (i+kk) 0).toNat/\(s.getD (i+kk) 0).toNat<=191 then Gu LF (n-1) s i m ((v*64+(s.getD (i+kk) 0).toNat-128:Nat):Int) least ((kk+1:Nat):Int) l k0 k1 else k0 l:=by
 have hb:=(s.getD (i+kk) 0).toNat_lt
 obtain ⟨n,rfl⟩:∃ m,n=m+1:=⟨n-1,by omega⟩
 rw [Gu]
 have e1:A1 ((i:Int)+kk)=((i+kk:Nat):Int):=by rw [A3];rfl
 have e2:A1 ((kk:Int)+1)=((kk+1:Nat):Int):=by rw [A3];rfl
 rw [A7,e1,e2,I8,G9]
 generalize (s.getD (i+kk) 0).toNat=b at *
 simp only [cond_true,vl]
 rw [D0 (n:=(b:Int)) (by omega) (by omega),Nat.add_sub_cancel]
 by_cases h1:b<128
 ·rw [A7,G4]
  rfl
 ·rw [A6,cond_false]
  by_cases h2:191<b
  ·rw [A7,G4]
   rfl
  ·rw [A6,cond_false,Ar]
   have e3:A1 (A1 (A1 ((v:Int)*64)+(b:Int))-128)=((v*64+b-128:Nat):Int):=by
    rw [D0 (n:=(v:Int)*64) (by omega) (by omega),D0 (n:=(v:Int)*64+b) (by omega) (by omega),A3]
    omega
   rw [e3]
theorem Iz {R:Type} {k0:LL->Option R} {k1:By->Int->Int->Int->Int->LL->Option R} (s:By) (n i m v least:Nat) (l:LL) (hn:0<n) :
  Gu LF n s i m v least m l k0 k1=k1 s i m v least l:=by
 obtain ⟨n,rfl⟩:∃ m,n=m+1:=⟨n-1,by omega⟩
 rw [Gu]
 rw [A6]
 rfl
theorem Kl {R:Type} {k0:LL->Option R} {k1:By->Int->LL->Option R} (s:By) (hs:s.length<=1000000000) (i m v least:Nat) (P:List Nat) (hP:P.length<=1000000000) (hi:i+m<=s.length) (hv:v<=10000000) (hm:m<=4) :
  cond (ltI (v:Int) (least:Int)) (k0 (A9 P)) (cond (not (ptI v)) (k0 (A9 P)) (cond (E4 ((A9 P).length+1)) (k1 s (A1 ((i:Int)+m)) (A9 P++[[SV.int .i64 (v:Int)]])) none)) =
   if least<=v/\O4 v=true then k1 s ((i+m:Nat):Int) (A9 (P++[v])) else k0 (A9 P):=by
 have e1:A1 ((i:Int)+m)=((i+m:Nat):Int):=by rw [A3];rfl
 rw [e1,B6,E2 (by omega),Fj,show ptI (v:Int)=O4 v from rfl]
 by_cases h:v<least
 ·rw [A7,G4]
  rfl
 ·rw [A6,cond_false]
  cases hp:O4 v with
  | false=>rw [if_neg (by simp)];rfl
  | true=>rw [if_pos ⟨by omega,rfl⟩];rfl
theorem Ab7 {R:Type} {k0:LL->Option R} {k1:By->Int->LL->Option R} (s:By) (hs:s.length<=1000000000) (i v least:Nat) (P:List Nat) (hP:P.length<=1000000000) (hi:i<s.length) (hv:v<=32) :
  Dt LF s i 2 v least (A9 P) k0 k1=if 2<=s.length-i/\128<=(s.getD (i+1) 0).toNat/\(s.getD (i+1) 0).toNat<=191 then
   (if least<=v*64+(s.getD (i+1) 0).toNat-128/\O4 (v*64+(s.getD (i+1) 0).toNat-128)=true then k1 s ((i+2:Nat):Int) (A9 (P++[v*64+(s.getD (i+1) 0).toNat-128])) else k0 (A9 P)) else k0 (A9 P):=by
 have hb:=(s.getD (i+1) 0).toNat_lt
 have hLF:=E5
 unfold Dt
 have e1:A1 ((s.length:Int)-i)=((s.length-i:Nat):Int):=by rw [A3];omega
 rw [e1]
 simp only [vl]
 by_cases h:s.length-i<2
 ·rw [A7,G4]
  rfl
 ·rw [A6,cond_false]
  refine Eq.trans (R8 s hs LF i 2 v least 1 (A9 P) (by omega) (by omega) (by omega) (by omega) (by omega)) ?_
  generalize (s.getD (i+1) 0).toNat=b at *
  by_cases h1:128<=b/\b<=191
  ·rw [if_pos h1,if_pos ⟨by omega,h1⟩]
   refine Eq.trans (Iz s (LF-1) i 2 _ least (A9 P) (by omega)) ?_
   exact Kl s hs i 2 _ least P hP (by omega) (by omega) (by omega)
  ·rw [if_neg h1,if_neg (λh=>h1 h.2)]
theorem Ab8 {R:Type} {k0:LL->Option R} {k1:By->Int->LL->Option R} (s:By) (hs:s.length<=1000000000) (i v least:Nat) (P:List Nat) (hP:P.length<=1000000000) (hi:i<s.length) (hv:v<=32) :
  Dt LF s i 3 v least (A9 P) k0 k1=if 3<=s.length-i/\(128<=(s.getD (i+1) 0).toNat/\(s.getD (i+1) 0).toNat<=191)/\(128<=(s.getD (i+2) 0).toNat/\(s.getD (i+2) 0).toNat<=191) then
   (if least<=(v*64+(s.getD (i+1) 0).toNat-128)*64+(s.getD (i+2) 0).toNat-128/\O4 ((v*64+(s.getD (i+1) 0).toNat-128)*64+(s.getD (i+2) 0).toNat-128)=true then k1 s ((i+3:Nat):Int) (A9 (P++[(v*64+(s.getD (i+1) 0).toNat-128)*64+(s.getD (i+2) 0).toNat-128])) else k0 (A9 P)) else k0 (A9 P):=by
 have hb:=(s.getD (i+1) 0).toNat_lt
 have hb2:=(s.getD (i+2) 0).toNat_lt
 have hLF:=E5
 unfold Dt
 have e1:A1 ((s.length:Int)-i)=((s.length-i:Nat):Int):=by rw [A3];omega
 rw [e1]
 simp only [vl]
 by_cases h:s.length-i<3
 ·rw [A7,G4]
  rfl
 ·rw [A6,cond_false]
  refine Eq.trans (R8 s hs LF i 3 v least 1 (A9 P) (by omega) (by omega) (by omega) (by omega) (by omega)) ?_
  by_cases h1:128<=(s.getD (i+1) 0).toNat/\(s.getD (i+1) 0).toNat<=191
  ·rw [if_pos h1]
   refine Eq.trans (R8 s hs (LF-1) i 3 _ least 2 (A9 P) (by omega) (by omega) (by omega) (by omega) (by omega)) ?_
   by_cases h2:128<=(s.getD (i+2) 0).toNat/\(s.getD (i+2) 0).toNat<=191
   ·rw [if_pos h2,if_pos ⟨by omega,h1,h2⟩]
    refine Eq.trans (Iz s (LF-2) i 3 _ least (A9 P) (by omega)) ?_
    exact Kl s hs i 3 _ least P hP (by omega) (by omega) (by omega)
   ·rw [if_neg h2,if_neg (λh=>h2 h.2.2)]
  ·rw [if_neg h1,if_neg (λh=>h1 h.2.1)]
theorem Ab9 {R:Type} {k0:LL->Option R} {k1:By->Int->LL->Option R} (s:By) (hs:s.length<=1000000000) (i v least:Nat) (P:List Nat) (hP:P.length<=1000000000) (hi:i<s.length) (hv:v<=20) :
  Dt LF s i 4 v least (A9 P) k0 k1=if 4<=s.length-i/\(128<=(s.getD (i+1) 0).toNat/\(s.getD (i+1) 0).toNat<=191)/\(128<=(s.getD (i+2) 0).toNat/\(s.getD (i+2) 0).toNat<=191)/\(128<=(s.getD (i+3) 0).toNat/\(s.getD (i+3) 0).toNat<=191) then
   (if least<=((v*64+(s.getD (i+1) 0).toNat-128)*64+(s.getD (i+2) 0).toNat-128)*64+(s.getD (i+3) 0).toNat-128/\O4 (((v*64+(s.getD (i+1) 0).toNat-128)*64+(s.getD (i+2) 0).toNat-128)*64+(s.getD (i+3) 0).toNat-128)=true then k1 s ((i+4:Nat):Int) (A9 (P++[((v*64+(s.getD (i+1) 0).toNat-128)*64+(s.getD (i+2) 0).toNat-128)*64+(s.getD (i+3) 0).toNat-128])) else k0 (A9 P)) else k0 (A9 P):=by
 have hb:=(s.getD (i+1) 0).toNat_lt
 have hb2:=(s.getD (i+2) 0).toNat_lt
 have hb3:=(s.getD (i+3) 0).toNat_lt
 have hLF:=E5
 unfold Dt
 have e1:A1 ((s.length:Int)-i)=((s.length-i:Nat):Int):=by rw [A3];omega
 rw [e1]
 simp only [vl]
 by_cases h:s.length-i<4
 ·rw [A7,G4]
  rfl
 ·rw [A6,cond_false]
  refine Eq.trans (R8 s hs LF i 4 v least 1 (A9 P) (by omega) (by omega) (by omega) (by omega) (by omega)) ?_
  by_cases h1:128<=(s.getD (i+1) 0).toNat/\(s.getD (i+1) 0).toNat<=191
  ·rw [if_pos h1]
   refine Eq.trans (R8 s hs (LF-1) i 4 _ least 2 (A9 P) (by omega) (by omega) (by omega) (by omega) (by omega)) ?_
   by_cases h2:128<=(s.getD (i+2) 0).toNat/\(s.getD (i+2) 0).toNat<=191
   ·rw [if_pos h2]
    refine Eq.trans (R8 s hs (LF-2) i 4 _ least 3 (A9 P) (by omega) (by omega) (by omega) (by omega) (by omega)) ?_
    by_cases h3:128<=(s.getD (i+3) 0).toNat/\(s.getD (i+3) 0).toNat<=191
    ·rw [if_pos h3,if_pos ⟨by omega,h1,h2,h3⟩]
     refine Eq.trans (Iz s (LF-3) i 4 _ least (A9 P) (by omega)) ?_
     exact Kl s hs i 4 _ least P hP (by omega) (by omega) (by omega)
    ·rw [if_neg h3,if_neg (λh=>h3 h.2.2.2)]
   ·rw [if_neg h2,if_neg (λh=>h2 h.2.2.1)]
  ·rw [if_neg h1,if_neg (λh=>h1 h.2.1)]
theorem TB {R:Type} {k0:By->Int->Int->LL->Option R} (n:Nat) (hn:0<n) (s:By) (i v:Int) (l:LL):GO LF n s i v l k0=k0 s i v l:=by
 obtain ⟨n,rfl⟩:∃ m,n=m+1:=⟨n-1,by omega⟩
 rw [GO]
theorem TA {R:Type} {k0:LL->Option R} {k1:By->Int->LL->Option R} (s:By) (hs:s.length<=1000000000) (i v:Nat) (P:List Nat) (hP:P.length<=1000000000) (hi:i<s.length) (hv:v<128) :
  GN LF s i v (A9 P) k0 k1=k1 s ((i+1:Nat):Int) (A9 (P++[v])):=by
 unfold GN
 have e1:A1 ((s.length:Int)-i)=((s.length-i:Nat):Int):=by rw [A3];omega
 rw [e1]
 simp only [vl]
 rw [A6,cond_false]
 refine Eq.trans (show _=cond (ltI (v:Int) ((0:Nat):Int)) (k0 (A9 P)) (cond (not (ptI v)) (k0 (A9 P)) (cond (E4 ((A9 P).length+1)) (k1 s (A1 ((i:Int)+(1:Nat))) (A9 P++[[SV.int .i64 (v:Int)]])) none)) from TB LF (by have:=E5;omega) _ _ _ _) ?_
 rw [Kl s hs i 1 v 0 P hP (by omega) (by omega) (by omega),if_pos]
 refine ⟨Nat.zero_le _,?_⟩
 simp only [O4,Bool.and_eq_true,Bool.or_eq_true,Nat.ble_eq,Nat.blt_eq]
 omega
theorem Al3 {v:Nat} (h:v<2048):O4 v=true:=by
 simp only [O4,Bool.and_eq_true,Bool.or_eq_true,Nat.ble_eq,Nat.blt_eq]
 omega
theorem TC {R:Type} {k0 k1:LL->Option R} (s:By) (hs:s.length<=1000000000) (n i:Nat) (P:List Nat) (hP:P.length<=1000000000) (hi:i<s.length) :
  W9 LF (n+1) s i (A9 P) k0 k1=if (Lib.decodeL (s.drop i)).1=65533/\(Lib.decodeL (s.drop i)).2=1 then k0 (A9 P) else W9 LF n s ((i+(Lib.decodeL (s.drop i)).2:Nat):Int) (A9 (P++[(Lib.decodeL (s.drop i)).1])) k0 k1:=by
 have g:∀ k,(s.drop i).getD k 0=s.getD (i+k) 0:=λk=>by grind
 have hd:Lib.decodeL (s.drop i)=Lib.decodeN (s.length-i) (s.getD i 0).toNat (s.getD (i+1) 0).toNat (s.getD (i+2) 0).toNat (s.getD (i+3) 0).toNat:=by
  rw [Lib.decodeL_N,g,g,g,g,List.length_drop]
  rfl
 have l0:=(s.getD i 0).toNat_lt
 have l1:=(s.getD (i+1) 0).toNat_lt
 have l2:=(s.getD (i+2) 0).toNat_lt
 have l3:=(s.getD (i+3) 0).toNat_lt
 rw [hd]
 rw [W9,A7,I8,G9,D0 (n:=((s.getD i 0).toNat:Int)) (by omega) (by omega)]
 simp only [cond_true]
 generalize (s.getD i 0).toNat=b at *
 by_cases h1:b<128
 ·rw [A7,cond_true]
  have e:Lib.decodeN (s.length-i) b (s.getD (i+1) 0).toNat (s.getD (i+2) 0).toNat (s.getD (i+3) 0).toNat=(b,1):=by unfold Lib.decodeN;rw [if_pos h1]
  rw [e]
  simp only
  rw [G4]
  exact TA s hs i b P hP hi h1
 ·rw [E0 (show (128:Int)<=b by omega),cond_false]
  by_cases h2:b<194
  ·rw [C0 (show (b:Int)<194 by omega)]
   have e:Lib.decodeN (s.length-i) b (s.getD (i+1) 0).toNat (s.getD (i+2) 0).toNat (s.getD (i+3) 0).toNat=(65533,1):=by
    unfold Lib.decodeN
    grind
   rw [e,if_pos ⟨rfl,rfl⟩]
   simp only [Bool.not_true,cond_false]
   unfold Ol
   unfold Ok
   rw [cond_false,C0 (show (b:Int)<224 by omega),C0 (show (b:Int)<240 by omega)]
   rfl
  ·rw [E0 (show (194:Int)<=b by omega)]
   simp only [Bool.not_false,cond_true]
   by_cases h3:b<224
   ·rw [C0 (show (b:Int)<224 by omega)]
    unfold Ol
    have e1:A1 ((b:Int)-192)=((b-192:Nat):Int):=by rw [A3];omega
    rw [cond_true,e1,Bm2 _ _ _ _ _ ⟨by omega,h3⟩ l1]
    simp only [vl]
    refine Eq.trans (Ab7 s hs i (b-192) 128 P hP hi (by omega)) ?_
    by_cases hc:2<=s.length-i/\128<=(s.getD (i+1) 0).toNat/\(s.getD (i+1) 0).toNat<=191
    ·rw [if_pos hc,if_pos hc]
     simp only
     rw [if_pos ⟨by omega,Al3 (by omega)⟩,G4]
    ·rw [if_neg hc,if_neg hc,if_pos ⟨rfl,rfl⟩]
   ·rw [E0 (show (224:Int)<=b by omega)]
    unfold Ol
    rw [cond_false,E0 (show (224:Int)<=b by omega)]
    simp only [Bool.not_false,cond_true]
    by_cases h4:b<240
    ·rw [C0 (show (b:Int)<240 by omega)]
     unfold Ok
     have e1:A1 ((b:Int)-224)=((b-224:Nat):Int):=by rw [A3];omega
     rw [cond_true,e1,Bm3 _ _ _ _ _ ⟨by omega,h4⟩ l1 l2]
     simp only [vl]
     refine Eq.trans (Ab8 s hs i (b-224) 2048 P hP hi (by omega)) ?_
     by_cases hc:3<=s.length-i/\(128<=(s.getD (i+1) 0).toNat/\(s.getD (i+1) 0).toNat<=191)/\(128<=(s.getD (i+2) 0).toNat/\(s.getD (i+2) 0).toNat<=191)
     ·rw [if_pos hc,if_pos hc]
      split
      ·simp only;rw [G4]
      ·rw [if_pos ⟨rfl,rfl⟩]
     ·rw [if_neg hc,if_neg hc,if_pos ⟨rfl,rfl⟩]
    ·rw [E0 (show (240:Int)<=b by omega)]
     unfold Ok
     rw [cond_false,E0 (show (240:Int)<=b by omega)]
     simp only [Bool.not_false,cond_true]
     by_cases h5:b<245
     ·rw [C0 (show (b:Int)<245 by omega),cond_true]
      have e1:A1 ((b:Int)-240)=((b-240:Nat):Int):=by rw [A3];omega
      rw [e1,Bm4 _ _ _ _ _ ⟨by omega,h5⟩ l1 l2 l3]
      simp only [vl]
      refine Eq.trans (Ab9 s hs i (b-240) 65536 P hP hi (by omega)) ?_
      by_cases hc:4<=s.length-i/\(128<=(s.getD (i+1) 0).toNat/\(s.getD (i+1) 0).toNat<=191)/\(128<=(s.getD (i+2) 0).toNat/\(s.getD (i+2) 0).toNat<=191)/\(128<=(s.getD (i+3) 0).toNat/\(s.getD (i+3) 0).toNat<=191)
      ·rw [if_pos hc,if_pos hc]
       split
       ·simp only;rw [G4]
       ·rw [if_pos ⟨rfl,rfl⟩]
      ·rw [if_neg hc,if_neg hc,if_pos ⟨rfl,rfl⟩]
     ·rw [E0 (show (245:Int)<=b by omega),cond_false]
      have e:Lib.decodeN (s.length-i) b (s.getD (i+1) 0).toNat (s.getD (i+2) 0).toNat (s.getD (i+3) 0).toNat=(65533,1):=by
       unfold Lib.decodeN
       grind
      rw [e,if_pos ⟨rfl,rfl⟩]
theorem Ac0 (s:By) (hs:s.length<=1000000000):∀ (r i n:Nat) (P:List Nat),i+r=s.length->r<n->P.length<=i->
  (Cr (s.drop i)=none->∃ l,∀ (R:Type) (k0 k1:LL->Option R),W9 LF n s i (A9 P) k0 k1=k0 l)/\
  (∀ q,Cr (s.drop i)=some q->∀ (R:Type) (k0 k1:LL->Option R),W9 LF n s i (A9 P) k0 k1=k1 (A9 (P++q))):=by
 intro r
 induction r using Nat.strongRecOn with
 | _ r ih=>
  intro i n P hi hn hP
  obtain ⟨n,rfl⟩:∃ m,n=m+1:=⟨n-1,by omega⟩
  by_cases hr:i<s.length
  ·have hne:s.drop i≠[]:=by rw [ne_eq,<-List.length_eq_zero_iff,List.length_drop];omega
   have hst:=λ(R:Type) (k0 k1:LL->Option R)=>TC (k0:=k0) (k1:=k1) s hs n i P (by omega) hr
   have hw:=Lib.decodeL_width (s.drop i)
   have hle:=Lib.decodeL_le (s.drop i) hne
   rw [List.length_drop] at hle
   rw [Aa1 _ hne]
   by_cases hbad:(Lib.decodeL (s.drop i)).1=65533/\(Lib.decodeL (s.drop i)).2=1
   ·rw [if_pos hbad]
    refine ⟨λ_=>⟨A9 P,λR k0 k1=>?_⟩,λq hq=>by cases hq⟩
    refine (hst R k0 k1).trans ?_
    rw [if_pos hbad]
   ·rw [if_neg hbad,List.drop_drop]
    obtain ⟨w1,w2⟩:=ih (r-(Lib.decodeL (s.drop i)).2) (by omega) (i+(Lib.decodeL (s.drop i)).2) n (P++[(Lib.decodeL (s.drop i)).1]) (by omega) (by omega) (by rw [List.length_append,List.length_singleton];omega)
    constructor
    ·intro h
     cases hq:Cr (s.drop (i+(Lib.decodeL (s.drop i)).2)) with
     | some q=>rw [hq] at h;cases h
     | none=>
      obtain ⟨l,e⟩:=w1 hq
      refine ⟨l,λR k0 k1=>?_⟩
      refine (hst R k0 k1).trans ?_
      rw [if_neg hbad]
      exact e R k0 k1
    ·intro q h R k0 k1
     cases hq:Cr (s.drop (i+(Lib.decodeL (s.drop i)).2)) with
     | none=>rw [hq] at h;cases h
     | some q'=>
      rw [hq] at h
      simp only [Option.map_some,Option.some.injEq] at h
      subst h
      refine (hst R k0 k1).trans ?_
      rw [if_neg hbad]
      refine (w2 q' hq R k0 k1).trans ?_
      rw [List.append_assoc]
      rfl
  ·have hnil:s.drop i=[]:=by rw [<-List.length_eq_zero_iff,List.length_drop];omega
   have e:∀ (R:Type) (k0 k1:LL->Option R),W9 LF (n+1) s i (A9 P) k0 k1=k1 (A9 P):=λR k0 k1=>by
    rw [W9]
    rw [A6]
    rfl
   rw [hnil,show Cr []=some [] from rfl]
   refine ⟨λh=>(by cases h),λq hq R k0 k1=>?_⟩
   simp only [Option.some.injEq] at hq
   subst hq
   rw [List.append_nil]
   exact e R k0 k1
theorem Bm0 (s:By) (h0:A4 s.length=true):∃ r H,Bn0 LF s (λl0=>rv (.tup [.fl 1,.s (.bool false)]) [.arr true 3 1 l0,.arr true 3 1 []]) (λl0=>rv (.tup [.fl 0,.s (.bool true)]) [.arr true 3 1 l0])=rv r H/\
  r.stab [1,0] H = .tup [.s (.sl (A39 s).isEmpty (A39 s).isEmpty 1 (Rj (A39 s))),.s (.bool (Cr s).isSome)]:=by
 have hs:=L8 h0
 obtain ⟨w1,w2⟩:=Ac0 s hs s.length 0 LF [] (by omega) (by have:=E5;omega) (Nat.zero_le _)
 rw [List.drop_zero] at w1 w2
 unfold A39
 cases hp:Cr s with
 | none=>
  obtain ⟨l,e⟩:=w1 hp
  exact ⟨_,_,e _ _ _,rfl⟩
 | some q=>
  refine ⟨_,_,w2 q hp _ _ _,?_⟩
  cases q<;>rfl
theorem SY {R:Type} {k0:Unit->Option R} {k1:By->Bool->LL->Bool->Option R} (s:By) (z:Bool) (p:List Nat) (hp:p.length<=1000000000):∀ (r i n:Nat) (b:Bool),i+r=p.length->r<n->
  Q9 LF n s z (A9 p) b (i:Int) k0 k1=if (p.drop i).any (λp=>Nat.ble 65 p&&Nat.ble p 90) then k0 () else k1 s z (A9 p) (b || ((p.drop i).any λp=>Nat.ble 128 p)):=by
 intro r
 induction r with
 | zero=>
  intro i n b hi hn
  obtain ⟨n,rfl⟩:∃ m,n=m+1:=⟨n-1,by omega⟩
  rw [Q9]
  rw [B6,A6,List.drop_of_length_le (by omega)]
  simp
 | succ r ih=>
  intro i n b hi hn
  obtain ⟨n,rfl⟩:∃ m,n=m+1:=⟨n-1,by omega⟩
  rw [Q9]
  have e1:A1 ((i:Int)+1)=((i+1:Nat):Int):=by rw [A3];rfl
  have hd:p.drop i=p.getD i 0::p.drop (i+1):=by
   rw [List.getD_eq_getElem?_getD,List.getElem?_eq_getElem (by omega),Option.getD_some,List.getElem_cons_drop]
  rw [B6,A7,I8,Int.toNat_natCast,Jz (by omega),Qx _ _ (by omega),hd,List.any_cons,List.any_cons,e1]
  simp only [cond_true]
  generalize p.getD i 0=q
  have go:∀ c:Bool,Q9 LF n s z (A9 p) c ((i+1:Nat):Int) k0 k1=_:=λc=>ih (i+1) n c (by omega) (by omega)
  simp only [go]
  by_cases h1:q<65
  ·rw [show ltI (q:Int) (65:Int)=true from A7,show Nat.ble 65 q=false by rw [Bool.eq_false_iff,ne_eq,Nat.ble_eq];omega]
   have h2:Nat.ble 128 q=false:=by rw [Bool.eq_false_iff,ne_eq,Nat.ble_eq];omega
   rw [show ltI (q:Int) (128:Int)=true from A7,h2]
   cases b<;>simp
  ·rw [show ltI (q:Int) (65:Int)=false from A6,show Nat.ble 65 q=true by rw [Nat.ble_eq];omega]
   by_cases h2:90<q
   ·rw [show ltI (90:Int) (q:Int)=true from A7,show Nat.ble q 90=false by rw [Bool.eq_false_iff,ne_eq,Nat.ble_eq];omega]
    by_cases h3:q<128
    ·rw [show ltI (q:Int) (128:Int)=true from A7,show Nat.ble 128 q=false by rw [Bool.eq_false_iff,ne_eq,Nat.ble_eq];omega]
     cases b<;>simp
    ·rw [show ltI (q:Int) (128:Int)=false from A6,show Nat.ble 128 q=true by rw [Nat.ble_eq];omega]
     cases b<;>simp
   ·rw [show ltI (90:Int) (q:Int)=false from A6,show Nat.ble q 90=true by rw [Nat.ble_eq];omega]
    cases b<;>simp
theorem SZ {R:Type} {k0:Bool->Option R} (s:By) (h0:A4 s.length=true):WX LF s k0=k0 (Z6 s):=by
 have hLF:=E5
 unfold WX Z6
 rw [h0,cond_true]
 simp only [vl]
 by_cases h:(J3 s).2=0
 ·have e:(((J3 s).2:Int) != (0:Int))=false:=by rw [h];rfl
  rw [e,cond_false,Fk,h]
  have hl:=IO s
  refine Eq.trans (SY s _ (J3 s).1 (by omega) (J3 s).1.length 0 LF false (by omega) (by omega)) ?_
  rw [List.drop_zero]
  cases h1:(J3 s).1.any (λp=>Nat.ble 65 p&&Nat.ble p 90) with
  | true=>simp
  | false=>
   rw [if_neg (by simp),Eb,Vy,Vz]
   simp only [cond_true,vl,Bool.false_or,Bool.not_false]
   by_cases h3:(Ay (J3 s).1).2=0
   all_goals grind
 grind
theorem RZ {R:Type} {k0:Unit->Option R} {k1:By->Option R} (s:By) (hs:s.length<=1000000000):∀ (r i n:Nat),i+r=s.length->r<n->
  J5 LF n s (i:Int) k0 k1=if (s.drop i).all P9 then k1 s else k0 ():=by
 intro r
 induction r with
 | zero=>
  intro i n hi hn
  obtain ⟨n,rfl⟩:∃ m,n=m+1:=⟨n-1,by omega⟩
  rw [J5]
  rw [A6,List.drop_of_length_le (by omega)]
  rfl
 | succ r ih=>
  intro i n hi hn
  obtain ⟨n,rfl⟩:∃ m,n=m+1:=⟨n-1,by omega⟩
  rw [J5]
  have e1:A1 ((i:Int)+1)=((i+1:Nat):Int):=by rw [A3];rfl
  rw [A7,I8,G9,I3 s i (by omega),e1,List.all_cons]
  simp only [cond_true]
  rw [ih (i+1) n (by omega) (by omega)]
  generalize s.getD i 0=b
  have hb:=Sm b
  have q1:((b.toNat:Int)==45)=(b==45):=T0 b 45 (by omega)
  have q2:((b.toNat:Int)==95)=(b==95):=T0 b 95 (by omega)
  rw [q1,q2]
  cases hl:P9 b with
  | true=>
   rw [hb] at hl
   simp only [Bool.true_and]
   by_cases h1:b=45
   ·subst h1
    simp (disch:=decide) [ltI]
   ·by_cases h2:b=95
    ·subst h2
     simp (disch:=decide) [ltI]
    ·rcases hl with hl | hl | hl | hl
     ·rw [show ltI (b.toNat:Int) 97=false from A6,show ltI (122:Int) b.toNat=false from A6];rfl
     ·rw [show ltI (b.toNat:Int) 97=true from A7,show ltI (b.toNat:Int) 48=false from A6,show ltI (57:Int) b.toNat=false from A6];rfl
     ·exact absurd hl h1
     ·exact absurd hl h2
  | false=>
   have hn:¬ ((97<=b.toNat/\b.toNat<=122)\/(48<=b.toNat/\b.toNat<=57)\/b=45\/b=95):=λh=>by rw [hb.2 h] at hl;cases hl
   have n1:(b==45)=false:=by simpa using λh=>hn (.inr (.inr (.inl h)))
   have n2:(b==95)=false:=by simpa using λh=>hn (.inr (.inr (.inr h)))
   rw [n1,n2]
   simp only [Bool.not_false,cond_true,cond_false,Bool.false_and,Bool.false_eq_true,if_false]
   by_cases h1:b.toNat<48
   ·rw [show ltI (b.toNat:Int) 97=true from A7,show ltI (b.toNat:Int) 48=true from A7];rfl
   ·by_cases h2:b.toNat<97
    ·rw [show ltI (b.toNat:Int) 97=true from A7,show ltI (b.toNat:Int) 48=false from A6,show ltI (57:Int) b.toNat=true from A7];rfl
    ·rw [show ltI (b.toNat:Int) 97=false from A6,show ltI (122:Int) b.toNat=true from A7,show ltI (b.toNat:Int) 48=false from A6,show ltI (57:Int) b.toNat=true from A7];rfl
theorem Ar7 (s:By) (h:4<=s.length):(s.take 4==([120,110,45,45]:List UInt8))=xnB.isPrefixOf s:=by
 match s,h with
 | a::b::c::d::t,_=>
  simp only [List.take_succ_cons,List.take_zero,xnB,List.isPrefixOf,Bool.and_true]
  rw [show ((a::b::c::d::[])==([120,110,45,45]:List UInt8))=(a==120&&(b==110&&(c==45&&(d==45&&true)))) from rfl,Bool.and_true]
  rw [Bool.eq_iff_iff]
  simp only [Bool.and_eq_true,beq_iff_eq]
  exact ⟨λh=>⟨h.1.symm,h.2.1.symm,h.2.2.1.symm,h.2.2.2.symm⟩,λh=>⟨h.1.symm,h.2.1.symm,h.2.2.1.symm,h.2.2.2.symm⟩⟩
theorem SC {R:Type} {k0:Bool->Option R} (s:By) (h0:A4 s.length=true):WT LF s k0=k0 (K2 s):=by
 have hs:=L8 h0
 have hLF:=E5
 unfold WT K2
 by_cases h1:s=[]
 ·grind
 ·have hl:0<s.length:=List.length_pos_iff.2 h1
  have he:s.isEmpty=false:=by simpa using h1
  have he2:(s==([]:List UInt8))=false:=by simpa using h1
  rw [he2,cond_false,he]
  by_cases h2:63<s.length
  ·rw [A7,show Nat.ble s.length 63=false by rw [Bool.eq_false_iff,ne_eq,Nat.ble_eq];omega]
   rfl
  ·rw [A6,cond_false,show Nat.ble s.length 63=true by rw [Nat.ble_eq];omega,I8]
   have q1:(bAt s 0==(45:Int))=(s.getD 0 0==45):=by rw [Hr];exact T0 _ 45 (by omega)
   have e1:A1 ((s.length:Int)-1)=((s.length-1:Nat):Int):=by rw [A3];omega
   rw [q1,e1]
   simp only [cond_true,vl]
   rw [I8,G9,show ((((s.getD (s.length-1) 0).toNat:Nat):Int)==45)=(s.getD (s.length-1) 0==45) from T0 _ 45 (by omega)]
   cases h3:(s.getD 0 0==45) with
   | true=>
    grind
   | false=>
    rw [show (s.getD 0 0 != 45)=true by unfold bne;rw [h3];rfl]
    simp only [cond_true,cond_false]
    cases h4:(s.getD (s.length-1) 0==45) with
    | true=>
     grind
    | false=>
     rw [show (s.getD (s.length-1) 0 != 45)=true by unfold bne;rw [h4];rfl]
     simp only [cond_false]
     refine Eq.trans (RZ s hs s.length 0 LF (by omega) (by omega)) ?_
     rw [List.drop_zero]
     cases h5:s.all P9 with
     | false=>simp
     | true=>
      rw [if_pos rfl]
      simp only [Bool.not_false,Bool.true_and,Bool.and_true]
      by_cases h6:s.length<4
      ·rw [A7]
       have:xnB.isPrefixOf s=false:=by
        rw [Bool.eq_false_iff,ne_eq,List.isPrefixOf_iff_prefix]
        intro h
        have:=h.length_le
        simp only [xnB,List.length_cons,List.length_nil] at this
        omega
       grind
      ·rw [A6,cond_false,P5,cond_true,Ad]
       have ht:(List.take (Int.toNat 4) s==([120,110,45,45]:List UInt8))=xnB.isPrefixOf s:=Ar7 s (by omega)
       rw [ht]
       cases h7:xnB.isPrefixOf s with
       | false=>rfl
       | true=>
        rw [P5,M3]
        simp only [Bool.not_true,cond_false,cond_true]
        rw [I7 (by rw [List.length_drop];omega)]
        rfl
section
variable {σ R : Type} (lf : Nat) (cl : D1) (yh : Yh σ) (s : σ) (k : Out -> St σ -> Option R)
noncomputable def KO {R:Type} (lf n:Nat) (s0:By) (i1:Int) (l2:LL) (k0:LL->Option R) (k1:LL->Option R):Option R:=match n with | 0=>none | n+1=>cond (ltI i1 (s0.length:Int)) (cond (inR i1 s0.length) (cond ((bAt s0 i1) != 37) (cond (inR i1 s0.length) (cond (E4 (l2.length+1)) (KO lf n s0 (A1 (i1+1)) (l2++[[(SV.int .u8 (bAt s0 i1))]]) k0 k1) none) none) (vl (A1 ((s0.length:Int)-i1)) λn'3=>cond (ltI n'3 3) (k0 l2) (cond (inR (A1 (i1+1)) s0.length) (vl (bAt s0 (A1 (i1+1))) λn'4=>cond (inR n'4 256) (cond (ltI (Hz (u8n n'4)) (0:Int)) (k0 l2) (cond (inR (A1 (i1+2)) s0.length) (vl (bAt s0 (A1 (i1+2))) λn'5=>cond (inR n'5 256) (cond (ltI (Hz (u8n n'5)) (0:Int)) (k0 l2) (cond (inR (A1 (i1+1)) s0.length) (vl (bAt s0 (A1 (i1+1))) λn'6=>cond (inR n'6 256) (vl (A1 ((16:Int)*(Hz (u8n n'6)))) λn'7=>cond (inR (A1 (i1+2)) s0.length) (vl (bAt s0 (A1 (i1+2))) λn'8=>cond (inR n'8 256) (vl (A1 (n'7+(Hz (u8n n'8)))) λn'9=>cond (E4 (l2.length+1)) (vl (A1 ((A1 (i1+2))+1)) λn'10=>KO lf n s0 n'10 (l2++[[(SV.int .u8 (wu8 n'9))]]) k0 k1) none) none) none) none) none)) none) none)) none) none))) none) (k1 l2)
noncomputable abbrev Ah3:Code:=E3 Tryz.f32
noncomputable def Lr (lf:Nat):Cfg:=C2 lf [32] (A5 [(5,[2,0,0])]) [(68,Uu),(53,Uy),(69,UP)] (A5 [(9,[2]),(6,[3,0]),(8,[2]),(7,[3,0,24]),(5,[3,0,16]),(4,[3,0]),(3,[3]),(2,[2]),(1,[0,14]),(0,[0])]) [68,69] (A5 [(0,[]),(1,[3,0])]) (some [2]) [] [] []
noncomputable def Gt {R:Type} (lf n:Nat) (p0:LL) (i1:Int) (k0:Unit->Option R) (k1:Unit->Option R):Option R:=match n with | 0=>none | n+1=>cond (ltI i1 (p0.length:Int)) (cond (inR i1 p0.length) (cond (okE Gw p0 (Int.toNat i1) 0) (cond (A4 (List.length (gX p0 (Int.toNat i1) 0))) (cond (not (K2 (gX p0 (Int.toNat i1) 0))) (k0 ()) (Gt lf n p0 (A1 (i1+1)) k0 k1)) none) none) none) (k1 ())
theorem RY (n p0 i1):E6 0 ((Lr lf).keep 5) (bd (Lr lf) cl yh (cd [1,1,1,0,1,0,0] Ah3)) n ⟨gp [(3,.s (.sl false false 1 p0)),(0,pI i1)] 25,[],s⟩ k =
 Gt lf n p0 i1 (λ_=>k .ret ⟨gp [(2,pB false)] 27,[],s⟩) (λ_=>k (.exit 0) ⟨gp [] 30,[],s⟩):=by
 induction n generalizing p0 i1 with
 | zero=>rfl
 | succ n ih=>rw [Gt];simp only [<-ih];kernel_rfl
noncomputable def A51 {R:Type} (lf:Nat) (name0:By) (k0:Bool->Option R):Option R:=cond (name0==[]) (k0 false) (cond (ltI 253 (name0.length:Int)) (k0 false) (cond (A4 name0.length) (cond (N1 name0) (k0 false) (cond (A4 name0.length) (vl (G8 (pcs (u8n (46:Int)) name0)) λl'1=>Gt lf lf l'1 0 (λ_=>k0 false) (λ_=>k0 true)) none)) none))
theorem A52 (d:Nat) (name0):evC (Lr lf) (d+1) σ yh 32 [pS name0] [] s=A51 lf name0 (λr0=>some (pB r0,[],s)):=by
 refine (evE (fn:=Tryz.f32) (by kernel_rfl)).trans ?_
 generalize evC (Lr lf) d=cl
 unfold A51;exact (Eq.trans (by kernel_rfl) (A0 rfl (A0 rfl (A0 (A0 rfl (A0 (A8 λl'1=>((RY lf cl yh s (G5 0 (H5 (Lr lf) cl yh (cd [1,1,1,1] Ah3) (I4 (Lr lf) Tryz.f32))) lf l'1 0).trans (by kernel_rfl))) rfl)) rfl))))
noncomputable def ET (lf:Nat):Cfg:=C2 lf [19] (A5 []) [(32,DN)] (A5 [(3,[4]),(2,[4]),(1,[0,0,10]),(0,[0,0])]) [32] (A5 []) (some [4]) [] [] []
noncomputable def WR {R:Type} (lf:Nat) (super0 name1:By) (k0:Bool->Option R):Option R:=cond (A4 super0.length) (cond (not (D6 super0)) (k0 false) (cond (A4 name1.length) (cond (not (D6 name1)) (k0 false) (cond (super0==name1) (k0 true) (cond (ltI (super0.length:Int) (name1.length:Int)) (vl (A1 ((name1.length:Int)-(super0.length:Int))) λn'0=>cond (N3 (A1 (n'0-1)) (name1.length:Int) name1.length) (vl (cut name1 (A1 (n'0-1)) (name1.length:Int)) λs'1=>cond (IK 1 super0.length) (vl (([46]:List UInt8)++super0) λs'2=>k0 (s'1==s'2)) none) none) (k0 false)))) none)) none
theorem Aq1 (d:Nat) (super0 name1):evC (ET lf) (d+1) σ yh 19 [pS super0,pS name1] [] s=WR lf super0 name1 (λr0=>some (pB r0,[],s)):=by
 refine (evE (fn:=Tryz.f19) (by kernel_rfl)).trans ?_
 generalize evC (ET lf) d=cl
 unfold WR;kernel_rfl
end
theorem Aa9 {R:Type} {k0 k1:Unit->Option R} (l:List By) (hl:l.length<=1000000001) (h:∀ x∈l,x.length<=1000000000):∀ (r i n:Nat),i+r=l.length->r<n->
  Gt LF n (G8 l) (i:Int) k0 k1=if (l.drop i).all K2 then k1 () else k0 ():=by
 intro r
 induction r with
 | zero=>
  intro i n hi hn
  obtain ⟨n,rfl⟩:∃ m,n=m+1:=⟨n-1,by omega⟩
  rw [Gt]
  rw [T5,A6,List.drop_of_length_le (by omega)]
  rfl
 | succ r ih=>
  intro i n hi hn
  obtain ⟨n,rfl⟩:∃ m,n=m+1:=⟨n-1,by omega⟩
  rw [Gt]
  have e1:A1 ((i:Int)+1)=((i+1:Nat):Int):=by rw [A3];rfl
  have hd:l.drop i=l.getD i []::l.drop (i+1):=by
   rw [List.getD_eq_getElem?_getD,List.getElem?_eq_getElem (by omega),Option.getD_some,List.getElem_cons_drop]
  have hx:(l.getD i []).length<=1000000000:=h _ (by
   rw [List.getD_eq_getElem?_getD,List.getElem?_eq_getElem (by omega),Option.getD_some];exact List.getElem_mem _)
  rw [T5,A7,I8,Int.toNat_natCast,Fl (by omega),Js,I7 hx,hd,List.all_cons,e1]
  simp only [cond_true]
  rw [ih (i+1) n (by omega) (by omega)]
  cases K2 (l.getD i []) with
  | true=>rw [Bool.true_and];rfl
  | false=>rfl
theorem Ab0 {R:Type} {k0:Bool->Option R} (s:By) (h0:A4 s.length=true):A51 LF s k0=k0 (D6 s):=by
 have hs:=L8 h0
 have hLF:=E5
 unfold A51
 by_cases hnil:s=[]
 ·subst hnil
  rfl
 ·have he:(s==([]:By))=false:=by simpa using hnil
  rw [he,cond_false]
  unfold D6
  by_cases h1:253<s.length
  ·rw [A7,show Nat.ble s.length 253=false by rw [Bool.eq_false_iff,ne_eq,Nat.ble_eq];omega]
   rfl
  ·rw [A6,cond_false,h0,cond_true,show Nat.ble s.length 253=true by rw [Nat.ble_eq];omega]
   cases h2:N1 s with
   | true=>rfl
   | false=>
    rw [cond_false,cond_true]
    have hpl:=Gp 46 s
    have hcl:=Fb 46 s
    refine Eq.trans (Aa9 (pcs 46 s) (by omega) (λx hx=>by have:=(Kd hx).2;omega) (pcs 46 s).length 0 LF (by omega) (by omega)) ?_
    grind
theorem A65 (p s:By):p.isSuffixOf s=(Nat.ble p.length s.length&&s.drop (s.length-p.length)==p):=by
 rw [Bool.eq_iff_iff,List.isSuffixOf_iff_suffix,Bool.and_eq_true,Nat.ble_eq,beq_iff_eq]
 constructor
 ·rintro ⟨t,rfl⟩
  simp_all
 ·rintro ⟨h1,h2⟩
  rw [<-h2]
  exact List.drop_suffix _ _
theorem RX {R:Type} {k0:Bool->Option R} (p s:By) (h0:A4 p.length=true) (h1:A4 s.length=true):WR LF p s k0=k0 (F5 p s):=by
 have hp:=L8 h0
 have hs:=L8 h1
 unfold WR F5
 rw [h0,h1,VC (by omega)]
 cases D6 p with
 | false=>rfl
 | true=>
  cases D6 s with
  | false=>rfl
  | true=>
   simp only [Bool.not_true,cond_false,cond_true,Bool.true_and]
   cases (p==s) with
   | true=>rfl
   | false=>
    rw [A65,List.length_cons]
    by_cases h:p.length<s.length
    ·have e1:A1 (A1 ((s.length:Int)-p.length)-1)=((s.length-(p.length+1):Nat):Int):=by
      rw [D0 (n:=(s.length:Int)-p.length) (by omega) (by omega),A3];omega
     rw [A7]
     simp only [vl,cond_true,cond_false]
     rw [e1,P5,M3,Int.toNat_natCast,show Nat.ble (p.length+1) s.length=true by rw [Nat.ble_eq];omega]
     rfl
    ·rw [A6,show Nat.ble (p.length+1) s.length=false by rw [Bool.eq_false_iff,ne_eq,Nat.ble_eq];omega]
     rfl
section
theorem MG:B1 Tryz.prog GX 165 Uw:=xf [] (Vo LF) Pv rfl trivial rfl (by kernel_rfl) follows λargs=>by
 unfold Pv;split
 ·rename_i n;exact ⟨rfl,rfl,rfl,_,_,(Ab6 LF noY () 0 n).trans (KZ n ),rfl⟩
 ·trivial
theorem MF:B1 Tryz.prog GX 168 Up:=xf [] (Q4 LF) Pt rfl trivial rfl (by kernel_rfl) follows λargs=>by
 unfold Pt;split
 ·rename_i d c f;exact λh0=>λh1=>λh2=>⟨rfl,rfl,rfl,_,_,(Aa4 LF noY () 0 d c f).trans (KL d c f h0 h1 h2),rfl⟩
 ·trivial
theorem Au5:B1 Tryz.prog GX 166 NA:=xf [] (NZ LF) DQ rfl trivial rfl (by kernel_rfl) follows λargs=>by
 unfold DQ;split
 ·rename_i k b;exact λh0=>λh1=>⟨rfl,rfl,rfl,_,_,(A57 LF noY () 0 k b).trans (Ac2 k b h0 h1),rfl⟩
 ·trivial
theorem A85:B1 Tryz.prog GX 167 UO:=xf [] (ES LF) Uq rfl trivial rfl (by kernel_rfl) follows λargs=>by
 unfold Uq;split
 ·rename_i d;exact λh0=>⟨rfl,rfl,rfl,_,_,(Ap5 LF noY () 0 d).trans (RF d h0),rfl⟩
 ·trivial
theorem Bi1:B1 Tryz.prog GX 176 Af7:=xf [] (Ef LF) DR rfl trivial rfl (by kernel_rfl) follows λargs=>by
 unfold DR;split
 ·rename_i b;exact λh0=>⟨rfl,rfl,rfl,_,_,(A59 LF noY () 0 b).trans (Ac3 b h0),rfl⟩
 ·trivial
theorem Bh9:B1 Tryz.prog GX 125 Af5:=xf [0,0] (J0 LF) DL rfl ⟨MG,Au5,A85,MF,trivial⟩ rfl (by kernel_rfl) follows λargs=>by
 unfold DL;split
 ·rename_i p_z p_t p;exact λh0=>(let ⟨rr,hH,ee,qq⟩:=A50 p_z p_t p h0;⟨rfl,rfl,rfl,rr,hH,(A48 LF noY () 0 p_z p_t p).trans ee,qq⟩)
 ·trivial
theorem A88:B1 Tryz.prog GX 146 UQ:=xf [1,0] (G1 LF) Uv rfl ⟨Bi1,Au5,MF,MG,trivial⟩ rfl (by kernel_rfl) follows λargs=>by
 unfold Uv;split
 ·rename_i s;exact λh0=>(let ⟨rr,hH,ee,qq⟩:=Aq6 s h0;⟨rfl,rfl,rfl,rr,hH,(Aq5 LF noY () 0 s).trans ee,qq⟩)
 ·trivial
theorem A89:B1 Tryz.prog GX 103 UR:=xf [] (Ga LF) Ux rfl ⟨A88,Bh9,trivial⟩ rfl (by kernel_rfl) follows λargs=>by
 unfold Ux;split
 ·rename_i s;exact λh0=>⟨rfl,rfl,rfl,_,_,(Aq7 LF noY () 0 s).trans (SZ s h0),rfl⟩
 ·trivial
theorem A87:B1 Tryz.prog GX 69 UP:=xf [] (Fz LF) Ut rfl ⟨A89,trivial⟩ rfl (by kernel_rfl) follows λargs=>by
 unfold Ut;split
 ·rename_i s;exact λh0=>⟨rfl,rfl,rfl,_,_,(Aq2 LF noY () 0 s).trans (SC s h0),rfl⟩
 ·trivial
theorem Au3:B1 Tryz.prog GX 32 DN:=xf [] (Lr LF) DO rfl ⟨UA,MH,A87,trivial⟩ rfl (by kernel_rfl) follows λargs=>by
 unfold DO;split
 ·rename_i s;exact λh0=>⟨rfl,rfl,rfl,_,_,(A52 LF noY () 0 s).trans (Ab0 s h0),rfl⟩
 ·trivial
theorem A86:B1 Tryz.prog GX 19 DM:=xf [] (ET LF) Ur rfl ⟨Au3,trivial⟩ rfl (by kernel_rfl) follows λargs=>by
 unfold Ur;split
 ·rename_i p s;exact λh0=>λh1=>⟨rfl,rfl,rfl,_,_,(Aq1 LF noY () 0 p s).trans (RX p s h0 h1),rfl⟩
 ·trivial
end
section
theorem Bg5:B1 Tryz.prog GX 12 MO:=xf [] (Lk LF) CI rfl trivial rfl (by kernel_rfl) follows λargs=>by
 unfold CI;split
 ·rename_i l_z l_t l n;exact λh0=>λh1=>⟨rfl,rfl,rfl,_,_,(Az2 LF noY () 0 l_z l_t l n).trans (YN l_z l_t l n h0 h1),rfl⟩
 ·trivial
end
def evX (C:Cfg) (d g:Nat) (args:List PV):Tr:=match evC C d Unit noY g args [] () with
 | some (r,H,_)=>cond (B4 args).isEmpty (.ret r H) .fail
 | none=>.fail
theorem Bn2 {C:Cfg} (d g:Nat) (hX:XOK C) (hO:Bx C) (hm:C.P.follows .mixedOrders=true):B1 C.P C.G g (evX C d g):=
 Dy hX hO hm λargs ret Hc h=>by
  unfold evX at h
  split at h
  ·rename_i r H s e
   cases hn:(B4 args).isEmpty with
   | false=>rw [hn] at h;cases h
   | true=>
    rw [hn] at h
    obtain ⟨rfl,rfl⟩:=I2 h
    exact ⟨List.isEmpty_iff.1 hn,d,e⟩
  ·cases h
def evS (C:Cfg) (d g:Nat) (args:List PV):Tr:=match evC C d Unit noY g args [] () with
 | some (r,H,_)=>cond ((B4 args).isEmpty&&(r.stab [] H).nms.isEmpty) (.ret (r.stab [] H) []) .fail
 | none=>.fail
theorem Bl2 {C:Cfg} (d g:Nat) (hX:XOK C) (hO:Bx C) (hm:C.P.follows .mixedOrders=true):B1 C.P C.G g (evS C d g):=
 M7 [] hX hO hm λargs ret Hc h=>by
  unfold evS at h
  split at h
  ·rename_i r H s e
   cases hn:((B4 args).isEmpty&&(r.stab [] H).nms.isEmpty) with
   | false=>rw [hn] at h;cases h
   | true=>
    rw [hn] at h
    obtain ⟨rfl,rfl⟩:=I2 h
    rw [Bool.and_eq_true] at hn
    exact ⟨List.isEmpty_iff.1 hn.1,rfl,List.isEmpty_iff.1 hn.2,d,r,H,e,rfl⟩
  ·cases h
noncomputable def Ba1:Cfg:=C2 100000 [85] (λ_=>none) [(112,MM),(114,Ae4),(115,UT),(93,Jg),(117,Zi),(118,Ae6),(119,US)]
noncomputable def A97:List PV->Tr:=evS Ba1 3 85
theorem Bl3:B1 Tryz.prog GX 85 A97:=Bl2 (C:=Ba1) 3 _ (K6.ok rfl ⟨At2,Bg3,A91,BY,Ae0,Bg6,A90,trivial⟩) (F7 rfl (by kernel_rfl)) follows
noncomputable def Ba2:Cfg:=C2 100000 [23,52,51,83,110,84] (λ_=>none)
 [(85,A97),(50,DU),(49,DZ),(111,MT)] (S:=[(106,Mi)]) (nt:=[(23,0,63,2)]) (fr:=[(12,[0,1],[1]),(15,[0,2],[1])])
noncomputable def Ba0:List PV->Tr:=evX Ba2 6 23
theorem Bl7:B1 Tryz.prog GX 23 Ba0:=Bn2 (C:=Ba2) 6 _ (Eu (ly:=[]) rfl rfl rfl ⟨Bl3,Au7,Au8,At8,trivial⟩ trivial ⟨XF,trivial⟩) (F7 rfl (by kernel_rfl)) follows
noncomputable def NL:Cfg:=C2 100000 [22,26,30,28,37] (λ_=>none)
 [(23,Ba0),(57,CO),(60,CM),(65,MP),(41,Po)]
 (S:=[(76,Ft)]) (lend:=[26]) (nt:=[(105,0,63,2)]) (Z:=[(61,Pq)])
theorem Av2:XOK NL:=Bb0 (ly:=[]) rfl rfl rfl rfl ⟨Bl7,At6,At5,At4,TZ,trivial⟩ trivial ⟨HD,trivial⟩ ⟨XG,trivial⟩
theorem Ag4:Tv (evC NL 8 Unit noY 22 [] [] ())=true:=by kernel_rfl
theorem Ad7:B1 Tryz.prog GX 22 Pl:=
 B1.fix (pf:=Kv) _ (by
  have h:=UC (C₀:=NL) Av2 (F7 rfl (by kernel_rfl)) follows Ag4
  have e:(λargs:List PV=>match args with | []=>Tr.ret (.s (.bool true)) [] | _=>.fail)=Kv:=by
   funext args
   cases args<;>rfl
  rw [<-e]
  exact h)
end
section
open Go Go.ChangeAt Go.ChangeShapes Go.Proofs Go.RowKit Go.WideShapes
set_option maxRecDepth 100000
section
theorem PW (os:Os) (started:os.Started) (H:Type) (enc:TypeId × Value->H) :
  ReturnsInHanded {} Tryz.checked os 8 .any (λw args=>(Rows.preloadFindNearestSpec.pre enc Tryz.prog Tryz.f8 Rows.preloadFindNearestRow.domain false w args/\laidMetH Tryz.prog Dj w)/\sizedMet enc Tryz.prog Tryz.f8 (OpenSpec.ofChange Rows.preloadFindNearestSpec) false w args) (Rows.preloadFindNearestSpec.post enc Tryz.prog Tryz.f8 false true false false):=
 PH started (C:=U6 LF) (tb:=4) rfl rfl (K6.ok (l:=[(12,MO),(22,Pl),(26,MS),(30,MQ),(32,DN),(19,DM)]) rfl ⟨Bg5,Ad7,Bg9,Bg7,Au3,A86,trivial⟩) (F7 rfl (by kernel_rfl)) (by kernel_rfl) Tryz.func8 (c:=E3 Tryz.f8) rfl (by kernel_rfl)
  (by
   intro t ht
   have:t=23\/t=9:=by simpa only [List.mem_cons,List.mem_nil_iff,or_false] using (show t∈[23,9] from ht)
   rcases this with rfl | rfl
   all_goals exact ⟨⟨by kernel_rfl,of_decide_eq_true (by kernel_rfl)⟩,by kernel_rfl⟩) rfl (by kernel_rfl) rfl
  (λds hds=>by
   match ds,hds with
   | [d0,d1],_=>rfl)
  #[(.slice none 0 0),(.string ⟨#[]⟩)] 8 (by kernel_rfl) (by kernel_rfl) (by kernel_rfl)
  (λargs h=>A13 args h)
set_option maxHeartbeats 4000000 in theorem ZD:Rows.PreloadFindNearestSaid:=
 OpenClaim.holds_of_wide 8 Tryz.f8 rfl rfl rfl rfl rfl rfl rfl ⟨rfl,rfl,rfl,rfl,rfl⟩ rfl rfl rfl rfl rfl (by kernel_rfl) Tryz.func8 (by unfold joinedFacts;simp only [Bool.and_eq_true];(repeat' apply And.intro)<;>as_aux_lemma=>kernel_rfl)
  (of_decide_eq_true (by as_aux_lemma=>kernel_rfl)) (by unfold Func.isWrapper;first | (rw [if_pos (by decide +kernel)];kernel_rfl) | (rw [if_neg (by decide +kernel)];exact ⟨rfl,rfl⟩))
  (λos started H enc _=>PW os started H enc)
theorem lpx_card:Rows.PreloadFindNearestCardSaid:=
 Claim7.holds_tied_plain_at .later [] [.data,.data,.data,.data,.pinned] true (true, "7afd958ced9ec1c0e92f7929c3d546df191af6d231ea740845f3a84d94481a7c") false ZD (λ_ h=>by cases h) (by as_aux_lemma=>kernel_rfl) (λ_ h=>by cases h) preloadFindNearest_row_tie rfl ⟨rfl,rfl⟩ (by as_aux_lemma=>kernel_rfl) rfl
  (λf fn hf hfn=>by
   obtain rfl:f=8:=Option.some.inj ((show Tryz.prog.funcNamed "hstsstore/hstsstorelaw24.PreloadFindNearest" = some 8 by as_aux_lemma=>kernel_rfl).symm.trans hf) |>.symm
   obtain rfl:fn=Tryz.f8:=(Option.some.inj (Tryz.func8.symm.trans hfn)).symm
   exact ⟨by as_aux_lemma=>kernel_rfl,λj t ht=>by
    have hm:t∈[23,9]:=Array.mem_toList_iff.2 (Array.mem_of_getElem? ht)
    have hall:([23,9].all λu=>!Tryz.prog.wantsStandIn u)=true:=by as_aux_lemma=>kernel_rfl
    exact (show Tryz.prog.wantsStandIn t=false by simpa using List.all_eq_true.1 hall t hm)⟩)
  (by as_aux_lemma=>kernel_rfl)
end
end
#print axioms lpx_card
end Go.Proofs.YtelhbgonncceeaaGreatDoor.E
