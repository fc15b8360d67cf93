/-
  PreloadFindMatchesSpec, as its tied card says. Conditions: what the card itself names (the package-level variables that are listed, tied to the program's text).
-/
import Derived.Test.YtelhbgonncceeaaGreatDoorKCF4
import Derived.BigQuiet
import Derived.Deep.QuietTactic
import Derived.Ground.SlsfProg
import Derived.LoopTactic
import Derived.Shelf.Abstract
import Derived.Shelf.SlSortCmp.NoneTotal
import Derived.Shelf.SlSortCmp.WholeK
import Derived.Shelf.Strings.LastIndex
import Derived.Test.YtelhbgonncceeaaGreatDoorCards
import Derived.Test.YtelhbgonncceeaaGreatDoorProg
import Derived.Test.YtelhbgonncceeaaGreatDoorTie
import Derived.WalkKit
import Derived.WalkMore
namespace Go.Proofs.YtelhbgonncceeaaGreatDoor.E
set_option linter.all false
section
open Go Go.Proofs
set_option maxRecDepth 100000
section
theorem CZ:B3 Tryz.prog GX 181 Fp:=λargs ret Hc h=>by
 have:J2 (Fp args)=none:=by unfold Fp Vg;split<;>rfl
 rw [this] at h;cases h
theorem A00:B3 Tryz.prog GX 154 OL:=xf [] (PL LF) DY rfl trivial rfl (by kernel_rfl) follows λargs=>by
 unfold DY;split
 ·rename_i s p;exact λh0=>⟨rfl,rfl,rfl,_,_,(A73 LF noY () 0 s p).trans (Ad5 s p h0),rfl⟩
 ·trivial
theorem Az4:B3 Tryz.prog GX 112 OD:=xf [] (PG LF) DJ rfl ⟨A00,trivial⟩ rfl (by kernel_rfl) follows λargs=>by
 unfold DJ;split
 ·rename_i s p;exact λh0=>⟨rfl,rfl,rfl,_,_,(A49 LF noY () 0 s p).trans (Ab2 s p h0),rfl⟩
 ·trivial
theorem Bo0:B3 Tryz.prog GX 180 Ak2:=xf [] (PM LF) EA rfl trivial rfl (by kernel_rfl) follows λargs=>by
 unfold EA;split
 ·rename_i s p;exact λh0=>⟨rfl,rfl,rfl,_,_,(A75 LF noY () 0 s p).trans (Ad6 s p h0),rfl⟩
 ·trivial
theorem Be9:B3 Tryz.prog GX 157 WM:=xf [] (FU LF) Vp rfl ⟨Bo0,trivial⟩ rfl (by kernel_rfl) follows λargs=>by
 unfold Vp;split
 ·rename_i s p;exact λh0=>⟨rfl,rfl,rfl,_,_,(At0 LF noY () 0 s p).trans (RV s p h0),rfl⟩
 ·trivial
theorem Bg0:B3 Tryz.prog GX 115 WX:=xf [] (GA LF) Wg rfl ⟨Be9,trivial⟩ rfl (by kernel_rfl) follows λargs=>by
 unfold Wg;split
 ·rename_i s p;exact λh0=>⟨rfl,rfl,rfl,_,_,(Ay2 LF noY () 0 s p).trans (VM s p h0),rfl⟩
 ·trivial
theorem Be2:B3 Tryz.prog GX 169 WG:=xf [0,0] (FQ LF) Vi rfl ⟨A00,trivial⟩ rfl (by kernel_rfl) follows λargs=>by
 unfold Vi;split
 ·rename_i s p;exact λh0=>⟨rfl,rfl,rfl,_,_,(Ar3 LF noY () 0 s p).trans (RG s p h0),rfl⟩
 ·trivial
theorem Bn1:B3 Tryz.prog GX 130 Aj6:=xf [0,0] (PD LF) DD rfl ⟨Be2,trivial⟩ rfl (by kernel_rfl) follows λargs=>by
 unfold DD;split
 ·rename_i s p;exact λh0=>⟨rfl,rfl,rfl,_,_,(A26 LF noY () 0 s p).trans (ZW s p h0),rfl⟩
 ·trivial
theorem Az2:B3 Tryz.prog GX 158 IT:=xf [1] (Ap LF) Qj rfl ⟨CZ,A06,WB,trivial⟩ rfl (by kernel_rfl) follows λargs=>by
 unfold Qj;split
 ·rename_i s p v n;exact λh0=>λh1=>λh2=>λh3=>(let ⟨rr,hH,ee,qq⟩:=KG s p v n h0 h1 h2 h3;⟨rfl,rfl,rfl,rr,hH,(BE LF noY () 0 s p v n).trans ee,qq⟩)
 ·trivial
theorem A09:B3 Tryz.prog GX 117 IW:=xf [1] (Wt LF) Qv rfl ⟨Az2,trivial⟩ rfl (by kernel_rfl) follows λargs=>by
 unfold Qv;split
 ·rename_i s p;exact λh0=>λh1=>⟨rfl,rfl,rfl,_,_,(Ai1 LF noY () 0 s p).trans (NH s p h0 h1),rfl⟩
 ·trivial
theorem Az9:B3 Tryz.prog GX 111 OK:=xf [] (Mm LF) DW rfl trivial rfl (by kernel_rfl) follows λargs=>by
 unfold DW;split
 ·rename_i s;exact λh0=>⟨rfl,rfl,rfl,_,_,(A70 LF noY () 0 s).trans (Ad2 s h0),rfl⟩
 ·trivial
theorem Az3:B3 Tryz.prog GX 127 OC:=xf [] (PE LF) DI rfl ⟨Az4,trivial⟩ rfl (by kernel_rfl) follows λargs=>by
 unfold DI;split
 ·rename_i s;exact λh0=>⟨rfl,rfl,rfl,_,_,(A48 LF noY () 0 s).trans (Ab0 s h0),rfl⟩
 ·trivial
theorem Az1:B3 Tryz.prog GX 129 OB:=xf [0,0] (Q5 LF) DE rfl trivial rfl (by kernel_rfl) follows λargs=>by
 unfold DE;split
 ·rename_i s base;exact λh0=>λh1=>⟨rfl,rfl,rfl,_,_,(A32 LF noY () 0 s base).trans (Aa1 s base h0 h1),rfl⟩
 ·trivial
theorem Bs5:B3 Tryz.prog GX 128 Bg8:=xf [0,0] (An3 LF) OM rfl ⟨Az3,Az1,trivial⟩ rfl (by kernel_rfl) follows λargs=>by
 unfold OM;split
 ·rename_i s;exact λh0=>⟨rfl,rfl,rfl,_,_,(Bl3 LF noY () 0 s).trans (At8 s h0),rfl⟩
 ·trivial
theorem Bf0:B3 Tryz.prog GX 126 WN:=xf [1] (FW LF) Vq rfl ⟨A09,trivial⟩ rfl (by kernel_rfl) follows λargs=>by
 unfold Vq;split
 ·rename_i s;exact λh0=>⟨rfl,rfl,rfl,_,_,(Au1 LF noY () 0 s).trans (SL s h0),rfl⟩
 ·trivial
theorem DA:B3 Tryz.prog GX 93 Kd:=xf [] (Ri LF) Lt rfl ⟨Bf0,Az3,Bs5,Az1,trivial⟩ rfl (by kernel_rfl) follows λargs=>by
 unfold Lt;split
 ·rename_i s;exact λh0=>⟨rfl,rfl,rfl,_,_,(SD LF noY () 0 s).trans (GZ s h0),rfl⟩
 ·trivial
theorem Aj1:B3 Tryz.prog GX 101 AJ:=xf [] (Z4 LF) Lu rfl trivial rfl (by kernel_rfl) follows λargs=>by
 unfold Lu;split
 ·rename_i s;exact λh0=>⟨rfl,rfl,rfl,_,_,(TL LF noY () 0 s).trans (HQ s h0),rfl⟩
 ·trivial
theorem Zr:B3 Tryz.prog GX 53 Nk:=xf [1] (Cs LF) Qu rfl trivial rfl (by kernel_rfl) follows λargs=>by
 unfold Qu;split
 ·rename_i s c;exact λh0=>λh1=>(let ⟨rr,hH,ee,qq⟩:=MY s c h0 h1;⟨rfl,rfl,rfl,rr,hH,(Ah4 LF noY () 0 s c).trans ee,qq⟩)
 ·trivial
theorem Bo7:B3 Tryz.prog GX 145 Ak7:=xf [] (Ey LF) EM rfl trivial rfl (by kernel_rfl) follows λargs=>by
 unfold EM;split
 ·rename_i b;exact λh0=>⟨rfl,rfl,rfl,_,_,(Ba5 LF noY () 0 b).trans (Af9 b h0),rfl⟩
 ·trivial
theorem Bp1:B3 Tryz.prog GX 102 Al0:=xf [0,0] (L6 LF) EU rfl ⟨Bo7,trivial⟩ rfl (by kernel_rfl) follows λargs=>by
 unfold EU;split
 ·rename_i s;exact λh0=>⟨rfl,rfl,rfl,_,_,(Bc0 LF noY () 0 s).trans (Ag5 s h0),rfl⟩
 ·trivial
theorem A04:B3 Tryz.prog GX 100 IV:=xf [1] (Wr LF) Qs rfl ⟨Zr,trivial⟩ rfl (by kernel_rfl) follows λargs=>by
 unfold Qs;split
 ·rename_i s;exact λh0=>⟨rfl,rfl,rfl,_,_,(Ag8 LF noY () 0 s).trans (MN s h0),rfl⟩
 ·trivial
theorem WA:B3 Tryz.prog GX 68 Vz:=xf [] (Mr LF) Iq rfl ⟨A04,Aj1,Bp1,trivial⟩ rfl (by kernel_rfl) follows λargs=>by
 unfold Iq;split
 ·rename_i s;exact λh0=>⟨rfl,rfl,rfl,_,_,(MM LF noY () 0 s).trans (AE s h0),rfl⟩
 ·trivial
theorem Aj0:B3 Tryz.prog GX 158 Qk:=by
 refine B3.fix (pf:=Lr) _ (P5 (C₀:=Ap LF) (L4.ok (l:=[(181,Fp),(182,OS),(108,We)]) rfl ⟨CZ,A06,WB,trivial⟩) (G1 rfl (by kernel_rfl)) follows ?_)
 intro args ret Hc h
 unfold Lr at h
 split at h
 ·rename_i s p v n
  obtain ⟨h0,h⟩:=C7 h
  obtain ⟨h1,h⟩:=C7 h
  obtain ⟨h2,h⟩:=C7 h
  obtain ⟨h3,h⟩:=C7 h
  obtain ⟨rfl,rfl⟩:=I9 h
  have e:=(BE LF noY () 0 s p v n).trans (Xl s p v n h0 h1 h2 h3)
  exact ⟨rfl,1,_,[],e,rfl,rfl⟩
 ·cases h
theorem Aj2:B3 Tryz.prog GX 117 AK:=by
 refine B3.fix (pf:=Lv) _ (P5 (C₀:=Rk LF) (L4.ok (l:=[(158,Qk)]) rfl ⟨Aj0,trivial⟩) (G1 rfl (by kernel_rfl)) follows ?_)
 intro args ret Hc h
 unfold Lv at h
 split at h
 ·rename_i s p
  obtain ⟨h0,h⟩:=C7 h
  obtain ⟨h1,h⟩:=C7 h
  obtain ⟨rfl,rfl⟩:=I9 h
  have e:=(VJ LF noY () 0 s p).trans (IF s p h0 h1)
  exact ⟨rfl,1,_,[],e,rfl,rfl⟩
 ·cases h
end
section
theorem NW:B3 Tryz.prog GX 184 Ip:=xf [] (Wq LF) Qq rfl trivial rfl (by kernel_rfl) follows λargs=>by
 unfold Qq;split
 ·rename_i n;exact ⟨rfl,rfl,rfl,_,_,(Af2 LF noY () 0 n).trans (LS n ),rfl⟩
 ·trivial
theorem NV:B3 Tryz.prog GX 186 Io:=xf [] (R3 LF) Qp rfl trivial rfl (by kernel_rfl) follows λargs=>by
 unfold Qp;split
 ·rename_i d c f;exact λh0=>λh1=>λh2=>⟨rfl,rfl,rfl,_,_,(Ae3 LF noY () 0 d c f).trans (LN d c f h0 h1 h2),rfl⟩
 ·trivial
theorem Bo5:B3 Tryz.prog GX 195 ON:=xf [] (PP LF) EI rfl trivial rfl (by kernel_rfl) follows λargs=>by
 unfold EI;split
 ·rename_i d;exact λh0=>⟨rfl,rfl,rfl,_,_,(A94 LF noY () 0 d).trans (Af1 d h0),rfl⟩
 ·trivial
theorem Bo6:B3 Tryz.prog GX 202 OP:=xf [] (Ex LF) EL rfl trivial rfl (by kernel_rfl) follows λargs=>by
 unfold EL;split
 ·rename_i b;exact λh0=>⟨rfl,rfl,rfl,_,_,(Ba3 LF noY () 0 b).trans (Af5 b h0),rfl⟩
 ·trivial
end
section
theorem A03:B3 Tryz.prog GX 194 Vr:=by
 refine B3.fix (pf:=EK) _ (P5 (C₀:=PQ LF) (L4.ok (l:=[]) rfl trivial) (G1 rfl (by kernel_rfl)) follows ?_)
 intro args ret Hc h
 unfold EK at h
 split at h
 ·rename_i b
  obtain ⟨rfl,rfl⟩:=I9 h
  have e:=(A98 LF noY () 0 b).trans (Af3 b )
  exact ⟨rfl,1,_,[],e,rfl,rfl⟩
 ·cases h
theorem ZK:Sy Tryz.prog GX 201 Ke:=by
 refine Ce (C₀:=FX LF) (L4.ok (l:=[]) rfl trivial) (G1 rfl (by kernel_rfl)) follows ?_
 intro args H ret Hc h
 unfold Ke at h
 split at h
 ·rename_i k b
  obtain ⟨h0,h⟩:=C7 h
  obtain ⟨h1,h⟩:=C7 h
  obtain ⟨rfl,rfl⟩:=I9 h
  refine ⟨rfl,rfl,λσ yh s=>?_⟩
  have e:=(Au6 LF yh s 0 k b).trans (TB k b h0 h1)
  exact ⟨1,_,e,rfl⟩
 ·cases h
theorem Bp4:Sy Tryz.prog GX 185 EF:=by
 refine Ce (C₀:=Rj LF) (Fo (lx:=[(194,Vr),(195,ON)]) (ly:=[(201,Ke)]) (ls:=[]) rfl rfl rfl ⟨A03,Bo5,trivial⟩ ⟨ZK,trivial⟩ trivial) (G1 rfl (by kernel_rfl)) follows ?_
 intro args H ret Hc h
 unfold EF at h
 split at h
 ·rename_i q b z l
  obtain ⟨h0,h⟩:=C7 h
  obtain ⟨h1,h⟩:=C7 h
  obtain ⟨h2,h⟩:=C7 h
  obtain ⟨rfl,rfl⟩:=I9 h
  obtain ⟨x0,x1,e0⟩:=Ae5 q b z l h0 h1 h2
  exact ⟨rfl,rfl,λσ yh s=>⟨1,_,(A87 LF yh s 0 q b z l).trans (e0 _ _),rfl⟩⟩
 ·cases h
theorem A02:B3 Tryz.prog GX 161 OO:=by
 refine B3.fix (pf:=EJ) _ (N7 [0,0] (C₀:=M7 LF) (Fo (lx:=[(184,Ip),(186,Io)]) (ly:=[(185,EF)]) (ls:=[]) rfl rfl rfl ⟨NW,NV,trivial⟩ ⟨Bp4,trivial⟩ trivial) (G1 rfl (by kernel_rfl)) follows ?_)
 intro args ret Hc h
 unfold EJ at h
 split at h
 ·rename_i p_z p_t p
  obtain ⟨h0,h⟩:=C7 h
  obtain ⟨rfl,rfl⟩:=I9 h
  obtain ⟨rr,hH,ee,qq⟩:=A96 p_z p_t p h0
  exact ⟨rfl,rfl,rfl,1,rr,hH,(A95 LF noY () 0 p_z p_t p).trans ee,qq⟩
 ·cases h
end
section
theorem Bp3:Sy Tryz.prog GX 198 DF:=by
 refine Ce (C₀:=Rh LF) (Fo (lx:=[(194,Vr),(202,OP)]) (ly:=[(201,Ke)]) (ls:=[]) rfl rfl rfl ⟨A03,Bo6,trivial⟩ ⟨ZK,trivial⟩ trivial) (G1 rfl (by kernel_rfl)) follows ?_
 intro args H ret Hc h
 unfold DF at h
 split at h
 ·rename_i rest n i b st z l
  obtain ⟨h0,h⟩:=C7 h
  obtain ⟨h1,h⟩:=C7 h
  obtain ⟨h2,h⟩:=C7 h
  obtain ⟨rfl,rfl⟩:=I9 h
  obtain ⟨x0,e0⟩:=Aa3 rest n i b st z l h0 h1 h2
  exact ⟨rfl,rfl,λσ yh s=>⟨1,_,(A33 LF yh s 0 rest n i b st z l).trans (e0 _ _),rfl⟩⟩
 ·cases h
theorem Az5:B3 Tryz.prog GX 142 IU:=xf [] (Cr LF) Qm rfl trivial rfl (by kernel_rfl) follows λargs=>by
 unfold Qm;split
 ·rename_i s c;exact λh0=>λh1=>⟨rfl,rfl,rfl,_,_,(Ab7 LF noY () 0 s c).trans (KO s c h0 h1),rfl⟩
 ·trivial
theorem ZJ:B3 Tryz.prog GX 97 Un:=xf [] (FP LF) Vh rfl ⟨Az5,trivial⟩ rfl (by kernel_rfl) follows λargs=>by
 unfold Vh;split
 ·rename_i s c;exact λh0=>λh1=>⟨rfl,rfl,rfl,_,_,(Ar2 LF noY () 0 s c).trans (RD s c h0 h1),rfl⟩
 ·trivial
end
end
section
open Go Go.Proofs Go.Sort
set_option maxRecDepth 100000
theorem Zj {C:Cfg} {σ:Type} {I:σ->(Nat->Prop)->(Nat->Prop)->World->Prop} (hI:HI I) {Γ:Ctx} {Φ:Nat->Prop} {w w':World} {z v1:Bool} {E e1 s1:Nat} {l l' m:LL} {s:σ} (g cap:Nat) (Vs:List Value) (cur:Array Value)
  (hnf:Ha C E=false) (hH:HR Γ [.arr z E 1 l,.arr v1 e1 s1 m] w) (hi:I s Γ.St Φ w) (hd:∀ b g,Γ.nm b=some g->¬ Φ g)
  (hown:Γ.nm 0=some g\/g=w.heap.size) (hgl:g<w'.heap.size) (hoth:∀ k,k<w.heap.size->Γ.nm 0≠some k->w'.heap[k]? = w.heap[k]?) (hsz:w.heap.size<=w'.heap.size) (h1:w'.os=w.os) (h2:w'.tape=w.tape) (h3:w'.output=w.output)
  (hrow:w'.heap[g]? = some (.cells cur E (0,0))) (hE:Els Γ.St w' 1 l' Vs) (hl':l'≠[]) (hc:∀ q,q<Vs.length->cur[q]? = Vs[q]?) (hl:Vs.length<=cur.size) (hcap:l'.length<=cap) (hm:cap<=maxLen) (hcs:cur.size=cap) :
  An C I Γ [.arr z E 1 l,.arr v1 e1 s1 m] w Φ (.fl 0) [.arr z E 1 l',.arr v1 e1 s1 m] s (.slice (some ⟨g,0,none⟩) l'.length cap) w':=by
 have hblt:0<[Blk.arr z E 1 l,.arr v1 e1 s1 m].length:=by simp
 have hng:(Γ.re 0 (some g)).nm 0=some g:=by simp [Ctx.re]
 have hnf':¬ Fc C (A2 [Blk.arr z E 1 l,.arr v1 e1 s1 m] 0):=by simp [A2,Blk.shp,Fc,hnf]
 have hk:([Blk.arr z E 1 l,.arr v1 e1 s1 m].map (Blk.kill 0)).set 0 (.arr z E 1 l')=[.arr z E 1 l',.arr v1 e1 s1 m]:=rfl
 have hgS:¬ Γ.St g:=by
  rcases hown with h | h
  ·exact (hH.lt 0 g h).2.2
  ·intro hs
   have:=hH.stlt g hs
   omega
 obtain ⟨q1,q2,q3⟩:=HT (C:=C) (y:=.arr z E 1 l') (ng:=some g) (w':=w') hH hblt hnf' (λk hk=>by
   simp only [Option.some.injEq] at hk;subst hk
   refine ⟨hgl,hgS,λc hc hc2=>?_⟩
   rcases hown with h | h
   ·exact hc (hH.inj c 0 _ hc2 h)
   ·have:=(hH.lt c _ hc2).2.1
    omega)
  (λk hk=>by
   simp only [Option.some.injEq] at hk;subst hk
   rcases hown with h | h
   ·exact .inl h
   ·exact .inr (by omega)) hoth hsz h1 h2 h3
  (BR.els hng hrow hE (by rintro ⟨_,h⟩;exact hl' h) hc hl) rfl
 rw [hk] at q1 q2
 refine ⟨_,Φ,q1.lift Φ,q2,?_,λc hc=>?_,?_,λb g' hb=>?_⟩
 ·refine .fl 0 g z E 1 l'.length cap rfl (λ_ h=>hl' (List.length_eq_zero_iff.1 h)) hng hcap hm ?_
  simp only [World.shape?,hrow,hcs,Nat.mul_one]
 ·simp only [PV.nms,List.mem_singleton] at hc
  subst hc
  simp
 ·refine hI.mono s Γ.St Φ w Γ.St w' hi (λ_ h=>h) (λk hk hp=>(hI.foot _ _ _ _ hi k hp).2 hk) (λk hk=>Nat.lt_of_lt_of_le (hH.stlt k hk) hsz) (λk hk=>?_) hsz h1 h2 h3
  rcases hk with hk | hk
  ·exact hoth k (hH.stlt k hk) (λh=>(hH.lt 0 k h).2.2 hk)
  ·exact hoth k (hI.foot _ _ _ _ hi k hk).1 (λh=>hd 0 k h hk)
 ·simp only [Ctx.re] at hb
  split at hb
  ·simp only [Option.some.injEq] at hb
   subst hb
   rcases hown with h | h
   ·exact hd 0 _ h
   ·intro hp
    have:=(hI.foot _ _ _ _ hi _ hp).1
    omega
  ·exact hd b g' hb
theorem Y6 {w:World} {g o e:Nat} {vs:List Value} {cur:Array Value} (hg:w.heap[g]? = some (.cells cur e (0,0))) (hle:o+vs.length<=cur.size) (h1:∀ v∈vs,v.oneCell'=true) :
  (w.setCells g o vs).heap[g]? = some (.cells (F5 cur.toList o vs).toArray e (0,0))/\(∀ k,k≠g->(w.setCells g o vs).heap[k]? = w.heap[k]?)/\(w.setCells g o vs).heap.size=w.heap.size/\(w.setCells g o vs).os=w.os/\(w.setCells g o vs).tape=w.tape/\(w.setCells g o vs).output=w.output:=by
 obtain ⟨w',r1,r2,r3,r4,r5,r6,r7,_⟩:=H8 (P:=Tryz.prog) (o:=o) hg hle h1
 have hcell:∀ j,j<vs.length->∃ v,w.cell? ⟨g,o+0+j,none⟩=some v:=λj hj=>by
  refine ⟨cur[o+j]'(by omega),?_⟩
  simp [World.cell?,hg,Array.getElem?_eq_getElem (show o+j<cur.size by omega)]
 have r:=run_storeCells_cells (P:=Tryz.prog) g o vs 0 w (λj hj=>by obtain ⟨v,h⟩:=hcell j hj;rw [h];rfl) (λj hj=>by simp [World.frozen?,hg]) h1
 rw [r] at r1
 simp only [Nat.add_zero,Result.ok.injEq,true_and] at r1
 rw [r1]
 exact ⟨r2,r3,r4,r5,r6,r7⟩
theorem Xq {St:Nat->Prop} {w:World} {l:LL} {cs:List Value} {i:Nat} {n:Int} (h:Els St w 1 l cs) (hi:i<=l.length):Els St w 1 (He l i n) (cs.take i++Value.int .i64 n::cs.drop i):=by
 have hlen:=h.1
 rw [Nat.mul_one] at hlen
 have h1:Els St w 1 (l.take i) (cs.take i):=by
  refine ⟨by rw [List.length_take,List.length_take,hlen,Nat.mul_one],λj hj=>?_⟩
  rw [List.length_take] at hj
  rw [List.getElem_take]
  obtain ⟨a,b⟩:=h.2 j (by omega)
  refine ⟨a,λk hk=>?_⟩
  obtain ⟨U,e,v⟩:=b k hk
  exact ⟨U,by rw [List.getElem?_take_of_lt (by omega)];exact e,v⟩
 have h2:Els St w 1 [[SV.int .i64 n]] [Value.int .i64 n]:=by
  refine ⟨rfl,λj hj=>?_⟩
  have:j=0:=by simpa using hj
  subst this
  refine ⟨rfl,λk hk=>?_⟩
  have:k=0:=by simpa using hk
  subst this
  exact ⟨_,rfl,.int _ _⟩
 have h3:Els St w 1 (l.drop i) (cs.drop i):=by
  refine ⟨by rw [List.length_drop,List.length_drop,hlen,Nat.mul_one],λj hj=>?_⟩
  rw [List.length_drop] at hj
  rw [List.getElem_drop]
  obtain ⟨a,b⟩:=h.2 (i+j) (by omega)
  refine ⟨a,λk hk=>?_⟩
  obtain ⟨U,e,v⟩:=b k hk
  exact ⟨U,by rw [List.getElem?_drop];rw [show i+(j*1+k)=(i+j)*1+k by omega];exact e,v⟩
 have:=(h1.append h2).append h3
 unfold He
 simpa using this
theorem Xr (l:LL) (i:Nat) (n:Int) (h:i<=l.length):(He l i n).length=l.length+1:=by
 unfold He
 rw [List.length_append,List.length_cons,List.length_take,List.length_drop]
 omega
theorem GP (l:LL) (i:Nat) (n:Int):He l i n≠[]:=by
 unfold He
 simp
theorem Bp5:Sy Tryz.prog GX 199 FD:=by
 intro C hP hG σ I yh yv hI hy args H s ret Hc hpf Γ Φ w Vs hyv hH hg hi hd hc hn
 unfold FD at hpf
 split at hpf
 ·rename_i i z l nn
  obtain ⟨h0,hpf⟩:=C7 hpf
  obtain ⟨h1,hpf⟩:=C7 hpf
  obtain ⟨rfl,rfl⟩:=I9 hpf
  obtain ⟨i0,i1⟩:=M0.1 h0
  obtain ⟨i,rfl⟩:=Int.eq_ofNat_of_zero_le i0
  have hl:=Nat.le_of_ble_eq_true h1
  have hil:i<=l.length:=by
   have:(i:Int)<((l.length+1:Nat):Int):=i1
   omega
  obtain ⟨S,X0,V,rfl,hs,hx,hv⟩:=hc.arr3
  obtain rfl:=hx.inv_int
  have hnf:Ha C 3=false:=by
   unfold Ha Cfg.sh
   rw [hP]
   kernel_rfl
  obtain ⟨g1,cur1,n1,n2,n3,n4,n5⟩:=hH.arr' (b:=1) rfl (by simp)
  have hvs:∃ cap,V = .slice (some ⟨g1,0,none⟩) 1 cap:=by
   cases hv with
   | flv _ e sz h=>simp [A2,Blk.shp] at h
   | fl _ g v e sz n cap h hv' hg' hcap hm hs'=>
    rw [n1] at hg'
    simp only [Option.some.injEq] at hg'
    subst hg'
    simp only [A2,List.getElem?_cons_succ,List.getElem?_cons_zero,Option.map_some,Blk.shp,Option.some.injEq,Shp.arr.injEq] at h
    obtain ⟨_,_,_,h4⟩:=h
    subst h4
    exact ⟨cap,rfl⟩
  obtain ⟨cap1,rfl⟩:=hvs
  obtain ⟨V1,p1,p2⟩:=n5 0 (by simp) 0 (by simp)
  have p3:V1 = .int .i64 nn:=by cases p2;rfl
  subst p3
  have hvcell:∀ j v,[Value.int .i64 nn][j]? = some v->w.cell? ⟨g1,0+j,none⟩=some v:=by
   intro j v hj
   have:j=0:=by
    have:=(List.getElem?_eq_some_iff.1 hj).1
    simpa using this
   subst this
   simp only [List.getElem?_cons_zero,Option.some.injEq] at hj
   subst hj
   simpa [World.cell?,n2] using p1
  have hv1:∀ v∈[Value.int .i64 nn],v.oneCell'=true:=by simp [Value.oneCell']
  rw [Int.toNat_natCast]
  refine Am (fn:=Tryz.f199) (by kernel_rfl) (by kernel_rfl) (by kernel_rfl) ?_
  have grownEnd:∀ (base:Option Addr) (c:Nat) (cs:List Value),l.length<=c->c<l.length+1->cs.length=l.length->(base=none->l.length=0)->(∀ a,base=some a->∀ j v,cs[j]? = some v->w.cell? (a.add j)=some v)->Els Γ.St w 1 l cs->
    Calls Tryz.prog 199 #[.slice base l.length c,.int .i64 (l.length:Int),.slice (some ⟨g1,0,none⟩) 1 cap1] w λe w'=>∃ V,e = .returned V/\An C I Γ [.arr z 3 1 l,.arr false 3 1 [[SV.int .i64 nn]]] w Φ (.fl 0) [.arr z 3 1 (He l l.length nn),.arr false 3 1 [[SV.int .i64 nn]]] s V w':=by
   intro base c cs a1 a2 a3 a4 a5 a6
   refine (Any2.slices_Insert_int_end_grow Tryz.lays2_21 base l.length c g1 0 1 cap1 cs [.int .i64 nn] w (by omega) a1 a2 (by omega) a3 rfl a4 a5 hvcell hv1).mono ?_
   rintro e w' ⟨rfl,rfl⟩
   refine ⟨_,rfl,?_⟩
   obtain ⟨hge,hle⟩:=Ee (w:=w) (need:=l.length+1) (cap:=c) (e:=3) (by omega)
   have hE:=Xq (n:=nn) a6 (Nat.le_refl l.length)
   have hcsl:cs.take l.length++Value.int .i64 nn::cs.drop l.length=cs++[Value.int .i64 nn]:=by
    rw [List.take_of_length_le (by omega),List.drop_of_length_le (by omega)]
   rw [hcsl] at hE
   have hlen:=Xr l l.length nn (Nat.le_refl _)
   obtain ⟨r1,r2⟩:=Rx (olds:=cs) (Vs:=[Value.int .i64 nn]) (z:=(Value.int .i64 0).cells) (k:=grownCap w (l.length+1) c 3) (n:=l.length) (m:=1) (size:=1) rfl (by omega) rfl hge
   have hrowE:(cs.toArray++[Value.int .i64 nn].toArray)=(cs++[Value.int .i64 nn]).toArray:=by simp
   rw [hrowE] at r1 r2
   have key:∀ (row:Array Value) (kc:Nat),row.size=kc->(∀ q,q<(cs++[Value.int .i64 nn]).length->row[q]? = (cs++[Value.int .i64 nn])[q]?)->l.length+1<=kc->kc<=maxLen->
     An C I Γ [.arr z 3 1 l,.arr false 3 1 [[SV.int .i64 nn]]] w Φ (.fl 0) [.arr z 3 1 (He l l.length nn),.arr false 3 1 [[SV.int .i64 nn]]] s (.slice (some ⟨w.heap.size,0,none⟩) (l.length+1) kc) (w.drew.alloc (.cells row 3)):=by
    intro row kc b1 b2 b3 b4
    have hwh:(w.drew.alloc (.cells row 3)).heap=w.heap.push (.cells row 3):=rfl
    have:=Zj (C:=C) (w':=w.drew.alloc (.cells row 3)) (l':=He l l.length nn) hI w.heap.size kc (cs++[Value.int .i64 nn]) row hnf hH hi hd (.inr rfl) (by rw [hwh];simp) (λk hk _=>F7 hwh hk) (by rw [hwh];simp) rfl rfl rfl (F6 hwh) (hE.mono (λg hg=>F7 hwh (hH.stlt g hg)) (λ_ h=>h)) (GP _ _ _) b2 (by rw [b1,List.length_append,List.length_singleton];omega) (by rw [hlen];exact b3) b4 b1
    rw [hlen] at this
    exact this
   exact key _ _ (r1.trans (Nat.mul_one _)) r2 hge hle
  have two:∀ (row:Array Value) (cs:List Value),cs.length=l.length->i<l.length->l.length+1<=row.size->(∀ q,q<i->row[q]? = cs[q]?)->
    ∀ q,q<(cs.take i++Value.int .i64 nn::cs.drop i).length->(F5 (F5 row.toList i [Value.int .i64 nn]) (i+1) (cs.drop i)).toArray[q]? = (cs.take i++Value.int .i64 nn::cs.drop i)[q]?:=by
   intro row cs a1 a2 a3 a4 q hq
   have hq':q<l.length+1:=by
    rw [List.length_append,List.length_cons,List.length_take,List.length_drop] at hq
    omega
   have ht:(cs.take i).length=i:=by rw [List.length_take];omega
   have hrl:row.toList.length=row.size:=Array.length_toList
   simp only [List.getElem?_toArray]
   rw [J9 _ _ _ (by rw [C3,List.length_drop,hrl];omega),J9 _ _ _ (by rw [List.length_singleton,hrl];omega)]
   by_cases h1:q<i
   ·rw [H6,H6,List.getElem?_append_left (by omega),List.getElem?_take_of_lt h1]
    simpa using a4 q h1
   ·by_cases h2:q=i
    ·subst h2
     rw [H6,if_pos (by rw [List.length_singleton];omega),List.getElem?_append_right (by omega),ht,Nat.sub_self]
     rfl
    ·rw [if_pos (by rw [List.length_drop];omega),List.getElem?_append_right (by omega),ht,show q-i=(q-(i+1))+1 by omega,List.getElem?_cons_succ]
  have grownMid:∀ (g c:Nat) (cs:List Value),i<l.length->l.length<=c->c<l.length+1->cs.length=l.length->(∀ j v,cs[j]? = some v->w.cell? ⟨g,0+j,none⟩=some v)->(∀ v∈cs,v.oneCell'=true)->Els Γ.St w 1 l cs->
    Calls Tryz.prog 199 #[.slice (some ⟨g,0,none⟩) l.length c,.int .i64 (i:Int),.slice (some ⟨g1,0,none⟩) 1 cap1] w λe w'=>∃ V,e = .returned V/\An C I Γ [.arr z 3 1 l,.arr false 3 1 [[SV.int .i64 nn]]] w Φ (.fl 0) [.arr z 3 1 (He l i nn),.arr false 3 1 [[SV.int .i64 nn]]] s V w':=by
   intro g c cs hi' a1 a2 a3 a4 a5 a6
   refine (Any2.slices_Insert_int_grow Tryz.lays2_21 g 0 l.length c i g1 0 1 cap1 cs [.int .i64 nn] w hi' (by omega) a1 a2 (by omega) a3 rfl a4 hvcell a5 hv1).mono ?_
   rintro e w' ⟨rfl,rfl⟩
   refine ⟨_,rfl,?_⟩
   obtain ⟨hge,hle⟩:=Ee (w:=w) (need:=l.length+1) (cap:=c) (e:=3) (by omega)
   have hE:=Xq (n:=nn) a6 hil
   have hlen:=Xr l i nn hil
   have key:∀ (row:Array Value) (kc:Nat),row.size=kc->(∀ q,q<i->row[q]? = cs[q]?)->l.length+1<=kc->kc<=maxLen->
     An C I Γ [.arr z 3 1 l,.arr false 3 1 [[SV.int .i64 nn]]] w Φ (.fl 0) [.arr z 3 1 (He l i nn),.arr false 3 1 [[SV.int .i64 nn]]] s (.slice (some ⟨w.heap.size,0,none⟩) (l.length+1) kc) (((w.alloc (.cells row 3)).drew.setCells w.heap.size i [Value.int .i64 nn]).drew.setCells w.heap.size (i+1) (cs.drop i)):=by
    intro row kc b1 b2 b3 b4
    have hwh:(w.alloc (.cells row 3)).drew.heap=w.heap.push (.cells row 3):=rfl
    obtain ⟨c1,c2,c3,c4,c5,c6⟩:=Y6 (w:=(w.alloc (.cells row 3)).drew) (o:=i) (vs:=[Value.int .i64 nn]) (F6 hwh) (by rw [List.length_singleton];omega) hv1
    generalize hw1:(w.alloc (.cells row 3)).drew.setCells w.heap.size i [Value.int .i64 nn]=w1 at *
    have hs1:(F5 row.toList i [Value.int .i64 nn]).toArray.size=kc:=by rw [List.size_toArray,C3];simpa using b1
    obtain ⟨d1,d2,d3,d4,d5,d6⟩:=Y6 (w:=w1.drew) (o:=i+1) (vs:=cs.drop i) c1 (by rw [hs1,List.length_drop];omega) (λv hv=>a5 v (List.mem_of_mem_drop hv))
    have hoth:∀ k,k<w.heap.size->(w1.drew.setCells w.heap.size (i+1) (cs.drop i)).heap[k]? = w.heap[k]?:=λk hk=>by
     rw [d2 k (by omega)]
     exact (c2 k (by omega)).trans (F7 hwh hk)
    have hsz:(w1.drew.setCells w.heap.size (i+1) (cs.drop i)).heap.size=w.heap.size+1:=by
     rw [d3]
     show w1.heap.size=_
     rw [c3,hwh]
     simp
    have:=Zj (C:=C) (w':=w1.drew.setCells w.heap.size (i+1) (cs.drop i)) (l':=He l i nn) hI w.heap.size kc (cs.take i++Value.int .i64 nn::cs.drop i) _ hnf hH hi hd (.inr rfl) (by rw [hsz];omega) (λk hk _=>hoth k hk) (by rw [hsz];omega) (d4.trans c4) (d5.trans c5) (d6.trans c6) d1 (hE.mono (λg hg=>hoth g (hH.stlt g hg)) (λ_ h=>h)) (GP _ _ _) (two row cs a3 hi' (by omega) b2) (by rw [List.size_toArray,C3,List.length_append,List.length_cons,List.length_take,List.length_drop];simp only [List.size_toArray,C3] at hs1 ⊢;omega) (by rw [hlen];exact b3) b4 (by rw [List.size_toArray,C3];simpa using hs1)
    rw [hlen] at this
    exact this
   have hz1:(Value.int .i64 0).cells.size=1:=rfl
   have ht:(cs.take i).length=i:=by rw [List.length_take];omega
   refine key _ _ ?_ (λq hq=>?_) hge hle
   ·simp only [Array.size_append,List.size_toArray,size_zeroCells,hz1,Nat.mul_one,ht]
    have:l.length+1<=grownCap w (l.length+1) c 3:=hge
    show i+(l.length+1-i)+(grownCap w (l.length+1) c 3-(l.length+1))=grownCap w (l.length+1) c 3
    omega
   ·rw [Array.getElem?_append_left (by simp only [Array.size_append,List.size_toArray,ht];omega),Array.getElem?_append_left (by simp only [List.size_toArray,ht];omega),List.getElem?_toArray,List.getElem?_take_of_lt hq]
  have two':∀ (row:Array Value) (cs:List Value),cs.length=l.length->i<l.length->l.length+1<=row.size->(∀ q,q<i->row[q]? = cs[q]?)->
    ∀ q,q<(cs.take i++Value.int .i64 nn::cs.drop i).length->(F5 (F5 row.toList (i+1) (cs.drop i)) i [Value.int .i64 nn]).toArray[q]? = (cs.take i++Value.int .i64 nn::cs.drop i)[q]?:=by
   intro row cs a1 a2 a3 a4 q hq
   have hq':q<l.length+1:=by
    rw [List.length_append,List.length_cons,List.length_take,List.length_drop] at hq
    omega
   have ht:(cs.take i).length=i:=by rw [List.length_take];omega
   have hrl:row.toList.length=row.size:=Array.length_toList
   simp only [List.getElem?_toArray]
   rw [J9 _ _ _ (by rw [C3,List.length_singleton,hrl];omega),J9 _ _ _ (by rw [List.length_drop,hrl];omega)]
   by_cases h1:q<i
   ·rw [H6,H6,List.getElem?_append_left (by omega),List.getElem?_take_of_lt h1]
    simpa using a4 q h1
   ·by_cases h2:q=i
    ·subst h2
     rw [if_pos (by rw [List.length_singleton];omega),List.getElem?_append_right (by omega),ht,Nat.sub_self]
     rfl
    ·rw [if_neg (by rw [List.length_singleton];omega),if_pos (by rw [List.length_drop];omega),List.getElem?_append_right (by omega),ht,show q-i=(q-(i+1))+1 by omega,List.getElem?_cons_succ]
  cases hs with
  | flv _ e2 sz2 h'=>
   simp only [A2,List.getElem?_cons_zero,Option.map_some,Blk.shp,Option.some.injEq,Shp.arr.injEq] at h'
   obtain ⟨q1,q2,q3,h4⟩:=h'
   obtain rfl:=List.length_eq_zero_iff.1 h4
   obtain rfl:i=0:=by simpa using hil
   exact grownEnd none 0 [] (by simp) (by simp) rfl (λ_=>rfl) (λa h=>by cases h) ⟨rfl,λj hj=>by simp at hj⟩
  | fl _ g z' e2 sz2 n' cap h' hv' hg' hcap hm hs'=>
   simp only [A2,List.getElem?_cons_zero,Option.map_some,Blk.shp,Option.some.injEq,Shp.arr.injEq] at h'
   obtain ⟨rfl,rfl,rfl,rfl⟩:=h'
   have hne:¬ (z=true/\l=[]):=by rintro ⟨q1,q2⟩;exact hv' q1 (by rw [q2];rfl)
   obtain ⟨g',cur,hg2,hh,hsize,hlens,hels⟩:=hH.arr' (b:=0) rfl hne
   obtain rfl:g=g':=by
    rw [hg'] at hg2
    exact Option.some.inj hg2
   have hcs:cur.size=cap:=by
    have:=hs'
    simp only [World.shape?,hh,Option.some.injEq,Prod.mk.injEq,true_and,Nat.mul_one] at this
    exact this
   rw [Nat.mul_one] at hsize
   have hO:Els Γ.St w 1 l (cur.toList.take l.length):=by
    refine ⟨by rw [List.length_take,Array.length_toList (xs:=cur)];omega,λj hj=>⟨hlens j hj,λk hk=>?_⟩⟩
    obtain ⟨U,e1,u⟩:=hels j hj k hk
    refine ⟨U,?_,u⟩
    have hk':k<1:=by rw [<-hlens j hj];exact hk
    rw [List.getElem?_take,Bh]
    simpa using e1
   have hol:(cur.toList.take l.length).length=l.length:=by rw [List.length_take,Array.length_toList (xs:=cur)];omega
   have hcell:∀ j v,(cur.toList.take l.length)[j]? = some v->w.cell? ⟨g,0+j,none⟩=some v:=by
    intro j v hj
    have hj':j<l.length:=by
     have:=(List.getElem?_eq_some_iff.1 hj).1
     omega
    rw [List.getElem?_take,if_pos hj'] at hj
    simpa [World.cell?,hh] using hj
   have h1c:∀ v∈cur.toList.take l.length,v.oneCell'=true:=by
    intro v hv
    obtain ⟨j,hj,rfl⟩:=List.getElem_of_mem hv
    have hj':j<l.length:=by omega
    obtain ⟨_,u⟩:=hO.2 j hj'
    obtain ⟨U,e1,u2⟩:=u 0 (by rw [hlens j hj'];exact Nat.one_pos)
    rw [Nat.mul_one,Nat.add_zero,List.getElem?_eq_getElem hj] at e1
    cases e1
    exact u2.oneCell
   have hlen:=Xr l i nn hil
   have hE:=Xq (n:=nn) hO hil
   have hsome:∀ j,j<cap->(w.cell? ⟨g,j,none⟩).isSome=true:=by
    intro j hj
    simp only [World.cell?,hh]
    rw [Array.getElem?_eq_getElem (by omega)]
    rfl
   have hfrz:∀ j,w.frozen? ⟨g,j,none⟩=false:=λj=>by simp [World.frozen?,hh]
   have hng1:g1≠g:=λe=>by
    have:=hH.inj 1 0 g (by rw [<-e];exact n1) hg'
    omega
   have hmx:cap<=9223372036854775807:=by
    simp only [maxLen] at hm
    omega
   by_cases hroom:l.length+1<=cap
   ·have key:∀ (w':World) (row:List Value),w'.heap[g]? = some (.cells row.toArray 3 (0,0))->(∀ k,k≠g->w'.heap[k]? = w.heap[k]?)->w'.heap.size=w.heap.size->w'.os=w.os->w'.tape=w.tape->w'.output=w.output->row.length=cap->
      (∀ q,q<((cur.toList.take l.length).take i++Value.int .i64 nn::(cur.toList.take l.length).drop i).length->row.toArray[q]? = ((cur.toList.take l.length).take i++Value.int .i64 nn::(cur.toList.take l.length).drop i)[q]?)->
      An C I Γ [.arr z 3 1 l,.arr false 3 1 [[SV.int .i64 nn]]] w Φ (.fl 0) [.arr z 3 1 (He l i nn),.arr false 3 1 [[SV.int .i64 nn]]] s (.slice (some ⟨g,0,none⟩) (l.length+1) cap) w':=by
     intro w' row k1 k2 k3 k4 k5 k6 k7 k8
     have hgS:¬ Γ.St g:=(hH.lt 0 g hg').2.2
     have:=Zj (C:=C) (w':=w') (l':=He l i nn) hI g cap ((cur.toList.take l.length).take i++Value.int .i64 nn::(cur.toList.take l.length).drop i) row.toArray hnf hH hi hd (.inl hg') (by rw [k3];exact (hH.lt 0 g hg').2.1) (λk hk hk2=>k2 k (λe=>hk2 (e ▸ hg'))) (by omega) k4 k5 k6 k1
      (hE.mono (λk hk=>k2 k (λe=>hgS (e ▸ hk))) (λ_ h=>h)) (GP _ _ _) k8
      (by rw [List.size_toArray,k7,List.length_append,List.length_cons,List.length_take,List.length_drop,hol];omega) (by rw [hlen];exact hroom) hm (by rw [List.size_toArray,k7])
     rw [hlen] at this
     exact this
    by_cases hie:i=l.length
    ·subst hie
     refine (Any2.slices_Insert_int_end_room Tryz.lays2_21 g 0 l.length cap g1 0 1 cap1 [.int .i64 nn] w (by omega) hroom hmx rfl (λj hj=>hsome _ (by omega)) (λj hj=>hfrz _) hvcell hv1).mono ?_
     rintro e w' ⟨rfl,rfl⟩
     refine ⟨_,rfl,?_⟩
     obtain ⟨c1,c2,c3,c4,c5,c6⟩:=Y6 (w:=w) (o:=0+l.length) (vs:=[Value.int .i64 nn]) hh (by rw [List.length_singleton];omega) hv1
     refine key _ _ c1 c2 c3 c4 c5 c6 (by rw [C3];simpa using hcs) (λq hq=>?_)
     rw [List.take_of_length_le (by omega),List.drop_of_length_le (by omega)] at hq ⊢
     rw [List.length_append,hol,List.length_singleton] at hq
     simp only [List.getElem?_toArray]
     rw [J9 _ _ _ (by rw [List.length_singleton,Array.length_toList (xs:=cur)];omega)]
     by_cases hq2:q<l.length
     ·rw [H6,List.getElem?_append_left (by omega),List.getElem?_take,if_pos hq2]
     ·obtain rfl:q=l.length:=by omega
      rw [if_pos (by rw [List.length_singleton];omega),List.getElem?_append_right (by omega),hol]
      simp
    ·have hi':i<l.length:=by omega
     refine (Any2.slices_Insert_int_shift Tryz.lays2_21 g 0 l.length cap i g1 0 1 cap1 (cur.toList.take l.length) [.int .i64 nn] w hi' (by omega) hroom hmx hng1 hol rfl hcell (λj hj=>hsome _ (by omega)) (λj hj=>hfrz _) hvcell h1c hv1 3 3 cur1.size cur.size (by simp [World.shape?,n2]) (by simp [World.shape?,hh]) (by omega) (by simp [World.frozen?,n2]) (by simp [World.frozen?,n2])).mono ?_
     rintro e w' ⟨rfl,rfl⟩
     refine ⟨_,rfl,?_⟩
     obtain ⟨c1,c2,c3,c4,c5,c6⟩:=Y6 (w:=w.drew) (o:=0+(i+1)) (vs:=(cur.toList.take l.length).drop i) hh (by rw [List.length_drop,hol];omega) (λv hv=>h1c v (List.mem_of_mem_drop hv))
     generalize hw1:w.drew.setCells g (0+(i+1)) ((cur.toList.take l.length).drop i)=w1 at *
     have hs1:(F5 cur.toList (0+(i+1)) ((cur.toList.take l.length).drop i)).toArray.size=cap:=by rw [List.size_toArray,C3];simpa using hcs
     obtain ⟨d1,d2,d3,d4,d5,d6⟩:=Y6 (w:=w1) (o:=0+i) (vs:=[Value.int .i64 nn]) c1 (by rw [hs1,List.length_singleton];omega) hv1
     refine key _ _ d1 (λk hk=>(d2 k hk).trans (c2 k hk)) (d3.trans c3) (d4.trans c4) (d5.trans c5) (d6.trans c6) (by rw [C3];simpa using hs1) ?_
     rw [Nat.zero_add,Nat.zero_add]
     exact two' cur _ hol hi' (by omega) (λq hq=>by rw [List.getElem?_take,Bh];simp)
   ·by_cases hie:i=l.length
    ·subst hie
     exact grownEnd (some ⟨g,0,none⟩) cap (cur.toList.take l.length) hcap (by omega) hol (λh=>by cases h) (λa h j v hj=>by
      obtain rfl:=Option.some.inj h
      rw [I5]
      exact hcell j v hj) hO
    ·exact grownMid g cap _ (by omega) hcap (by omega) hol hcell h1c hO
 ·cases hpf
end
section
open Go Go.Proofs
set_option maxRecDepth 100000
section
theorem Bg1:Sy Tryz.prog GX 189 Um:=by
 refine Ce (C₀:=FO LF) (Fo (lx:=[(186,Io),(184,Ip)]) (ly:=[(198,DF),(199,FD)]) (ls:=[]) rfl rfl rfl ⟨NV,NW,trivial⟩ ⟨Bp3,Bp5,trivial⟩ trivial) (G1 rfl (by kernel_rfl)) follows ?_
 intro args H ret Hc h
 unfold Um at h
 split at h
 ·rename_i rest n i b st z l
  obtain ⟨h0,h⟩:=C7 h
  obtain ⟨h1,h⟩:=C7 h
  obtain ⟨h2,h⟩:=C7 h
  obtain ⟨h3,h⟩:=C7 h
  obtain ⟨h4,h⟩:=C7 h
  obtain ⟨rfl,rfl⟩:=I9 h
  refine ⟨rfl,rfl,λσ yh s=>?_⟩
  have e:=(Ao7 LF yh s 0 rest n i b st z l).trans (QJ rest n i b st z l h0 h1 h2 h3 h4)
  exact ⟨1,_,e,rfl⟩
 ·cases h
theorem Bo4:B3 Tryz.prog GX 170 Ak6:=by
 refine B3.fix (pf:=EH) _ (N7 [1,0] (C₀:=U1 LF) (Fo (lx:=[(97,Un)]) (ly:=[(189,Um)]) (ls:=[]) rfl rfl rfl ⟨ZJ,trivial⟩ ⟨Bg1,trivial⟩ trivial) (G1 rfl (by kernel_rfl)) follows ?_)
 intro args ret Hc h
 unfold EH at h
 split at h
 ·rename_i s
  obtain ⟨h0,h⟩:=C7 h
  obtain ⟨rfl,rfl⟩:=I9 h
  obtain ⟨rr,hH,ee,qq⟩:=A92 s h0
  exact ⟨rfl,rfl,rfl,1,rr,hH,(A91 LF noY () 0 s).trans ee,qq⟩
 ·cases h
end
end
section
open Go Go.Proofs Go.Sort
set_option maxRecDepth 100000
theorem A11:B3 Tryz.prog GX 159 IY:=by
 refine B3.fix (pf:=Qx) _ (O6 (fn:=Tryz.f159) (by kernel_rfl) (by kernel_rfl) (by kernel_rfl) ?_)
 intro args ret Hc h
 unfold Qx at h
 split at h
 ·rename_i s
  obtain ⟨h0,h⟩:=C7 h
  obtain ⟨rfl,rfl⟩:=I9 h
  refine ⟨rfl,rfl,λC hP hCG Γ w Vs hG hlt hc=>?_⟩
  obtain ⟨U,rfl,hu⟩:=hc.arr1
  obtain ⟨s',rfl,rfl⟩:=hu.inv_str
  have hs:=M3 h0
  refine (Any.utf8_ValidString Tryz.lays196 s' w (by simp at hs;omega) (A42 hG hCG)).mono ?_
  rintro e w' ⟨rfl,hb⟩
  rw [<-VU]
  exact ⟨_,rfl,hb,VP.mk_bool _⟩
 ·cases h
theorem A10:B3 Tryz.prog GX 160 IX:=by
 refine B3.fix (pf:=Qw) _ (O6 (fn:=Tryz.f160) (by kernel_rfl) (by kernel_rfl) (by kernel_rfl) ?_)
 intro args ret Hc h
 unfold Qw at h
 split at h
 ·rename_i s
  obtain ⟨h0,h⟩:=C7 h
  obtain ⟨rfl,rfl⟩:=I9 h
  refine ⟨rfl,rfl,λC hP hCG Γ w Vs hG hlt hc=>?_⟩
  obtain ⟨U,rfl,hu⟩:=hc.arr1
  obtain ⟨s',rfl,rfl⟩:=hu.inv_str
  have hs:=M3 h0
  refine (Any.utf8_RuneCountInString Tryz.lays195 s' w (by simp at hs;omega)).mono ?_
  rintro e w' ⟨rfl,pos,rfl⟩
  rw [Lib.runeCountL_eq]
  exact ⟨_,rfl,OZ _ _ _,VP.mk_int _ _⟩
 ·cases h
theorem Be1:B3 Tryz.prog GX 107 Nj:=λargs ret Hc h=>by
 have:J2 (Nj args)=none:=by unfold Nj IS;split<;>rfl
 rw [this] at h;cases h
theorem ZL:IR Tryz.prog GX 106 Nl:=by
 refine Uc (C₀:=U9 LF) ((L4.ok (l:=[(107,Nj),(108,We)]) rfl ⟨Be1,WB,trivial⟩)) (G1 rfl (by kernel_rfl)) follows ?_
 intro args H L h σ yh s s' hr
 unfold Nl at h
 split at h
 ·rename_i p t n
  simp only [Option.some.injEq,Prod.mk.injEq] at h
  obtain ⟨h1,rfl⟩:=h
  obtain ⟨t',f⟩:=VI (R:=PV × List Blk × σ) yh p t n s s' h1 hr
  exact ⟨1,_,(Ax5 LF yh 0 p t n s).trans (f _)⟩
 ·cases h
end
section
open Go Go.Proofs
set_option maxRecDepth 100000
section
theorem Be7:B3 Tryz.prog GX 131 WL:=xf [] (Gu LF) Vn rfl ⟨Bo4,A02,trivial⟩ rfl (by kernel_rfl) follows λargs=>by
 unfold Vn;split
 ·rename_i s;exact λh0=>⟨rfl,rfl,rfl,_,_,(As7 LF noY () 0 s).trans (RT s h0),rfl⟩
 ·trivial
theorem A01:B3 Tryz.prog GX 94 EB:=xf [] (Mn LF) EC rfl ⟨Bn1,Be7,trivial⟩ rfl (by kernel_rfl) follows λargs=>by
 unfold EC;split
 ·rename_i s;exact λh0=>⟨rfl,rfl,rfl,_,_,(A77 LF noY () 0 s).trans (Ad8 s h0),rfl⟩
 ·trivial
theorem Bn5:B3 Tryz.prog GX 118 Aj9:=xf [0,0] (Ix LF) DM rfl ⟨A11,A10,Az9,A02,A01,trivial⟩ rfl (by kernel_rfl) follows λargs=>by
 unfold DM;split
 ·rename_i s;exact λh0=>(let ⟨rr,hH,ee,qq⟩:=A55 s h0;⟨rfl,rfl,rfl,rr,hH,(A54 LF noY () 0 s).trans ee,qq⟩)
 ·trivial
theorem Bn3:B3 Tryz.prog GX 156 Aj8:=xf [] (Ew LF) DH rfl trivial rfl (by kernel_rfl) follows λargs=>by
 unfold DH;split
 ·rename_i b;exact λh0=>⟨rfl,rfl,rfl,_,_,(A46 LF noY () 0 b).trans (Aa9 b h0),rfl⟩
 ·trivial
theorem Bn2:B3 Tryz.prog GX 114 Aj7:=xf [0,0] (Mg LF) DG rfl ⟨Bn3,trivial⟩ rfl (by kernel_rfl) follows λargs=>by
 unfold DG;split
 ·rename_i s;exact λh0=>(let ⟨rr,hH,ee,qq⟩:=A44 s h0;⟨rfl,rfl,rfl,rr,hH,(A43 LF noY () 0 s).trans ee,qq⟩)
 ·trivial
theorem Be8:B3 Tryz.prog GX 81 DZ:=by
 refine B3.fix (pf:=Vo) _ (P5 (C₀:=FT LF) (L4.ok (l:=[]) rfl trivial) (G1 rfl (by kernel_rfl)) follows ?_)
 intro args ret Hc h
 unfold Vo at h
 split at h
 ·rename_i t p n
  obtain ⟨rfl,rfl⟩:=I9 h
  have e:=(As9 LF noY () 0 t p n).trans (RU t p n )
  exact ⟨rfl,1,_,[],e,rfl,rfl⟩
 ·cases h
theorem A08:B3 Tryz.prog GX 49 FE:=by
 refine B3.fix (pf:=FF) _ (P5 (C₀:=PU LF) (L4.ok (l:=[(81,DZ)]) rfl ⟨Be8,trivial⟩) (G1 rfl (by kernel_rfl)) follows ?_)
 intro args ret Hc h
 unfold FF at h
 split at h
 ·rename_i t p
  obtain ⟨rfl,rfl⟩:=I9 h
  have e:=(Bc8 LF noY () 0 t p).trans (Ai0 t p )
  exact ⟨rfl,1,_,[],e,rfl,rfl⟩
 ·cases h
theorem Bh9:B3 Tryz.prog GX 59 WF:=by
 refine B3.fix (pf:=OE) _ (N7 [] (C₀:=Iw LF) (Fo (lx:=[(93,Kd),(49,FE),(94,EB)]) (ly:=[]) (ls:=[(106,Nl)]) rfl rfl rfl ⟨DA,A08,A01,trivial⟩ trivial ⟨ZL,trivial⟩) (G1 rfl (by kernel_rfl)) follows ?_)
 intro args ret Hc h
 unfold OE at h
 split at h
 ·rename_i s
  obtain ⟨h0,h⟩:=C7 h
  obtain ⟨rfl,rfl⟩:=I9 h
  obtain ⟨rr,hH,ee,qq⟩:=Bk5 s h0
  exact ⟨rfl,rfl,rfl,1,rr,hH,(Bk4 LF noY () 0 s).trans ee,qq⟩
 ·cases h
theorem VX:B3 Tryz.prog GX 41 Ql:=by
 refine B3.fix (pf:=DK) _ (P5 (C₀:=PH LF) (L4.ok (l:=[]) rfl trivial) (G1 rfl (by kernel_rfl)) follows ?_)
 intro args ret Hc h
 unfold DK at h
 split at h
 ·rename_i t
  obtain ⟨rfl,rfl⟩:=I9 h
  have e:=(A50 LF noY () 0 t).trans (Ab3 t )
  exact ⟨rfl,1,_,[],e,rfl,rfl⟩
 ·cases h
end
section
theorem Bo2:B3 Tryz.prog GX 143 Ak4:=xf [] (PO LF) EE rfl trivial rfl (by kernel_rfl) follows λargs=>by
 unfold EE;split
 ·rename_i s;exact ⟨rfl,rfl,rfl,_,_,(A81 LF noY () 0 s).trans (Ae0 s ),rfl⟩
 ·trivial
theorem Bo1:B3 Tryz.prog GX 144 Ak3:=xf [] (PN LF) ED rfl trivial rfl (by kernel_rfl) follows λargs=>by
 unfold ED;split
 ·rename_i n;exact ⟨rfl,rfl,rfl,_,_,(A79 LF noY () 0 n).trans (Ad9 n ),rfl⟩
 ·trivial
theorem Bs1:B3 Tryz.prog GX 98 Bg4:=xf [] (An1 LF) OA rfl ⟨Bo2,trivial⟩ rfl (by kernel_rfl) follows λargs=>by
 unfold OA;split
 ·rename_i s p;exact ⟨rfl,rfl,rfl,_,_,(Bj4 LF noY () 0 s p).trans (An6 s p ),rfl⟩
 ·trivial
theorem Bs0:B3 Tryz.prog GX 99 Bg3:=xf [] (An0 LF) NZ rfl ⟨Bo1,trivial⟩ rfl (by kernel_rfl) follows λargs=>by
 unfold NZ;split
 ·rename_i n m;exact ⟨rfl,rfl,rfl,_,_,(Bj3 LF noY () 0 n m).trans (An5 n m ),rfl⟩
 ·trivial
theorem Bo3:B3 Tryz.prog GX 63 Ak5:=xf [] (Mo LF) EG rfl ⟨ZJ,Bs1,Bs0,trivial⟩ rfl (by kernel_rfl) follows λargs=>by
 unfold EG;split
 ·rename_i s p;exact λh0=>λh1=>⟨rfl,rfl,rfl,_,_,(A89 LF noY () 0 s p).trans (Ae7 s p h0 h1),rfl⟩
 ·trivial
theorem Bn9:B3 Tryz.prog GX 58 Ak1:=xf [] (PK LF) DV rfl ⟨Bh9,trivial⟩ rfl (by kernel_rfl) follows λargs=>by
 unfold DV;split
 ·rename_i h b;exact λh0=>(let ⟨rr,hH,ee,qq⟩:=A67 h b h0;⟨rfl,rfl,rfl,rr,hH,(A66 LF noY () 0 h b).trans ee,qq⟩)
 ·trivial
theorem Bs4:B3 Tryz.prog GX 66 Bg7:=xf [] (An2 LF) OI rfl ⟨Bo3,trivial⟩ rfl (by kernel_rfl) follows λargs=>by
 unfold OI;split
 ·rename_i h b s;exact λh0=>λh1=>(let ⟨rr,hH,ee,qq⟩:=Bl1 h b s h0 h1;⟨rfl,rfl,rfl,rr,hH,(Bl0 LF noY () 0 h b s).trans ee,qq⟩)
 ·trivial
theorem Bn7:B3 Tryz.prog GX 92 Ak0:=xf [] (Mj LF) DT rfl ⟨Bn9,trivial⟩ rfl (by kernel_rfl) follows λargs=>by
 unfold DT;split
 ·rename_i l_z l_t l;exact λh0=>λh1=>λh2=>⟨rfl,rfl,rfl,_,_,(A64 LF noY () 0 l_z l_t l).trans (Ac8 l_z l_t l h0 h1 h2),rfl⟩
 ·trivial
theorem Az8:B3 Tryz.prog GX 57 DQ:=xf [] (PJ LF) DR rfl ⟨Bn7,trivial⟩ rfl (by kernel_rfl) follows λargs=>by
 unfold DR;split
 ·rename_i l_z l_t l;exact λh0=>λh1=>λh2=>⟨rfl,rfl,rfl,_,_,(A61 LF noY () 0 l_z l_t l).trans (Ac4 l_z l_t l h0 h1 h2),rfl⟩
 ·trivial
theorem Az7:B3 Tryz.prog GX 60 DO:=by
 refine B3.fix (pf:=DP) _ (P5 (C₀:=PI LF) (L4.ok (l:=[]) rfl trivial) (G1 rfl (by kernel_rfl)) follows ?_)
 intro args ret Hc h
 unfold DP at h
 split at h
 ·rename_i l_z l_t l
  obtain ⟨h0,h⟩:=C7 h
  obtain ⟨h1,h⟩:=C7 h
  obtain ⟨rfl,rfl⟩:=I9 h
  have e:=(A59 LF noY () 0 l_z l_t l).trans (Ac3 l_z l_t l h0 h1)
  exact ⟨rfl,1,_,[],e,rfl,rfl⟩
 ·cases h
theorem Az6:B3 Tryz.prog GX 65 OG:=xf [0,0] (Mi LF) DN rfl ⟨Bs4,trivial⟩ rfl (by kernel_rfl) follows λargs=>by
 unfold DN;split
 ·rename_i l_z l_t l q;exact λh0=>λh1=>λh2=>λh3=>⟨rfl,rfl,rfl,_,_,(A57 LF noY () 0 l_z l_t l q).trans (Ac2 l_z l_t l q h0 h1 h2 h3),rfl⟩
 ·trivial
end
end
section
open Go
theorem Tf {x:List By} (h:x≠[]):Ns [] x = -1/\Ns x []=1:=by
 cases x with
 | nil=>exact absurd rfl h
 | cons a r=>exact ⟨rfl,rfl⟩
theorem Ol (s:By):(G7 46 s = -1/\s.drop (G7 46 s+1).toNat=s/\rl s=[s])\/(0<=G7 46 s/\G7 46 s<s.length/\rl s=s.drop (G7 46 s+1).toNat::rl (s.take (G7 46 s).toNat)):=by
 rcases Aa s with ⟨h1,h2⟩ | ⟨p,q,rfl,h1,h2⟩
 ·exact .inl ⟨h2,by rw [h2];rfl,Yx h1⟩
 ·refine .inr ⟨by omega,by rw [h2];simp;omega,?_⟩
  rw [h2,Yy p h1,show ((p.length:Int)+1).toNat=p.length+1 by omega,Int.toNat_natCast,List.take_left]
  congr 1
  simp
theorem An8 (a b:By) (i k:Int) (hi:i=G7 46 a) (hk:k=G7 46 b) :
  (T3 (a.drop (i+1).toNat) (b.drop (k+1).toNat)≠0->O7 a b=T3 (a.drop (i+1).toNat) (b.drop (k+1).toNat))/\
  (T3 (a.drop (i+1).toNat) (b.drop (k+1).toNat)=0->(i<0\/k<0)->O7 a b=GD (min i 0) (min k 0))/\
  (T3 (a.drop (i+1).toNat) (b.drop (k+1).toNat)=0->0<=i->0<=k->O7 a b=O7 (a.take i.toNat) (b.take k.toNat)):=by
 have hcmp:∀ x y:By,O7 x y=Ns (rl x) (rl y):=λx y=>rfl
 rw [hcmp,hcmp]
 rcases Ol a with ⟨a1,a2,a3⟩ | ⟨a1,a2,a3⟩<;>rcases Ol b with ⟨b1,b2,b3⟩ | ⟨b1,b2,b3⟩<;>rw [<-hi] at a1 a2<;>rw [<-hk] at b1 b2
 ·rw [a2,b2,a3,b3]
  refine ⟨λh=>L8 h,λh _=>?_,λ_ h=>by omega⟩
  rw [T4 h,L7,a1,b1]
  rfl
 ·rw [<-hk] at b3
  rw [a2,a3,b3]
  refine ⟨λh=>L8 h,λh _=>?_,λ_ h=>by omega⟩
  rw [T4 h,L7,(Tf (YV _)).1,a1,Int.min_eq_right b1]
  rfl
 ·rw [<-hi] at a3
  rw [b2,b3,a3]
  refine ⟨λh=>L8 h,λh _=>?_,λ_ _ h=>by omega⟩
  rw [T4 h,L7,(Tf (YV _)).2,b1,Int.min_eq_right a1]
  rfl
 ·rw [<-hi] at a3
  rw [<-hk] at b3
  rw [a3,b3]
  refine ⟨λh=>L8 h,λh hn=>by omega,λh _ _=>?_⟩
  rw [T4 h,L7]
end
section
open Go Go.Proofs Go.RowKit
set_option maxRecDepth 100000
theorem Bm7 (x:ByteArray) (w:World):Calls Tryz.prog 143 #[.string x] w λe w'=>e = .returned (.bool false)/\w'=w:=by
 go_enter Tryz.func143,Tryz.ntmps143
 go_wp2
 go_ret
 exact ⟨by simp,rfl⟩
theorem Bm6 (x:Int) (w:World):Calls Tryz.prog 144 #[.int .i64 x] w λe w'=>e = .returned (.bool false)/\w'=w:=by
 go_enter Tryz.func144,Tryz.ntmps144
 go_wp2
 go_ret
 exact ⟨by simp,rfl⟩
theorem A24 (x y:Int):GD x y=if x<y then -1 else if y<x then 1 else 0:=by
 unfold GD
 rw [Bf,Bf]
 by_cases h:x<y<;>by_cases g:y<x<;>simp [h,g]
theorem Br7 (x y:Int) (w:World):Calls Tryz.prog 99 #[.int .i64 x,.int .i64 y] w λe w'=>e = .returned (.int .i64 (GD x y))/\w'=w:=by
 have e7:∀ args w,(callFunc 144 args).run Tryz.prog w = .ok (.enter 144 args) w:=enters_of Tryz.func144 (by kernel_rfl) rfl
 go_enter Tryz.func99,Tryz.ntmps99
 go_wp2_with (go_at_fn 144;refine (Bm6 _ _).mono ?_;rintro e w' ⟨rfl,hw⟩;rw [hw])
 all_goals (go_ret;refine ⟨?_,rfl⟩;rw [A24];(repeat' split)<;>first | rfl | (exfalso;omega))
theorem A23 (x y:ByteArray):T3 x.data.toList y.data.toList=if Op.bytesLess x.toList y.toList=true then -1 else if (!x.toList==y.toList)=true then 1 else 0:=by
 rw [ByteArray.toList_eq,ByteArray.toList_eq,<-Np]
 generalize x.data.toList=a
 generalize y.data.toList=b
 unfold T3
 cases h:bytesLess a b with
 | true=>rfl
 | false=>
  have e:(!a==b)=bytesLess b a:=by
   rw [T1] at h ⊢
   have h:=of_decide_eq_false h
   by_cases hab:a=b
   ·subst hab;simp
   ·have:b<a:=by
     apply Decidable.byContradiction
     intro g
     exact hab (List.le_antisymm (List.not_lt.1 g) (List.not_lt.1 h))
    simp [hab,this]
  rw [e]
  cases bytesLess b a<;>rfl
theorem Br8 (x y:ByteArray) (w:World):Calls Tryz.prog 98 #[.string x,.string y] w λe w'=>e = .returned (.int .i64 (T3 x.data.toList y.data.toList))/\w'=w:=by
 have e7:∀ args w,(callFunc 143 args).run Tryz.prog w = .ok (.enter 143 args) w:=enters_of Tryz.func143 (by kernel_rfl) rfl
 go_enter Tryz.func98,Tryz.ntmps98
 go_wp2_with (go_at_fn 143;refine (Bm7 _ _).mono ?_;rintro e w' ⟨rfl,hw⟩;rw [hw])
 all_goals (go_ret;refine ⟨?_,rfl⟩;rw [A23];(try simp [*]))
theorem Ar1 (s:ByteArray):Lib.lastIndexByte s 46=G7 46 s.data.toList:=by
 have hsz:s.size=s.data.toList.length:=by rw [Array.length_toList];rfl
 have hb:∀ j (hj:j<s.data.toList.length),((s.data[j]!).toNat:Int)=46↔s.data.toList[j]=46:=λj hj=>by
  have hj':j<s.data.size:=by simpa using hj
  rw [getElem!_pos s.data j hj',Array.getElem_toList]
  constructor
  ·intro h
   exact UInt8.toNat_inj.1 (show s.data[j].toNat=46 by omega)
  ·intro h
   rw [h]
   rfl
 rcases Lib.lastIndexByte_spec s 46 with ⟨e,hn⟩ | ⟨i,hi,e,hc,hn⟩
 ·rw [e]
  rcases Aa s.data.toList with ⟨_,h2⟩ | ⟨p,q,h1,h2,h3⟩
  ·exact h2.symm
  ·have hp:p.length<s.data.toList.length:=by rw [h1];simp
   exact absurd ((hb p.length hp).2 (by simp [h1])) (hn p.length (by omega))
 ·rw [e]
  have hi':i<s.data.toList.length:=by omega
  have hci:=(hb i hi').1 hc
  rcases Aa s.data.toList with ⟨h1,_⟩ | ⟨p,q,h1,h2,h3⟩
  ·exact absurd (hci ▸ List.getElem_mem hi') h1
  ·rw [h3]
   have hp:p.length<s.data.toList.length:=by rw [h1];simp
   have hcp:=(hb p.length hp).2 (by simp [h1])
   by_cases h4:i<p.length
   ·exact absurd hcp (hn p.length h4 (by omega))
   ·by_cases h5:p.length<i
    ·refine absurd ?_ h2
     have:s.data.toList[i]? = some 46:=by rw [List.getElem?_eq_getElem hi',hci]
     rw [h1,List.getElem?_append_right (by omega),show i-p.length=(i-p.length-1)+1 by omega,List.getElem?_cons_succ] at this
     exact List.mem_of_getElem? this
    ·omega
theorem Ay6 (s:ByteArray) (hs:s.size<4611686018427387904) (w:World):Calls Tryz.prog 97 #[.string s,.int .u8 46] w λe w'=>e = .returned (.int .i64 (G7 46 s.data.toList))/\w'=w:=by
 rw [<-Ar1]
 exact Any.strings_LastIndexByte Tryz.lays149 s 46 hs w
theorem NK (s:ByteArray) (l:Int) (h0:0<=l) (h1:l<=s.size) (w:World):(Instr.sliceAt 9 (.string s) (some (.int .i64 l)) none none).run Tryz.prog w = .ok (.string (s.extract l.toNat s.size)) w:=by
 simp [Instr.sliceAt,Instr.slice,run_underlying Tryz.underlying9,Instr.sliceBounds,run_sliceBound,Result.andThen,h0,h1]
theorem Ax7 (s:ByteArray) (l:Int) (h0:0<=l) (h1:l<=s.size) (w:World):(Instr.sliceAt 9 (.string s) none (some (.int .i64 l)) none).run Tryz.prog w = .ok (.string (s.extract 0 l.toNat)) w:=by
 simp [Instr.sliceAt,Instr.slice,run_underlying Tryz.underlying9,Instr.sliceBounds,run_sliceBound,Result.andThen,h0,h1]
theorem JZ (s:ByteArray) (n:Nat):(s.extract n s.size).data.toList=s.data.toList.drop n:=by
 rw [ByteArray.data_extract,Array.toList_extract]
 simp only [List.extract]
 exact List.take_of_length_le (by rw [List.length_drop,Array.length_toList];exact Nat.le_refl _)
theorem Ap3 (s:ByteArray) (n:Nat):(s.extract 0 n).data.toList=s.data.toList.take n:=by
 rw [ByteArray.data_extract,Array.toList_extract]
 simp [List.extract]
set_option maxHeartbeats 4000000 in theorem Bm9 (a b:ByteArray) (ha:a.size<=1000000000) (hb:b.size<=1000000000) (w:World):Calls Tryz.prog 63 #[.string a,.string b] w λe w'=>e = .returned (.int .i64 (O7 a.data.toList b.data.toList))/\∃ q,w'=w.drewN q:=by
 have eL:∀ args w,(callFunc 97 args).run Tryz.prog w = .ok (.enter 97 args) w:=enters_of Tryz.func97 (by kernel_rfl) rfl
 have eS:∀ args w,(callFunc 98 args).run Tryz.prog w = .ok (.enter 98 args) w:=enters_of Tryz.func98 (by kernel_rfl) rfl
 have eI:∀ args w,(callFunc 99 args).run Tryz.prog w = .ok (.enter 99 args) w:=enters_of Tryz.func99 (by kernel_rfl) rfl
 go_enter Tryz.func63,Tryz.ntmps63
 go_wp2
 go_step3
 go_wp2
 try go_step3
 try go_wp2
 go_loopw [0,1] (λva vb wr=>∃ (x y:ByteArray) (n:Nat),va = .string x/\vb = .string y/\x.size<=1000000000/\y.size<=1000000000/\wr=w.drewN n/\Hid (O7 a.data.toList b.data.toList=O7 x.data.toList y.data.toList)) (λva _ _=>match va with | .string x=>x.size | _=>0)
 case atStart=>exact ⟨a,b,0,rfl,rfl,ha,hb,rfl,rfl⟩
 case round=>
  obtain ⟨x,y,n,rfl,rfl,hx,hy,hwr,hh⟩:=hrel
  obtain ⟨i,hi⟩:∃ i,i=G7 46 x.data.toList:=⟨_,rfl⟩
  obtain ⟨k,hk⟩:∃ k,k=G7 46 y.data.toList:=⟨_,rfl⟩
  have hxl:x.data.toList.length=x.size:=by rw [Array.length_toList];rfl
  have hyl:y.data.toList.length=y.size:=by rw [Array.length_toList];rfl
  have hi1:-1<=i/\i<x.size:=by rcases Ol x.data.toList with ⟨h,_⟩ | ⟨h,h',_⟩<;>omega
  have hk1:-1<=k/\k<y.size:=by rcases Ol y.data.toList with ⟨h,_⟩ | ⟨h,h',_⟩<;>omega
  obtain ⟨hi1,hi2⟩:=hi1
  obtain ⟨hk1,hk2⟩:=hk1
  have wx:∀ w,Calls Tryz.prog 97 #[.string x,.int .u8 46] w λe w'=>e = .returned (.int .i64 i)/\w'=w:=by rw [hi];exact Ay6 x (by omega)
  have wy:∀ w,Calls Tryz.prog 97 #[.string y,.int .u8 46] w λe w'=>e = .returned (.int .i64 k)/\w'=w:=by rw [hk];exact Ay6 y (by omega)
  have HI:Hid (i=G7 46 x.data.toList):=hi
  have HK:Hid (k=G7 46 y.data.toList):=hk
  have HW:Hid (wr=w.drewN n):=hwr
  clear hi hk hxl hyl hwr
  go_wp2_with (go_at_fn 97;refine (wx _).mono ?_;rintro e w' ⟨rfl,hw⟩;rw [hw])
  clear wx
  go_wp2_with (go_at_fn 97;refine (wy _).mono ?_;rintro e w' ⟨rfl,hw⟩;rw [hw])
  clear wy
  have ei:IntKind.i64.wrap (i+1)=i+1:=by simp [IntKind.wrap,IntKind.bits,IntKind.signed];omega
  have ek:IntKind.i64.wrap (k+1)=k+1:=by simp [IntKind.wrap,IntKind.bits,IntKind.signed];omega
  have s1:=NK x (i+1) (by omega) (by omega)
  have s2:=NK y (k+1) (by omega) (by omega)
  go_quiet (first | (go_at_call 98;exact Calls.quiet_of_same (Br8 _ _ _)))
  rw [JZ,JZ]
  obtain ⟨c,hc⟩:∃ c,c=T3 (x.data.toList.drop (i+1).toNat) (y.data.toList.drop (k+1).toNat):=⟨_,rfl⟩
  rw [<-hc]
  have HC:Hid (c=T3 (x.data.toList.drop (i+1).toNat) (y.data.toList.drop (k+1).toNat)):=hc
  clear hc s1 s2 ei ek eS
  obtain ⟨w2,hw2⟩:∃ w2,w2=wr.drewN nq:=⟨_,rfl⟩
  rw [<-hw2]
  have HW2:Hid (w2=w.drewN (n+nq)):=by rw [hw2,HW.out,World.drewN_drewN];rfl
  clear hw2
  generalize n+nq=n2 at HW2
  have FIN:Hid (∀ v,v=O7 x.data.toList y.data.toList->(Ending.returned (.int .i64 v)=Ending.returned (.int .i64 (O7 a.data.toList b.data.toList))/\∃ m,w2=w.drewN m)):=λv hv=>⟨by rw [hh.out,hv],n2,HW2.out⟩
  have st:=An8 x.data.toList y.data.toList i k HI.out HK.out
  rw [<-HC.out] at st
  have ST:Hid (_/\_/\_):=st
  clear st
  go_wp2_with (go_at_fn 99;refine (Br7 _ _ _).mono ?_;rintro e w' ⟨rfl,hw⟩;rw [hw])
  ·have hc0:c≠0:=by simpa using ‹(c != 0)=true›
   simp only [Exit.noGoto_ret]
   go_ret
   exact FIN.out _ (ST.out.1 hc0).symm
  ·have hc0:c=0:=by simpa using ‹(c != 0)=false›
   simp only [Exit.noGoto_ret]
   go_ret
   exact FIN.out _ (ST.out.2.1 hc0 (by omega)).symm
  ·have hc0:c=0:=by simpa using ‹(c != 0)=false›
   have s3:=Ax7 x i (by omega) (by omega)
   have s4:=Ax7 y k (by omega) (by omega)
   have E:=ST.out.2.2 hc0 (by omega) (by omega)
   have HE:Hid (O7 x.data.toList y.data.toList=O7 (x.data.toList.take i.toNat) (y.data.toList.take k.toNat)):=E
   clear E
   go_quiet (fail)
   go_wp2
   go_roundw
   case rel=>exact ⟨x.extract 0 i.toNat,y.extract 0 k.toNat,n2+nq,rfl,rfl,by simp [ByteArray.size_extract];omega,by simp [ByteArray.size_extract];omega,by rw [HW2.out,World.drewN_drewN],by rw [hh.out,HE.out,Ap3,Ap3];rfl⟩
   case measure=>simp [ByteArray.size_extract];omega
  ·have hc0:c=0:=by simpa using ‹(c != 0)=false›
   simp only [Exit.noGoto_ret]
   go_ret
   exact FIN.out _ (ST.out.2.1 hc0 (by omega)).symm
theorem Aq2 (w:World) (A B:Obj) (n:Nat):((w.alloc A).alloc B).drewN n=Sort.grow (w.drewN n) #[A,B]:=by
 have h:(w.heap.push A).push B=w.heap++#[A,B]:=by apply Array.toList_inj.1;simp
 show ({ (w.drewN n) with heap:=(w.heap.push A).push B }:World) = { (w.drewN n) with heap:=w.heap++#[A,B] }
 rw [h]
theorem Bm8 (a b:ByteArray) (p q:Bool) (ha:a.size<=1000000000) (hb:b.size<=1000000000) (w:World):Calls Tryz.prog 62 #[.agg #[.string a,.bool p],.agg #[.string b,.bool q]] w λe w'=>e = .returned (.int .i64 (O7 a.data.toList b.data.toList))/\∃ n os,w'=Sort.grow (w.drewN n) os:=by
 have eC:∀ args w,(callFunc 63 args).run Tryz.prog w = .ok (.enter 63 args) w:=enters_of Tryz.func63 (by kernel_rfl) rfl
 go_enter Tryz.func62,Tryz.ntmps62
 go_wp2_with (go_at_fn 63;refine (Bm9 _ _ ha hb _).mono ?_;rintro e w' ⟨rfl,m0,hw⟩;rw [hw])
 go_ret
 refine ⟨rfl,m0,#[.cells #[.string a,.bool p] 63,.cells #[.string b,.bool q] 63],?_⟩
 exact Aq2 _ _ _ _
end
end Go.Proofs.YtelhbgonncceeaaGreatDoor.E
namespace Go.Proofs
open Go.Shelf
def Tryz.sortEnt_ren:Go.Shelf.Ren:=⟨fun | 6=>61 | 15=>96 | 14=>95 | 28=>140 | 29=>141 | 20=>132 | 21=>133 | 22=>134 | 23=>135 | 24=>136 | 25=>137 | 26=>138 | 27=>139 | 46=>171 | 47=>172 | 48=>173 | 49=>174 | 50=>175 | 57=>190 | n=>n,fun | 22=>23 | 24=>63 | 25=>103 | 3=>3 | 39=>139 | 0=>0 | 53=>24 | 55=>168 | 4=>4 | 46=>161 | 45=>160 | 50=>84 | 5=>5 | 9=>9 | 66=>182 | 70=>186 | 76=>201 | 77=>202 | n=>n,fun | n=>n⟩
theorem Tryz.sortEnt:Go.Proofs.SlLaysF0.n6 Tryz.prog Tryz.sortEnt_ren:={
 mixed:=by kernel_rfl
 f6:=⟨Tryz.f61.name,by decide,Tryz.func61.trans (congrArg some (by kernel_rfl))⟩
 f14:=⟨Tryz.f95.name,by decide,Tryz.func95.trans (congrArg some (by kernel_rfl))⟩
 f15:=Tryz.func96.trans (congrArg some (by kernel_rfl))
 f20:=⟨Tryz.f132.name,by decide,Tryz.func132.trans (congrArg some (by kernel_rfl))⟩
 f21:=⟨Tryz.f133.name,by decide,Tryz.func133.trans (congrArg some (by kernel_rfl))⟩
 f22:=⟨Tryz.f134.name,by decide,Tryz.func134.trans (congrArg some (by kernel_rfl))⟩
 f23:=⟨Tryz.f135.name,by decide,Tryz.func135.trans (congrArg some (by kernel_rfl))⟩
 f24:=⟨Tryz.f136.name,by decide,Tryz.func136.trans (congrArg some (by kernel_rfl))⟩
 f25:=⟨Tryz.f137.name,by decide,Tryz.func137.trans (congrArg some (by kernel_rfl))⟩
 f26:=⟨Tryz.f138.name,by decide,Tryz.func138.trans (congrArg some (by kernel_rfl))⟩
 f27:=⟨Tryz.f139.name,by decide,Tryz.func139.trans (congrArg some (by kernel_rfl))⟩
 f28:=Tryz.func140.trans (congrArg some (by kernel_rfl))
 f29:=Tryz.func141.trans (congrArg some (by kernel_rfl))
 f46:=⟨Tryz.f171.name,by decide,Tryz.func171.trans (congrArg some (by kernel_rfl))⟩
 f47:=Tryz.func172.trans (congrArg some (by kernel_rfl))
 f48:=Tryz.func173.trans (congrArg some (by kernel_rfl))
 f49:=⟨Tryz.f174.name,by decide,Tryz.func174.trans (congrArg some (by kernel_rfl))⟩
 f50:=⟨Tryz.f175.name,by decide,Tryz.func175.trans (congrArg some (by kernel_rfl))⟩
 f57:=⟨Tryz.f190.name,by decide,Tryz.func190.trans (congrArg some (by kernel_rfl))⟩
 t0:=Tryz.underlying0
 a0:=Tryz.isAgg0
 z0:=Tryz.sizeOf0
 v0:=Tryz.zeroValue0
 t3:=Tryz.underlying3
 a3:=Tryz.isAgg3
 z3:=Tryz.sizeOf3
 v3:=Tryz.zeroValue3
 t4:=Tryz.underlying4
 a4:=Tryz.isAgg4
 z4:=Tryz.sizeOf4
 v4:=Tryz.zeroValue4
 t5:=Tryz.underlying5
 a5:=Tryz.isAgg5
 z5:=Tryz.sizeOf5
 v5:=Tryz.zeroValue5
 t9:=Tryz.underlying9
 a9:=Tryz.isAgg9
 z9:=Tryz.sizeOf9
 v9:=Tryz.zeroValue9
 t22:=Tryz.underlying23
 a22:=Tryz.isAgg23
 z22:=Tryz.sizeOf23
 v22:=Tryz.zeroValue23
 t25:=Tryz.underlying103
 a25:=Tryz.isAgg103
 z25:=Tryz.sizeOf103
 v25:=Tryz.zeroValue103
 t39:=Tryz.underlying139
 a39:=Tryz.isAgg139
 z39:=Tryz.sizeOf139
 v39:=Tryz.zeroValue139
 t45:=Tryz.underlying160
 a45:=Tryz.isAgg160
 z45:=Tryz.sizeOf160
 v45:=Tryz.zeroValue160
 t46:=Tryz.underlying161
 a46:=Tryz.isAgg161
 z46:=Tryz.sizeOf161
 v46:=Tryz.zeroValue161
 t50:=Tryz.underlying84
 a50:=Tryz.isAgg84
 z50:=Tryz.sizeOf84
 v50:=Tryz.zeroValue84
 t53:=Tryz.underlying24
 a53:=Tryz.isAgg24
 z53:=Tryz.sizeOf24
 v53:=Tryz.zeroValue24
 t55:=Tryz.underlying168
 a55:=Tryz.isAgg168
 z55:=Tryz.sizeOf168
 v55:=Tryz.zeroValue168
 t66:=Tryz.underlying182
 a66:=Tryz.isAgg182
 z66:=Tryz.sizeOf182
 v66:=Tryz.zeroValue182
 t70:=Tryz.underlying186
 a70:=Tryz.isAgg186
 z70:=Tryz.sizeOf186
 v70:=Tryz.zeroValue186
 t76:=Tryz.underlying201
 a76:=Tryz.isAgg201
 z76:=Tryz.sizeOf201
 v76:=Tryz.zeroValue201
 t77:=Tryz.underlying202
 a77:=Tryz.isAgg202
 z77:=Tryz.sizeOf202
 v77:=Tryz.zeroValue202 }
end Go.Proofs
namespace Go.Proofs.YtelhbgonncceeaaGreatDoor.E
set_option linter.all false
section
open Go Go.Proofs Go.RowKit Go.Sort
set_option maxRecDepth 100000
abbrev cfE:Lp->Lp->Int:=λx y=>O7 x.1.1 y.1.1
def Oc (e:Lp):List Value:=[.string ⟨e.1.1.toArray⟩,.bool e.1.2]
theorem An7 (blk off size:Nat) (w:World):CmpLays Tryz.prog 62 #[] Oc 2 cfE blk off size w:=by
 intro m os dk hs x y
 have h:=Bm8 ⟨x.1.1.toArray⟩ ⟨y.1.1.toArray⟩ x.1.2 y.1.2 (by have:=x.2;simpa [ByteArray.size] using this) (by have:=y.2;simpa [ByteArray.size] using this) (sortWorldK Oc 2 w blk off m dk os)
 exact h
theorem Au8 {w:World} {blk e:Nat} {cur:Array Value} {fr:Nat × Nat} (h:w.heap[blk]? = some (.cells cur e fr)) (d:Array Lp) :
  (putRowK Oc 2 w blk 0 d).heap[blk]? = some (.cells (putCells id 0 (flatK Oc 2 d) cur) e fr)/\(∀ k,k≠blk->(putRowK Oc 2 w blk 0 d).heap[k]? = w.heap[k]?):=by
 unfold putRowK putRow mapBlock
 constructor
 ·simp only [Array.getElem?_modify,if_true,h,Option.map_some,onCells]
 ·intro k hk
  simp only [Array.getElem?_modify]
  rw [if_neg (λe=>hk e.symm)]
theorem Ba0 {cur:Array Value} {d:Array Lp} {i j:Nat} (hi:i<d.size) (hj:j<2) (hs:d.size*2<=cur.size):(putCells id 0 (flatK Oc 2 d) cur)[i*2+j]? = some ((Oc d[i]!)[j]!):=by
 have hlt:i*2+j<d.size*2:=by omega
 have hc:i*2+j<cur.size:=by omega
 unfold putCells
 rw [Array.getElem?_mapIdx,Array.getElem?_eq_getElem hc]
 simp only [Option.map_some,size_flatK,Nat.zero_le,true_and,Nat.zero_add,hlt,if_true,Nat.sub_zero,id]
 rw [get_flatK _ _ _ _ hlt,show (i*2+j) / 2=i by omega,show (i*2+j) % 2=j by omega]
theorem ZM:IZ Tryz.prog 61 Qo:=by
 intro St w x X els hx h
 generalize hp:Qo x els=pr at h ⊢
 obtain ⟨b,L⟩:=pr
 dsimp only at h ⊢
 unfold Qo at hp
 split at hp
 case h_2=>
  obtain ⟨rfl,_⟩:=Prod.mk.inj hp
  cases h
 have eX:X = .func (.func 62) #[] #[]:=by
  cases hx with
  | fn _ _ _ A B As Bs _ hA hB _ _ _ _=>
   have:A = #[]:=by simpa using hA
   have:B = #[]:=by simpa using hB
   simp_all
 subst eX
 obtain ⟨hb,hL⟩:=Prod.mk.inj hp
 rw [<-hb] at h
 simp only [Bool.and_eq_true] at h
 obtain ⟨h0,h1,h2⟩:=h
 have none':∀ (p:Option Addr) cap,L3 Tryz.prog ((callFunc 61 #[.slice p 0 cap,.func (.func 62) #[] #[]]).run Tryz.prog w) λV w'=>V=undef/\w'=w:=λp cap=>
  Am (fn:=Tryz.f61) (by kernel_rfl) (by kernel_rfl) (by kernel_rfl) ((AnyF.slices_SortFunc_none Tryz.sortEnt p cap _ w).mono λe w' ⟨he,hw⟩=>⟨_,he,rfl,hw⟩)
 obtain ⟨E,rfl⟩:∃ E,els=B8 E:=⟨_,Ah h0⟩
 rw [Kp] at hL
 subst hL
 have hsm:=Ax4 h1
 have hlen:=(Dv hsm).length_eq
 refine ⟨λhn=>?_,?_⟩
 ·have hE:E=[]:=by
   cases E with
   | nil=>rfl
   | cons a r=>cases hn
  subst hE
  refine (none' none 0).mono λV w' ⟨hv,hw⟩=>⟨hv,?_,hw ▸ J4.refl _⟩
  have:S6 []=[]:=List.length_eq_zero_iff.1 hlen
  rw [this];rfl
 intro g0 cur e sz cap hg hcs hle hcap hst hlt hsz hcells
 by_cases hn:E=[]
 ·subst hn
  have hs0:S6 []=[]:=List.length_eq_zero_iff.1 hlen
  refine (none' _ cap).mono λV w' ⟨hv,hw⟩=>?_
  rw [hw]
  rw [hs0]
  exact ⟨hv,rfl,w,cur,hg,rfl,λ_ _=>rfl,rfl,rfl,rfl,rfl,λi h=>absurd h (Nat.not_lt_zero _),λi h=>absurd h (Nat.not_lt_zero _),J4.refl _⟩
 have hE:0<E.length:=List.length_pos_iff.2 hn
 have hel:∀ i (h:i<(B8 E).length),(B8 E)[i]=Rp (E[i]'(by simpa using h)):=λi h=>by simp [B8]
 have hs2:sz=2:=by
  have:=hsz 0 (by simpa using hE)
  rw [<-this,hel];rfl
 subst hs2
 obtain ⟨d,hd⟩:∃ d,(E.map mkS).toArray=d:=⟨_,rfl⟩
 have dsz:d.size=E.length:=by rw [<-hd];simp
 have dval:∀ i (hi:i<E.length),(d[i]!).1=E[i]:=λi hi=>by
  subst hd
  rw [getElem!_pos _ _ (by simpa using hi)]
  simp only [List.getElem_toArray,List.getElem_map]
  exact YM (hsm _ (List.getElem_mem hi))
 have hcell:∀ t,t<d.size*2->cur[t]? = some ((Oc d[t / 2]!)[t % 2]!):=λt ht=>by
  have hi:t / 2<E.length:=by omega
  have hi':t / 2<(B8 E).length:=by simpa using hi
  have hl:((B8 E)[t / 2]).length=2:=by rw [hel];rfl
  obtain ⟨V,hV,hs⟩:=hcells (t / 2) hi' (t % 2) (by rw [hl];omega)
  rw [show t / 2*2+t % 2=t by omega] at hV
  have hx:((B8 E)[t / 2][t % 2]'(by rw [hl];omega))=(Rp E[t / 2])[t % 2]'(by show t % 2<2;omega):=by simp only [hel]
  rw [hx] at hs
  rw [hV]
  have dv:=dval _ hi
  rcases (show t % 2=0\/t % 2=1 by omega) with h | h
  ·have hs:VS St w (.str (E[t / 2]).1) V:=by simpa [h,Rp] using hs
   obtain ⟨s,hV2,hs2⟩:=hs.inv_str
   rw [hV2,h]
   show _=some (Value.string ⟨(d[t / 2]!).1.1.toArray⟩)
   rw [dv,<-hs2]
  ·have hs:VS St w (.bool (E[t / 2]).2) V:=by simpa [h,Rp] using hs
   rw [hs.inv_bool,h]
   show _=some (Value.bool (d[t / 2]!).1.2)
   rw [dv]
 have hH:HoldsK Oc 2 w g0 0 d:=λj hj=>by
  have hj':j<d.size*2:=by simpa using hj
  constructor
  ·simp only [World.cell?,hg,Nat.zero_add]
   rw [get_flatK _ _ _ _ hj']
   exact hcell j hj'
  ·simp [World.frozen?,hg]
 have hblk:g0<w.heap.size:=(Array.getElem?_eq_some_iff.1 hg).1
 have eg:∀ args w,(callFunc 62 args).run Tryz.prog w = .ok (.enter 62 args) w:=enters_of Tryz.func62 (by kernel_rfl) rfl
 have hm:cap<=9223372036854775807:=hcap
 have h2:(A3 (B8 E).length)=true:=h2
 have hb:d.size<4611686018427387904:=by
  have:=M3 h2
  rw [B4] at this
  omega
 have hh:=AnyQ.slices_SortFunc_eq Tryz.sortEnt 2 (λw=>by kernel_rfl) (λw=>by kernel_rfl) Oc (λ_=>rfl) (λx v hv=>by simp [Oc] at hv;rcases hv with rfl | rfl<;>rfl) cfE (NL λx:Lp=>x.1.1) 62 #[] g0 0 cap d w eg (An7 g0 0 d.size w) hH hblk hb
 have hsrt:=Zl d
 have hS:S6 E=(Fl d).toList.map (·.1):=by unfold S6;rw [hd]
 have ssz:(Fl d).size=d.size:=hsrt.2.1
 rw [show (B8 E).length=d.size by rw [B4,dsz]]
 refine Am (fn:=Tryz.f61) (by kernel_rfl) (by kernel_rfl) (by kernel_rfl) (hh.mono λe' w' ⟨he,n,os,hw⟩=>⟨_,he,rfl,by rw [B4,hlen,dsz],?_⟩)
 have hcur:cur.size=cap*2:=hcs
 have hcap2:d.size*2<=cur.size:=by
  have:(B8 E).length<=cap:=hle
  rw [B4] at this
  omega
 obtain ⟨p1,p2⟩:=Au8 hg (Fl d)
 have hel2:∀ i (h:i<(B8 (S6 E)).length),(B8 (S6 E))[i]=Rp ((Fl d)[i]!).1:=λi h=>by
  have hi:i<(Fl d).size:=by rw [B4,hlen] at h;omega
  rw [getElem!_pos (Fl d) i hi]
  simp [B8,hS]
 refine ⟨putRowK Oc 2 w g0 0 (Fl d),putCells id 0 (flatK Oc 2 (Fl d)) cur,p1,by simp [putCells],p2,by simp [putRowK,putRow,mapBlock],rfl,rfl,rfl,λi h=>by rw [hel2];rfl,λi h j h'=>?_,?_⟩
 ·have hl:((B8 (S6 E))[i]).length=2:=by rw [hel2];rfl
  have hj:j<2:=by rw [<-hl];exact h'
  have hi:i<(Fl d).size:=by rw [B4,hlen] at h;omega
  refine ⟨_,Ba0 hi hj (by omega),?_⟩
  have hx:(B8 (S6 E))[i][j]=(Rp ((Fl d)[i]!).1)[j]'(by show j<2;exact hj):=by simp only [hel2]
  rw [hx]
  rcases (show j=0\/j=1 by omega) with rfl | rfl
  ·have:=VS.str (St:=St) (w:=putRowK Oc 2 w g0 0 (Fl d)) ⟨((Fl d)[i]!).1.1.toArray⟩
   exact this
  ·exact VS.bool _
 ·rw [hw]
  refine ⟨⟨λg hgl=>heap_grow_old _ _ hgl,by simp only [sortWorldK,grow,Array.size_append];exact Nat.le_add_right _ _⟩,rfl,rfl,rfl⟩
end
section
open Go Go.Proofs Go.Sort
set_option maxRecDepth 100000
theorem IM:IR Tryz.prog GX 76 Gn:=by
 refine Uc (C₀:=Ki LF) ((L4.ok (l:=[(59,WF),(50,EY)]) rfl ⟨Bh9,A07,trivial⟩)) (G1 rfl (by kernel_rfl)) follows ?_
 intro args H L h σ yh s s' hr
 unfold Gn at h
 split at h
 ·rename_i t
  simp only [Option.some.injEq,Prod.mk.injEq] at h
  obtain ⟨h1,rfl⟩:=h
  obtain ⟨t',f⟩:=QX (R:=PV × List Blk × σ) yh t s s' h1 hr
  exact ⟨1,_,(Aq5 LF yh 0 t s).trans (f _)⟩
 ·cases h
end
section
open Go Go.Proofs
set_option maxRecDepth 100000
section
theorem Bn8:B3 Tryz.prog GX 26 OJ:=by
 refine B3.fix (pf:=DU) _ (Zt [0,0] [2] (C₀:=Ml LF) (Bi0 (lx:=[(57,DQ),(60,DO)]) (ly:=[]) (ls:=[]) (lz:=[(61,Qo)]) rfl rfl rfl rfl ⟨Az8,Az7,trivial⟩ trivial trivial ⟨ZM,trivial⟩) (G1 rfl (by kernel_rfl)) follows ?_)
 intro args ret Hc h
 unfold DU at h
 split at h
 ·rename_i l_z l_t l
  obtain ⟨h0,h⟩:=C7 h
  obtain ⟨h1,h⟩:=C7 h
  obtain ⟨h2,h⟩:=C7 h
  obtain ⟨h3,h⟩:=C7 h
  rcases NN h with ⟨h4,h⟩ | ⟨h4,h⟩
  ·skip
   obtain ⟨rfl,rfl⟩:=I9 h
   obtain ⟨rr,hH,ee,qq⟩:=YD l_z l_t l h0 h1 h2 h3 h4
   exact ⟨rfl,rfl,rfl,1,rr,hH,(YC LF noY () 0 l_z l_t l).trans ee,qq⟩
  ·skip
   obtain ⟨rfl,rfl⟩:=I9 h
   obtain ⟨rr,hH,ee,qq⟩:=YD l_z l_t l h0 h1 h2 h3 h4
   exact ⟨rfl,rfl,rfl,1,rr,hH,(YC LF noY () 0 l_z l_t l).trans ee,qq⟩
 ·cases h
theorem Be5:B3 Tryz.prog GX 28 WJ:=xf [0,0] (FR LF) Vl rfl ⟨Az6,trivial⟩ rfl (by kernel_rfl) follows λargs=>by
 unfold Vl;split
 ·rename_i lz lt l q;exact λh0=>λh1=>λh2=>λh3=>(let ⟨rr,hH,ee,qq⟩:=As1 lz lt l q h0 h1 h2 h3;⟨rfl,rfl,rfl,rr,hH,(As0 LF noY () 0 lz lt l q).trans ee,qq⟩)
 ·trivial
theorem Be6:B3 Tryz.prog GX 28 WK:=xf [0,0] (FS LF) Vm rfl trivial rfl (by kernel_rfl) follows λargs=>by
 unfold Vm;split
 ·rename_i q;exact (let ⟨rr,hH,ee,qq⟩:=As4 q ; ⟨rfl,rfl,rfl,rr,hH,(As3 LF noY () 0 q).trans ee,qq⟩)
 ·trivial
theorem VY:B3 Tryz.prog GX 28 Ls:=(Bs6 Be5 Be6)
theorem Be3:B3 Tryz.prog GX 30 WH:=by
 refine B3.fix (pf:=Vj) _ (N7 [0,0] (C₀:=X3 LF) (Fo (lx:=[(28,Ls),(41,Ql)]) (ly:=[]) (ls:=[(76,Gn)]) rfl rfl rfl ⟨VY,VX,trivial⟩ trivial ⟨IM,trivial⟩) (G1 rfl (by kernel_rfl)) follows ?_)
 intro args ret Hc h
 unfold Vj at h
 split at h
 ·rename_i lz lt l q
  obtain ⟨h0,h⟩:=C7 h
  obtain ⟨h1,h⟩:=C7 h
  obtain ⟨h2,h⟩:=C7 h
  obtain ⟨h3,h⟩:=C7 h
  obtain ⟨rfl,rfl⟩:=I9 h
  obtain ⟨rr,hH,ee,qq⟩:=Ar6 lz lt l q h0 h1 h2 h3
  exact ⟨rfl,rfl,rfl,1,rr,hH,(Ar5 LF noY () 0 lz lt l q).trans ee,qq⟩
 ·cases h
theorem Be4:B3 Tryz.prog GX 30 WI:=by
 refine B3.fix (pf:=Vk) _ (N7 [0,0] (C₀:=X4 LF) (Fo (lx:=[(28,Ls),(41,Ql)]) (ly:=[]) (ls:=[(76,Gn)]) rfl rfl rfl ⟨VY,VX,trivial⟩ trivial ⟨IM,trivial⟩) (G1 rfl (by kernel_rfl)) follows ?_)
 intro args ret Hc h
 unfold Vk at h
 split at h
 ·rename_i q
  obtain ⟨h0,h⟩:=C7 h
  obtain ⟨rfl,rfl⟩:=I9 h
  obtain ⟨rr,hH,ee,qq⟩:=Ar9 q h0
  exact ⟨rfl,rfl,rfl,1,rr,hH,(Ar8 LF noY () 0 q).trans ee,qq⟩
 ·cases h
theorem Bn6:B3 Tryz.prog GX 30 OH:=(Bs6 Be3 Be4)
end
section
variable {σ R : Type} (lf : Nat) (cl : D7) (yh : Yh σ) (s : σ) (k : Out -> St σ -> Option R)
noncomputable def Ws (lf:Nat):Cfg:=C1 lf [165] (A6 []) [] (A6 [(1,[2]),(0,[0])]) [] (A6 []) (some [2]) [] [] []
noncomputable def HY {R:Type} (lf:Nat) (n0:Int) (k0:Bool->Option R):Option R:=cond (not (ltI n0 0)) (cond (not (ltI 1114111 n0)) (cond (ltI n0 55296) (k0 true) (k0 (ltI 57343 n0))) (k0 false)) (k0 false)
theorem Ag9 (d:Nat) (n0):evC (Ws lf) (d+1) σ yh 165 [pI n0] [] s=HY lf n0 (λr0=>some (pB r0,[],s)):=by
 refine (evE (fn:=Tryz.f165) (by kernel_rfl)).trans ?_
 generalize evC (Ws lf) d=cl
 unfold HY;kernel_rfl
noncomputable abbrev Iv:Code:=D9 Tryz.f168
noncomputable def R4 (lf:Nat):Cfg:=C1 lf [168] (A6 [(6,[0,5,0])]) [] (A6 [(9,[6]),(8,[0,6]),(7,[0,6]),(6,[0,6,11]),(5,[0,6]),(4,[0]),(2,[0,0]),(3,[0,0]),(1,[0,0,6]),(0,[0,0,0])]) [] (A6 [(0,[0,6]),(1,[0,6])]) (some [6]) [] [] []
noncomputable def Cm {R:Type} (lf n:Nat) (delta0 kk1:Int) (k0:Int->Int->Option R):Option R:=match n with | 0=>none | n+1=>cond (ltI 455 delta0) (vl (A1 (Int.tdiv delta0 (35:Int))) λn'6=>vl (A1 (kk1+36)) λn'7=>Cm lf n n'6 n'7 k0) (k0 delta0 kk1)
theorem HO (n delta0 kk1):D5 0 ((R4 lf).keep 6) (bd (R4 lf) cl yh (cd [1,1,1,1,0,0,0] Iv)) n ⟨gp [(0,pI delta0),(6,pI kk1)] 23,[],s⟩ k =
 Cm lf n delta0 kk1 (λdelta0 kk1=>k (.exit 0) ⟨gp [(0,pI delta0),(6,pI kk1)] 23,[],s⟩):=by
 induction n generalizing delta0 kk1 with
 | zero=>rfl
 | succ n ih=>rw [Cm];simp only [<-ih];kernel_rfl
noncomputable def Cl {R:Type} (lf:Nat) (delta0 n1:Int) (k0:Int->Option R):Option R:=cond (n1 != 0) (vl (A1 (Int.tdiv delta0 n1)) λn'5=>Cm lf lf (A1 (delta0+n'5)) 0 (λdelta'8 kk'9=>vl (A1 ((36:Int)*delta'8)) λn'10=>vl (A1 (delta'8+38)) λn'11=>cond (n'11 != 0) (vl (A1 (Int.tdiv n'10 n'11)) λn'12=>k0 (A1 (kk'9+n'12))) none)) none
abbrev Tv (b:Code):Prop:=∀ (k:Out->St σ->Option R) delta0 n1,B2 (R4 lf) cl yh b ⟨gp [(0,pI delta0),(0,pI n1)] 29,[],s⟩ k=Cl lf delta0 n1 (λn0=>k .ret ⟨gp [(6,pI n0)] 24,[],s⟩)
theorem HN:Tv (R:=R) lf cl yh s (cd [1,1] Iv):=by
 intro k delta0 n1;unfold Cl;exact (Eq.trans (by kernel_rfl) (A0 (A9 λn'5=>((HO lf cl yh s (G5 0 (G9 (R4 lf) cl yh (cd [1,1,1,1,1] Iv) k)) lf (A1 (delta0+n'5)) 0).trans (by kernel_rfl))) rfl))
noncomputable def Yt {R:Type} (lf:Nat) (delta0 n1:Int) (first2:Bool) (k0:Int->Option R):Option R:=cond first2 (vl (A1 (Int.tdiv delta0 (700:Int))) λn'2=>Cl lf n'2 n1 (λn'13=>k0 n'13)) (vl (A1 (Int.tdiv delta0 (2:Int))) λn'3=>Cl lf n'3 n1 (λn'14=>k0 n'14))
theorem Af6 (b_11:Code) (h_radapt_j0:Tv (R:=PV × List Blk × σ) lf cl yh s b_11) (delta0 n1:Int) (first2:Bool):B2 (R4 lf) cl yh (cd [] (O9 [1,1] b_11 Iv)) ⟨[pI delta0,pI n1,pB first2]++tps 28,[],s⟩ (H9 (R4 lf) Tryz.f168)=Yt lf delta0 n1 first2 (λr0=>some (pI r0,[],s)):=by
 unfold Yt;exact let K0:=(H9 (R4 lf) Tryz.f168);(Eq.trans (by kernel_rfl) (A0 (A9 λn'2=>((h_radapt_j0 K0 n'2 n1).trans (by kernel_rfl))) (A9 λn'3=>((h_radapt_j0 K0 n'3 n1).trans (by kernel_rfl)))))
theorem Af7 (d:Nat) (delta0 n1 first2):evC (R4 lf) (d+1) σ yh 168 [pI delta0,pI n1,pB first2] [] s=Yt lf delta0 n1 first2 (λr0=>some (pI r0,[],s)):=
 (evE (fn:=Tryz.f168) (by kernel_rfl)).trans (Eq.trans (by kernel_rfl) (Af6 lf (evC (R4 lf) d) yh s (cd [1,1] Iv) (HN lf (evC (R4 lf) d) yh s) delta0 n1 first2))
noncomputable def PT (lf:Nat):Cfg:=C1 lf [166] (A6 []) [] (A6 [(1,[4]),(0,[0,0])]) [] (A6 []) (some [4]) [] [] []
noncomputable def Bc2 {R:Type} (lf:Nat) (kk0 bias1:Int) (k0:Int->Option R):Option R:=vl (A1 ((36:Int)*(A1 (kk0+1)))) λn'0=>vl (if ((if ((A1 (n'0-bias1))<(26:Int)) then (A1 (n'0-bias1)) else (26:Int)) > (1:Int)) then (if ((A1 (n'0-bias1))<(26:Int)) then (A1 (n'0-bias1)) else (26:Int)) else (1:Int)) λn'1=>k0 n'1
theorem Bc3 (d:Nat) (kk0 bias1):evC (PT lf) (d+1) σ yh 166 [pI kk0,pI bias1] [] s=Bc2 lf kk0 bias1 (λr0=>some (pI r0,[],s)):=by
 refine (evE (fn:=Tryz.f166) (by kernel_rfl)).trans ?_
 generalize evC (PT lf) d=cl
 unfold Bc2;kernel_rfl
noncomputable def FY (lf:Nat):Cfg:=C1 lf [167] (A6 []) [] (A6 [(3,[2]),(2,[2]),(1,[0,3]),(0,[0])]) [] (A6 []) (some [2]) [] [] []
noncomputable def YT {R:Type} (lf:Nat) (d0:Int) (k0:Int->Option R):Option R:=cond (ltI d0 26) (vl (wu8 (A1 ((97:Int)+d0))) λn'0=>k0 n'0) (vl (A1 ((A1 ((48:Int)+d0))-26)) λn'1=>k0 (wu8 n'1))
theorem Av1 (d:Nat) (d0):evC (FY lf) (d+1) σ yh 167 [pI d0] [] s=YT lf d0 (λr0=>some (p8 r0,[],s)):=by
 refine (evE (fn:=Tryz.f167) (by kernel_rfl)).trans ?_
 generalize evC (FY lf) d=cl
 unfold YT;kernel_rfl
noncomputable abbrev Mc:Code:=D9 Tryz.f176
noncomputable def Ez (lf:Nat):Cfg:=C1 lf [176] (A6 []) [] (A6 [(7,[2]),(2,[2]),(4,[2]),(6,[2]),(5,[0,22]),(3,[0,12]),(1,[0,2]),(0,[0])]) [] (A6 [(0,[])]) (some [2]) [] [] []
noncomputable def Pp {R:Type} (b0:Int) (b1:Bool) (k0:Int->Option R) (k1:Int->Bool->Option R):Option R:=cond b1 (vl (A1 (wu8 (b0-65))) λn'1=>k0 n'1) (cond (not (ltI b0 48)) (cond (not (ltI 57 b0)) (vl (A1 (wu8 (b0-48))) λn'2=>vl (A1 (n'2+26)) λn'3=>k0 n'3) (k1 b0 (not (ltI 57 b0)))) (k1 b0 false))
abbrev CO (b:Code):Prop:=∀ (k:Out->St σ->Option R) b0 b1,B2 (Ez lf) cl yh b ⟨gp [(0,p8 b0),(12,pB b1)] 20,[],s⟩ k=Pp b0 b1 (λn0=>k .ret ⟨gp [(2,pI n0)] 31,[],s⟩) (λb0 b1=>k .normal ⟨gp [(0,p8 b0),(22,pB b1)] 10,[],s⟩)
theorem VA:CO (R:=R) lf cl yh s (cd [1,0,0,1,1,1] Mc):=by
 intro k b0 b1;unfold Pp;kernel_rfl
noncomputable def Pq {R:Type} (b0:Int) (b1:Bool) (k0:Int->Option R) (k1:Int->Bool->Option R):Option R:=cond b1 (vl (A1 (wu8 (b0-97))) λn'0=>k0 n'0) (cond (not (ltI b0 65)) (Pp b0 (not (ltI 90 b0)) (λn'4=>k0 n'4) (λb'5 b'6=>k1 b'5 b'6)) (Pp b0 false (λn'7=>k0 n'7) (λb'8 b'9=>k1 b'8 b'9)))
abbrev Sp (b:Code):Prop:=∀ (k:Out->St σ->Option R) b0 b1,B2 (Ez lf) cl yh b ⟨gp [(0,p8 b0),(2,pB b1)] 30,[],s⟩ k=Pq b0 b1 (λn0=>k .ret ⟨gp [(2,pI n0)] 31,[],s⟩) (λb0 b1=>k .normal ⟨gp [(0,p8 b0),(22,pB b1)] 10,[],s⟩)
theorem VB (b_100111:Code) (h_rval_j0:CO (R:=R) lf cl yh s b_100111):Sp (R:=R) lf cl yh s (cd [1,0,0,1] (O9 [1,0,0,1,1,1] b_100111 Mc)):=by
 intro k b0 b1;unfold Pq;simp only [<-h_rval_j0 k];kernel_rfl
theorem VC:Sp (R:=R) lf cl yh s (cd [1,0,0,1] Mc):=by
 intro k b0 b1;exact Eq.trans (by kernel_rfl) (VB lf cl yh s (cd [1,0,0,1,1,1] Mc) (VA lf cl yh s) k b0 b1)
noncomputable def Ax0 {R:Type} (lf:Nat) (b0:Int) (k0:Int->Option R):Option R:=cond (not (ltI b0 97)) (Pq b0 (not (ltI 122 b0)) (λn'10=>k0 n'10) (λb'11 b'12=>k0 (-1))) (Pq b0 false (λn'13=>k0 n'13) (λb'14 b'15=>k0 (-1)))
theorem Bc4 (b_1001:Code) (h_rval_j1:Sp (R:=PV × List Blk × σ) lf cl yh s b_1001) (b0:Int):B2 (Ez lf) cl yh (cd [] (O9 [1,0,0,1] b_1001 Mc)) ⟨[p8 b0]++tps 33,[],s⟩ (H9 (Ez lf) Tryz.f176)=Ax0 lf b0 (λr0=>some (pI r0,[],s)):=by
 unfold Ax0;exact let K0:=(G5 0 (G9 (Ez lf) cl yh (cd [1,1] Mc) (H9 (Ez lf) Tryz.f176)));(Eq.trans (by kernel_rfl) (A0 ((h_rval_j1 K0 b0 (not (ltI 122 b0))).trans (by kernel_rfl)) ((h_rval_j1 K0 b0 false).trans (by kernel_rfl))))
theorem Bc5 (d:Nat) (b0):evC (Ez lf) (d+1) σ yh 176 [p8 b0] [] s=Ax0 lf b0 (λr0=>some (pI r0,[],s)):=
 (evE (fn:=Tryz.f176) (by kernel_rfl)).trans (Eq.trans (by kernel_rfl) (Bc4 lf (evC (Ez lf) d) yh s (cd [1,0,0,1] Mc) (VC lf (evC (Ez lf) d) yh s) b0))
noncomputable abbrev X2:Code:=D9 Tryz.f125
noncomputable def J8 (lf:Nat):Cfg:=C1 lf [125] (A6 [(32,[0,1,0,0,1,0,0,0,0,2,0,0]),(25,[0,1,0,0,1,0,0,0,0,2]),(18,[0,1,0,0,1,0,0,0,0,0,0]),(15,[0,1,0,0,1,0,0,0,0]),(5,[0,1,0,0,0])]) [(165,Wc),(166,OR),(167,WO),(168,Vt)] (A6 [(43,[2,0]),(42,[0,3,1,0,0,0,0]),(41,[0,3,1,0,0,0,0]),(26,[0,3,1,0,0,0,0,2]),(40,[0,3,1,0,0,0,0,2]),(39,[0,3,1,0,0,0,0,2]),(38,[0,3,1,0,0,1,2]),(37,[0,3,1,0,0,0,3]),(36,[0,3,1,0,0,0,0,2,0,0]),(35,[0,3,1,0,0,0,0,2,0,0]),(34,[0,3,1,0,0,0,0,2,0,0,0]),(33,[0,3,1,0,0,0,0,2,0,0,0]),(32,[0,3,1,0,0,0,0,2,0,0,94]),(31,[0,3,1,0,0,0,0,2,0,0]),(30,[0,3,1,0,0,0,0,2,0]),(29,[0,3,1,0,0,0,0,2,90]),(28,[0,3,1,0,0,0,0,2]),(27,[0,3,1,0,0,0,0,2,82]),(25,[0,3,1,0,0,0,0,2,74]),(24,[0,3,1,0,0,0,0,2]),(23,[0,3,1,0,0,0,0]),(22,[0,3,1,0,1,0,0]),(19,[0,3,1,0,0,0,0,0,0]),(21,[0,3,1,0,0,0,0,0,0]),(20,[0,3,1,0,0,0,0,0,0,56]),(18,[0,3,1,0,0,0,0,0,0,48]),(17,[0,3,1,0,0,0,0,0,0]),(16,[0,3,1,0,0,0,0,0]),(15,[0,3,1,0,0,0,0,46]),(14,[0,3,1,0,0,0,0]),(13,[0,3,1,0]),(12,[0,3,1,0,42]),(11,[0,3,1,0]),(6,[0,3,0]),(10,[0,3,0]),(9,[0,3,0,30]),(8,[2,0]),(7,[0,3,0,25]),(5,[0,3,0,17]),(4,[0,3,0]),(3,[0,3]),(2,[2,0]),(1,[0,18]),(0,[0])]) [165,166,167,168] (A6 [(2,[4]),(3,[0,3,1,0,0,0,0]),(6,[0,3,1,0,0,0,0]),(7,[0,3,1,0,0,0,0,2]),(8,[0,3,1,0,0,0,3,0]),(9,[0,3,1,0,0,0,0,2,0,0]),(4,[0,3,1,0,0,0,0,0]),(5,[0,3,1,0,0,0,0,0,0]),(0,[0,3]),(1,[0,3,0])]) (some [2,0]) [] [] []
noncomputable def P4 {R:Type} (lf n:Nat) (points_z0 points_t1:Bool) (points2:LL) (i3:Int) (l4:LL) (k0:LL->Option R) (k1:Bool->Bool->LL->LL->Option R):Option R:=match n with | 0=>none | n+1=>cond (ltI i3 (points2.length:Int)) (cond (inR i3 points2.length) (cond (okE Gj points2 (Int.toNat i3) 0) (vl (gE points2 (Int.toNat i3) 0) λn'1=>cond (not (ptI n'1)) (k0 l4) (cond (inR i3 points2.length) (cond (okE Gj points2 (Int.toNat i3) 0) (vl (gE points2 (Int.toNat i3) 0) λn'3=>cond (ltI n'3 128) (cond (inR i3 points2.length) (cond (okE Gj points2 (Int.toNat i3) 0) (vl (gE points2 (Int.toNat i3) 0) λn'4=>cond (E3 (l4.length+1)) (P4 lf n points_z0 points_t1 points2 (A1 (i3+1)) (l4++[[(SV.int .u8 (wu8 n'4))]]) k0 k1) none) none) none) (P4 lf n points_z0 points_t1 points2 (A1 (i3+1)) l4 k0 k1)) none) none)) none) none) (k1 points_z0 points_t1 points2 l4)
theorem TS (n points_z0 points_t1 points2 i3 l4):D5 1 ((J8 lf).keep 5) (bd (J8 lf) cl yh (cd [1,1,1,0,1,0,0] X2)) n ⟨gp [(0,.s (.sl points_z0 points_t1 1 points2)),(3,.fl 0),(0,pI i3)] 148,[.arr true 5 1 l4],s⟩ k =
 P4 lf n points_z0 points_t1 points2 i3 l4 (λl0=>k .ret ⟨gp [(2,pS ([]:List UInt8)),(0,pI (2:Int))] 150,[.arr true 5 1 l0],s⟩) (λpoints_z0 points_t1 points2 l3=>k (.exit 0) ⟨gp [(0,.s (.sl points_z0 points_t1 1 points2)),(3,.fl 0)] 149,[.arr true 5 1 l3],s⟩):=by
 induction n generalizing points_z0 points_t1 points2 i3 l4 with
 | zero=>rfl
 | succ n ih=>rw [P4];simp only [<-ih];kernel_rfl
noncomputable def Ek {R:Type} (lf n:Nat) (points_z0 points_t1:Bool) (points2:LL) (done3 basic4 n5 delta6 bias7 least8 i9:Int) (l10:LL) (k0:Bool->Bool->LL->Int->Int->Int->Int->Int->Int->LL->Option R):Option R:=match n with | 0=>none | n+1=>cond (ltI i9 (points2.length:Int)) (cond (inR i9 points2.length) (cond (okE Gj points2 (Int.toNat i9) 0) (vl (gE points2 (Int.toNat i9) 0) λn'14=>cond (not (ltI n'14 n5)) (cond (inR i9 points2.length) (cond (okE Gj points2 (Int.toNat i9) 0) (vl (gE points2 (Int.toNat i9) 0) λn'15=>vl (if (n'15<least8) then n'15 else least8) λn'16=>Ek lf n points_z0 points_t1 points2 done3 basic4 n5 delta6 bias7 n'16 (A1 (i9+1)) l10 k0) none) none) (Ek lf n points_z0 points_t1 points2 done3 basic4 n5 delta6 bias7 least8 (A1 (i9+1)) l10 k0)) none) none) (k0 points_z0 points_t1 points2 done3 basic4 n5 delta6 bias7 least8 l10)
theorem TT (n points_z0 points_t1 points2 done3 basic4 n5 delta6 bias7 least8 i9 l10):D5 1 ((J8 lf).keep 18) (bd (J8 lf) cl yh (cd [1,1,1,1,1,1,1,0,0,0,1,0,1,0,1,0,0] X2)) n ⟨gp [(0,.s (.sl points_z0 points_t1 1 points2)),(3,.fl 0),(1,pI done3),(0,pI basic4),(0,pI n5),(0,pI delta6),(0,pI bias7),(0,pI least8),(0,pI i9)] 141,[.arr true 5 1 l10],s⟩ k =
 Ek lf n points_z0 points_t1 points2 done3 basic4 n5 delta6 bias7 least8 i9 l10 (λpoints_z0 points_t1 points2 done3 basic4 n5 delta6 bias7 least8 l9=>k (.exit 4) ⟨gp [(0,.s (.sl points_z0 points_t1 1 points2)),(3,.fl 0),(1,pI done3),(0,pI basic4),(0,pI n5),(0,pI delta6),(0,pI bias7),(0,pI least8)] 142,[.arr true 5 1 l9],s⟩):=by
 induction n generalizing points_z0 points_t1 points2 done3 basic4 n5 delta6 bias7 least8 i9 l10 with
 | zero=>rfl
 | succ n ih=>rw [Ek];simp only [<-ih];kernel_rfl
noncomputable def Bu {R:Type} (lf n:Nat) (points_z0 points_t1:Bool) (points2:LL) (done3 basic4 n5 delta6 bias7 i8 q9 kk10:Int) (l11:LL) (k0:Bool->Bool->LL->Int->Int->Int->Int->Int->Int->LL->Option R):Option R:=match n with | 0=>none | n+1=>cond (ltN kk10 10000000000) (cond (ltN bias7 1000000) (vl (I4 (Int.mul (36:Int) kk10) bias7) λn'40=>cond (not (ltI q9 n'40)) (cond (ltN kk10 10000000000) (cond (ltN bias7 1000000) (vl (I4 (Int.mul (36:Int) kk10) bias7) λn'42=>vl (A1 ((36:Int)-n'42)) λn'46=>cond (n'46 != 0) (vl (Int.tmod (A1 (q9-n'42)) n'46) λn'47=>cond (ltN (A1 (n'42+n'47)) 36) (vl (↑(UInt8.toNat (U5 (Int.toNat (A1 (n'42+n'47))))):Int) λn'48=>cond (E3 (l11.length+1)) (vl (A1 ((36:Int)-n'42)) λn'49=>cond (n'49 != 0) (vl (A1 (Int.tdiv (A1 (q9-n'42)) n'49)) λn'50=>vl (A1 (kk10+1)) λn'51=>Bu lf n points_z0 points_t1 points2 done3 basic4 n5 delta6 bias7 i8 n'50 n'51 (l11++[[(SV.int .u8 n'48)]]) k0) none) none) none) none) none) none) (k0 points_z0 points_t1 points2 done3 basic4 n5 delta6 i8 q9 l11)) none) none
theorem Yv (n points_z0 points_t1 points2 done3 basic4 n5 delta6 bias7 i8 q9 kk10 l11):D5 1 ((J8 lf).keep 32) (bd (J8 lf) cl yh (cd [1,1,1,1,1,1,1,0,0,0,1,0,1,1,1,1,0,1,0,0,1,0,0,1,1,1,1,0,0,0] X2)) n ⟨gp [(0,.s (.sl points_z0 points_t1 1 points2)),(3,.fl 0),(1,pI done3),(0,pI basic4),(0,pI n5),(0,pI delta6),(0,pI bias7),(2,pI i8),(0,pI q9),(0,pI kk10)] 138,[.arr true 5 1 l11],s⟩ k =
 Bu lf n points_z0 points_t1 points2 done3 basic4 n5 delta6 bias7 i8 q9 kk10 l11 (λpoints_z0 points_t1 points2 done3 basic4 n5 delta6 i7 q8 l9=>k (.exit 8) ⟨gp [(0,.s (.sl points_z0 points_t1 1 points2)),(3,.fl 0),(1,pI done3),(0,pI basic4),(0,pI n5),(0,pI delta6),(3,pI i7),(0,pI q8)] 139,[.arr true 5 1 l9],s⟩):=by
 induction n generalizing points_z0 points_t1 points2 done3 basic4 n5 delta6 bias7 i8 q9 kk10 l11 with
 | zero=>rfl
 | succ n ih=>rw [Bu];simp only [<-ih];kernel_rfl
noncomputable def V2 {R:Type} (lf n:Nat) (points_z0 points_t1:Bool) (points2:LL) (done3 basic4 n5 delta6 bias7 i8:Int) (l9:LL) (k0:Bool->Bool->LL->Int->Int->Int->Int->Int->LL->Option R):Option R:=match n with | 0=>none | n+1=>cond (ltI i8 (points2.length:Int)) (cond (inR i8 points2.length) (cond (okE Gj points2 (Int.toNat i8) 0) (vl (gE points2 (Int.toNat i8) 0) λn'33=>cond (ltI n'33 n5) (vl (A1 (delta6+1)) λn'34=>cond (inR i8 points2.length) (cond (okE Gj points2 (Int.toNat i8) 0) (vl (gE points2 (Int.toNat i8) 0) λn'36=>cond (n'36 != n5) (V2 lf n points_z0 points_t1 points2 done3 basic4 n5 n'34 bias7 (A1 (i8+1)) l9 k0) (Bu lf lf points_z0 points_t1 points2 done3 basic4 n5 n'34 bias7 i8 n'34 0 l9 (λpoints_z'52 points_t'53 points'54 done'55 basic'56 n'57 delta'58 i'59 q'60 l'61=>cond (ltN q'60 36) (vl (↑(UInt8.toNat (U5 (Int.toNat q'60))):Int) λn'63=>cond (E3 (l'61.length+1)) (vl (A1 (done'55+1)) λn'64=>cond (ltN delta'58 1152921504606846976) (cond (ltN n'64 1000000) (cond (ltI 0 n'64) (vl (↑(M6 (Int.toNat delta'58) (Int.toNat n'64) (done'55==basic'56)):Int) λn'65=>vl (A1 (done'55+1)) λn'66=>vl (A1 (i'59+1)) λn'67=>V2 lf n points_z'52 points_t'53 points'54 n'66 basic'56 n'57 0 n'65 n'67 (l'61++[[(SV.int .u8 n'63)]]) k0) none) none) none) none) none))) none) none) (cond (inR i8 points2.length) (cond (okE Gj points2 (Int.toNat i8) 0) (vl (gE points2 (Int.toNat i8) 0) λn'38=>cond (n'38 != n5) (V2 lf n points_z0 points_t1 points2 done3 basic4 n5 delta6 bias7 (A1 (i8+1)) l9 k0) (Bu lf lf points_z0 points_t1 points2 done3 basic4 n5 delta6 bias7 i8 delta6 0 l9 (λpoints_z'68 points_t'69 points'70 done'71 basic'72 n'73 delta'74 i'75 q'76 l'77=>cond (ltN q'76 36) (vl (↑(UInt8.toNat (U5 (Int.toNat q'76))):Int) λn'79=>cond (E3 (l'77.length+1)) (vl (A1 (done'71+1)) λn'80=>cond (ltN delta'74 1152921504606846976) (cond (ltN n'80 1000000) (cond (ltI 0 n'80) (vl (↑(M6 (Int.toNat delta'74) (Int.toNat n'80) (done'71==basic'72)):Int) λn'81=>vl (A1 (done'71+1)) λn'82=>vl (A1 (i'75+1)) λn'83=>V2 lf n points_z'68 points_t'69 points'70 n'82 basic'72 n'73 0 n'81 n'83 (l'77++[[(SV.int .u8 n'79)]]) k0) none) none) none) none) none))) none) none)) none) none) (k0 points_z0 points_t1 points2 done3 basic4 n5 delta6 bias7 l9)
theorem TU (n points_z0 points_t1 points2 done3 basic4 n5 delta6 bias7 i8 l9):D5 1 ((J8 lf).keep 25) (bd (J8 lf) cl yh (cd [1,1,1,1,1,1,1,0,0,0,1,0,1,1,1,1,0,1,0,0] X2)) n ⟨gp [(0,.s (.sl points_z0 points_t1 1 points2)),(3,.fl 0),(1,pI done3),(0,pI basic4),(0,pI n5),(0,pI delta6),(0,pI bias7),(2,pI i8)] 140,[.arr true 5 1 l9],s⟩ k =
 V2 lf n points_z0 points_t1 points2 done3 basic4 n5 delta6 bias7 i8 l9 (λpoints_z0 points_t1 points2 done3 basic4 n5 delta6 bias7 l8=>k (.exit 6) ⟨gp [(0,.s (.sl points_z0 points_t1 1 points2)),(3,.fl 0),(1,pI done3),(0,pI basic4),(0,pI n5),(0,pI delta6),(0,pI bias7)] 143,[.arr true 5 1 l8],s⟩):=by
 induction n generalizing points_z0 points_t1 points2 done3 basic4 n5 delta6 bias7 i8 l9 with
 | zero=>rfl
 | succ n ih=>rw [V2];exact let K0:=(G5 8 (G9 (J8 lf) cl yh (cd [1,1,1,1,1,1,1,0,0,0,1,0,1,1,1,1,0,1,0,0,1,0,0,1,1,1,1,1] X2) (G5 7 (G9 (J8 lf) cl yh (cd [1,1,1,1,1,1,1,0,0,0,1,0,1,1,1,1,0,1,0,0,1,1] X2) (lpK 1 ((J8 lf).keep 25) (bd (J8 lf) cl yh (cd [1,1,1,1,1,1,1,0,0,0,1,0,1,1,1,1,0,1,0,0] X2)) n k)))));(Eq.trans (by kernel_rfl) (A0 (A0 (A0 (A9 λn'33=>(A0 (A9 λn'34=>(A0 (A0 (A9 λn'36=>(A0 (ih points_z0 points_t1 points2 done3 basic4 n5 n'34 bias7 (A1 (i8+1)) l9) ((Yv lf cl yh s K0 lf points_z0 points_t1 points2 done3 basic4 n5 n'34 bias7 i8 n'34 0 l9).trans (congr rfl (A39 λpoints_z'52 points_t'53 points'54 done'55 basic'56 n'57 delta'58 i'59 q'60 l'61=>(Eq.trans (by kernel_rfl) (A0 (A9 λn'63=>(A0 (A9 λn'64=>(A0 (A0 (A0 (A9 λn'65=>(A9 λn'66=>(A9 λn'67=>(ih points_z'52 points_t'53 points'54 n'66 basic'56 n'57 0 n'65 n'67 (l'61++[[(SV.int .u8 n'63)]]))))) rfl) rfl) rfl)) rfl)) rfl))))))) rfl) rfl)) (A0 (A0 (A9 λn'38=>(A0 (ih points_z0 points_t1 points2 done3 basic4 n5 delta6 bias7 (A1 (i8+1)) l9) ((Yv lf cl yh s K0 lf points_z0 points_t1 points2 done3 basic4 n5 delta6 bias7 i8 delta6 0 l9).trans (congr rfl (A39 λpoints_z'68 points_t'69 points'70 done'71 basic'72 n'73 delta'74 i'75 q'76 l'77=>(Eq.trans (by kernel_rfl) (A0 (A9 λn'79=>(A0 (A9 λn'80=>(A0 (A0 (A0 (A9 λn'81=>(A9 λn'82=>(A9 λn'83=>(ih points_z'68 points_t'69 points'70 n'82 basic'72 n'73 0 n'81 n'83 (l'77++[[(SV.int .u8 n'79)]]))))) rfl) rfl) rfl)) rfl)) rfl))))))) rfl) rfl))) rfl) rfl) rfl))
noncomputable def Bv {R:Type} (lf n:Nat) (points_z0 points_t1:Bool) (points2:LL) (done3 basic4 n5 delta6 bias7:Int) (l8:LL) (k0:LL->Option R):Option R:=match n with | 0=>none | n+1=>cond (ltI done3 (points2.length:Int)) (Ek lf lf points_z0 points_t1 points2 done3 basic4 n5 delta6 bias7 1073741824 0 l8 (λpoints_z'17 points_t'18 points'19 done'20 basic'21 n'22 delta'23 bias'24 least'25 l'26=>vl (A1 (done'20+1)) λn'29=>vl (A1 ((A1 (least'25-n'22))*n'29)) λn'30=>V2 lf lf points_z'17 points_t'18 points'19 done'20 basic'21 least'25 (A1 (delta'23+n'30)) bias'24 0 l'26 (λpoints_z'84 points_t'85 points'86 done'87 basic'88 n'89 delta'90 bias'91 l'92=>vl (A1 (delta'90+1)) λn'93=>vl (A1 (n'89+1)) λn'94=>Bv lf n points_z'84 points_t'85 points'86 done'87 basic'88 n'94 n'93 bias'91 l'92 k0))) (k0 l8)
theorem Yw (n points_z0 points_t1 points2 done3 basic4 n5 delta6 bias7 l8):D5 1 ((J8 lf).keep 15) (bd (J8 lf) cl yh (cd [1,1,1,1,1,1,1,0,0,0] X2)) n ⟨gp [(0,.s (.sl points_z0 points_t1 1 points2)),(3,.fl 0),(1,pI done3),(0,pI basic4),(0,pI n5),(0,pI delta6),(0,pI bias7)] 143,[.arr true 5 1 l8],s⟩ k =
 Bv lf n points_z0 points_t1 points2 done3 basic4 n5 delta6 bias7 l8 (λl0=>k (.exit 2) ⟨gp [(4,.fl 0)] 149,[.arr true 5 1 l0],s⟩):=by
 induction n generalizing points_z0 points_t1 points2 done3 basic4 n5 delta6 bias7 l8 with
 | zero=>rfl
 | succ n ih=>rw [Bv];exact (Eq.trans (by kernel_rfl) (A0 ((TT lf cl yh s (G5 4 (G9 (J8 lf) cl yh (cd [1,1,1,1,1,1,1,0,0,0,1,0,1,1] X2) (G5 3 (lpK 1 ((J8 lf).keep 15) (bd (J8 lf) cl yh (cd [1,1,1,1,1,1,1,0,0,0] X2)) n k)))) lf points_z0 points_t1 points2 done3 basic4 n5 delta6 bias7 1073741824 0 l8).trans (congr rfl (A39 λpoints_z'17 points_t'18 points'19 done'20 basic'21 n'22 delta'23 bias'24 least'25 l'26=>(Eq.trans (by kernel_rfl) (A9 λn'29=>(A9 λn'30=>((TU lf cl yh s (G5 6 (G9 (J8 lf) cl yh (cd [1,1,1,1,1,1,1,0,0,0,1,0,1,1,1,1,1] X2) (G5 3 (lpK 1 ((J8 lf).keep 15) (bd (J8 lf) cl yh (cd [1,1,1,1,1,1,1,0,0,0] X2)) n k)))) lf points_z'17 points_t'18 points'19 done'20 basic'21 least'25 (A1 (delta'23+n'30)) bias'24 0 l'26).trans (congr rfl (fx9 λpoints_z'84 points_t'85 points'86 done'87 basic'88 n'89 delta'90 bias'91 l'92=>(Eq.trans (by kernel_rfl) (A9 λn'93=>(A9 λn'94=>(ih points_z'84 points_t'85 points'86 done'87 basic'88 n'94 n'93 bias'91 l'92))))))))))))) rfl))
noncomputable def LX {R:Type} (lf:Nat) (points_z0 points_t1:Bool) (points2:LL) (k0:Unit->Option R) (k1:By->Int->LL->Option R):Option R:=cond (ltI 256 (points2.length:Int)) (k0 ()) (P4 lf lf points_z0 points_t1 points2 0 [] (λl'5=>k1 ([]:List UInt8) 2 l'5) (λpoints_z'6 points_t'7 points'8 l'9=>vl (l'9.length:Int) λn'12=>vl (l'9.length:Int) λn'13=>cond (ltI 0 n'13) (cond (E3 (l'9.length+1)) (Bv lf lf points_z'6 points_t'7 points'8 n'12 n'13 128 0 72 (l'9++[[(SV.int .u8 (45:Int))]]) (λl'95=>cond (List.all l'95 Uj) (k1 (List.map Rn l'95) 0 l'95) none)) none) (Bv lf lf points_z'6 points_t'7 points'8 n'12 n'13 128 0 72 l'9 (λl'96=>cond (List.all l'96 Uj) (k1 (List.map Rn l'96) 0 l'96) none))))
theorem Ba8 (d:Nat) (points_z0 points_t1 points2):evC (J8 lf) (d+1) σ yh 125 [.s (.sl points_z0 points_t1 1 points2)] [] s=LX lf points_z0 points_t1 points2 (λ_=>some (.tup [pS ([]:List UInt8),pI (3:Int)],[],s)) (λr0 r1 l2=>some (.tup [pS r0,pI r1],[.arr true 5 1 l2],s)):=by
 refine (evE (fn:=Tryz.f125) (by kernel_rfl)).trans ?_
 generalize evC (J8 lf) d=cl
 unfold LX;exact let K0:=(G5 2 (G9 (J8 lf) cl yh (cd [1,1,1,1,1,1,1,1] X2) (H9 (J8 lf) Tryz.f125)));(Eq.trans (by kernel_rfl) (A0 rfl ((TS lf cl yh s (G5 0 (G9 (J8 lf) cl yh (cd [1,1,1,1] X2) (H9 (J8 lf) Tryz.f125))) lf points_z0 points_t1 points2 0 []).trans (congr (congr rfl (by kernel_rfl)) (fx4 λpoints_z'6 points_t'7 points'8 l'9=>(Eq.trans (by kernel_rfl) (A9 λn'12=>(A9 λn'13=>(A0 (A0 ((Yw lf cl yh s K0 lf points_z'6 points_t'7 points'8 n'12 n'13 128 0 72 (l'9++[[(SV.int .u8 (45:Int))]])).trans (by kernel_rfl)) rfl) ((Yw lf cl yh s K0 lf points_z'6 points_t'7 points'8 n'12 n'13 128 0 72 l'9).trans (by kernel_rfl)))))))))))
noncomputable abbrev T0:Code:=D9 Tryz.f146
noncomputable def G8 (lf:Nat):Cfg:=C1 lf [146] (A6 [(27,[0,1,0,2,1,0,0,0,0,0,0,0]),(23,[0,1,0,2,1,0,0,0,0]),(13,[0,1,0,0,1,0]),(5,[0,1,0,0,0])]) [(176,Al1),(166,OR),(168,Vt),(165,Wc)] (A6 [(51,[2,0]),(50,[0,5,1,0,0,0,0]),(49,[2,0]),(48,[0,5,1,0,0,0,0,118]),(47,[0,5,1,0,0,0,0]),(46,[2,0]),(45,[0,5,1,0,0,0,0,103]),(44,[0,5,1,0,0,0,0]),(43,[0,5,1,0,0,0,0]),(42,[0,5,1,0,0,0,0]),(41,[0,5,1,0,0,0]),(26,[0,5,1,0,0,0,0,0,0,0]),(40,[2,0]),(39,[0,5,1,0,0,0,0,0,0,0,77]),(38,[0,5,1,0,0,0,0,0,0,0]),(37,[0,5,1,0,0,0,0,0,0,0,1,69]),(36,[0,5,1,0,0,0,0,0,0,0,0,0]),(35,[2,0]),(34,[0,5,1,0,0,0,0,0,0,0,0,64]),(33,[0,5,1,0,0,0,0,0,0,0,0]),(32,[2,0]),(31,[0,5,1,0,0,0,0,0,0,0,0,57]),(30,[0,5,1,0,0,0,0,0,0,0,0]),(29,[0,5,1,0,0,0,0,0,0,0,0]),(28,[2,0]),(27,[0,5,1,0,0,0,0,0,0,0,50]),(25,[0,5,1,0,0,0,0,0,0,0]),(24,[0,5,1,0,0,0,0,0,0]),(23,[0,5,1,0,0,0,0,46]),(22,[0,5,1,0,0,0,0]),(21,[0,5,1,0,0,0]),(20,[0,5,1]),(19,[0,5,1,44]),(18,[0,3,1,1]),(17,[2,0]),(16,[0,3,1,43]),(14,[0,3,1,0]),(15,[0,3,1,0]),(13,[0,3,1,0,30]),(12,[0,3,1,0]),(11,[0,3,1]),(6,[0,3,0]),(10,[0,3,0]),(9,[0,3,0,28]),(8,[2,0]),(7,[0,3,0,24]),(5,[0,3,0,18]),(4,[0,3,0]),(3,[0,3]),(2,[2,0]),(1,[0,19]),(0,[0])]) [176,166,168,165] (A6 [(4,[6]),(5,[0,5,1,0,0,0,0]),(6,[0,5,1,0,0,1,0]),(7,[0,5,1,0,0,0,0,0,0,0]),(2,[0,3,1]),(3,[0,3,1,0]),(0,[0,3]),(1,[0,3,0])]) (some [2,0]) [] [] [] (rw:=[(47,6)])
noncomputable def Ba {R:Type} (lf n:Nat) (s0:By) (cut1 i2:Int) (k0:Unit->Option R) (k1:By->Int->Option R):Option R:=match n with | 0=>none | n+1=>cond (ltI i2 (s0.length:Int)) (cond (inR i2 s0.length) (cond (not (ltI (bAt s0 i2) (128:Int))) (k0 ()) (cond (inR i2 s0.length) (cond ((bAt s0 i2)==45) (Ba lf n s0 i2 (A1 (i2+1)) k0 k1) (Ba lf n s0 cut1 (A1 (i2+1)) k0 k1)) none)) none) (k1 s0 cut1)
theorem MP (n s0 cut1 i2):D5 0 ((G8 lf).keep 5) (bd (G8 lf) cl yh (cd [1,1,1,0,1,0,0] T0)) n ⟨gp [(0,pS s0),(3,pI cut1),(0,pI i2)] 129,[],s⟩ k =
 Ba lf n s0 cut1 i2 (λ_=>k .ret ⟨gp [(2,.fl 0),(0,pI (4:Int))] 131,[.arr true 3 1 []],s⟩) (λs0 cut1=>k (.exit 0) ⟨gp [(0,pS s0),(3,pI cut1)] 130,[],s⟩):=by
 induction n generalizing s0 cut1 i2 with
 | zero=>rfl
 | succ n ih=>rw [Ba];simp only [<-ih];kernel_rfl
noncomputable def Dq {R:Type} (lf n:Nat) (s0:By) (cut1 i2:Int) (l3:LL) (k0:By->Int->LL->Option R):Option R:=match n with | 0=>none | n+1=>cond (ltI i2 cut1) (cond (inR i2 s0.length) (cond (E3 (l3.length+1)) (Dq lf n s0 cut1 (A1 (i2+1)) (l3++[[(SV.int .i64 (A1 (bAt s0 i2)))]]) k0) none) none) (k0 s0 cut1 l3)
theorem MQ (n s0 cut1 i2 l3):D5 1 ((G8 lf).keep 13) (bd (G8 lf) cl yh (cd [1,1,1,1,1,0,1,0,0] T0)) n ⟨gp [(0,pS s0),(3,pI cut1),(1,.fl 0),(0,pI i2)] 127,[.arr true 3 1 l3],s⟩ k =
 Dq lf n s0 cut1 i2 l3 (λs0 cut1 l2=>k (.exit 2) ⟨gp [(0,pS s0),(3,pI cut1),(1,.fl 0)] 128,[.arr true 3 1 l2],s⟩):=by
 induction n generalizing s0 cut1 i2 l3 with
 | zero=>rfl
 | succ n ih=>rw [Dq];simp only [<-ih];kernel_rfl
noncomputable def P9 {R:Type} (lf n:Nat) (s0:By) (out1:LL) (at2 n3 i4 bias5 old6 w7 kk8:Int) (l9:LL) (k0:Int->LL->Option R) (k1:By->LL->Int->Int->Int->Int->LL->Option R):Option R:=match n with | 0=>none | n+1=>cond (not (ltI at2 (s0.length:Int))) (k0 4 l9) (cond (inR at2 s0.length) (cond (inR (bAt s0 at2) 256) (vl (C5 (u8n (bAt s0 at2))) λn'8=>cond (ltI n'8 0) (k0 4 l9) (vl (A1 (i4+(A1 (n'8*w7)))) λn'10=>cond (ltI 1099511627776 n'10) (k0 19 l9) (cond (ltN kk8 10000000000) (cond (ltN bias5 1000000) (vl (I4 (Int.mul (36:Int) kk8) bias5) λn'12=>cond (ltI n'8 n'12) (k1 s0 out1 (A1 (at2+1)) n3 n'10 old6 l9) (vl (A1 ((36:Int)-n'12)) λn'13=>cond (ltI 1099511627776 (A1 (w7*n'13))) (k0 19 l9) (P9 lf n s0 out1 (A1 (at2+1)) n3 n'10 bias5 old6 (A1 (w7*n'13)) (A1 (kk8+1)) l9 k0 k1))) none) none))) none) none)
theorem MR (n s0 out1 at2 n3 i4 bias5 old6 w7 kk8 l9):D5 1 ((G8 lf).keep 27) (bd (G8 lf) cl yh (cd [1,1,1,1,1,1,1,1,1,1,1,0,0,0,1,0,1,0,1,0,0] T0)) n ⟨gp [(0,pS s0),(5,.s (.sl false false 1 out1)),(1,pI at2),(0,pI n3),(0,pI i4),(0,pI bias5),(0,pB false),(0,pI old6),(0,pI w7),(0,pI kk8)] 119,[.arr true 3 1 l9],s⟩ k =
 P9 lf n s0 out1 at2 n3 i4 bias5 old6 w7 kk8 l9 (λn0 l1=>k .ret ⟨gp [(2,.fl 1),(0,pI n0)] 131,[.arr true 3 1 l1,.arr true 3 1 []],s⟩) (λs0 out1 at2 n3 i4 old5 l6=>k (.exit 6) ⟨gp [(0,pS s0),(5,.s (.sl false false 1 out1)),(1,pI at2),(0,pI n3),(0,pI i4),(1,pB false),(0,pI old5)] 121,[.arr true 3 1 l6],s⟩):=by
 induction n generalizing s0 out1 at2 n3 i4 bias5 old6 w7 kk8 l9 with
 | zero=>rfl
 | succ n ih=>rw [P9];simp only [<-ih];kernel_rfl
noncomputable def L1 {R:Type} (lf n:Nat) (s0:By) (out1:LL) (at2 n3 i4 bias5:Int) (l6:LL) (k0:Int->LL->Option R) (k1:LL->LL->Option R) (k2:LL->LL->Option R):Option R:=match n with | 0=>none | n+1=>cond (ltI at2 (s0.length:Int)) (P9 lf lf s0 out1 at2 n3 i4 bias5 i4 1 0 l6 (λn'14 l'15=>k0 n'14 l'15) (λs'16 out'17 at'18 n'19 i'20 old'21 l'22=>vl (A1 ((out'17.length:Int)+1)) λn'25=>cond (ltN (A1 (i'20-old'21)) 1152921504606846976) (cond (ltN n'25 1000000) (cond (ltI 0 n'25) (vl (↑(M6 (Int.toNat (A1 (i'20-old'21))) (Int.toNat n'25) false):Int) λn'26=>vl (A1 ((out'17.length:Int)+1)) λn'29=>cond (n'29 != 0) (vl (A1 (Int.tdiv i'20 n'29)) λn'30=>vl (A1 ((out'17.length:Int)+1)) λn'32=>cond (n'32 != 0) (cond (not (ptI (A1 (n'19+n'30)))) (k0 2 l'22) (cond (N6 0 (Int.tmod i'20 n'32) out'17.length) (vl (cut out'17 0 (Int.tmod i'20 n'32)) λl'33=>cond (N6 (Int.tmod i'20 n'32) (out'17.length:Int) out'17.length) (vl (cut out'17 (Int.tmod i'20 n'32) (out'17.length:Int)) λl'34=>cond (E3 (0+l'33.length)) (cond (E3 (l'33.length+1)) (cond (E3 ((List.length (l'33++[[(SV.int .i64 (A1 (n'19+n'30)))]]))+l'34.length)) (cond (ltI 256 (↑(List.length ((l'33++[[(SV.int .i64 (A1 (n'19+n'30)))]])++l'34)):Int)) (k1 l'22 ((l'33++[[(SV.int .i64 (A1 (n'19+n'30)))]])++l'34)) (vl (A1 ((Int.tmod i'20 n'32)+1)) λn'35=>L1 lf n s'16 ((l'33++[[(SV.int .i64 (A1 (n'19+n'30)))]])++l'34) at'18 (A1 (n'19+n'30)) n'35 n'26 l'22 k0 k1 k2)) none) none) none) none) none)) none) none) none) none) none)) (k2 out1 l6)
theorem MS (n s0 out1 at2 n3 i4 bias5 l6):D5 1 ((G8 lf).keep 23) (bd (G8 lf) cl yh (cd [1,1,1,1,1,1,1,1,1,1,1,0,0,0] T0)) n ⟨gp [(0,pS s0),(5,.s (.sl false false 1 out1)),(1,pI at2),(0,pI n3),(0,pI i4),(0,pI bias5),(0,pB false)] 122,[.arr true 3 1 l6],s⟩ k =
 L1 lf n s0 out1 at2 n3 i4 bias5 l6 (λn0 l1=>k .ret ⟨gp [(2,.fl 1),(0,pI n0)] 131,[.arr true 3 1 l1,.arr true 3 1 []],s⟩) (λl0 l1=>k .ret ⟨gp [(2,.fl 2),(0,pI (3:Int))] 131,[.arr true 3 1 l0,.arr false 3 1 l1,.arr true 3 1 []],s⟩) (λout0 l1=>k (.exit 4) ⟨gp [(6,.s (.sl false false 1 out0))] 128,[.arr true 3 1 l1],s⟩):=by
 induction n generalizing s0 out1 at2 n3 i4 bias5 l6 with
 | zero=>rfl
 | succ n ih=>rw [L1];exact (Eq.trans (by kernel_rfl) (A0 ((MR lf cl yh s (G5 6 (G9 (G8 lf) cl yh (cd [1,1,1,1,1,1,1,1,1,1,1,0,0,0,1,0,1,1] T0) (G5 5 (lpK 1 ((G8 lf).keep 23) (bd (G8 lf) cl yh (cd [1,1,1,1,1,1,1,1,1,1,1,0,0,0] T0)) n k)))) lf s0 out1 at2 n3 i4 bias5 i4 1 0 l6).trans (congr (congr rfl (by kernel_rfl)) (fx7 λs'16 out'17 at'18 n'19 i'20 old'21 l'22=>(Eq.trans (by kernel_rfl) (A9 λn'25=>(A0 (A0 (A0 (A9 λn'26=>(A9 λn'29=>(A0 (A9 λn'30=>(A9 λn'32=>(A0 (A0 rfl (A0 (A9 λl'33=>(A0 (A9 λl'34=>(A0 (A0 (A0 (A0 rfl (A9 λn'35=>(ih s'16 ((l'33++[[(SV.int .i64 (A1 (n'19+n'30)))]])++l'34) at'18 (A1 (n'19+n'30)) n'35 n'26 l'22))) rfl) rfl) rfl)) rfl)) rfl)) rfl))) rfl))) rfl) rfl) rfl)))))) rfl))
noncomputable def Q0 {R:Type} (lf n:Nat) (s0:By) (at1 i2 w3 kk4:Int) (l5:LL) (k0:Int->LL->Option R) (k1:By->Int->Int->LL->Option R):Option R:=match n with | 0=>none | n+1=>cond (not (ltI at1 (s0.length:Int))) (k0 4 l5) (cond (inR at1 s0.length) (cond (inR (bAt s0 at1) 256) (vl (C5 (u8n (bAt s0 at1))) λn'37=>cond (ltI n'37 0) (k0 4 l5) (vl (A1 (i2+(A1 (n'37*w3)))) λn'39=>cond (ltI 1099511627776 n'39) (k0 19 l5) (cond (ltN kk4 10000000000) (cond (ltN 72 1000000) (vl (I4 (Int.mul (36:Int) kk4) (72:Int)) λn'41=>cond (ltI n'37 n'41) (k1 s0 (A1 (at1+1)) n'39 l5) (vl (A1 ((36:Int)-n'41)) λn'42=>cond (ltI 1099511627776 (A1 (w3*n'42))) (k0 19 l5) (Q0 lf n s0 (A1 (at1+1)) n'39 (A1 (w3*n'42)) (A1 (kk4+1)) l5 k0 k1))) none) none))) none) none)
theorem MT (n s0 at1 i2 w3 kk4 l5):D5 1 ((G8 lf).keep 27) (bd (G8 lf) cl yh (cd [1,1,1,1,1,1,1,1,1,1,1,0,0,0,1,0,1,0,1,0,0] T0)) n ⟨gp [(0,pS s0),(5,.fl 0),(1,pI at1),(0,pI (128:Int)),(0,pI i2),(0,pI (72:Int)),(0,pB true),(0,pI (0:Int)),(0,pI w3),(0,pI kk4)] 119,[.arr true 3 1 l5],s⟩ k =
 Q0 lf n s0 at1 i2 w3 kk4 l5 (λn0 l1=>k .ret ⟨gp [(2,.fl 1),(0,pI n0)] 131,[.arr true 3 1 l1,.arr true 3 1 []],s⟩) (λs0 at1 i2 l3=>k (.exit 6) ⟨gp [(0,pS s0),(5,.fl 0),(1,pI at1),(0,pI (128:Int)),(0,pI i2),(1,pB true),(0,pI (0:Int))] 121,[.arr true 3 1 l3],s⟩):=by
 induction n generalizing s0 at1 i2 w3 kk4 l5 with
 | zero=>rfl
 | succ n ih=>rw [Q0];simp only [<-ih];kernel_rfl
noncomputable def I1 {R:Type} (lf n:Nat) (s0:By) (at1:Int) (l2:LL) (k0:Int->LL->Option R) (k1:LL->LL->Option R) (k2:LL->LL->Option R) (k3:LL->Option R):Option R:=match n with | 0=>none | n+1=>cond (ltI at1 (s0.length:Int)) (Q0 lf lf s0 at1 0 1 0 l2 (λn'43 l'44=>k0 n'43 l'44) (λs'45 at'46 i'47 l'48=>vl (A1 (i'47-0)) λn'52=>vl (A1 ((l'48.length:Int)+1)) λn'53=>cond (ltN n'52 1152921504606846976) (cond (ltN n'53 1000000) (cond (ltI 0 n'53) (vl (↑(M6 (Int.toNat n'52) (Int.toNat n'53) true):Int) λn'54=>vl (A1 ((l'48.length:Int)+1)) λn'58=>cond (n'58 != 0) (vl (A1 (Int.tdiv i'47 n'58)) λn'59=>vl (A1 ((128:Int)+n'59)) λn'60=>vl (A1 ((l'48.length:Int)+1)) λn'62=>cond (n'62 != 0) (cond (not (ptI n'60)) (k0 2 l'48) (cond (N6 0 (Int.tmod i'47 n'62) l'48.length) (cond (N6 (Int.tmod i'47 n'62) (l'48.length:Int) l'48.length) (cond (E3 (0+(List.length (List.take ((Int.toNat (Int.tmod i'47 n'62))-0) (List.drop 0 l'48))))) (cond (E3 ((List.length (List.take ((Int.toNat (Int.tmod i'47 n'62))-0) (List.drop 0 l'48)))+1)) (vl ((List.take ((Int.toNat (Int.tmod i'47 n'62))-0) (List.drop 0 l'48))++[[(SV.int .i64 n'60)]]) λl'63=>cond (E3 (l'63.length+(List.length (List.take ((Int.toNat (l'48.length:Int))-(Int.toNat (Int.tmod i'47 n'62))) (List.drop (Int.toNat (Int.tmod i'47 n'62)) l'48))))) (vl (l'63++(List.take ((Int.toNat (l'48.length:Int))-(Int.toNat (Int.tmod i'47 n'62))) (List.drop (Int.toNat (Int.tmod i'47 n'62)) l'48))) λl'64=>cond (ltI 256 (l'64.length:Int)) (k1 l'48 l'64) (vl (A1 ((Int.tmod i'47 n'62)+1)) λn'65=>L1 lf n s'45 l'64 at'46 n'60 n'65 n'54 l'48 (λn'66 l'67=>k0 n'66 l'67) (λl'68 l'69=>k1 l'68 l'69) (λout'70 l'71=>k2 out'70 l'71))) none) none) none) none) none)) none) none) none) none) none)) (k3 l2)
theorem Ua (n s0 at1 l2):D5 1 ((G8 lf).keep 23) (bd (G8 lf) cl yh (cd [1,1,1,1,1,1,1,1,1,1,1,0,0,0] T0)) n ⟨gp [(0,pS s0),(5,.fl 0),(1,pI at1),(0,pI (128:Int)),(0,pI (0:Int)),(0,pI (72:Int)),(0,pB true)] 122,[.arr true 3 1 l2],s⟩ k =
 I1 lf n s0 at1 l2 (λn0 l1=>k .ret ⟨gp [(2,.fl 1),(0,pI n0)] 131,[.arr true 3 1 l1,.arr true 3 1 []],s⟩) (λl0 l1=>k .ret ⟨gp [(2,.fl 2),(0,pI (3:Int))] 131,[.arr true 3 1 l0,.arr false 3 1 l1,.arr true 3 1 []],s⟩) (λout0 l1=>k (.exit 4) ⟨gp [(6,.s (.sl false false 1 out0))] 128,[.arr true 3 1 l1],s⟩) (λl0=>k (.exit 4) ⟨gp [(6,.fl 0)] 128,[.arr true 3 1 l0],s⟩):=by
 induction n generalizing s0 at1 l2 with
 | zero=>rfl
 | succ n ih=>rw [I1];exact (Eq.trans (by kernel_rfl) (A0 ((MT lf cl yh s (G5 6 (G9 (G8 lf) cl yh (cd [1,1,1,1,1,1,1,1,1,1,1,0,0,0,1,0,1,1] T0) (G5 5 (lpK 1 ((G8 lf).keep 23) (bd (G8 lf) cl yh (cd [1,1,1,1,1,1,1,1,1,1,1,0,0,0] T0)) n k)))) lf s0 at1 0 1 0 l2).trans (congr (congr rfl (by kernel_rfl)) (fx4 λs'45 at'46 i'47 l'48=>(Eq.trans (by kernel_rfl) (A9 λn'52=>(A9 λn'53=>(A0 (A0 (A0 (A9 λn'54=>(A9 λn'58=>(A0 (A9 λn'59=>(A9 λn'60=>(A9 λn'62=>(A0 (A0 rfl (A0 (A0 (A0 (A0 (A9 λl'63=>(A0 (A9 λl'64=>(A0 rfl (A9 λn'65=>((MS lf cl yh s k n s'45 l'64 at'46 n'60 n'65 n'54 l'48).trans (congr (congr (congr rfl (fx2 λn'66 l'67=>rfl)) (fx2 λl'68 l'69=>rfl)) (fx2 λout'70 l'71=>rfl)))))) rfl)) rfl) rfl) rfl) rfl)) rfl)))) rfl))) rfl) rfl) rfl))))))) rfl))
noncomputable def ZC {R:Type} (lf:Nat) (s0:By) (k0:Int->LL->Option R) (k1:Int->LL->Option R) (k2:LL->LL->Option R) (k3:LL->LL->Option R):Option R:=cond (ltI 1024 (s0.length:Int)) (k0 3 []) (Ba lf lf s0 0 0 (λ_=>k0 4 []) (λs'0 cut'1=>Dq lf lf s'0 cut'1 0 [] (λs'2 cut'3 l'4=>cond (ltI 256 (l'4.length:Int)) (k1 3 l'4) (cond (ltI 0 cut'3) (vl (A1 (cut'3+1)) λn'6=>I1 lf lf s'2 n'6 l'4 (λn'72 l'73=>k1 n'72 l'73) (λl'74 l'75=>k2 l'74 l'75) (λout'76 l'77=>k3 out'76 l'77) (λl'78=>k0 0 l'78)) (I1 lf lf s'2 cut'3 l'4 (λn'79 l'80=>k1 n'79 l'80) (λl'81 l'82=>k2 l'81 l'82) (λout'83 l'84=>k3 out'83 l'84) (λl'85=>k0 0 l'85))))))
theorem Aw7 (d:Nat) (s0):evC (G8 lf) (d+1) σ yh 146 [pS s0] [] s=ZC lf s0 (λr0 l1=>some (.tup [.fl 0,pI r0],[.arr true 3 1 l1],s)) (λr0 l1=>some (.tup [.fl 1,pI r0],[.arr true 3 1 l1,.arr true 3 1 []],s)) (λl0 l1=>some (.tup [.fl 2,pI (3:Int)],[.arr true 3 1 l0,.arr false 3 1 l1,.arr true 3 1 []],s)) (λr0 l1=>some (.tup [.s (.sl false false 1 r0),pI (0:Int)],[.arr true 3 1 l1],s)):=by
 refine (evE (fn:=Tryz.f146) (by kernel_rfl)).trans ?_
 generalize evC (G8 lf) d=cl
 unfold ZC;exact let K0:=(G5 4 (G9 (G8 lf) cl yh (cd [1,1,1,1,1,1,1,1,1,1,1,1] T0) (H9 (G8 lf) Tryz.f146)));(Eq.trans (by kernel_rfl) (A0 rfl ((MP lf cl yh s (G5 0 (G9 (G8 lf) cl yh (cd [1,1,1,1] T0) (H9 (G8 lf) Tryz.f146))) lf s0 0 0).trans (congr (congr rfl (by kernel_rfl)) (fx2 λs'0 cut'1=>(Eq.trans (by kernel_rfl) ((MQ lf cl yh s (G5 2 (G9 (G8 lf) cl yh (cd [1,1,1,1,1,1] T0) (H9 (G8 lf) Tryz.f146))) lf s'0 cut'1 0 []).trans (congr rfl (fx3 λs'2 cut'3 l'4=>(Eq.trans (by kernel_rfl) (A0 rfl (A0 (A9 λn'6=>((Ua lf cl yh s K0 lf s'2 n'6 l'4).trans (by kernel_rfl))) ((Ua lf cl yh s K0 lf s'2 cut'3 l'4).trans (by kernel_rfl))))))))))))))
noncomputable def IA {R:Type} (lf n:Nat) (s0:By) (i1 v2:Int) (l3:LL) (k0:By->Int->Int->LL->Option R):Option R:=match n with | 0=>none | n+1=>k0 s0 i1 v2 l3
noncomputable def HZ {R:Type} (lf:Nat) (s0:By) (i1 b2:Int) (l4:LL) (k0:LL->Option R) (k1:By->Int->LL->Option R):Option R:=vl (A1 ((s0.length:Int)-i1)) λn'1=>cond (ltI n'1 1) (k0 l4) (IA lf lf s0 i1 b2 l4 (λs'2 i'3 v'4 l'5=>cond (ltI v'4 0) (k0 l'5) (cond (not (ptI v'4)) (k0 l'5) (cond (E3 (l'5.length+1)) (k1 s'2 (A1 (i'3+1)) (l'5++[[(SV.int .i64 v'4)]])) none))))
noncomputable def Pm {R:Type} (s0:By) (i1 b2:Int) (b3:Bool) (l4:LL) (k0:By->Int->Int->Int->Int->LL->Option R) (k1:LL->Option R):Option R:=cond b3 (vl (A1 (b2-224)) λn'11=>k0 s0 i1 3 n'11 2048 l4) (cond (not (ltI b2 240)) (cond (ltI b2 245) (vl (A1 (b2-240)) λn'12=>k0 s0 i1 4 n'12 65536 l4) (k1 l4)) (k1 l4))
noncomputable def Pn {R:Type} (s0:By) (i1 b2:Int) (b3:Bool) (l4:LL) (k0:By->Int->Int->Int->Int->LL->Option R) (k1:LL->Option R):Option R:=cond b3 (vl (A1 (b2-192)) λn'10=>k0 s0 i1 2 n'10 128 l4) (cond (not (ltI b2 224)) (Pm s0 i1 b2 (ltI b2 240) l4 (λs'13 i'14 n'15 v'16 least'17 l'18=>k0 s'13 i'14 n'15 v'16 least'17 l'18) (λl'19=>k1 l'19)) (Pm s0 i1 b2 false l4 (λs'20 i'21 n'22 v'23 least'24 l'25=>k0 s'20 i'21 n'22 v'23 least'24 l'25) (λl'26=>k1 l'26)))
noncomputable def Hs {R:Type} (lf n:Nat) (s0:By) (i1 n2 v3 least4 kk5:Int) (l6:LL) (k0:LL->Option R) (k1:By->Int->Int->Int->Int->LL->Option R):Option R:=match n with | 0=>none | n+1=>cond (ltI kk5 n2) (cond (inR (A1 (i1+kk5)) s0.length) (vl (bAt s0 (A1 (i1+kk5))) λn'37=>cond (ltI (A1 n'37) (128:Int)) (k0 l6) (cond (ltI 191 (A1 n'37)) (k0 l6) (vl (A1 ((A1 (v3*64))+(A1 n'37))) λn'38=>vl (A1 (n'38-128)) λn'39=>Hs lf n s0 i1 n2 n'39 least4 (A1 (kk5+1)) l6 k0 k1))) none) (k1 s0 i1 n2 v3 least4 l6)
noncomputable def Em {R:Type} (lf:Nat) (s0:By) (i1 n2 v3 least4:Int) (l5:LL) (k0:LL->Option R) (k1:By->Int->LL->Option R):Option R:=vl (A1 ((s0.length:Int)-i1)) λn'35=>cond (ltI n'35 n2) (k0 l5) (Hs lf lf s0 i1 n2 v3 least4 1 l5 (λl'40=>k0 l'40) (λs'41 i'42 n'43 v'44 least'45 l'46=>cond (ltI v'44 least'45) (k0 l'46) (cond (not (ptI v'44)) (k0 l'46) (cond (E3 (l'46.length+1)) (k1 s'41 (A1 (i'42+n'43)) (l'46++[[(SV.int .i64 v'44)]])) none))))
noncomputable def Y3 {R:Type} (lf n:Nat) (s0:By) (i1:Int) (l2:LL) (k0:LL->Option R) (k1:LL->Option R):Option R:=match n with | 0=>none | n+1=>cond (ltI i1 (s0.length:Int)) (cond (inR i1 s0.length) (cond (ltI (A1 (bAt s0 i1)) (128:Int)) (HZ lf s0 i1 (A1 (bAt s0 i1)) l2 (λl'6=>k0 l'6) (λs'7 i'8 l'9=>Y3 lf n s'7 i'8 l'9 k0 k1)) (cond (not (ltI (A1 (bAt s0 i1)) (194:Int))) (Pn s0 i1 (A1 (bAt s0 i1)) (ltI (A1 (bAt s0 i1)) (224:Int)) l2 (λs'27 i'28 n'29 v'30 least'31 l'32=>Em lf s'27 i'28 n'29 v'30 least'31 l'32 (λl'47=>k0 l'47) (λs'48 i'49 l'50=>Y3 lf n s'48 i'49 l'50 k0 k1)) (λl'33=>k0 l'33)) (Pn s0 i1 (A1 (bAt s0 i1)) false l2 (λs'51 i'52 n'53 v'54 least'55 l'56=>Em lf s'51 i'52 n'53 v'54 least'55 l'56 (λl'58=>k0 l'58) (λs'59 i'60 l'61=>Y3 lf n s'59 i'60 l'61 k0 k1)) (λl'57=>k0 l'57)))) none) (k1 l2)
noncomputable def Bu0 {R:Type} (lf:Nat) (s0:By) (k0:LL->Option R) (k1:LL->Option R):Option R:=Y3 lf lf s0 0 [] (λl'62=>k0 l'62) (λl'63=>k1 l'63)
noncomputable abbrev XI:Code:=D9 Tryz.f103
noncomputable def Gy (lf:Nat):Cfg:=C1 lf [103] (A6 [(6,[0,1,0,1,0])]) [(146,WT),(125,Ak8)] (A6 [(12,[2]),(11,[0,4,1,0]),(7,[0,2,1,0]),(10,[2]),(9,[0,2,1,0,34]),(8,[0,2,1,0]),(6,[0,2,1,0,12]),(5,[0,2,1,0]),(4,[0,2,1]),(3,[2]),(2,[0,2,11]),(1,[0,2,0]),(0,[0])]) [125] (A6 [(0,[0,2,1]),(1,[0,2,1,0])]) (some [2]) [] [] []
noncomputable def R8 {R:Type} (lf n:Nat) (rest0:By) (p_z1:Bool) (p2:LL) (other3:Bool) (i4:Int) (k0:Unit->Option R) (k1:By->Bool->LL->Bool->Option R):Option R:=match n with | 0=>none | n+1=>cond (ltI i4 (p2.length:Int)) (cond other3 (cond (inR i4 p2.length) (cond (okE Gj p2 (Int.toNat i4) 0) (cond (not (ltI (gE p2 (Int.toNat i4) 0) (65:Int))) (cond (inR i4 p2.length) (cond (okE Gj p2 (Int.toNat i4) 0) (cond (not (ltI 90 (gE p2 (Int.toNat i4) 0))) (k0 ()) (R8 lf n rest0 p_z1 p2 true (A1 (i4+1)) k0 k1)) none) none) (R8 lf n rest0 p_z1 p2 true (A1 (i4+1)) k0 k1)) none) none) (cond (inR i4 p2.length) (cond (okE Gj p2 (Int.toNat i4) 0) (cond (inR i4 p2.length) (cond (okE Gj p2 (Int.toNat i4) 0) (cond (not (ltI (gE p2 (Int.toNat i4) 0) (65:Int))) (cond (inR i4 p2.length) (cond (okE Gj p2 (Int.toNat i4) 0) (cond (not (ltI 90 (gE p2 (Int.toNat i4) 0))) (k0 ()) (R8 lf n rest0 p_z1 p2 (not (ltI (gE p2 (Int.toNat i4) 0) (128:Int))) (A1 (i4+1)) k0 k1)) none) none) (R8 lf n rest0 p_z1 p2 (not (ltI (gE p2 (Int.toNat i4) 0) (128:Int))) (A1 (i4+1)) k0 k1)) none) none) none) none)) (k1 rest0 p_z1 p2 other3)
theorem MV (n rest0 p_z1 p2 other3 i4):D5 0 ((Gy lf).keep 6) (bd (Gy lf) cl yh (cd [1,1,1,1,0,1,0,0] XI)) n ⟨gp [(0,pS rest0),(2,.s (.sl p_z1 p_z1 1 p2)),(1,pB other3),(0,pI i4)] 50,[],s⟩ k =
 R8 lf n rest0 p_z1 p2 other3 i4 (λ_=>k .ret ⟨gp [(2,pB false)] 54,[],s⟩) (λrest0 p_z1 p2 other3=>k (.exit 0) ⟨gp [(0,pS rest0),(2,.s (.sl p_z1 p_z1 1 p2)),(1,pB other3)] 51,[],s⟩):=by
 induction n generalizing rest0 p_z1 p2 other3 i4 with
 | zero=>rfl
 | succ n ih=>rw [R8];simp only [<-ih];kernel_rfl
noncomputable def ZD {R:Type} (lf:Nat) (rest0:By) (k0:Bool->Option R):Option R:=cond (A3 rest0.length) (vl (↑((K3 rest0)).2:Int) λn'1=>cond (n'1 != 0) (k0 false) (R8 lf lf rest0 (List.isEmpty ((K3 rest0)).1) (Sj ((K3 rest0)).1) false 0 (λ_=>k0 false) (λrest'2 p_z'3 p'4 other'5=>cond (List.all p'4 Jg) (vl ((R5 (List.map elI p'4))).1 λs'8=>vl (↑((R5 (List.map elI p'4))).2:Int) λn'9=>cond (n'9==0) (cond (s'8==rest'2) (k0 other'5) (k0 false)) (k0 false)) none))) none
theorem Aw9 (d:Nat) (rest0):evC (Gy lf) (d+1) σ yh 103 [pS rest0] [] s=ZD lf rest0 (λr0=>some (pB r0,[],s)):=by
 refine (evE (fn:=Tryz.f103) (by kernel_rfl)).trans ?_
 generalize evC (Gy lf) d=cl
 unfold ZD;exact (Eq.trans (by kernel_rfl) (A0 (A9 λn'1=>(A0 rfl ((MV lf cl yh s (G5 0 (G9 (Gy lf) cl yh (cd [1,1,1,1,1] XI) (H9 (Gy lf) Tryz.f103))) lf rest0 (List.isEmpty ((K3 rest0)).1) (Sj ((K3 rest0)).1) false 0).trans (by kernel_rfl)))) rfl))
noncomputable abbrev XG:Code:=D9 Tryz.f69
noncomputable def Gw (lf:Nat):Cfg:=C1 lf [69] (A6 [(4,[0,1,0])]) [(103,WU)] (A6 [(9,[2]),(5,[0,2]),(8,[2]),(7,[0,2,52]),(6,[0,2,0]),(4,[0,2,24]),(3,[0,2]),(2,[2]),(1,[0,23]),(0,[0])]) [103] (A6 [(0,[0]),(1,[0,2])]) (some [2]) [] [] []
noncomputable def K6 {R:Type} (lf n:Nat) (s0:By) (i1:Int) (k0:Unit->Option R) (k1:By->Option R):Option R:=match n with | 0=>none | n+1=>cond (ltI i1 (s0.length:Int)) (cond (inR i1 s0.length) (cond (not (ltI (bAt s0 i1) (97:Int))) (cond (not (ltI 122 (bAt s0 i1))) (K6 lf n s0 (A1 (i1+1)) k0 k1) (cond (not (ltI (bAt s0 i1) (48:Int))) (cond (not (ltI 57 (bAt s0 i1))) (K6 lf n s0 (A1 (i1+1)) k0 k1) (cond ((bAt s0 i1)==45) (K6 lf n s0 (A1 (i1+1)) k0 k1) (cond (not ((bAt s0 i1)==95)) (k0 ()) (K6 lf n s0 (A1 (i1+1)) k0 k1)))) (cond ((bAt s0 i1)==45) (K6 lf n s0 (A1 (i1+1)) k0 k1) (cond (not ((bAt s0 i1)==95)) (k0 ()) (K6 lf n s0 (A1 (i1+1)) k0 k1))))) (cond (not (ltI (bAt s0 i1) (48:Int))) (cond (not (ltI 57 (bAt s0 i1))) (K6 lf n s0 (A1 (i1+1)) k0 k1) (cond ((bAt s0 i1)==45) (K6 lf n s0 (A1 (i1+1)) k0 k1) (cond (not ((bAt s0 i1)==95)) (k0 ()) (K6 lf n s0 (A1 (i1+1)) k0 k1)))) (cond ((bAt s0 i1)==45) (K6 lf n s0 (A1 (i1+1)) k0 k1) (cond (not ((bAt s0 i1)==95)) (k0 ()) (K6 lf n s0 (A1 (i1+1)) k0 k1))))) none) (k1 s0)
theorem MK (n s0 i1):D5 0 ((Gw lf).keep 4) (bd (Gw lf) cl yh (cd [1,1,0,1,0,0] XG)) n ⟨gp [(0,pS s0),(2,pI i1)] 66,[],s⟩ k =
 K6 lf n s0 i1 (λ_=>k .ret ⟨gp [(2,pB false)] 67,[],s⟩) (λs0=>k (.exit 0) ⟨gp [(0,pS s0)] 69,[],s⟩):=by
 induction n generalizing s0 i1 with
 | zero=>rfl
 | succ n ih=>rw [K6];simp only [<-ih];kernel_rfl
noncomputable def YZ {R:Type} (lf:Nat) (s0:By) (k0:Bool->Option R):Option R:=cond (s0==[]) (k0 false) (cond (ltI 63 (s0.length:Int)) (k0 false) (cond (inR 0 s0.length) (cond ((bAt s0 (0:Int))==45) (k0 false) (vl (A1 ((s0.length:Int)-1)) λn'1=>cond (inR n'1 s0.length) (cond ((bAt s0 n'1)==45) (k0 false) (K6 lf lf s0 0 (λ_=>k0 false) (λs'2=>cond (ltI (s'2.length:Int) (4:Int)) (k0 true) (cond (N6 0 (4:Int) s'2.length) (vl (cut s'2 0 (4:Int)) λs'3=>cond (not (s'3==[120,110,45,45])) (k0 true) (cond (N6 4 (s'2.length:Int) s'2.length) (vl (cut s'2 4 (s'2.length:Int)) λs'4=>cond (A3 s'4.length) (k0 (Ak s'4)) none) none)) none)))) none)) none))
theorem Aw3 (d:Nat) (s0):evC (Gw lf) (d+1) σ yh 69 [pS s0] [] s=YZ lf s0 (λr0=>some (pB r0,[],s)):=by
 refine (evE (fn:=Tryz.f69) (by kernel_rfl)).trans ?_
 generalize evC (Gw lf) d=cl
 unfold YZ;exact (Eq.trans (by kernel_rfl) (A0 rfl (A0 rfl (A0 (A0 rfl (A9 λn'1=>(A0 (A0 rfl ((MK lf cl yh s (G5 0 (G9 (Gw lf) cl yh (cd [1,1,1] XG) (H9 (Gw lf) Tryz.f69))) lf s0 0).trans (by kernel_rfl))) rfl))) rfl))))
end
theorem MU {R:Type} {k0:Bool->Option R} (n:Int):HY LF n k0=k0 (ptI n):=by
 unfold HY
 by_cases h:n<0
 ·rw [B9 h]
  have:ptI n=false:=by
   cases n with
   | ofNat m=>exact absurd h (by simp)
   | negSucc m=>rfl
  grind
 ·obtain ⟨m,rfl⟩:=Int.eq_ofNat_of_zero_le (show 0<=n by omega)
  rw [A7,Ho]
  unfold P8
  by_cases h1:1114111<m
  ·rw [A8]
   have:Nat.ble m 1114111=false:=by rw [Bool.eq_false_iff,ne_eq,Nat.ble_eq];omega
   grind
  ·rw [A7]
   have:Nat.ble m 1114111=true:=by rw [Nat.ble_eq];omega
   rw [this]
   by_cases h2:m<55296
   ·rw [A8]
    have:Nat.blt m 55296=true:=by rw [Nat.blt_eq];omega
    grind
   ·rw [A7]
    have e:Nat.blt m 55296=false:=by rw [Bool.eq_false_iff,ne_eq,Nat.blt_eq];omega
    rw [e]
    simp only [Bool.not_false,cond_true,cond_false,Bool.false_or,Bool.true_and]
    congr 1
theorem LU {R:Type} {k0:Int->Int->Option R}:∀ (d n k:Nat),d<2305843009213693952->d<n->k+d<=4611686018427387904->
  ∃ d' k',d'<=455/\k'<=k+d/\Qz d k=k'+36*d' / (d'+38)/\Cm LF n (d:Int) (k:Int) k0=k0 (d':Int) (k':Int):=by
 intro d
 induction d using Nat.strongRecOn with
 | _ d ih=>
  intro n k hd hn hk
  obtain ⟨n,rfl⟩:∃ m,n=m+1:=⟨n-1,by omega⟩
  rw [Cm]
  by_cases h:455<d
  ·obtain ⟨d',k',h1,h2,h3,h4⟩:=ih (d / 35) (by omega) n (k+36) (by omega) (by omega) (by omega)
   refine ⟨d',k',h1,by omega,by rw [Wi h];exact h3,?_⟩
   have e:Int.tdiv (d:Int) 35=((d / 35:Nat):Int):=K7 d 35
   have e1:A1 ((d / 35:Nat):Int)=((d / 35:Nat):Int):=A4
   have e2:A1 ((k:Int)+36)=((k+36:Nat):Int):=by rw [A4];rfl
   rw [A8]
   simp only [cond_true,vl,e,e1,e2]
   exact h4
  ·refine ⟨d,k,by omega,by omega,Lw h,?_⟩
   rw [A7]
   rfl
theorem LV {R:Type} {k0:Int->Option R} (d c:Int) (f:Bool) (h0:ltN d 1152921504606846976=true) (h1:ltN c 1000000=true) (h2:ltI 0 c=true):Yt LF d c f k0=k0 (M6 d.toNat c.toNat f:Nat):=by
 obtain ⟨hd0,hd1⟩:=M0.1 h0
 obtain ⟨hc0,hc1⟩:=M0.1 h1
 obtain ⟨d,rfl⟩:=Int.eq_ofNat_of_zero_le hd0
 obtain ⟨c,rfl⟩:=Int.eq_ofNat_of_zero_le hc0
 have hc:=YG.1 h2
 have hLF:=D6
 have key:∀ x:Nat,x<1152921504606846976->Cl LF (x:Int) (c:Int) k0=k0 ((Qz (x+x / c) 0:Nat):Int):=by
  intro x hx
  have hxc:x / c<=x:=Nat.div_le_self _ _
  unfold Cl
  have e1:Int.tdiv (x:Int) (c:Int)=((x / c:Nat):Int):=K7 x c
  generalize x / c=q at *
  have e2:A1 (q:Int)=(q:Int):=A4
  have e3:A1 ((x:Int)+(q:Int))=((x+q:Nat):Int):=by rw [A4];rfl
  rw [show ((c:Int) != 0)=true by simp;omega]
  simp only [cond_true,vl,e1,e2,e3]
  obtain ⟨d',k',g1,g2,g3,g4⟩:=LU (R:=R) (k0:=λdelta'7 k'8=>vl (A1 ((36)*delta'7)) λn'9=>vl (A1 (delta'7+(38))) λn'10=>cond (n'10 != (0)) (vl (A1 (Int.tdiv n'9 n'10)) λn'11=>k0 (A1 (k'8+n'11))) none) (x+q) LF 0 (by omega) (by omega) (by omega)
  refine Eq.trans g4 ?_
  have hq:36*d' / (d'+38)<=36*d':=Nat.div_le_self _ _
  have f1:A1 (36*(d':Int))=((36*d':Nat):Int):=by rw [A4];rfl
  have f2:A1 ((d':Int)+38)=((d'+38:Nat):Int):=by rw [A4];rfl
  have f3:Int.tdiv ((36*d':Nat):Int) ((d'+38:Nat):Int)=((36*d' / (d'+38):Nat):Int):=K7 _ _
  have f4:A1 ((36*d' / (d'+38):Nat):Int)=((36*d' / (d'+38):Nat):Int):=A4
  have f5:A1 ((k':Int)+((36*d' / (d'+38):Nat):Int))=((k'+36*d' / (d'+38):Nat):Int):=by rw [A4];rfl
  simp only [vl,f1,f2,f3,f4,f5]
  rw [show (((d'+38:Nat):Int) != 0)=true by simp;omega,g3]
  rfl
 unfold Yt M6
 rw [Int.toNat_natCast,Int.toNat_natCast]
 cases f with
 | true=>
  have e1:Int.tdiv (d:Int) 700=((d / 700:Nat):Int):=K7 d 700
  have e2:A1 ((d / 700:Nat):Int)=((d / 700:Nat):Int):=A4
  simp only [cond_true,vl,e1,e2,if_true]
  exact key _ (by omega)
 | false=>
  have e1:Int.tdiv (d:Int) 2=((d / 2:Nat):Int):=K7 d 2
  have e2:A1 ((d / 2:Nat):Int)=((d / 2:Nat):Int):=A4
  simp only [cond_false,vl,e1,e2,Bool.false_eq_true,if_false]
  exact key _ (by omega)
theorem TG {R:Type} {k0:Int->Option R} (d:Int) (h0:ltN d 36=true):YT LF d k0=k0 ((U5 d.toNat).toNat:Nat):=by
 obtain ⟨hd0,hd1⟩:=M0.1 h0
 obtain ⟨d,rfl⟩:=Int.eq_ofNat_of_zero_le hd0
 unfold YT
 rw [Int.toNat_natCast,AY (by omega)]
 by_cases h:d<26
 ·rw [A8,if_pos h]
  simp only [cond_true,vl]
  congr 1
  rw [A4,S9]
  rfl
 ·rw [A7,if_neg h]
  simp only [cond_false,vl]
  congr 1
  rw [D8 (n:=48+(d:Int)) (by omega) (by omega),A4,S9]
  omega
theorem Ah6 {R:Type} {k0:Int->Option R} (b:Int) (h0:inR b 256=true):Ax0 LF b k0=k0 (C5 (u8n b)):=by
 simp only [inR,Bool.and_eq_true,decide_eq_true_eq] at h0
 have hc:b=((u8n b).toNat:Int):=by
  unfold u8n
  simp
  omega
 generalize u8n b=c at *
 subst hc
 have hbt:=c.toNat_lt
 unfold Ax0 C5
 simp only [Pq,Pp,vl]
 rcases Ug c with ⟨h1,h2,e⟩ | ⟨h1,h2,e⟩ | ⟨h1,h2,e⟩ | ⟨h1,h2,h3,e⟩
 ·have e2:A1 (wu8 ((c.toNat:Int)-97))=((c.toNat-97:Nat):Int):=by
   rw [S9,A4];omega
  simp (disch:=omega) only [B9,D1,Bool.not_true,Bool.not_false,cond_false,cond_true,e2,e]
 ·have e2:A1 (wu8 ((c.toNat:Int)-65))=((c.toNat-65:Nat):Int):=by
   rw [S9,A4];omega
  simp (disch:=omega) only [B9,D1,Bool.not_true,Bool.not_false,cond_false,cond_true,e2,e]
 ·have e2:A1 (A1 (wu8 ((c.toNat:Int)-48))+26)=((c.toNat-22:Nat):Int):=by
   rw [S9,D8 (n:=(c.toNat:Int)-48) (by omega) (by omega),A4];omega
  simp (disch:=omega) only [B9,D1,Bool.not_true,Bool.not_false,cond_false,cond_true,e2,e]
 ·rw [e]
  by_cases c1:c.toNat<48
  ·simp (disch:=omega) only [B9,D1,Bool.not_true,Bool.not_false,cond_false,cond_true]
  ·by_cases c2:c.toNat<65
   ·simp (disch:=omega) only [B9,D1,Bool.not_true,Bool.not_false,cond_false,cond_true]
   ·by_cases c3:c.toNat<97
    ·simp (disch:=omega) only [B9,D1,Bool.not_true,Bool.not_false,cond_false,cond_true]
    ·simp (disch:=omega) only [B9,D1,Bool.not_true,Bool.not_false,cond_false,cond_true]
theorem Ah5 {R:Type} {k0:Int->Option R} (k b:Int) (h0:ltN k 10000000000=true) (h1:ltN b 1000000=true):Bc2 LF k b k0=k0 (I4 (Int.mul 36 k) b):=by
 obtain ⟨k1,k2⟩:=M0.1 h0
 obtain ⟨b1,b2⟩:=M0.1 h1
 unfold Bc2 I4
 have e1:A1 (k+1)=k+1:=A4
 have e2:A1 ((36:Int)*(k+1))=36*(k+1):=A4
 have e3:A1 (36*(k+1)-b)=36*(k+1)-b:=A4
 grind
theorem Av5 (z t:Bool) (pts:LL) (done basic nn delta i:Int) (b:Nat) (hb:b<1000000):∀ (r q k n:Nat) (l:LL),q<10 ^ r->q<1152921504606846976->k+r<=1000->r<n->l.length+r<=200000->
  ∃ (q':Nat) (pre:By),q'<36/\L9 q k b=pre++[U5 q']/\∀ (R:Type) (k0:Bool->Bool->LL->Int->Int->Int->Int->Int->Int->LL->Option R),Bu LF n z t pts done basic nn delta (b:Int) i (q:Int) (k:Int) l k0=k0 z t pts done basic nn delta i (q':Int) (l++pre.map D2):=by
 have hthr:∀ k:Nat,I4 (Int.mul 36 (k:Int)) (b:Int)=(thr k b:Int):=λk=>by
  rw [show Int.mul 36 (k:Int)=((36*k:Nat):Int) from rfl,Qa]
 have fin:∀ (q k n:Nat) (l:LL),q<thr k b->k<=1000->∃ (q':Nat) (pre:By),q'<36/\L9 q k b=pre++[U5 q']/\∀ (R:Type) (k0:Bool->Bool->LL->Int->Int->Int->Int->Int->Int->LL->Option R),Bu LF (n+1) z t pts done basic nn delta (b:Int) i (q:Int) (k:Int) l k0=k0 z t pts done basic nn delta i (q':Int) (l++pre.map D2):=by
  intro q k n l hq hk
  have ht:=Q3 k b
  refine ⟨q,[],by omega,by rw [Ko hq];rfl,λR k0=>?_⟩
  rw [Bu]
  have hq':ltI (q:Int) (thr k b:Int)=true:=A8
  rw [M4,M4,hthr]
  grind
 intro r
 induction r with
 | zero=>
  intro q k n l h _ hk hn hl
  have ht:=Q3 k b
  obtain ⟨n,rfl⟩:∃ m,n=m+1:=⟨n-1,by omega⟩
  exact fin q k n l (by simp at h;omega) (by omega)
 | succ r ih=>
  intro q k n l h hq60 hk hn hl
  have ht:=Q3 k b
  obtain ⟨n,rfl⟩:∃ m,n=m+1:=⟨n-1,by omega⟩
  by_cases hq:q<thr k b
  ·exact fin q k n l hq (by omega)
  ·have hd:(q-thr k b) / (36-thr k b)<10 ^ r:=GF (by omega) (by rw [Nat.pow_succ] at h;omega)
   have hd2:(q-thr k b) / (36-thr k b)<=q:=Nat.le_trans (Nat.div_le_self _ _) (by omega)
   have hm2:(q-thr k b) % (36-thr k b)<36-thr k b:=Nat.mod_lt _ (by omega)
   obtain ⟨q',pre,e0,e1,e⟩:=ih ((q-thr k b) / (36-thr k b)) (k+1) n (l++[D2 (U5 (thr k b+(q-thr k b) % (36-thr k b)))]) hd (by omega) (by omega) (by omega) (by rw [List.length_append,List.length_singleton];omega)
   refine ⟨q',U5 (thr k b+(q-thr k b) % (36-thr k b))::pre,e0,by rw [Ro hq,e1];rfl,λR k0=>?_⟩
   rw [Bu]
   have c1:A1 ((q:Int)-(thr k b:Int))=((q-thr k b:Nat):Int):=by rw [A4];omega
   have c2:A1 ((36:Int)-(thr k b:Int))=((36-thr k b:Nat):Int):=by rw [A4];omega
   have c3:Int.tmod ((q-thr k b:Nat):Int) ((36-thr k b:Nat):Int)=(((q-thr k b) % (36-thr k b):Nat):Int):=Gl _ _
   have c4:Int.tdiv ((q-thr k b:Nat):Int) ((36-thr k b:Nat):Int)=(((q-thr k b) / (36-thr k b):Nat):Int):=K7 _ _
   have c7:((((36-thr k b:Nat):Int)) != 0)=true:=by rw [bne_iff_ne];omega
   have c8:A1 ((k:Int)+1)=((k+1:Nat):Int):=by rw [A4];rfl
   have hq':ltI (q:Int) (thr k b:Int)=false:=A7
   rw [M4,M4,hthr]
   simp only [vl,hq',c1,c2,c3,c4,c7,c8,cond_true,cond_false,Bool.not_false]
   generalize hA:(q-thr k b) / (36-thr k b)=A at *
   generalize hB:(q-thr k b) % (36-thr k b)=B at *
   have c5:A1 ((thr k b:Int)+(B:Int))=((thr k b+B:Nat):Int):=by rw [A4];rfl
   have c6:A1 (A:Int)=(A:Int):=A4
   rw [c5,c6,M4,D4 (by omega),Int.toNat_natCast]
   refine Eq.trans (e R k0) ?_
   simp [List.append_assoc,D2]
theorem Ba9 (z t:Bool) (pts:List Nat) (basic m:Nat) (hm:m<=1114112) (hl:pts.length<=256):∀ (r i n:Nat) (s:DB),i+r=pts.length->r<n->s.delta+r<=1000000000000->s.bias<=500->s.out.length+20*r<=90000->s.done+r<=1000->basic<=256->
  (∀ (R:Type) (k0:Bool->Bool->LL->Int->Int->Int->Int->Int->LL->Option R),V2 LF n z t (B1 pts) (s.done:Int) (basic:Int) (m:Int) (s.delta:Int) (s.bias:Int) (i:Int) (s.out.map D2) k0 =
   k0 z t (B1 pts) ((F4 m basic (pts.drop i) s).done:Int) (basic:Int) (m:Int) ((F4 m basic (pts.drop i) s).delta:Int) ((F4 m basic (pts.drop i) s).bias:Int) ((F4 m basic (pts.drop i) s).out.map D2))/\
  (F4 m basic (pts.drop i) s).bias<=500/\(F4 m basic (pts.drop i) s).out.length<=s.out.length+20*(pts.drop i).countP (· == m)/\(F4 m basic (pts.drop i) s).done=s.done+(pts.drop i).countP (· == m)/\
  (F4 m basic (pts.drop i) s).delta<=(if 0<(pts.drop i).countP (· == m) then r else s.delta+r):=by
 have hLF:=D6
 intro r
 induction r with
 | zero=>
  intro i n s hi hn h1 h2 h3 h4 hb
  obtain ⟨n,rfl⟩:∃ m,n=m+1:=⟨n-1,by omega⟩
  rw [List.drop_of_length_le (by omega)]
  refine ⟨λR k0=>?_,h2,by simp [F4],by simp [F4],by simp [F4]⟩
  rw [V2]
  rw [C0,A7]
  rfl
 | succ r ih=>
  intro i n s hi hn h1 h2 h3 h4 hb
  obtain ⟨n,rfl⟩:∃ m,n=m+1:=⟨n-1,by omega⟩
  rw [Ob pts i (by omega)]
  have hg:=Rw pts i (by omega)
  have ok:=Kv (l:=pts) (i:=i) (by omega)
  have hin:inR (i:Int) (B1 pts).length=true:=J6 (by omega) (by rw [C0];omega)
  have hlt:ltI (i:Int) ((B1 pts).length:Int)=true:=B9 (by rw [C0];omega)
  generalize pts.getD i 0=p at *
  have e1:A1 ((i:Int)+1)=((i+1:Nat):Int):=by rw [A4];rfl
  have e2:A1 ((s.delta:Int)+1)=((s.delta+1:Nat):Int):=by rw [A4];rfl
  have e3:A1 ((s.done:Int)+1)=((s.done+1:Nat):Int):=by rw [A4];rfl
  by_cases hp:p<m
  ·have hne:(p==m)=false:=by rw [beq_eq_false_iff_ne];omega
   have hs:F4 m basic (p::pts.drop (i+1)) s=F4 m basic (pts.drop (i+1)) { s with delta:=s.delta+1 }:=by rw [F4,if_pos hp]
   obtain ⟨q1,q2,q3,q4,q5⟩:=ih (i+1) n { s with delta:=s.delta+1 } (by omega) (by omega) (by simp only;omega) h2 (by simp only;omega) (by simp only;omega) hb
   rw [hs,List.countP_cons_of_neg (by rw [hne];simp)]
   refine ⟨λR k0=>?_,q2,q3,q4,?_⟩
   ·rw [V2]
    rw [Int.toNat_natCast]
    simp only [hin,hlt,ok,cond_true,vl,hg,e1,e2]
    rw [A8,cond_true,show ((p:Int) != (m:Int))=true by rw [bne_iff_ne];omega,cond_true]
    exact q1 R k0
   ·simp only at q5
    split at q5<;>split<;>omega
  ·by_cases hq:p=m
   ·subst hq
    have hn20:=BA (q:=s.delta) (k:=0) (b:=s.bias) (by omega)
    have had:=Ir s.delta (s.done+1) (s.done==basic) (by omega)
    have hs:F4 p basic (p::pts.drop (i+1)) s=F4 p basic (pts.drop (i+1)) { delta:=0,bias:=M6 s.delta (s.done+1) (s.done==basic),done:=s.done+1,out:=s.out++L9 s.delta 0 s.bias }:=by rw [F4,if_neg hp,if_pos rfl]
    obtain ⟨q1,q2,q3,q4,q5⟩:=ih (i+1) n { delta:=0,bias:=M6 s.delta (s.done+1) (s.done==basic),done:=s.done+1,out:=s.out++L9 s.delta 0 s.bias } (by omega) (by omega) (by simp only;omega) had (by simp only [List.length_append];omega) (by simp only;omega) hb
    obtain ⟨q',pre,f1,f2,f3⟩:=Av5 z t (B1 pts) (s.done:Int) (basic:Int) (p:Int) (s.delta:Int) (i:Int) s.bias (by omega) 19 s.delta 0 LF (s.out.map D2) (by omega) (by omega) (by omega) (by omega) (by rw [List.length_map];omega)
    rw [hs,List.countP_cons_of_pos (by simp)]
    refine ⟨λR k0=>?_,q2,?_,?_,?_⟩
    ·rw [V2]
     have hbeq:((s.done:Int)==(basic:Int))=(s.done==basic):=by
      rw [Bool.eq_iff_iff,beq_iff_eq,beq_iff_eq];omega
     rw [Int.toNat_natCast]
     simp only [hin,hlt,ok,cond_true,vl,hg,e1,e3]
     rw [A7,cond_false,bne_self_eq_false,cond_false]
     refine Eq.trans (f3 R _) ?_
     have hpl:pre.length+1=(L9 s.delta 0 s.bias).length:=by rw [f2];simp
     rw [M4,Int.toNat_natCast,D4 (by rw [List.length_append,List.length_map,List.length_map];omega)]
     simp only [vl,cond_true,e1,e3]
     rw [M4,M4,A8,hbeq]
     simp only [cond_true,Int.toNat_natCast]
     have hrow:s.out.map D2++pre.map D2++[[SV.int .u8 (((U5 q').toNat:Nat):Int)]]=(s.out++L9 s.delta 0 s.bias).map D2:=by
      rw [f2,List.map_append,List.map_append,List.append_assoc];rfl
     rw [hrow]
     exact q1 R k0
    ·simp only [List.length_append] at q3;omega
    ·simp only at q4;omega
    ·simp only at q5
     rw [Bh]
     split at q5<;>omega
   ·have hne:(p==m)=false:=by rw [beq_eq_false_iff_ne];omega
    have hs:F4 m basic (p::pts.drop (i+1)) s=F4 m basic (pts.drop (i+1)) s:=by rw [F4,if_neg hp,if_neg hq]
    obtain ⟨q1,q2,q3,q4,q5⟩:=ih (i+1) n s (by omega) (by omega) (by omega) h2 (by omega) (by omega) hb
    rw [hs,List.countP_cons_of_neg (by rw [hne];simp)]
    refine ⟨λR k0=>?_,q2,q3,q4,?_⟩
    ·rw [V2]
     rw [Int.toNat_natCast]
     simp only [hin,hlt,ok,cond_true,vl,hg,e1]
     rw [A7,cond_false,show ((p:Int) != (m:Int))=true by rw [bne_iff_ne];omega,cond_true]
     exact q1 R k0
    ·split at q5<;>split<;>omega
theorem TV {R:Type} {k0:Bool->Bool->LL->Int->Int->Int->Int->Int->Int->LL->Option R} (z t:Bool) (pts:List Nat) (hl:pts.length<=256) (n0:Nat) (basic delta bias done:Int) (l:LL):∀ (r i n m:Nat),i+r=pts.length->r<n->
  Ek LF n z t (B1 pts) done basic (n0:Int) delta bias (m:Int) (i:Int) l k0=k0 z t (B1 pts) done basic (n0:Int) delta bias ((F3 n0 (pts.drop i) m:Nat):Int) l:=by
 intro r
 induction r with
 | zero=>
  intro i n m hi hn
  obtain ⟨n,rfl⟩:∃ m,n=m+1:=⟨n-1,by omega⟩
  rw [Ek]
  rw [C0,A7,List.drop_of_length_le (by omega)]
  rfl
 | succ r ih=>
  intro i n m hi hn
  obtain ⟨n,rfl⟩:∃ m,n=m+1:=⟨n-1,by omega⟩
  have hg:=Rw pts i (by omega)
  have ok:=Kv (l:=pts) (i:=i) (by omega)
  have hin:inR (i:Int) (B1 pts).length=true:=J6 (by omega) (by rw [C0];omega)
  have hlt:ltI (i:Int) ((B1 pts).length:Int)=true:=B9 (by rw [C0];omega)
  rw [Ek,Ob pts i (by omega)]
  generalize pts.getD i 0=p at *
  have e1:A1 ((i:Int)+1)=((i+1:Nat):Int):=by rw [A4];rfl
  rw [Int.toNat_natCast]
  simp only [hin,hlt,ok,cond_true,vl,hg,e1,F3]
  by_cases h:n0<=p
  ·rw [if_pos h,A7,Bool.not_false,cond_true]
   have:(if (p:Int)<(m:Int) then (p:Int) else (m:Int))=((min m p:Nat):Int):=by split<;>omega
   rw [this]
   exact ih (i+1) n (min m p) (by omega) (by omega)
  ·rw [if_neg h,A8,Bool.not_true,cond_false]
   exact ih (i+1) n m (by omega) (by omega)
theorem Av6 (z t:Bool) (pts:List Nat) (basic:Nat) (hl:pts.length<=256) (hb:basic<=256) (hall:∀ p∈pts,p<=1114111):∀ (f n n':Nat) (s:DB),s.done=pts.countP (λp=>decide (p<n))->pts.length<=s.done+f->f<n'->s.delta<=300->s.bias<=500->s.out.length+20*(pts.length-s.done)<=80000->n<=1114112->
  ∀ (R:Type) (k0:LL->Option R),Bv LF n' z t (B1 pts) (s.done:Int) (basic:Int) (n:Int) (s.delta:Int) (s.bias:Int) (s.out.map D2) k0=k0 ((N1 pts basic f n s).out.map D2):=by
 intro f
 have hLF:=D6
 induction f with
 | zero=>
  intro n n' s hd hf hn h1 h2 h3 h4 R k0
  obtain ⟨n',rfl⟩:∃ m,n'=m+1:=⟨n'-1,by omega⟩
  rw [Bv]
  rw [C0,A7]
  rfl
 | succ f ih=>
  intro n n' s hd hf hn h1 h2 h3 h4 R k0
  obtain ⟨n',rfl⟩:∃ m,n'=m+1:=⟨n'-1,by omega⟩
  rw [Bv]
  rw [C0]
  have hcl:pts.countP (λp=>decide (p<n))<=pts.length:=List.countP_le_length
  by_cases hlt:s.done<pts.length
  ·obtain ⟨p0,hp0,hp1⟩:=PX (n:=n) (l:=pts) (by omega)
   obtain ⟨g1,g2,g3⟩:=Ay n pts 1114112
   obtain ⟨b1,b2,b3⟩:=Ay n pts 1073741824
   have g4:=g3 p0 hp0 hp1
   have b4:=b3 p0 hp0 hp1
   have g5:=hall p0 hp0
   have hmem:F3 n pts 1114112∈pts/\n<=F3 n pts 1114112:=by grind
   have bmem:F3 n pts 1073741824∈pts/\n<=F3 n pts 1073741824:=by grind
   have heq:F3 n pts 1073741824=F3 n pts 1114112:=by grind
   have he:N1 pts basic (f+1) n s=N1 pts basic f (F3 n pts 1114112+1) { F4 (F3 n pts 1114112) basic pts { s with delta:=s.delta+(F3 n pts 1114112-n)*(s.done+1) } with delta:=(F4 (F3 n pts 1114112) basic pts { s with delta:=s.delta+(F3 n pts 1114112-n)*(s.done+1) }).delta+1 }:=by
    rw [N1,if_pos hlt]
   rw [he,A8,cond_true]
   have hleast:=λ(K:Bool->Bool->LL->Int->Int->Int->Int->Int->Int->LL->Option R)=>TV (k0:=K) z t pts hl n (basic:Int) (s.delta:Int) (s.bias:Int) (s.done:Int) (s.out.map D2) pts.length 0 LF 1073741824 (by omega) (by omega)
   rw [List.drop_zero,heq] at hleast
   refine Eq.trans (hleast _) ?_
   clear hleast heq b1 b2 b3 b4 bmem
   generalize F3 n pts 1114112=m at *
   have hmul:(m-n)*(s.done+1)<=1114112*256:=Nat.mul_le_mul (by omega) (by omega)
   have e1:A1 ((s.done:Int)+1)=((s.done+1:Nat):Int):=by rw [A4];rfl
   have e2:A1 ((m:Int)-(n:Int))=((m-n:Nat):Int):=by rw [A4];omega
   have e3:A1 (((m-n:Nat):Int)*((s.done+1:Nat):Int))=(((m-n)*(s.done+1):Nat):Int):=by
    rw [<-Int.natCast_mul]
    exact A4
   have e4:A1 ((s.delta:Int)+(((m-n)*(s.done+1):Nat):Int))=((s.delta+(m-n)*(s.done+1):Nat):Int):=by
    rw [A4];rfl
   simp only [vl,e1,e2,e3,e4]
   have hin:=Ba9 z t pts basic m (by omega) hl pts.length 0 LF { s with delta:=s.delta+(m-n)*(s.done+1) } (by omega) (by omega) (by simp only;omega) h2 (by simp only;omega) (by simp only;omega) hb
   rw [List.drop_zero] at hin
   obtain ⟨q1,q2,q3,q4,q5⟩:=hin
   refine Eq.trans (q1 R _) ?_
   have hcnt:0<pts.countP (· == m):=List.countP_pos_iff.2 ⟨m,hmem.1,by simp⟩
   rw [if_pos hcnt] at q5
   have hstep:=Nt hmem.2 pts g3
   generalize F4 m basic pts { s with delta:=s.delta+(m-n)*(s.done+1) } = s' at *
   simp only at q3 q4
   have e5:A1 ((s'.delta:Int)+1)=((s'.delta+1:Nat):Int):=by rw [A4];rfl
   have e6:A1 ((m:Int)+1)=((m+1:Nat):Int):=by rw [A4];rfl
   have hcl2:pts.countP (λp=>decide (p<m+1))<=pts.length:=List.countP_le_length
   simp only [e5,e6]
   exact ih (m+1) n' { s' with delta:=s'.delta+1 } (by simp only;omega) (by simp only;omega) (by omega) (by simp only;omega) q2 (by simp only;omega) (by omega) R k0
  ·rw [A7]
   rw [N1,if_neg hlt]
   rfl
theorem TQ (z t:Bool) (P:List Int) (hl:P.length<=256):∀ (r i n:Nat) (out:By),i+r=P.length->r<n->out.length+r<=1000->
  ((P.drop i).all ptI=true->∀ (R:Type) (k0:LL->Option R) (k1:Bool->Bool->LL->LL->Option R),P4 LF n z t (V4 P) (i:Int) (out.map D2) k0 k1=k1 z t (V4 P) ((out++Q4 (P.drop i)).map D2))/\
  ((P.drop i).all ptI=false->∃ l,∀ (R:Type) (k0:LL->Option R) (k1:Bool->Bool->LL->LL->Option R),P4 LF n z t (V4 P) (i:Int) (out.map D2) k0 k1=k0 l):=by
 intro r
 induction r with
 | zero=>
  intro i n out hi hn ho
  obtain ⟨n,rfl⟩:∃ m,n=m+1:=⟨n-1,by omega⟩
  rw [List.drop_of_length_le (by omega)]
  refine ⟨λ_ R k0 k1=>?_,λh=>(by cases h)⟩
  rw [P4]
  rw [P6,A7]
  simp [Q4]
 | succ r ih=>
  intro i n out hi hn ho
  obtain ⟨n,rfl⟩:∃ m,n=m+1:=⟨n-1,by omega⟩
  have hg:=QP P i (by omega)
  have ok:=HA (l:=P) (i:=i) (by omega)
  have hin:inR (i:Int) (V4 P).length=true:=J6 (by omega) (by rw [P6];omega)
  have hlt:ltI (i:Int) ((V4 P).length:Int)=true:=B9 (by rw [P6];omega)
  rw [JW P i (by omega)]
  generalize P.getD i 0=x at *
  have e1:A1 ((i:Int)+1)=((i+1:Nat):Int):=by rw [A4];rfl
  cases hx:ptI x with
  | false=>
   refine ⟨λh=>?_,λ_=>⟨out.map D2,λR k0 k1=>?_⟩⟩
   ·rw [List.all_cons,hx] at h;cases h
   ·rw [P4]
    rw [Int.toNat_natCast]
    simp only [hin,hlt,ok,cond_true,vl,hg,hx,Bool.not_false]
  | true=>
   obtain ⟨p0,p1⟩:=Na hx
   rw [List.all_cons,hx,Bool.true_and]
   by_cases h128:x<128
   ·have hbs:Q4 (x::P.drop (i+1))=UInt8.ofNat x.toNat::Q4 (P.drop (i+1)):=by
     unfold Q4;rw [List.filter_cons_of_pos (by simpa using h128)];rfl
    have hrow:out.map D2++[[SV.int .u8 (wu8 x)]]=(out++[UInt8.ofNat x.toNat]).map D2:=by rw [Ay4 x p0 h128];simp
    obtain ⟨q1,q2⟩:=ih (i+1) n (out++[UInt8.ofNat x.toNat]) (by omega) (by omega) (by simp;omega)
    have step:∀ (R:Type) (k0:LL->Option R) (k1:Bool->Bool->LL->LL->Option R),P4 LF (n+1) z t (V4 P) (i:Int) (out.map D2) k0 k1=P4 LF n z t (V4 P) ((i+1:Nat):Int) ((out++[UInt8.ofNat x.toNat]).map D2) k0 k1:=by
     intro R k0 k1
     rw [P4]
     rw [Int.toNat_natCast]
     simp only [hin,hlt,ok,cond_true,vl,hg,hx,Bool.not_true,cond_false,e1]
     rw [B9 h128,List.length_map,D4 (by omega),hrow]
     rfl
    refine ⟨λh R k0 k1=>?_,λh=>?_⟩
    ·rw [step,q1 h,hbs];simp
    ·obtain ⟨l,e⟩:=q2 h
     exact ⟨l,λR k0 k1=>by rw [step];exact e R k0 k1⟩
   ·have hbs:Q4 (x::P.drop (i+1))=Q4 (P.drop (i+1)):=by
     unfold Q4;rw [List.filter_cons_of_neg (by simpa using h128)]
    obtain ⟨q1,q2⟩:=ih (i+1) n out (by omega) (by omega) (by omega)
    have step:∀ (R:Type) (k0:LL->Option R) (k1:Bool->Bool->LL->LL->Option R),P4 LF (n+1) z t (V4 P) (i:Int) (out.map D2) k0 k1=P4 LF n z t (V4 P) ((i+1:Nat):Int) (out.map D2) k0 k1:=by
     intro R k0 k1
     rw [P4]
     rw [Int.toNat_natCast]
     simp only [hin,hlt,ok,cond_true,vl,hg,hx,Bool.not_true,cond_false,e1]
     rw [A7]
     rfl
    refine ⟨λh R k0 k1=>?_,λh=>?_⟩
    ·rw [step,q1 h,hbs]
    ·obtain ⟨l,e⟩:=q2 h
     exact ⟨l,λR k0 k1=>by rw [step];exact e R k0 k1⟩
theorem TR (z t:Bool) (P:List Int):(R5 P=([],3)/\∀ (R:Type) (k0:Unit->Option R) (k1:By->Int->LL->Option R),LX LF z t (V4 P) k0 k1=k0 ())\/
  (∃ l,∀ (R:Type) (k0:Unit->Option R) (k1:By->Int->LL->Option R),LX LF z t (V4 P) k0 k1=k1 (R5 P).1 ((R5 P).2:Nat) l):=by
 have hLF:=D6
 by_cases hl:256<P.length
 ·refine .inl ⟨by unfold R5;rw [if_pos hl],λR k0 k1=>?_⟩
  unfold LX
  rw [P6,A8]
  rfl
 ·right
  obtain ⟨q1,q2⟩:=TQ z t P (by omega) P.length 0 LF [] (by omega) (by omega) (by simp;omega)
  rw [List.drop_zero] at q1 q2
  cases ha:P.all ptI with
  | false=>
   obtain ⟨l,e⟩:=q2 ha
   refine ⟨l,λR k0 k1=>?_⟩
   unfold LX
   rw [P6,A7,cond_false]
   refine Eq.trans (e R _ _) ?_
   unfold R5
   rw [if_neg hl,ha]
   rfl
  | true=>
   obtain ⟨pts,rfl,hp1,hp2⟩:=YS ha
   rw [List.length_map] at hl
   have hen:R5 (pts.map λn:Nat=>(n:Int))=Bn pts:=by
    unfold R5
    rw [List.length_map,if_neg hl,ha]
    simp [Function.comp_def]
   have hbl:=Md pts
   have hbc:pts.countP (λp=>decide (p<128))<=pts.length:=List.countP_le_length
   have main:∀ (o:By),o.length<=300->∀ (R:Type) (k0:LL->Option R),Bv LF LF z t (B1 pts) ((F9 pts).length:Int) ((F9 pts).length:Int) 128 0 72 (o.map D2) k0=k0 ((N1 pts (F9 pts).length 256 128 { delta:=0,bias:=72,done:=(F9 pts).length,out:=o }).out.map D2):=by
    intro o ho R k0
    exact Av6 z t pts (F9 pts).length (by omega) (by omega) hp2 256 128 LF { delta:=0,bias:=72,done:=(F9 pts).length,out:=o } hbl (by simp only;omega) (by omega) (by simp) (by simp) (by simp only;omega) (by omega) R k0
   have he2:Bn pts=((N1 pts (F9 pts).length 256 128 { delta:=0,bias:=72,done:=(F9 pts).length,out:=if (F9 pts).isEmpty then [] else F9 pts++[45] }).out,0):=by
    unfold Bn
    grind
   refine ⟨(Bn pts).1.map D2,λR k0 k1=>?_⟩
   unfold LX
   rw [P6,List.length_map,A7,cond_false,hen]
   have q1':=q1 ha R
   refine Eq.trans (q1' _ _) ?_
   rw [List.nil_append,Wn,Ku]
   simp only [vl,List.length_map]
   by_cases hbe:F9 pts=[]
   ·rw [hbe,List.length_nil,A7,cond_false]
    have mm:=main [] (by simp) R
    rw [hbe,List.length_nil] at mm
    rw [List.map_nil] at mm
    refine Eq.trans (mm _) ?_
    rw [hbe] at he2
    rw [he2]
    simp only [List.isEmpty_nil,if_true,List.length_nil]
    rw [Fq,Ga]
    rfl
   ·have hpos:0<(F9 pts).length:=List.length_pos_iff.2 hbe
    rw [A8,cond_true,D4 (by omega),cond_true]
    have hrow:(F9 pts).map D2++[[SV.int .u8 (45:Int)]]=(F9 pts++[45]).map D2:=by rw [List.map_append];rfl
    rw [hrow]
    refine Eq.trans (main (F9 pts++[45]) (by simp;omega) R _) ?_
    rw [he2,if_neg (by simpa using hbe)]
    rw [Fq,Ga]
    rfl
theorem Bb0 (z t:Bool) (p:LL) (h0:p.all Jg=true):∃ r H,LX LF z t p (λ_=>rv (.tup [.s (.str []),.s (.int .i64 3)]) []) (λr0 r1 l=>rv (.tup [.s (.str r0),.s (.int .i64 r1)]) [.arr true 5 1 l])=rv r H/\
  r.stab [0,0] H = .tup [.s (.str (R5 (p.map elI)).1),.s (.int .i64 ((R5 (p.map elI)).2:Nat))]:=by
 obtain ⟨P,rfl⟩:=XR h0
 rw [JX]
 rcases TR z t P with ⟨h1,h2⟩ | ⟨l,h2⟩
 ·exact ⟨_,_,h2 _ _ _,by rw [h1];rfl⟩
 ·exact ⟨_,_,h2 _ _ _,rfl⟩
theorem US {R:Type} {k0:Unit->Option R} {k1:By->Int->Option R} (s:By) (hs:s.length<=1000000):∀ (r i n cut:Nat),i+r=s.length->r<n->
  Ba LF n s (cut:Int) (i:Int) k0 k1=if (s.drop i).any (λb=>Nat.ble 128 b.toNat) then k0 () else k1 s ((if 45∈s.drop i then i+E8 (s.drop i) else cut:Nat):Int):=by
 intro r
 induction r with
 | zero=>
  intro i n cut hi hn
  obtain ⟨n,rfl⟩:∃ m,n=m+1:=⟨n-1,by omega⟩
  rw [Ba]
  rw [A7,List.drop_of_length_le (by omega)]
  rfl
 | succ r ih=>
  intro i n cut hi hn
  obtain ⟨n,rfl⟩:∃ m,n=m+1:=⟨n-1,by omega⟩
  rw [Ba]
  have e1:A1 ((i:Int)+1)=((i+1:Nat):Int):=by rw [A4];rfl
  rw [A8,J5,I2,J0 s i (by omega),e1,List.any_cons]
  simp only [cond_true]
  generalize s.getD i 0=b
  by_cases h:128<=b.toNat
  ·rw [A7,Nat.ble_eq_true_of_le h]
   rfl
  ·have:Nat.ble 128 b.toNat=false:=by rw [Bool.eq_false_iff,ne_eq,Nat.ble_eq];exact h
   rw [A8,this,Bool.false_or,Bool.not_true,cond_false]
   have hb:((b.toNat:Int)==45)=(b==45):=U3 b 45 (by omega)
   rw [hb]
   by_cases h45:b=45
   ·subst h45
    rw [show ((45:UInt8)==45)=true from rfl,cond_true]
    refine (ih (i+1) n i (by omega) (by omega)).trans ?_
    have hm:(45:UInt8)∈45::s.drop (i+1):=by simp
    rw [if_pos hm]
    have:(if (45:UInt8)∈s.drop (i+1) then i+1+E8 (s.drop (i+1)) else i)=i+E8 (45::s.drop (i+1)):=by
     rw [E8]
     grind
    rw [this]
   ·rw [show (b==45)=false from beq_eq_false_iff_ne.2 h45,cond_false]
    refine (ih (i+1) n cut (by omega) (by omega)).trans ?_
    have hm:((45:UInt8)∈b::s.drop (i+1))↔((45:UInt8)∈s.drop (i+1)):=by simp [Ne.symm h45]
    have:(if (45:UInt8)∈s.drop (i+1) then i+1+E8 (s.drop (i+1)) else cut)=(if (45:UInt8)∈b::s.drop (i+1) then i+E8 (b::s.drop (i+1)) else cut):=by
     by_cases q:(45:UInt8)∈s.drop (i+1)
     ·rw [if_pos q,if_pos (hm.2 q),E8,if_pos q];omega
     grind
    rw [this]
theorem UN {R:Type} {k0:By->Int->LL->Option R} (s:By) (hs:s.length<=1000000) (k:Nat) (hk:k<=s.length):∀ (r i n:Nat) (l:List Nat),i+r=k->r<n->l.length=i->
  Dq LF n s (k:Int) (i:Int) (B1 l) k0=k0 s (k:Int) (B1 (l++((s.take k).drop i).map (·.toNat))):=by
 intro r
 induction r with
 | zero=>
  intro i n l hi hn hl
  obtain ⟨n,rfl⟩:∃ m,n=m+1:=⟨n-1,by omega⟩
  rw [Dq]
  rw [A7,List.drop_of_length_le (by rw [List.length_take];omega)]
  simp
 | succ r ih=>
  intro i n l hi hn hl
  obtain ⟨n,rfl⟩:∃ m,n=m+1:=⟨n-1,by omega⟩
  rw [Dq]
  have e1:A1 ((i:Int)+1)=((i+1:Nat):Int):=by rw [A4];rfl
  have hd:(s.take k).drop i=s.getD i 0::(s.take k).drop (i+1):=by
   rw [J0 (s.take k) i (by rw [List.length_take];omega)]
   congr 1
   rw [List.getD_eq_getElem?_getD,List.getD_eq_getElem?_getD,List.getElem?_take_of_lt (by omega)]
  rw [A8,J5,I2,hd,C0,D4 (by omega),e1]
  simp only [cond_true]
  generalize s.getD i 0=b
  have hb:=b.toNat_lt
  have e2:A1 (b.toNat:Int)=(b.toNat:Int):=A4
  have hrow:B1 l++[[SV.int .i64 (A1 (b.toNat:Int))]]=B1 (l++[b.toNat]):=by rw [e2,Gb];rfl
  rw [hrow]
  refine (ih (i+1) n _ (by omega) (by omega) (by simp;omega)).trans ?_
  simp
theorem UQ (s:By) (hs:s.length<=1000000) (out:LL) (n3 b old:Int) (l:LL) (hb0:0<=b) (hb1:b<1000000):∀ (r p n k:Nat) (i w:Int),p+r=s.length->r<n->0<=i->i<=1099511627776->0<=w->w<=1099511627776->k+r<=10000000->
  ((O8 b (s.drop p) i w ((36*k:Nat):Int)).1=0->∃ p',p<p'/\p'<=s.length/\(O8 b (s.drop p) i w ((36*k:Nat):Int)).2.1=s.drop p'/\∀ (R:Type) (k0:Int->LL->Option R) (k1:By->LL->Int->Int->Int->Int->LL->Option R),P9 LF n s out (p:Int) n3 i b old w (k:Int) l k0 k1=k1 s out (p':Int) n3 (O8 b (s.drop p) i w ((36*k:Nat):Int)).2.2 old l)/\
  ((O8 b (s.drop p) i w ((36*k:Nat):Int)).1≠0->∀ (R:Type) (k0:Int->LL->Option R) (k1:By->LL->Int->Int->Int->Int->LL->Option R),P9 LF n s out (p:Int) n3 i b old w (k:Int) l k0 k1=k0 (O8 b (s.drop p) i w ((36*k:Nat):Int)).1 l):=by
 intro r
 induction r with
 | zero=>
  intro p n k i w hp hn hi hi1 hw hw1 hk
  obtain ⟨n,rfl⟩:∃ m,n=m+1:=⟨n-1,by omega⟩
  rw [List.drop_of_length_le (by omega)]
  refine ⟨λh=>by simp [O8] at h,λ_ R k0 k1=>?_⟩
  rw [P9]
  rw [A7]
  rfl
 | succ r ih=>
  intro p n k i w hp hn hi hi1 hw hw1 hk
  obtain ⟨n,rfl⟩:∃ m,n=m+1:=⟨n-1,by omega⟩
  have hc:=J0 s p (by omega)
  have hbt:=I2 s p
  rw [hc]
  generalize s.getD p 0=c at *
  have hv:=Cd c
  have ht:=Hv ((36*k:Nat):Int) b
  have e0:Int.mul 36 (k:Int)=((36*k:Nat):Int):=rfl
  have e6:A1 ((p:Int)+1)=((p+1:Nat):Int):=by rw [A4];rfl
  have e7:A1 ((k:Int)+1)=((k+1:Nat):Int):=by rw [A4];rfl
  have start:∀ (R:Type) (k0:Int->LL->Option R) (k1:By->LL->Int->Int->Int->Int->LL->Option R),P9 LF (n+1) s out (p:Int) n3 i b old w (k:Int) l k0 k1 =
    cond (ltI (C5 c) 0) (k0 4 l)
     (vl (A1 (i+(A1 (C5 c*w)))) λn10=>cond (ltI 1099511627776 n10) (k0 19 l)
      (cond (ltI (C5 c) (I4 ((36*k:Nat):Int) b)) (k1 s out ((p+1:Nat):Int) n3 n10 old l)
       (vl (A1 (36-(I4 ((36*k:Nat):Int) b))) λn13=>cond (ltI 1099511627776 (A1 (w*n13))) (k0 19 l) (P9 LF n s out ((p+1:Nat):Int) n3 n10 b old (A1 (w*n13)) ((k+1:Nat):Int) l k0 k1)))):=by
   intro R k0 k1
   rw [P9]
   have hcl:=c.toNat_lt
   rw [A8,J5,hbt,J5,Qc,M4,M4,e0,e6,e7]
   rfl
  unfold O8
  by_cases h1:C5 c<0
  ·rw [if_pos h1]
   refine ⟨λh=>by simp at h,λ_ R k0 k1=>?_⟩
   rw [start,B9 h1]
   rfl
  ·rw [if_neg h1]
   have hm:=Ad (by omega) hv.2 hw hw1
   have e1:A1 (C5 c*w)=C5 c*w:=A4
   have e2:A1 (i+C5 c*w)=i+C5 c*w:=A4
   by_cases h2:1099511627776<i+C5 c*w
   ·rw [if_pos h2]
    refine ⟨λh=>by simp at h,λ_ R k0 k1=>?_⟩
    rw [start,A7,e1,e2]
    simp only [vl,cond_false]
    rw [B9 h2]
    rfl
   ·rw [if_neg h2]
    by_cases h3:C5 c<I4 ((36*k:Nat):Int) b
    ·rw [if_pos h3]
     refine ⟨λ_=>⟨p+1,by omega,by omega,rfl,λR k0 k1=>?_⟩,λh=>absurd rfl h⟩
     rw [start,A7,e1,e2]
     simp only [vl,cond_false]
     rw [A7,B9 h3]
     rfl
    ·rw [if_neg h3]
     have e3:A1 (36-I4 ((36*k:Nat):Int) b)=36-I4 ((36*k:Nat):Int) b:=A4
     have hm2:=Ad (x:=36-I4 ((36*k:Nat):Int) b) (by omega) (by omega) hw hw1
     rw [Int.mul_comm] at hm2
     have e4:A1 (w*(36-I4 ((36*k:Nat):Int) b))=w*(36-I4 ((36*k:Nat):Int) b):=A4
     by_cases h4:1099511627776<w*(36-I4 ((36*k:Nat):Int) b)
     ·rw [if_pos h4]
      refine ⟨λh=>by simp at h,λ_ R k0 k1=>?_⟩
      rw [start,A7,e1,e2]
      simp only [vl,cond_false]
      rw [A7,A7,e3,e4,B9 h4]
      rfl
     ·rw [if_neg h4]
      have ek:((36*k:Nat):Int)+36=((36*(k+1):Nat):Int):=by omega
      rw [ek]
      obtain ⟨q1,q2⟩:=ih (p+1) n (k+1) (i+C5 c*w) (w*(36-I4 ((36*k:Nat):Int) b)) (by omega) (by omega) (by omega) (by omega) (by omega) (by omega) (by omega)
      have st2:∀ (R:Type) (k0:Int->LL->Option R) (k1:By->LL->Int->Int->Int->Int->LL->Option R),P9 LF (n+1) s out (p:Int) n3 i b old w (k:Int) l k0 k1=P9 LF n s out ((p+1:Nat):Int) n3 (i+C5 c*w) b old (w*(36-I4 ((36*k:Nat):Int) b)) ((k+1:Nat):Int) l k0 k1:=by simp_all
      refine ⟨λh=>?_,λh R k0 k1=>by rw [st2];exact q2 h R k0 k1⟩
      obtain ⟨p',g1,g2,g3,g4⟩:=q1 h
      exact ⟨p',by omega,g2,g3,λR k0 k1=>by rw [st2];exact g4 R k0 k1⟩
theorem UR (s:By) (hs:s.length<=1000000) (l:LL):∀ (r p n k:Nat) (i w:Int),p+r=s.length->r<n->0<=i->i<=1099511627776->0<=w->w<=1099511627776->k+r<=10000000->
  ((O8 72 (s.drop p) i w ((36*k:Nat):Int)).1=0->∃ p',p<p'/\p'<=s.length/\(O8 72 (s.drop p) i w ((36*k:Nat):Int)).2.1=s.drop p'/\∀ (R:Type) (k0:Int->LL->Option R) (k1:By->Int->Int->LL->Option R),Q0 LF n s (p:Int) i w (k:Int) l k0 k1=k1 s (p':Int) (O8 72 (s.drop p) i w ((36*k:Nat):Int)).2.2 l)/\
  ((O8 72 (s.drop p) i w ((36*k:Nat):Int)).1≠0->∀ (R:Type) (k0:Int->LL->Option R) (k1:By->Int->Int->LL->Option R),Q0 LF n s (p:Int) i w (k:Int) l k0 k1=k0 (O8 72 (s.drop p) i w ((36*k:Nat):Int)).1 l):=by
 intro r
 induction r with
 | zero=>
  intro p n k i w hp hn hi hi1 hw hw1 hk
  obtain ⟨n,rfl⟩:∃ m,n=m+1:=⟨n-1,by omega⟩
  rw [List.drop_of_length_le (by omega)]
  refine ⟨λh=>by simp [O8] at h,λ_ R k0 k1=>?_⟩
  rw [Q0]
  rw [A7]
  rfl
 | succ r ih=>
  intro p n k i w hp hn hi hi1 hw hw1 hk
  obtain ⟨n,rfl⟩:∃ m,n=m+1:=⟨n-1,by omega⟩
  have hc:=J0 s p (by omega)
  have hbt:=I2 s p
  rw [hc]
  generalize s.getD p 0=c at *
  have hv:=Cd c
  have ht:=Hv ((36*k:Nat):Int) 72
  have e0:Int.mul 36 (k:Int)=((36*k:Nat):Int):=rfl
  have e6:A1 ((p:Int)+1)=((p+1:Nat):Int):=by rw [A4];rfl
  have e7:A1 ((k:Int)+1)=((k+1:Nat):Int):=by rw [A4];rfl
  have start:∀ (R:Type) (k0:Int->LL->Option R) (k1:By->Int->Int->LL->Option R),Q0 LF (n+1) s (p:Int) i w (k:Int) l k0 k1 =
    cond (ltI (C5 c) 0) (k0 4 l)
     (vl (A1 (i+(A1 (C5 c*w)))) λn10=>cond (ltI 1099511627776 n10) (k0 19 l)
      (cond (ltI (C5 c) (I4 ((36*k:Nat):Int) 72)) (k1 s ((p+1:Nat):Int) n10 l)
       (vl (A1 (36-(I4 ((36*k:Nat):Int) 72))) λn13=>cond (ltI 1099511627776 (A1 (w*n13))) (k0 19 l) (Q0 LF n s ((p+1:Nat):Int) n10 (A1 (w*n13)) ((k+1:Nat):Int) l k0 k1)))):=by
   intro R k0 k1
   rw [Q0]
   have hcl:=c.toNat_lt
   rw [A8,J5,hbt,J5,Qc,M4,M4,e0,e6,e7]
   rfl
  unfold O8
  by_cases h1:C5 c<0
  ·rw [if_pos h1]
   refine ⟨λh=>by simp at h,λ_ R k0 k1=>?_⟩
   rw [start,B9 h1]
   rfl
  ·rw [if_neg h1]
   have hm:=Ad (by omega) hv.2 hw hw1
   have e1:A1 (C5 c*w)=C5 c*w:=A4
   have e2:A1 (i+C5 c*w)=i+C5 c*w:=A4
   by_cases h2:1099511627776<i+C5 c*w
   ·rw [if_pos h2]
    refine ⟨λh=>by simp at h,λ_ R k0 k1=>?_⟩
    rw [start,A7,e1,e2]
    simp only [vl,cond_false]
    rw [B9 h2]
    rfl
   ·rw [if_neg h2]
    by_cases h3:C5 c<I4 ((36*k:Nat):Int) 72
    ·rw [if_pos h3]
     refine ⟨λ_=>⟨p+1,by omega,by omega,rfl,λR k0 k1=>?_⟩,λh=>absurd rfl h⟩
     rw [start,A7,e1,e2]
     simp only [vl,cond_false]
     rw [A7,B9 h3]
     rfl
    ·rw [if_neg h3]
     have e3:A1 (36-I4 ((36*k:Nat):Int) 72)=36-I4 ((36*k:Nat):Int) 72:=A4
     have hm2:=Ad (x:=36-I4 ((36*k:Nat):Int) 72) (by omega) (by omega) hw hw1
     rw [Int.mul_comm] at hm2
     have e4:A1 (w*(36-I4 ((36*k:Nat):Int) 72))=w*(36-I4 ((36*k:Nat):Int) 72):=A4
     by_cases h4:1099511627776<w*(36-I4 ((36*k:Nat):Int) 72)
     ·rw [if_pos h4]
      refine ⟨λh=>by simp at h,λ_ R k0 k1=>?_⟩
      rw [start,A7,e1,e2]
      simp only [vl,cond_false]
      rw [A7,A7,e3,e4,B9 h4]
      rfl
     ·rw [if_neg h4]
      have ek:((36*k:Nat):Int)+36=((36*(k+1):Nat):Int):=by omega
      rw [ek]
      obtain ⟨q1,q2⟩:=ih (p+1) n (k+1) (i+C5 c*w) (w*(36-I4 ((36*k:Nat):Int) 72)) (by omega) (by omega) (by omega) (by omega) (by omega) (by omega) (by omega)
      have st2:∀ (R:Type) (k0:Int->LL->Option R) (k1:By->Int->Int->LL->Option R),Q0 LF (n+1) s (p:Int) i w (k:Int) l k0 k1=Q0 LF n s ((p+1:Nat):Int) (i+C5 c*w) (w*(36-I4 ((36*k:Nat):Int) 72)) ((k+1:Nat):Int) l k0 k1:=by simp_all
      refine ⟨λh=>?_,λh R k0 k1=>by rw [st2];exact q2 h R k0 k1⟩
      obtain ⟨p',g1,g2,g3,g4⟩:=q1 h
      exact ⟨p',by omega,g2,g3,λR k0 k1=>by rw [st2];exact g4 R k0 k1⟩
theorem BX (l:List Nat) (k:Nat):(B1 l).take k=B1 (l.take k):=by unfold B1;rw [List.map_take]
theorem BW (l:List Nat) (k:Nat):(B1 l).drop k=B1 (l.drop k):=by unfold B1;rw [List.map_drop]
theorem UP (s:By) (hs:s.length<=1000000) (l:LL):∀ (r p f:Nat) (pts:List Nat) (n i b:Nat),p+r=s.length->r<f->pts.length<=256->n<=1114111->i<=1000->b<=500->
  ((F2 (s.drop p) pts n i b false).2=0->∀ (R:Type) (k0:Int->LL->Option R) (k1 k2:LL->LL->Option R),L1 LF f s (B1 pts) (p:Int) (n:Int) (i:Int) (b:Int) l k0 k1 k2=k2 (B1 (F2 (s.drop p) pts n i b false).1) l)/\
  ((F2 (s.drop p) pts n i b false).2≠0->(F2 (s.drop p) pts n i b false).1=[]/\((∀ (R:Type) (k0:Int->LL->Option R) (k1 k2:LL->LL->Option R),L1 LF f s (B1 pts) (p:Int) (n:Int) (i:Int) (b:Int) l k0 k1 k2=k0 ((F2 (s.drop p) pts n i b false).2:Nat) l)\/
   ((F2 (s.drop p) pts n i b false).2=3/\∃ l',∀ (R:Type) (k0:Int->LL->Option R) (k1 k2:LL->LL->Option R),L1 LF f s (B1 pts) (p:Int) (n:Int) (i:Int) (b:Int) l k0 k1 k2=k1 l l'))):=by
 have hLF:=D6
 intro r
 induction r using Nat.strongRecOn with
 | _ r ih=>
  intro p f pts n i b hp hf h2 h3 h4 h5
  obtain ⟨f,rfl⟩:∃ m,f=m+1:=⟨f-1,by omega⟩
  by_cases hr:r=0
  ·rw [List.drop_of_length_le (by omega),Z6]
   refine ⟨λ_ R k0 k1 k2=>?_,λh=>absurd rfl h⟩
   rw [L1]
   rw [A7]
   rfl
  ·have hne:s.drop p≠[]:=λh=>by
    have:=congrArg List.length h
    rw [List.length_drop] at this
    simp at this
    omega
   obtain ⟨g1,g2⟩:=UQ s hs (B1 pts) (n:Int) (b:Int) (i:Int) l (by omega) (by omega) r p LF 0 (i:Int) 1 hp (by omega) (by omega) (by omega) (by omega) (by omega) (by omega)
   obtain ⟨d1,d2⟩:=Oa b (s.drop p) i 1 0
   have e36:O8 (b:Int) (s.drop p) (i:Int) 1 ((36*0:Nat):Int)=O8 (b:Int) (s.drop p) (i:Int) ((1:Nat):Int) ((36*0:Nat):Int):=rfl
   rw [e36] at g1 g2
   by_cases he:(C4 b (s.drop p) i 1 0).2.2=0
   ·rw [Ar hne pts n i b false he]
    have d3:=d2 he
    have hz:(O8 (b:Int) (s.drop p) (i:Int) ((1:Nat):Int) ((36*0:Nat):Int)).1=0:=by rw [d1,he];rfl
    obtain ⟨p',a1,a2,a3,a4⟩:=g1 hz
    obtain ⟨q1,q2,_⟩:=Nz (b:Int) (s.drop p) (i:Int) ((1:Nat):Int) ((36*0:Nat):Int) (by omega) (by omega) (by omega) hz
    rw [d3] at q1 q2 a3 a4
    simp only at q1 q2 a3 a4
    rw [a3]
    generalize (C4 b (s.drop p) i 1 0).1=X at *
    have el:A1 (((B1 pts).length:Int)+1)=((pts.length+1:Nat):Int):=by rw [C0,A4];rfl
    have e1:A1 ((X:Int)-(i:Int))=((X-i:Nat):Int):=by rw [A4];omega
    have ed:Int.tdiv (X:Int) ((pts.length+1:Nat):Int)=((X / (pts.length+1):Nat):Int):=K7 _ _
    have em:Int.tmod (X:Int) ((pts.length+1:Nat):Int)=((X % (pts.length+1):Nat):Int):=Gl _ _
    have hdv:X / (pts.length+1)<=X:=Nat.div_le_self _ _
    have hmod:=Nat.mod_lt X (show 0<pts.length+1 by omega)
    have had:=Ir (X-i) (pts.length+1) false (by omega)
    generalize hQ:X / (pts.length+1)=Q at *
    generalize hM:X % (pts.length+1)=M at *
    have e2:A1 (Q:Int)=(Q:Int):=A4
    have e3:A1 ((n:Int)+(Q:Int))=((n+Q:Nat):Int):=by rw [A4];rfl
    have e4:A1 ((M:Int)+1)=((M+1:Nat):Int):=by rw [A4];rfl
    have hnz:(((pts.length+1:Nat):Int) != 0)=true:=by rw [bne_iff_ne];omega
    have c1:cut (B1 pts) 0 (M:Int)=B1 (pts.take M):=by rw [X6,Int.toNat_natCast,BX]
    have c2:cut (B1 pts) (M:Int) ((B1 pts).length:Int)=B1 (pts.drop M):=by rw [M8,Int.toNat_natCast,BW]
    have hrow:∀ N:Nat,B1 (pts.take M)++[[SV.int .i64 (N:Int)]]++B1 (pts.drop M)=B1 (P7 pts M N):=λN=>by
     unfold P7
     rw [Gb,List.append_assoc]
     rfl
    have start:∀ (R:Type) (k0:Int->LL->Option R) (k1 k2:LL->LL->Option R),L1 LF (f+1) s (B1 pts) (p:Int) (n:Int) (i:Int) (b:Int) l k0 k1 k2 =
      cond (not (P8 (n+Q))) (k0 2 l) (cond (ltI 256 ((pts.length+1:Nat):Int)) (k1 l (B1 (P7 pts M (n+Q))))
       (L1 LF f s (B1 (P7 pts M (n+Q))) (p':Int) ((n+Q:Nat):Int) ((M+1:Nat):Int) ((M6 (X-i) (pts.length+1) false:Nat):Int) l k0 k1 k2)):=by
     intro R k0 k1 k2
     rw [L1]
     rw [A8,cond_true]
     refine (a4 R _ _).trans ?_
     have s1:N6 (0:Int) (M:Int) (B1 pts).length=true:=S7 (by omega) (by omega) (by rw [C0];omega)
     have s2:N6 (M:Int) ((B1 pts).length:Int) (B1 pts).length=true:=S7 (by omega) (by rw [C0];omega) (by omega)
     have t1:ltN ((X-i:Nat):Int) 1152921504606846976=true:=M4
     have t2:ltN ((pts.length+1:Nat):Int) 1000000=true:=M4
     have t3:ltI 0 ((pts.length+1:Nat):Int)=true:=A8
     have l1:(B1 (pts.take M)).length=M:=by rw [C0,List.length_take];omega
     have l2:(B1 (pts.drop M)).length=pts.length-M:=by rw [C0,List.length_drop]
     have r1:E3 (0+(B1 (pts.take M)).length)=true:=D4 (by omega)
     have r2:E3 ((B1 (pts.take M)).length+1)=true:=D4 (by omega)
     have r3:E3 ((B1 (pts.take M)++[[SV.int .i64 ((n+Q:Nat):Int)]]).length+(B1 (pts.drop M)).length)=true:=D4 (by rw [List.length_append,List.length_singleton];omega)
     have l3:(B1 (P7 pts M (n+Q))).length=pts.length+1:=by rw [C0,W5]
     simp only [vl,el,e1,ed,em,e2,e3,e4,hnz,s1,s2,t1,t2,t3,c1,c2,r1,r2,r3,hrow,l3,cond_true,Int.toNat_natCast,Ho]
    cases hpt:P8 (n+Q) with
    | false=>
     rw [if_neg (by simp)]
     refine ⟨λh=>by simp at h,λ_=>⟨rfl,.inl λR k0 k1 k2=>?_⟩⟩
     rw [start,hpt]
     rfl
    | true=>
     rw [if_pos rfl]
     by_cases hc:256<pts.length+1
     ·rw [if_pos hc]
      refine ⟨λh=>by simp at h,λ_=>⟨rfl,.inr ⟨rfl,B1 (P7 pts M (n+Q)),λR k0 k1 k2=>?_⟩⟩⟩
      rw [start,hpt,A8]
      rfl
     ·rw [if_neg hc]
      have hn':n+Q<=1114111:=by
       unfold P8 at hpt
       simp only [Bool.and_eq_true,Nat.ble_eq] at hpt
       exact hpt.1
      have st2:∀ (R:Type) (k0:Int->LL->Option R) (k1 k2:LL->LL->Option R),L1 LF (f+1) s (B1 pts) (p:Int) (n:Int) (i:Int) (b:Int) l k0 k1 k2=L1 LF f s (B1 (P7 pts M (n+Q))) (p':Int) ((n+Q:Nat):Int) ((M+1:Nat):Int) ((M6 (X-i) (pts.length+1) false:Nat):Int) l k0 k1 k2:=by
       intro R k0 k1 k2
       rw [start,hpt,A7]
       rfl
      obtain ⟨z1,z2⟩:=ih (s.length-p') (by omega) p' f (P7 pts M (n+Q)) (n+Q) (M+1) (M6 (X-i) (pts.length+1) false) (by omega) (by omega) (by rw [W5];omega) hn' (by omega) had
      refine ⟨λh R k0 k1 k2=>by rw [st2];exact z1 h R k0 k1 k2,λh=>?_⟩
      obtain ⟨y1,y2⟩:=z2 h
      refine ⟨y1,?_⟩
      rcases y2 with y2 | ⟨y2,l',y3⟩
      ·exact .inl λR k0 k1 k2=>by rw [st2];exact y2 R k0 k1 k2
      ·exact .inr ⟨y2,l',λR k0 k1 k2=>by rw [st2];exact y3 R k0 k1 k2⟩
   ·rw [Cw hne pts n i b false he]
    clear g1 d2
    refine ⟨λh=>absurd h he,λ_=>⟨rfl,.inl λR k0 k1 k2=>?_⟩⟩
    rw [L1]
    rw [A8,cond_true]
    have hfst:=congrArg Prod.fst d1
    simp only at hfst
    refine (g2 (by rw [hfst];omega) R _ _).trans ?_
    rw [hfst]
theorem ZY:∀ (r:Nat) (s:By) (pts:List Nat) (n i b:Nat) (f:Bool),s.length<=r->0<pts.length->(F2 s pts n i b f).2=0->(F2 s pts n i b f).1≠[]:=by
 intro r
 induction r with
 | zero=>
  intro s pts n i b f hr hp h
  obtain rfl:=List.length_eq_zero_iff.1 (Nat.le_zero.1 hr)
  rw [Z6]
  grind
 | succ r ih=>
  intro s pts n i b f hr hp h
  by_cases hs:s=[]
  ·grind
  ·by_cases he:(C4 b s i 1 0).2.2=0
   ·rw [Ar hs pts n i b f he] at h ⊢
    split at h
    ·rename_i h1
     rw [if_pos h1]
     split at h
     ·omega
     ·rename_i h2
      rw [if_neg h2]
      have hlt:=Kl b s i 1 0 he
      exact ih _ _ _ _ _ _ (by omega) (by rw [W5];omega) h
    omega
   ·rw [Cw hs pts n i b f he] at h
    omega
theorem UO (s:By) (hs:s.length<=1000000) (p:Nat) (pts:List Nat) (h2:pts.length<=256) (hp:p<=s.length) :
  (s.drop p=[]/\∀ (R:Type) (k0:Int->LL->Option R) (k1 k2:LL->LL->Option R) (k3:LL->Option R),I1 LF LF s (p:Int) (B1 pts) k0 k1 k2 k3=k3 (B1 pts))\/
  ((F2 (s.drop p) pts 128 0 72 true).2=0/\(F2 (s.drop p) pts 128 0 72 true).1≠[]/\∀ (R:Type) (k0:Int->LL->Option R) (k1 k2:LL->LL->Option R) (k3:LL->Option R),I1 LF LF s (p:Int) (B1 pts) k0 k1 k2 k3=k2 (B1 (F2 (s.drop p) pts 128 0 72 true).1) (B1 pts))\/
  ((F2 (s.drop p) pts 128 0 72 true).1=[]/\((∀ (R:Type) (k0:Int->LL->Option R) (k1 k2:LL->LL->Option R) (k3:LL->Option R),I1 LF LF s (p:Int) (B1 pts) k0 k1 k2 k3=k0 ((F2 (s.drop p) pts 128 0 72 true).2:Nat) (B1 pts))\/
   ((F2 (s.drop p) pts 128 0 72 true).2=3/\∃ l',∀ (R:Type) (k0:Int->LL->Option R) (k1 k2:LL->LL->Option R) (k3:LL->Option R),I1 LF LF s (p:Int) (B1 pts) k0 k1 k2 k3=k1 (B1 pts) l'))):=by
 have hLF:=D6
 obtain ⟨f,hf⟩:∃ m,LF=m+1:=⟨LF-1,by omega⟩
 by_cases hr:s.length<=p
 ·refine .inl ⟨List.drop_of_length_le hr,λR k0 k1 k2 k3=>?_⟩
  have e:I1 LF LF s (p:Int) (B1 pts) k0 k1 k2 k3=I1 LF (f+1) s (p:Int) (B1 pts) k0 k1 k2 k3:=by rw [<-hf]
  rw [e,I1]
  rw [A7]
  rfl
 ·right
  have hne:s.drop p≠[]:=λh=>by
   have:=congrArg List.length h
   grind
  obtain ⟨g1,g2⟩:=UR s hs (B1 pts) (s.length-p) p LF 0 0 1 (by omega) (by omega) (by omega) (by omega) (by omega) (by omega) (by omega)
  obtain ⟨d1,d2⟩:=Oa 72 (s.drop p) 0 1 0
  have e36:O8 72 (s.drop p) 0 1 ((36*0:Nat):Int)=O8 ((72:Nat):Int) (s.drop p) ((0:Nat):Int) ((1:Nat):Int) ((36*0:Nat):Int):=rfl
  rw [e36] at g1 g2
  by_cases he:(C4 72 (s.drop p) 0 1 0).2.2=0
  ·rw [Ar hne pts 128 0 72 true he]
   have d3:=d2 he
   have hz:(O8 ((72:Nat):Int) (s.drop p) ((0:Nat):Int) ((1:Nat):Int) ((36*0:Nat):Int)).1=0:=by grind
   obtain ⟨p',a1,a2,a3,a4⟩:=g1 hz
   obtain ⟨q1,q2,_⟩:=Nz ((72:Nat):Int) (s.drop p) ((0:Nat):Int) ((1:Nat):Int) ((36*0:Nat):Int) (by omega) (by omega) (by omega) hz
   rw [d3] at q1 q2 a3 a4
   simp only at q1 q2 a3 a4
   clear g1 g2 d1 d2 d3 hz e36
   rw [a3]
   generalize (C4 72 (s.drop p) 0 1 0).1=X at *
   have el:A1 (((B1 pts).length:Int)+1)=((pts.length+1:Nat):Int):=by rw [C0,A4];rfl
   have e1:A1 ((X:Int)-0)=(X:Int):=by rw [A4];omega
   have ed:Int.tdiv (X:Int) ((pts.length+1:Nat):Int)=((X / (pts.length+1):Nat):Int):=K7 _ _
   have em:Int.tmod (X:Int) ((pts.length+1:Nat):Int)=((X % (pts.length+1):Nat):Int):=Gl _ _
   have hdv:X / (pts.length+1)<=X:=Nat.div_le_self _ _
   have hmod:=Nat.mod_lt X (show 0<pts.length+1 by omega)
   have had:=Ir X (pts.length+1) true (by omega)
   generalize hQ:X / (pts.length+1)=Q at *
   generalize hM:X % (pts.length+1)=M at *
   have e2:A1 (Q:Int)=(Q:Int):=A4
   have e3:A1 ((128:Int)+(Q:Int))=((128+Q:Nat):Int):=by rw [A4];rfl
   have e4:A1 ((M:Int)+1)=((M+1:Nat):Int):=by rw [A4];rfl
   have hnz:(((pts.length+1:Nat):Int) != 0)=true:=by rw [bne_iff_ne];omega
   have c1:List.take (M-0) (List.drop 0 (B1 pts))=B1 (pts.take M):=by rw [Nat.sub_zero,List.drop_zero,BX]
   have c2:List.take ((B1 pts).length-M) (List.drop M (B1 pts))=B1 (pts.drop M):=by
    rw [List.take_of_length_le (by rw [List.length_drop];omega),BW]
   have hrow:∀ N:Nat,B1 (pts.take M)++[[SV.int .i64 (N:Int)]]++B1 (pts.drop M)=B1 (P7 pts M N):=λN=>by
    unfold P7
    rw [Gb,List.append_assoc]
    rfl
   have start:∀ (R:Type) (k0:Int->LL->Option R) (k1 k2:LL->LL->Option R) (k3:LL->Option R),I1 LF LF s (p:Int) (B1 pts) k0 k1 k2 k3 =
     cond (not (P8 (128+Q))) (k0 2 (B1 pts)) (cond (ltI 256 ((pts.length+1:Nat):Int)) (k1 (B1 pts) (B1 (P7 pts M (128+Q))))
      (L1 LF f s (B1 (P7 pts M (128+Q))) (p':Int) ((128+Q:Nat):Int) ((M+1:Nat):Int) ((M6 X (pts.length+1) true:Nat):Int) (B1 pts) k0 k1 k2)):=by
    intro R k0 k1 k2 k3
    have e:I1 LF LF s (p:Int) (B1 pts) k0 k1 k2 k3=I1 LF (f+1) s (p:Int) (B1 pts) k0 k1 k2 k3:=by rw [<-hf]
    rw [e,I1]
    rw [A8,cond_true]
    refine (a4 R _ _).trans ?_
    have s1:N6 (0:Int) (M:Int) (B1 pts).length=true:=S7 (by omega) (by omega) (by rw [C0];omega)
    have s2:N6 (M:Int) ((B1 pts).length:Int) (B1 pts).length=true:=S7 (by omega) (by rw [C0];omega) (by omega)
    have t1:ltN (X:Int) 1152921504606846976=true:=M4
    have t2:ltN ((pts.length+1:Nat):Int) 1000000=true:=M4
    have t3:ltI 0 ((pts.length+1:Nat):Int)=true:=A8
    have l1:(B1 (pts.take M)).length=M:=by rw [C0,List.length_take];omega
    have l2:(B1 (pts.drop M)).length=pts.length-M:=by rw [C0,List.length_drop]
    have r1:E3 (0+(B1 (pts.take M)).length)=true:=D4 (by omega)
    have r2:E3 ((B1 (pts.take M)).length+1)=true:=D4 (by omega)
    have r3:E3 ((B1 (pts.take M)++[[SV.int .i64 ((128+Q:Nat):Int)]]).length+(B1 (pts.drop M)).length)=true:=D4 (by rw [List.length_append,List.length_singleton];omega)
    have l3:(B1 (P7 pts M (128+Q))).length=pts.length+1:=by rw [C0,W5]
    simp only [vl,el,e1,ed,em,e2,e3,e4,hnz,s1,s2,t1,t2,t3,Int.toNat_natCast,c1,c2,r1,r2,r3,hrow,l3,cond_true,Ho]
   cases hpt:P8 (128+Q) with
   | false=>
    rw [if_neg (by simp)]
    refine .inr ⟨rfl,.inl λR k0 k1 k2 k3=>?_⟩
    rw [start,hpt]
    rfl
   | true=>
    rw [if_pos rfl]
    by_cases hc:256<pts.length+1
    ·rw [if_pos hc]
     refine .inr ⟨rfl,.inr ⟨rfl,B1 (P7 pts M (128+Q)),λR k0 k1 k2 k3=>?_⟩⟩
     rw [start,hpt,A8]
     rfl
    ·rw [if_neg hc]
     have hn':128+Q<=1114111:=by
      unfold P8 at hpt
      simp_all
     have st2:∀ (R:Type) (k0:Int->LL->Option R) (k1 k2:LL->LL->Option R) (k3:LL->Option R),I1 LF LF s (p:Int) (B1 pts) k0 k1 k2 k3=L1 LF f s (B1 (P7 pts M (128+Q))) (p':Int) ((128+Q:Nat):Int) ((M+1:Nat):Int) ((M6 X (pts.length+1) true:Nat):Int) (B1 pts) k0 k1 k2:=by
      intro R k0 k1 k2 k3
      rw [start,hpt,A7]
      rfl
     obtain ⟨z1,z2⟩:=UP s hs (B1 pts) (s.length-p') p' f (P7 pts M (128+Q)) (128+Q) (M+1) (M6 X (pts.length+1) true) (by omega) (by omega) (by rw [W5];omega) hn' (by omega) had
     have hX:X-0=X:=Nat.sub_zero X
     rw [hX]
     by_cases hz:(F2 (s.drop p') (P7 pts M (128+Q)) (128+Q) (M+1) (M6 X (pts.length+1) true) false).2=0
     ·refine .inl ⟨hz,?_,λR k0 k1 k2 k3=>by rw [st2];exact z1 hz R k0 k1 k2⟩
      exact ZY _ _ _ _ _ _ _ (Nat.le_refl _) (by rw [W5];omega) hz
     ·obtain ⟨y1,y2⟩:=z2 hz
      refine .inr ⟨y1,?_⟩
      rcases y2 with y2 | ⟨y2,l',y3⟩
      ·exact .inl λR k0 k1 k2 k3=>by rw [st2];exact y2 R k0 k1 k2
      ·exact .inr ⟨y2,l',λR k0 k1 k2 k3=>by rw [st2];exact y3 R k0 k1 k2⟩
  ·rw [Cw hne pts 128 0 72 true he]
   clear g1 d2
   refine .inr ⟨rfl,.inl λR k0 k1 k2 k3=>?_⟩
   have e:I1 LF LF s (p:Int) (B1 pts) k0 k1 k2 k3=I1 LF (f+1) s (p:Int) (B1 pts) k0 k1 k2 k3:=by rw [<-hf]
   rw [e,I1]
   rw [A8,cond_true]
   have hfst:=congrArg Prod.fst d1
   simp only at hfst
   refine (g2 (by rw [hfst];omega) R _ _).trans ?_
   rw [hfst]
theorem Aw8 (s:By) (h0:A3 s.length=true):∃ r H,ZC LF s (λr0 l1=>rv (.tup [.fl 0,.s (.int .i64 r0)]) [.arr true 3 1 l1]) (λr0 l1=>rv (.tup [.fl 1,.s (.int .i64 r0)]) [.arr true 3 1 l1,.arr true 3 1 []]) (λl0 l1=>rv (.tup [.fl 2,.s (.int .i64 (3:Int))]) [.arr true 3 1 l0,.arr false 3 1 l1,.arr true 3 1 []]) (λr0 l1=>rv (.tup [.s (.sl false false 1 r0),.s (.int .i64 (0:Int))]) [.arr true 3 1 l1])=rv r H/\
  r.stab [1,0] H = .tup [.s (.sl (K3 s).1.isEmpty (K3 s).1.isEmpty 1 (Sj (K3 s).1)),.s (.int .i64 ((K3 s).2:Nat))]:=by
 have hLF:=D6
 unfold ZC K3
 by_cases hl:1024<s.length
 ·rw [if_pos hl,A8]
  exact ⟨_,_,rfl,rfl⟩
 ·rw [if_neg hl,A7,cond_false]
  have asc:=λ(R:Type) (K0:Unit->Option R) (K1:By->Int->Option R)=>US (k0:=K0) (k1:=K1) s (by omega) s.length 0 LF 0 (by omega) (by omega)
  rw [List.drop_zero] at asc
  cases ha:s.any (λb=>Nat.ble 128 b.toNat) with
  | true=>
   rw [if_pos rfl]
   refine ⟨.tup [.fl 0,.s (.int .i64 4)],[.arr true 3 1 []],(asc _ _ _).trans ?_,rfl⟩
   rw [ha,if_pos rfl]
  | false=>
   rw [if_neg (by simp)]
   obtain ⟨d1,d2⟩:=Ji s
   have hlt:=Jj s
   have hcut:(if (45:UInt8)∈s then 0+E8 s else 0)=E8 s:=by
    split
    ·omega
    ·rename_i h;exact (d2 h).2.symm
   rw [ha,hcut] at asc
   have hcopy:=λ(R:Type) (K:By->Int->LL->Option R)=>UN (k0:=K) s (by omega) (E8 s) (by omega) (E8 s) 0 LF [] (by omega) (by omega) rfl
   rw [List.drop_zero] at hcopy
   have hlen:((s.take (E8 s)).map (·.toNat)).length=E8 s:=by rw [List.length_map,List.length_take];omega
   generalize hm:E8 s=m at *
   generalize hpts:(s.take m).map (·.toNat)=pts at *
   by_cases h256:256<m
   ·rw [if_pos h256]
    refine ⟨.tup [.fl 1,.s (.int .i64 3)],[.arr true 3 1 (B1 pts),.arr true 3 1 []],(asc _ _ _).trans ?_,rfl⟩
    rw [if_neg (by simp)]
    refine (hcopy _ _).trans ?_
    rw [List.nil_append,C0,hlen,A8]
    rfl
   ·rw [if_neg h256]
    have fin:∀ p:Nat,p<=s.length->∀ (X:Option (PV × List Blk × Unit)),X=I1 LF LF s (p:Int) (B1 pts) (λr0 l1=>rv (.tup [.fl 1,.s (.int .i64 r0)]) [.arr true 3 1 l1,.arr true 3 1 []]) (λl0 l1=>rv (.tup [.fl 2,.s (.int .i64 (3:Int))]) [.arr true 3 1 l0,.arr false 3 1 l1,.arr true 3 1 []]) (λr0 l1=>rv (.tup [.s (.sl false false 1 r0),.s (.int .i64 (0:Int))]) [.arr true 3 1 l1]) (λl=>rv (.tup [.fl 0,.s (.int .i64 0)]) [.arr true 3 1 l])->
      ∃ r H,X=rv r H/\r.stab [1,0] H = .tup [.s (.sl (F2 (s.drop p) pts 128 0 72 true).1.isEmpty (F2 (s.drop p) pts 128 0 72 true).1.isEmpty 1 (Sj (F2 (s.drop p) pts 128 0 72 true).1)),.s (.int .i64 ((F2 (s.drop p) pts 128 0 72 true).2:Nat))]:=by
     intro p hp X hX
     rcases UO s (by omega) p pts (by omega) hp with ⟨e1,e2⟩ | ⟨e1,e3,e2⟩ | ⟨e1,e2 | ⟨e3,l',e2⟩⟩
     ·refine ⟨_,_,hX.trans (e2 _ _ _ _ _),?_⟩
      rw [e1,Z6,Gc]
      simp [PV.stab,Je,Ru,PV.snap,I7,Ow]
     ·refine ⟨_,_,hX.trans (e2 _ _ _ _ _),?_⟩
      rw [e1,Gc]
      have:(F2 (s.drop p) pts 128 0 72 true).1.isEmpty=false:=by
       cases h:(F2 (s.drop p) pts 128 0 72 true).1 with
       | nil=>exact absurd h e3
       | cons a r=>rfl
      rw [this]
      rfl
     ·refine ⟨_,_,hX.trans (e2 _ _ _ _ _),?_⟩
      rw [e1]
      rfl
     ·refine ⟨_,_,hX.trans (e2 _ _ _ _ _),?_⟩
      rw [e1,e3]
      rfl
    by_cases hz:m=0
    ·subst hz
     rw [if_pos rfl]
     have:=fin 0 (by omega) _ rfl
     rw [List.drop_zero] at this
     obtain ⟨r,H,g1,g2⟩:=this
     refine ⟨r,H,(asc _ _ _).trans ?_,g2⟩
     rw [if_neg (by simp)]
     refine (hcopy _ _).trans ?_
     rw [List.nil_append,C0,hlen,A7,cond_false,A7,cond_false]
     exact g1
    ·rw [if_neg hz]
     obtain ⟨r,H,g1,g2⟩:=fin (m+1) (by omega) _ rfl
     refine ⟨r,H,(asc _ _ _).trans ?_,g2⟩
     rw [if_neg (by simp)]
     refine (hcopy _ _).trans ?_
     have e1:A1 ((m:Int)+1)=((m+1:Nat):Int):=by rw [A4];rfl
     rw [List.nil_append,C0,hlen,A7,cond_false,A8,cond_true,e1]
     exact g1
theorem T7 {R:Type} {k0:LL->Option R} {k1:By->Int->Int->Int->Int->LL->Option R} (s:By) (hs:s.length<=1000000000) (n i m v least kk:Nat) (l:LL) (hk:kk<m) (hm:m<=4) (hi:i+kk<s.length) (hv:v<=100000) (hn:0<n) :
  Hs LF n s i m v least kk l k0 k1=if 128<=(s.getD (i+kk) 0).toNat/\(s.getD (i+kk) 0).toNat<=191 then Hs LF (n-1) s i m ((v*64+(s.getD (i+kk) 0).toNat-128:Nat):Int) least ((kk+1:Nat):Int) l k0 k1 else k0 l:=by
 have hb:=(s.getD (i+kk) 0).toNat_lt
 obtain ⟨n,rfl⟩:∃ m,n=m+1:=⟨n-1,by omega⟩
 rw [Hs]
 have e1:A1 ((i:Int)+kk)=((i+kk:Nat):Int):=by rw [A4];rfl
 have e2:A1 ((kk:Int)+1)=((kk+1:Nat):Int):=by rw [A4];rfl
 rw [A8,e1,e2,J5,I2]
 generalize (s.getD (i+kk) 0).toNat=b at *
 simp only [cond_true,vl]
 rw [D8 (n:=(b:Int)) (by omega) (by omega),Nat.add_sub_cancel]
 by_cases h1:b<128
 ·rw [A8,H6]
  rfl
 ·rw [A7,cond_false]
  by_cases h2:191<b
  ·rw [A8,H6]
   rfl
  ·rw [A7,cond_false,Bh]
   have e3:A1 (A1 (A1 ((v:Int)*64)+(b:Int))-128)=((v*64+b-128:Nat):Int):=by
    rw [D8 (n:=(v:Int)*64) (by omega) (by omega),D8 (n:=(v:Int)*64+b) (by omega) (by omega),A4]
    omega
   rw [e3]
theorem Jw {R:Type} {k0:LL->Option R} {k1:By->Int->Int->Int->Int->LL->Option R} (s:By) (n i m v least:Nat) (l:LL) (hn:0<n) :
  Hs LF n s i m v least m l k0 k1=k1 s i m v least l:=by
 obtain ⟨n,rfl⟩:∃ m,n=m+1:=⟨n-1,by omega⟩
 rw [Hs]
 rw [A7]
 rfl
theorem Lf {R:Type} {k0:LL->Option R} {k1:By->Int->LL->Option R} (s:By) (hs:s.length<=1000000000) (i m v least:Nat) (P:List Nat) (hP:P.length<=1000000000) (hi:i+m<=s.length) (hv:v<=10000000) (hm:m<=4) :
  cond (ltI (v:Int) (least:Int)) (k0 (B1 P)) (cond (not (ptI v)) (k0 (B1 P)) (cond (E3 ((B1 P).length+1)) (k1 s (A1 ((i:Int)+m)) (B1 P++[[SV.int .i64 (v:Int)]])) none)) =
   if least<=v/\P8 v=true then k1 s ((i+m:Nat):Int) (B1 (P++[v])) else k0 (B1 P):=by
 have e1:A1 ((i:Int)+m)=((i+m:Nat):Int):=by rw [A4];rfl
 rw [e1,C0,D4 (by omega),Gb,show ptI (v:Int)=P8 v from rfl]
 by_cases h:v<least
 ·rw [A8,H6]
  rfl
 ·rw [A7,cond_false]
  cases hp:P8 v with
  | false=>rw [if_neg (by simp)];rfl
  | true=>rw [if_pos ⟨by omega,rfl⟩];rfl
theorem Ah0 {R:Type} {k0:LL->Option R} {k1:By->Int->LL->Option R} (s:By) (hs:s.length<=1000000000) (i v least:Nat) (P:List Nat) (hP:P.length<=1000000000) (hi:i<s.length) (hv:v<=32) :
  Em LF s i 2 v least (B1 P) k0 k1=if 2<=s.length-i/\128<=(s.getD (i+1) 0).toNat/\(s.getD (i+1) 0).toNat<=191 then
   (if least<=v*64+(s.getD (i+1) 0).toNat-128/\P8 (v*64+(s.getD (i+1) 0).toNat-128)=true then k1 s ((i+2:Nat):Int) (B1 (P++[v*64+(s.getD (i+1) 0).toNat-128])) else k0 (B1 P)) else k0 (B1 P):=by
 have hb:=(s.getD (i+1) 0).toNat_lt
 have hLF:=D6
 unfold Em
 have e1:A1 ((s.length:Int)-i)=((s.length-i:Nat):Int):=by rw [A4];omega
 rw [e1]
 simp only [vl]
 by_cases h:s.length-i<2
 ·rw [A8,H6]
  rfl
 ·rw [A7,cond_false]
  refine Eq.trans (T7 s hs LF i 2 v least 1 (B1 P) (by omega) (by omega) (by omega) (by omega) (by omega)) ?_
  generalize (s.getD (i+1) 0).toNat=b at *
  by_cases h1:128<=b/\b<=191
  ·rw [if_pos h1,if_pos ⟨by omega,h1⟩]
   refine Eq.trans (Jw s (LF-1) i 2 _ least (B1 P) (by omega)) ?_
   exact Lf s hs i 2 _ least P hP (by omega) (by omega) (by omega)
  ·rw [if_neg h1,if_neg (λh=>h1 h.2)]
theorem Ah1 {R:Type} {k0:LL->Option R} {k1:By->Int->LL->Option R} (s:By) (hs:s.length<=1000000000) (i v least:Nat) (P:List Nat) (hP:P.length<=1000000000) (hi:i<s.length) (hv:v<=32) :
  Em LF s i 3 v least (B1 P) k0 k1=if 3<=s.length-i/\(128<=(s.getD (i+1) 0).toNat/\(s.getD (i+1) 0).toNat<=191)/\(128<=(s.getD (i+2) 0).toNat/\(s.getD (i+2) 0).toNat<=191) then
   (if least<=(v*64+(s.getD (i+1) 0).toNat-128)*64+(s.getD (i+2) 0).toNat-128/\P8 ((v*64+(s.getD (i+1) 0).toNat-128)*64+(s.getD (i+2) 0).toNat-128)=true then k1 s ((i+3:Nat):Int) (B1 (P++[(v*64+(s.getD (i+1) 0).toNat-128)*64+(s.getD (i+2) 0).toNat-128])) else k0 (B1 P)) else k0 (B1 P):=by
 have hb:=(s.getD (i+1) 0).toNat_lt
 have hb2:=(s.getD (i+2) 0).toNat_lt
 have hLF:=D6
 unfold Em
 have e1:A1 ((s.length:Int)-i)=((s.length-i:Nat):Int):=by rw [A4];omega
 rw [e1]
 simp only [vl]
 by_cases h:s.length-i<3
 ·rw [A8,H6]
  rfl
 ·rw [A7,cond_false]
  refine Eq.trans (T7 s hs LF i 3 v least 1 (B1 P) (by omega) (by omega) (by omega) (by omega) (by omega)) ?_
  by_cases h1:128<=(s.getD (i+1) 0).toNat/\(s.getD (i+1) 0).toNat<=191
  ·rw [if_pos h1]
   refine Eq.trans (T7 s hs (LF-1) i 3 _ least 2 (B1 P) (by omega) (by omega) (by omega) (by omega) (by omega)) ?_
   by_cases h2:128<=(s.getD (i+2) 0).toNat/\(s.getD (i+2) 0).toNat<=191
   ·rw [if_pos h2,if_pos ⟨by omega,h1,h2⟩]
    refine Eq.trans (Jw s (LF-2) i 3 _ least (B1 P) (by omega)) ?_
    exact Lf s hs i 3 _ least P hP (by omega) (by omega) (by omega)
   ·rw [if_neg h2,if_neg (λh=>h2 h.2.2)]
  ·rw [if_neg h1,if_neg (λh=>h1 h.2.1)]
theorem Ah2 {R:Type} {k0:LL->Option R} {k1:By->Int->LL->Option R} (s:By) (hs:s.length<=1000000000) (i v least:Nat) (P:List Nat) (hP:P.length<=1000000000) (hi:i<s.length) (hv:v<=20) :
  Em LF s i 4 v least (B1 P) k0 k1=if 4<=s.length-i/\(128<=(s.getD (i+1) 0).toNat/\(s.getD (i+1) 0).toNat<=191)/\(128<=(s.getD (i+2) 0).toNat/\(s.getD (i+2) 0).toNat<=191)/\(128<=(s.getD (i+3) 0).toNat/\(s.getD (i+3) 0).toNat<=191) then
   (if least<=((v*64+(s.getD (i+1) 0).toNat-128)*64+(s.getD (i+2) 0).toNat-128)*64+(s.getD (i+3) 0).toNat-128/\P8 (((v*64+(s.getD (i+1) 0).toNat-128)*64+(s.getD (i+2) 0).toNat-128)*64+(s.getD (i+3) 0).toNat-128)=true then k1 s ((i+4:Nat):Int) (B1 (P++[((v*64+(s.getD (i+1) 0).toNat-128)*64+(s.getD (i+2) 0).toNat-128)*64+(s.getD (i+3) 0).toNat-128])) else k0 (B1 P)) else k0 (B1 P):=by
 have hb:=(s.getD (i+1) 0).toNat_lt
 have hb2:=(s.getD (i+2) 0).toNat_lt
 have hb3:=(s.getD (i+3) 0).toNat_lt
 have hLF:=D6
 unfold Em
 have e1:A1 ((s.length:Int)-i)=((s.length-i:Nat):Int):=by rw [A4];omega
 rw [e1]
 simp only [vl]
 by_cases h:s.length-i<4
 ·rw [A8,H6]
  rfl
 ·rw [A7,cond_false]
  refine Eq.trans (T7 s hs LF i 4 v least 1 (B1 P) (by omega) (by omega) (by omega) (by omega) (by omega)) ?_
  by_cases h1:128<=(s.getD (i+1) 0).toNat/\(s.getD (i+1) 0).toNat<=191
  ·rw [if_pos h1]
   refine Eq.trans (T7 s hs (LF-1) i 4 _ least 2 (B1 P) (by omega) (by omega) (by omega) (by omega) (by omega)) ?_
   by_cases h2:128<=(s.getD (i+2) 0).toNat/\(s.getD (i+2) 0).toNat<=191
   ·rw [if_pos h2]
    refine Eq.trans (T7 s hs (LF-2) i 4 _ least 3 (B1 P) (by omega) (by omega) (by omega) (by omega) (by omega)) ?_
    by_cases h3:128<=(s.getD (i+3) 0).toNat/\(s.getD (i+3) 0).toNat<=191
    ·rw [if_pos h3,if_pos ⟨by omega,h1,h2,h3⟩]
     refine Eq.trans (Jw s (LF-3) i 4 _ least (B1 P) (by omega)) ?_
     exact Lf s hs i 4 _ least P hP (by omega) (by omega) (by omega)
    ·rw [if_neg h3,if_neg (λh=>h3 h.2.2.2)]
   ·rw [if_neg h2,if_neg (λh=>h2 h.2.2.1)]
  ·rw [if_neg h1,if_neg (λh=>h1 h.2.1)]
theorem UW {R:Type} {k0:By->Int->Int->LL->Option R} (n:Nat) (hn:0<n) (s:By) (i v:Int) (l:LL):IA LF n s i v l k0=k0 s i v l:=by
 obtain ⟨n,rfl⟩:∃ m,n=m+1:=⟨n-1,by omega⟩
 rw [IA]
theorem UV {R:Type} {k0:LL->Option R} {k1:By->Int->LL->Option R} (s:By) (hs:s.length<=1000000000) (i v:Nat) (P:List Nat) (hP:P.length<=1000000000) (hi:i<s.length) (hv:v<128) :
  HZ LF s i v (B1 P) k0 k1=k1 s ((i+1:Nat):Int) (B1 (P++[v])):=by
 unfold HZ
 have e1:A1 ((s.length:Int)-i)=((s.length-i:Nat):Int):=by rw [A4];omega
 rw [e1]
 simp only [vl]
 rw [A7,cond_false]
 refine Eq.trans (show _=cond (ltI (v:Int) ((0:Nat):Int)) (k0 (B1 P)) (cond (not (ptI v)) (k0 (B1 P)) (cond (E3 ((B1 P).length+1)) (k1 s (A1 ((i:Int)+(1:Nat))) (B1 P++[[SV.int .i64 (v:Int)]])) none)) from UW LF (by have:=D6;omega) _ _ _ _) ?_
 rw [Lf s hs i 1 v 0 P hP (by omega) (by omega) (by omega),if_pos]
 refine ⟨Nat.zero_le _,?_⟩
 simp only [P8,Bool.and_eq_true,Bool.or_eq_true,Nat.ble_eq,Nat.blt_eq]
 omega
theorem Aq8 {v:Nat} (h:v<2048):P8 v=true:=by
 simp only [P8,Bool.and_eq_true,Bool.or_eq_true,Nat.ble_eq,Nat.blt_eq]
 omega
theorem UX {R:Type} {k0 k1:LL->Option R} (s:By) (hs:s.length<=1000000000) (n i:Nat) (P:List Nat) (hP:P.length<=1000000000) (hi:i<s.length) :
  Y3 LF (n+1) s i (B1 P) k0 k1=if (Lib.decodeL (s.drop i)).1=65533/\(Lib.decodeL (s.drop i)).2=1 then k0 (B1 P) else Y3 LF n s ((i+(Lib.decodeL (s.drop i)).2:Nat):Int) (B1 (P++[(Lib.decodeL (s.drop i)).1])) k0 k1:=by
 have g:∀ k,(s.drop i).getD k 0=s.getD (i+k) 0:=λk=>by grind
 have hd:Lib.decodeL (s.drop i)=Lib.decodeN (s.length-i) (s.getD i 0).toNat (s.getD (i+1) 0).toNat (s.getD (i+2) 0).toNat (s.getD (i+3) 0).toNat:=by
  rw [Lib.decodeL_N,g,g,g,g,List.length_drop]
  rfl
 have l0:=(s.getD i 0).toNat_lt
 have l1:=(s.getD (i+1) 0).toNat_lt
 have l2:=(s.getD (i+2) 0).toNat_lt
 have l3:=(s.getD (i+3) 0).toNat_lt
 rw [hd]
 rw [Y3,A8,J5,I2,D8 (n:=((s.getD i 0).toNat:Int)) (by omega) (by omega)]
 simp only [cond_true]
 generalize (s.getD i 0).toNat=b at *
 by_cases h1:b<128
 ·rw [A8,cond_true]
  have e:Lib.decodeN (s.length-i) b (s.getD (i+1) 0).toNat (s.getD (i+2) 0).toNat (s.getD (i+3) 0).toNat=(b,1):=by unfold Lib.decodeN;rw [if_pos h1]
  rw [e]
  simp only
  rw [H6]
  exact UV s hs i b P hP hi h1
 ·rw [D1 (show (128:Int)<=b by omega),cond_false]
  by_cases h2:b<194
  ·rw [B9 (show (b:Int)<194 by omega)]
   have e:Lib.decodeN (s.length-i) b (s.getD (i+1) 0).toNat (s.getD (i+2) 0).toNat (s.getD (i+3) 0).toNat=(65533,1):=by
    unfold Lib.decodeN
    grind
   rw [e,if_pos ⟨rfl,rfl⟩]
   simp only [Bool.not_true,cond_false]
   unfold Pn
   unfold Pm
   rw [cond_false,B9 (show (b:Int)<224 by omega),B9 (show (b:Int)<240 by omega)]
   rfl
  ·rw [D1 (show (194:Int)<=b by omega)]
   simp only [Bool.not_false,cond_true]
   by_cases h3:b<224
   ·rw [B9 (show (b:Int)<224 by omega)]
    unfold Pn
    have e1:A1 ((b:Int)-192)=((b-192:Nat):Int):=by rw [A4];omega
    rw [cond_true,e1,Bt2 _ _ _ _ _ ⟨by omega,h3⟩ l1]
    simp only [vl]
    refine Eq.trans (Ah0 s hs i (b-192) 128 P hP hi (by omega)) ?_
    by_cases hc:2<=s.length-i/\128<=(s.getD (i+1) 0).toNat/\(s.getD (i+1) 0).toNat<=191
    ·rw [if_pos hc,if_pos hc]
     simp only
     rw [if_pos ⟨by omega,Aq8 (by omega)⟩,H6]
    ·rw [if_neg hc,if_neg hc,if_pos ⟨rfl,rfl⟩]
   ·rw [D1 (show (224:Int)<=b by omega)]
    unfold Pn
    rw [cond_false,D1 (show (224:Int)<=b by omega)]
    simp only [Bool.not_false,cond_true]
    by_cases h4:b<240
    ·rw [B9 (show (b:Int)<240 by omega)]
     unfold Pm
     have e1:A1 ((b:Int)-224)=((b-224:Nat):Int):=by rw [A4];omega
     rw [cond_true,e1,Bt3 _ _ _ _ _ ⟨by omega,h4⟩ l1 l2]
     simp only [vl]
     refine Eq.trans (Ah1 s hs i (b-224) 2048 P hP hi (by omega)) ?_
     by_cases hc:3<=s.length-i/\(128<=(s.getD (i+1) 0).toNat/\(s.getD (i+1) 0).toNat<=191)/\(128<=(s.getD (i+2) 0).toNat/\(s.getD (i+2) 0).toNat<=191)
     ·rw [if_pos hc,if_pos hc]
      split
      ·simp only;rw [H6]
      ·rw [if_pos ⟨rfl,rfl⟩]
     ·rw [if_neg hc,if_neg hc,if_pos ⟨rfl,rfl⟩]
    ·rw [D1 (show (240:Int)<=b by omega)]
     unfold Pm
     rw [cond_false,D1 (show (240:Int)<=b by omega)]
     simp only [Bool.not_false,cond_true]
     by_cases h5:b<245
     ·rw [B9 (show (b:Int)<245 by omega),cond_true]
      have e1:A1 ((b:Int)-240)=((b-240:Nat):Int):=by rw [A4];omega
      rw [e1,Bt4 _ _ _ _ _ ⟨by omega,h5⟩ l1 l2 l3]
      simp only [vl]
      refine Eq.trans (Ah2 s hs i (b-240) 65536 P hP hi (by omega)) ?_
      by_cases hc:4<=s.length-i/\(128<=(s.getD (i+1) 0).toNat/\(s.getD (i+1) 0).toNat<=191)/\(128<=(s.getD (i+2) 0).toNat/\(s.getD (i+2) 0).toNat<=191)/\(128<=(s.getD (i+3) 0).toNat/\(s.getD (i+3) 0).toNat<=191)
      ·rw [if_pos hc,if_pos hc]
       split
       ·simp only;rw [H6]
       ·rw [if_pos ⟨rfl,rfl⟩]
      ·rw [if_neg hc,if_neg hc,if_pos ⟨rfl,rfl⟩]
     ·rw [D1 (show (245:Int)<=b by omega),cond_false]
      have e:Lib.decodeN (s.length-i) b (s.getD (i+1) 0).toNat (s.getD (i+2) 0).toNat (s.getD (i+3) 0).toNat=(65533,1):=by
       unfold Lib.decodeN
       grind
      rw [e,if_pos ⟨rfl,rfl⟩]
theorem Ah3 (s:By) (hs:s.length<=1000000000):∀ (r i n:Nat) (P:List Nat),i+r=s.length->r<n->P.length<=i->
  (Di (s.drop i)=none->∃ l,∀ (R:Type) (k0 k1:LL->Option R),Y3 LF n s i (B1 P) k0 k1=k0 l)/\
  (∀ q,Di (s.drop i)=some q->∀ (R:Type) (k0 k1:LL->Option R),Y3 LF n s i (B1 P) k0 k1=k1 (B1 (P++q))):=by
 intro r
 induction r using Nat.strongRecOn with
 | _ r ih=>
  intro i n P hi hn hP
  obtain ⟨n,rfl⟩:∃ m,n=m+1:=⟨n-1,by omega⟩
  by_cases hr:i<s.length
  ·have hne:s.drop i≠[]:=by rw [ne_eq,<-List.length_eq_zero_iff,List.length_drop];omega
   have hst:=λ(R:Type) (k0 k1:LL->Option R)=>UX (k0:=k0) (k1:=k1) s hs n i P (by omega) hr
   have hw:=Lib.decodeL_width (s.drop i)
   have hle:=Lib.decodeL_le (s.drop i) hne
   rw [List.length_drop] at hle
   rw [Af4 _ hne]
   by_cases hbad:(Lib.decodeL (s.drop i)).1=65533/\(Lib.decodeL (s.drop i)).2=1
   ·rw [if_pos hbad]
    refine ⟨λ_=>⟨B1 P,λR k0 k1=>?_⟩,λq hq=>by cases hq⟩
    refine (hst R k0 k1).trans ?_
    rw [if_pos hbad]
   ·rw [if_neg hbad,List.drop_drop]
    obtain ⟨w1,w2⟩:=ih (r-(Lib.decodeL (s.drop i)).2) (by omega) (i+(Lib.decodeL (s.drop i)).2) n (P++[(Lib.decodeL (s.drop i)).1]) (by omega) (by omega) (by rw [List.length_append,List.length_singleton];omega)
    constructor
    ·intro h
     cases hq:Di (s.drop (i+(Lib.decodeL (s.drop i)).2)) with
     | some q=>rw [hq] at h;cases h
     | none=>
      obtain ⟨l,e⟩:=w1 hq
      refine ⟨l,λR k0 k1=>?_⟩
      refine (hst R k0 k1).trans ?_
      rw [if_neg hbad]
      exact e R k0 k1
    ·intro q h R k0 k1
     cases hq:Di (s.drop (i+(Lib.decodeL (s.drop i)).2)) with
     | none=>rw [hq] at h;cases h
     | some q'=>
      rw [hq] at h
      simp only [Option.map_some,Option.some.injEq] at h
      subst h
      refine (hst R k0 k1).trans ?_
      rw [if_neg hbad]
      refine (w2 q' hq R k0 k1).trans ?_
      rw [List.append_assoc]
      rfl
  ·have hnil:s.drop i=[]:=by rw [<-List.length_eq_zero_iff,List.length_drop];omega
   have e:∀ (R:Type) (k0 k1:LL->Option R),Y3 LF (n+1) s i (B1 P) k0 k1=k1 (B1 P):=λR k0 k1=>by
    rw [Y3]
    rw [A7]
    rfl
   rw [hnil,show Di []=some [] from rfl]
   refine ⟨λh=>(by cases h),λq hq R k0 k1=>?_⟩
   simp only [Option.some.injEq] at hq
   subst hq
   rw [List.append_nil]
   exact e R k0 k1
theorem Bt0 (s:By) (h0:A3 s.length=true):∃ r H,Bu0 LF s (λl0=>rv (.tup [.fl 1,.s (.bool false)]) [.arr true 3 1 l0,.arr true 3 1 []]) (λl0=>rv (.tup [.fl 0,.s (.bool true)]) [.arr true 3 1 l0])=rv r H/\
  r.stab [1,0] H = .tup [.s (.sl (A99 s).isEmpty (A99 s).isEmpty 1 (Sj (A99 s))),.s (.bool (Di s).isSome)]:=by
 have hs:=M3 h0
 obtain ⟨w1,w2⟩:=Ah3 s hs s.length 0 LF [] (by omega) (by have:=D6;omega) (Nat.zero_le _)
 rw [List.drop_zero] at w1 w2
 unfold A99
 cases hp:Di s with
 | none=>
  obtain ⟨l,e⟩:=w1 hp
  exact ⟨_,_,e _ _ _,rfl⟩
 | some q=>
  refine ⟨_,_,w2 q hp _ _ _,?_⟩
  cases q<;>rfl
theorem UT {R:Type} {k0:Unit->Option R} {k1:By->Bool->LL->Bool->Option R} (s:By) (z:Bool) (p:List Nat) (hp:p.length<=1000000000):∀ (r i n:Nat) (b:Bool),i+r=p.length->r<n->
  R8 LF n s z (B1 p) b (i:Int) k0 k1=if (p.drop i).any (λp=>Nat.ble 65 p&&Nat.ble p 90) then k0 () else k1 s z (B1 p) (b || ((p.drop i).any λp=>Nat.ble 128 p)):=by
 intro r
 induction r with
 | zero=>
  intro i n b hi hn
  obtain ⟨n,rfl⟩:∃ m,n=m+1:=⟨n-1,by omega⟩
  rw [R8]
  rw [C0,A7,List.drop_of_length_le (by omega)]
  simp
 | succ r ih=>
  intro i n b hi hn
  obtain ⟨n,rfl⟩:∃ m,n=m+1:=⟨n-1,by omega⟩
  rw [R8]
  have e1:A1 ((i:Int)+1)=((i+1:Nat):Int):=by rw [A4];rfl
  have hd:p.drop i=p.getD i 0::p.drop (i+1):=by
   rw [List.getD_eq_getElem?_getD,List.getElem?_eq_getElem (by omega),Option.getD_some,List.getElem_cons_drop]
  rw [C0,A8,J5,Int.toNat_natCast,Kv (by omega),Rw _ _ (by omega),hd,List.any_cons,List.any_cons,e1]
  simp only [cond_true]
  generalize p.getD i 0=q
  have go:∀ c:Bool,R8 LF n s z (B1 p) c ((i+1:Nat):Int) k0 k1=_:=λc=>ih (i+1) n c (by omega) (by omega)
  simp only [go]
  by_cases h1:q<65
  ·rw [show ltI (q:Int) (65:Int)=true from A8,show Nat.ble 65 q=false by rw [Bool.eq_false_iff,ne_eq,Nat.ble_eq];omega]
   have h2:Nat.ble 128 q=false:=by rw [Bool.eq_false_iff,ne_eq,Nat.ble_eq];omega
   rw [show ltI (q:Int) (128:Int)=true from A8,h2]
   cases b<;>simp
  ·rw [show ltI (q:Int) (65:Int)=false from A7,show Nat.ble 65 q=true by rw [Nat.ble_eq];omega]
   by_cases h2:90<q
   ·rw [show ltI (90:Int) (q:Int)=true from A8,show Nat.ble q 90=false by rw [Bool.eq_false_iff,ne_eq,Nat.ble_eq];omega]
    by_cases h3:q<128
    ·rw [show ltI (q:Int) (128:Int)=true from A8,show Nat.ble 128 q=false by rw [Bool.eq_false_iff,ne_eq,Nat.ble_eq];omega]
     cases b<;>simp
    ·rw [show ltI (q:Int) (128:Int)=false from A7,show Nat.ble 128 q=true by rw [Nat.ble_eq];omega]
     cases b<;>simp
   ·rw [show ltI (90:Int) (q:Int)=false from A7,show Nat.ble q 90=true by rw [Nat.ble_eq];omega]
    cases b<;>simp
theorem UU {R:Type} {k0:Bool->Option R} (s:By) (h0:A3 s.length=true):ZD LF s k0=k0 (Ak s):=by
 have hLF:=D6
 unfold ZD Ak
 rw [h0,cond_true]
 simp only [vl]
 by_cases h:(K3 s).2=0
 ·have e:(((K3 s).2:Int) != (0:Int))=false:=by rw [h];rfl
  rw [e,cond_false,Gc,h]
  have hl:=JT s
  refine Eq.trans (UT s _ (K3 s).1 (by omega) (K3 s).1.length 0 LF false (by omega) (by omega)) ?_
  rw [List.drop_zero]
  cases h1:(K3 s).1.any (λp=>Nat.ble 65 p&&Nat.ble p 90) with
  | true=>simp
  | false=>
   rw [if_neg (by simp),Ev,Xb,Xc]
   simp only [cond_true,vl,Bool.false_or,Bool.not_false]
   by_cases h3:(Bn (K3 s).1).2=0
   all_goals grind
 grind
theorem UB {R:Type} {k0:Unit->Option R} {k1:By->Option R} (s:By) (hs:s.length<=1000000000):∀ (r i n:Nat),i+r=s.length->r<n->
  K6 LF n s (i:Int) k0 k1=if (s.drop i).all R1 then k1 s else k0 ():=by
 intro r
 induction r with
 | zero=>
  intro i n hi hn
  obtain ⟨n,rfl⟩:∃ m,n=m+1:=⟨n-1,by omega⟩
  rw [K6]
  rw [A7,List.drop_of_length_le (by omega)]
  rfl
 | succ r ih=>
  intro i n hi hn
  obtain ⟨n,rfl⟩:∃ m,n=m+1:=⟨n-1,by omega⟩
  rw [K6]
  have e1:A1 ((i:Int)+1)=((i+1:Nat):Int):=by rw [A4];rfl
  rw [A8,J5,I2,J0 s i (by omega),e1,List.all_cons]
  simp only [cond_true]
  rw [ih (i+1) n (by omega) (by omega)]
  generalize s.getD i 0=b
  have hb:=Tn b
  have q1:((b.toNat:Int)==45)=(b==45):=U3 b 45 (by omega)
  have q2:((b.toNat:Int)==95)=(b==95):=U3 b 95 (by omega)
  rw [q1,q2]
  cases hl:R1 b with
  | true=>
   rw [hb] at hl
   simp only [Bool.true_and]
   by_cases h1:b=45
   ·subst h1
    simp (disch:=decide) [ltI]
   ·by_cases h2:b=95
    ·subst h2
     simp (disch:=decide) [ltI]
    ·rcases hl with hl | hl | hl | hl
     ·rw [show ltI (b.toNat:Int) 97=false from A7,show ltI (122:Int) b.toNat=false from A7];rfl
     ·rw [show ltI (b.toNat:Int) 97=true from A8,show ltI (b.toNat:Int) 48=false from A7,show ltI (57:Int) b.toNat=false from A7];rfl
     ·exact absurd hl h1
     ·exact absurd hl h2
  | false=>
   have hn:¬ ((97<=b.toNat/\b.toNat<=122)\/(48<=b.toNat/\b.toNat<=57)\/b=45\/b=95):=λh=>by rw [hb.2 h] at hl;cases hl
   have n1:(b==45)=false:=by simpa using λh=>hn (.inr (.inr (.inl h)))
   have n2:(b==95)=false:=by simpa using λh=>hn (.inr (.inr (.inr h)))
   rw [n1,n2]
   simp only [Bool.not_false,cond_true,cond_false,Bool.false_and,Bool.false_eq_true,if_false]
   by_cases h1:b.toNat<48
   ·rw [show ltI (b.toNat:Int) 97=true from A8,show ltI (b.toNat:Int) 48=true from A8];rfl
   ·by_cases h2:b.toNat<97
    ·rw [show ltI (b.toNat:Int) 97=true from A8,show ltI (b.toNat:Int) 48=false from A7,show ltI (57:Int) b.toNat=true from A8];rfl
    ·rw [show ltI (b.toNat:Int) 97=false from A7,show ltI (122:Int) b.toNat=true from A8,show ltI (b.toNat:Int) 48=false from A7,show ltI (57:Int) b.toNat=true from A8];rfl
theorem Ax9 (s:By) (h:4<=s.length):(s.take 4==([120,110,45,45]:List UInt8))=xnB.isPrefixOf s:=by
 match s,h with
 | a::b::c::d::t,_=>
  simp only [List.take_succ_cons,List.take_zero,xnB,List.isPrefixOf,Bool.and_true]
  rw [show ((a::b::c::d::[])==([120,110,45,45]:List UInt8))=(a==120&&(b==110&&(c==45&&(d==45&&true)))) from rfl,Bool.and_true]
  rw [Bool.eq_iff_iff]
  simp only [Bool.and_eq_true,beq_iff_eq]
  exact ⟨λh=>⟨h.1.symm,h.2.1.symm,h.2.2.1.symm,h.2.2.2.symm⟩,λh=>⟨h.1.symm,h.2.1.symm,h.2.2.1.symm,h.2.2.2.symm⟩⟩
theorem UC {R:Type} {k0:Bool->Option R} (s:By) (h0:A3 s.length=true):YZ LF s k0=k0 (L0 s):=by
 have hs:=M3 h0
 have hLF:=D6
 unfold YZ L0
 by_cases h1:s=[]
 ·grind
 ·have hl:0<s.length:=List.length_pos_iff.2 h1
  have he:s.isEmpty=false:=by simpa using h1
  have he2:(s==([]:List UInt8))=false:=by simpa using h1
  rw [he2,cond_false,he]
  by_cases h2:63<s.length
  ·rw [A8,show Nat.ble s.length 63=false by rw [Bool.eq_false_iff,ne_eq,Nat.ble_eq];omega]
   rfl
  ·rw [A7,cond_false,show Nat.ble s.length 63=true by rw [Nat.ble_eq];omega,J5]
   have q1:(bAt s 0==(45:Int))=(s.getD 0 0==45):=by rw [It];exact U3 _ 45 (by omega)
   have e1:A1 ((s.length:Int)-1)=((s.length-1:Nat):Int):=by rw [A4];omega
   rw [q1,e1]
   simp only [cond_true,vl]
   rw [J5,I2,show ((((s.getD (s.length-1) 0).toNat:Nat):Int)==45)=(s.getD (s.length-1) 0==45) from U3 _ 45 (by omega)]
   cases h3:(s.getD 0 0==45) with
   | true=>
    grind
   | false=>
    rw [show (s.getD 0 0 != 45)=true by unfold bne;rw [h3];rfl]
    simp only [cond_true,cond_false]
    cases h4:(s.getD (s.length-1) 0==45) with
    | true=>
     grind
    | false=>
     rw [show (s.getD (s.length-1) 0 != 45)=true by unfold bne;rw [h4];rfl]
     simp only [cond_false]
     refine Eq.trans (UB s hs s.length 0 LF (by omega) (by omega)) ?_
     rw [List.drop_zero]
     cases h5:s.all R1 with
     | false=>simp
     | true=>
      rw [if_pos rfl]
      simp only [Bool.not_false,Bool.true_and,Bool.and_true]
      by_cases h6:s.length<4
      ·rw [A8]
       have:xnB.isPrefixOf s=false:=by
        rw [Bool.eq_false_iff,ne_eq,List.isPrefixOf_iff_prefix]
        intro h
        have:=h.length_le
        simp only [xnB,List.length_cons,List.length_nil] at this
        omega
       grind
      ·rw [A7,cond_false,Q7,cond_true,X6]
       have ht:(List.take (Int.toNat 4) s==([120,110,45,45]:List UInt8))=xnB.isPrefixOf s:=Ax9 s (by omega)
       rw [ht]
       cases h7:xnB.isPrefixOf s with
       | false=>rfl
       | true=>
        rw [Q7,M8]
        simp only [Bool.not_true,cond_false,cond_true]
        rw [J3 (by rw [List.length_drop];omega)]
        rfl
section
variable {σ R : Type} (lf : Nat) (cl : D7) (yh : Yh σ) (s : σ) (k : Out -> St σ -> Option R)
noncomputable def LY {R:Type} (lf n:Nat) (s0:By) (i1:Int) (l2:LL) (k0:LL->Option R) (k1:LL->Option R):Option R:=match n with | 0=>none | n+1=>cond (ltI i1 (s0.length:Int)) (cond (inR i1 s0.length) (cond ((bAt s0 i1) != 37) (cond (inR i1 s0.length) (cond (E3 (l2.length+1)) (LY lf n s0 (A1 (i1+1)) (l2++[[(SV.int .u8 (bAt s0 i1))]]) k0 k1) none) none) (vl (A1 ((s0.length:Int)-i1)) λn'3=>cond (ltI n'3 3) (k0 l2) (cond (inR (A1 (i1+1)) s0.length) (vl (bAt s0 (A1 (i1+1))) λn'4=>cond (inR n'4 256) (cond (ltI (Jb (u8n n'4)) (0:Int)) (k0 l2) (cond (inR (A1 (i1+2)) s0.length) (vl (bAt s0 (A1 (i1+2))) λn'5=>cond (inR n'5 256) (cond (ltI (Jb (u8n n'5)) (0:Int)) (k0 l2) (cond (inR (A1 (i1+1)) s0.length) (vl (bAt s0 (A1 (i1+1))) λn'6=>cond (inR n'6 256) (vl (A1 ((16:Int)*(Jb (u8n n'6)))) λn'7=>cond (inR (A1 (i1+2)) s0.length) (vl (bAt s0 (A1 (i1+2))) λn'8=>cond (inR n'8 256) (vl (A1 (n'7+(Jb (u8n n'8)))) λn'9=>cond (E3 (l2.length+1)) (vl (A1 ((A1 (i1+2))+1)) λn'10=>LY lf n s0 n'10 (l2++[[(SV.int .u8 (wu8 n'9))]]) k0 k1) none) none) none) none) none)) none) none)) none) none))) none) (k1 l2)
noncomputable abbrev Am6:Code:=D9 Tryz.f32
noncomputable def Mp (lf:Nat):Cfg:=C1 lf [32] (A6 [(5,[2,0,0])]) [(68,Vz),(53,Nk),(69,WR)] (A6 [(9,[2]),(6,[3,0]),(8,[2]),(7,[3,0,24]),(5,[3,0,16]),(4,[3,0]),(3,[3]),(2,[2]),(1,[0,14]),(0,[0])]) [68,69] (A6 [(0,[]),(1,[3,0])]) (some [2]) [] [] []
noncomputable def Hq {R:Type} (lf n:Nat) (p0:LL) (i1:Int) (k0:Unit->Option R) (k1:Unit->Option R):Option R:=match n with | 0=>none | n+1=>cond (ltI i1 (p0.length:Int)) (cond (inR i1 p0.length) (cond (okE Dw p0 (Int.toNat i1) 0) (cond (A3 (List.length (gX p0 (Int.toNat i1) 0))) (cond (not (L0 (gX p0 (Int.toNat i1) 0))) (k0 ()) (Hq lf n p0 (A1 (i1+1)) k0 k1)) none) none) none) (k1 ())
theorem TY (n p0 i1):D5 0 ((Mp lf).keep 5) (bd (Mp lf) cl yh (cd [1,1,1,0,1,0,0] Am6)) n ⟨gp [(3,.s (.sl false false 1 p0)),(0,pI i1)] 25,[],s⟩ k =
 Hq lf n p0 i1 (λ_=>k .ret ⟨gp [(2,pB false)] 27,[],s⟩) (λ_=>k (.exit 0) ⟨gp [] 30,[],s⟩):=by
 induction n generalizing p0 i1 with
 | zero=>rfl
 | succ n ih=>rw [Hq];simp only [<-ih];kernel_rfl
noncomputable def Bb1 {R:Type} (lf:Nat) (name0:By) (k0:Bool->Option R):Option R:=cond (name0==[]) (k0 false) (cond (ltI 253 (name0.length:Int)) (k0 false) (cond (A3 name0.length) (cond (O4 name0) (k0 false) (cond (A3 name0.length) (vl (H5 (pcs (u8n (46:Int)) name0)) λl'1=>Hq lf lf l'1 0 (λ_=>k0 false) (λ_=>k0 true)) none)) none))
theorem Bb2 (d:Nat) (name0):evC (Mp lf) (d+1) σ yh 32 [pS name0] [] s=Bb1 lf name0 (λr0=>some (pB r0,[],s)):=by
 refine (evE (fn:=Tryz.f32) (by kernel_rfl)).trans ?_
 generalize evC (Mp lf) d=cl
 unfold Bb1;exact (Eq.trans (by kernel_rfl) (A0 rfl (A0 rfl (A0 (A0 rfl (A0 (A9 λl'1=>((TY lf cl yh s (G5 0 (G9 (Mp lf) cl yh (cd [1,1,1,1] Am6) (H9 (Mp lf) Tryz.f32))) lf l'1 0).trans (by kernel_rfl))) rfl)) rfl))))
noncomputable def FZ (lf:Nat):Cfg:=C1 lf [19] (A6 []) [(32,EO)] (A6 [(3,[4]),(2,[4]),(1,[0,0,10]),(0,[0,0])]) [32] (A6 []) (some [4]) [] [] []
noncomputable def YU {R:Type} (lf:Nat) (super0 name1:By) (k0:Bool->Option R):Option R:=cond (A3 super0.length) (cond (not (E0 super0)) (k0 false) (cond (A3 name1.length) (cond (not (E0 name1)) (k0 false) (cond (super0==name1) (k0 true) (cond (ltI (super0.length:Int) (name1.length:Int)) (vl (A1 ((name1.length:Int)-(super0.length:Int))) λn'0=>cond (N6 (A1 (n'0-1)) (name1.length:Int) name1.length) (vl (cut name1 (A1 (n'0-1)) (name1.length:Int)) λs'1=>cond (JO 1 super0.length) (vl (([46]:List UInt8)++super0) λs'2=>k0 (s'1==s'2)) none) none) (k0 false)))) none)) none
theorem Av7 (d:Nat) (super0 name1):evC (FZ lf) (d+1) σ yh 19 [pS super0,pS name1] [] s=YU lf super0 name1 (λr0=>some (pB r0,[],s)):=by
 refine (evE (fn:=Tryz.f19) (by kernel_rfl)).trans ?_
 generalize evC (FZ lf) d=cl
 unfold YU;kernel_rfl
end
theorem Ag2 {R:Type} {k0 k1:Unit->Option R} (l:List By) (hl:l.length<=1000000001) (h:∀ x∈l,x.length<=1000000000):∀ (r i n:Nat),i+r=l.length->r<n->
  Hq LF n (H5 l) (i:Int) k0 k1=if (l.drop i).all L0 then k1 () else k0 ():=by
 intro r
 induction r with
 | zero=>
  intro i n hi hn
  obtain ⟨n,rfl⟩:∃ m,n=m+1:=⟨n-1,by omega⟩
  rw [Hq]
  rw [L2,A7,List.drop_of_length_le (by omega)]
  rfl
 | succ r ih=>
  intro i n hi hn
  obtain ⟨n,rfl⟩:∃ m,n=m+1:=⟨n-1,by omega⟩
  rw [Hq]
  have e1:A1 ((i:Int)+1)=((i+1:Nat):Int):=by rw [A4];rfl
  have hd:l.drop i=l.getD i []::l.drop (i+1):=by
   rw [List.getD_eq_getElem?_getD,List.getElem?_eq_getElem (by omega),Option.getD_some,List.getElem_cons_drop]
  have hx:(l.getD i []).length<=1000000000:=h _ (by
   rw [List.getD_eq_getElem?_getD,List.getElem?_eq_getElem (by omega),Option.getD_some];exact List.getElem_mem _)
  rw [L2,A8,J5,Int.toNat_natCast,Az (by omega),Ed,J3 hx,hd,List.all_cons,e1]
  simp only [cond_true]
  rw [ih (i+1) n (by omega) (by omega)]
  cases L0 (l.getD i []) with
  | true=>rw [Bool.true_and];rfl
  | false=>rfl
theorem Ag3 {R:Type} {k0:Bool->Option R} (s:By) (h0:A3 s.length=true):Bb1 LF s k0=k0 (E0 s):=by
 have hs:=M3 h0
 have hLF:=D6
 unfold Bb1
 by_cases hnil:s=[]
 ·subst hnil
  rfl
 ·have he:(s==([]:By))=false:=by simpa using hnil
  rw [he,cond_false]
  unfold E0
  by_cases h1:253<s.length
  ·rw [A8,show Nat.ble s.length 253=false by rw [Bool.eq_false_iff,ne_eq,Nat.ble_eq];omega]
   rfl
  ·rw [A7,cond_false,h0,cond_true,show Nat.ble s.length 253=true by rw [Nat.ble_eq];omega]
   cases h2:O4 s with
   | true=>rfl
   | false=>
    rw [cond_false,cond_true]
    have hpl:=Br 46 s
    have hcl:=Fu 46 s
    refine Eq.trans (Ag2 (pcs 46 s) (by omega) (λx hx=>by have:=(Kz hx).2;omega) (pcs 46 s).length 0 LF (by omega) (by omega)) ?_
    grind
theorem Bd1 (p s:By):p.isSuffixOf s=(Nat.ble p.length s.length&&s.drop (s.length-p.length)==p):=by
 rw [Bool.eq_iff_iff,List.isSuffixOf_iff_suffix,Bool.and_eq_true,Nat.ble_eq,beq_iff_eq]
 constructor
 ·rintro ⟨t,rfl⟩
  simp_all
 ·rintro ⟨h1,h2⟩
  rw [<-h2]
  exact List.drop_suffix _ _
theorem TX {R:Type} {k0:Bool->Option R} (p s:By) (h0:A3 p.length=true) (h1:A3 s.length=true):YU LF p s k0=k0 (E7 p s):=by
 have hp:=M3 h0
 have hs:=M3 h1
 unfold YU E7
 rw [h0,h1,XJ (by omega)]
 cases E0 p with
 | false=>rfl
 | true=>
  cases E0 s with
  | false=>rfl
  | true=>
   simp only [Bool.not_true,cond_false,cond_true,Bool.true_and]
   cases (p==s) with
   | true=>rfl
   | false=>
    rw [Bd1,List.length_cons]
    by_cases h:p.length<s.length
    ·have e1:A1 (A1 ((s.length:Int)-p.length)-1)=((s.length-(p.length+1):Nat):Int):=by
      rw [D8 (n:=(s.length:Int)-p.length) (by omega) (by omega),A4];omega
     rw [A8]
     simp only [vl,cond_true,cond_false]
     rw [e1,Q7,M8,Int.toNat_natCast,show Nat.ble (p.length+1) s.length=true by rw [Nat.ble_eq];omega]
     rfl
    ·rw [A7,show Nat.ble (p.length+1) s.length=false by rw [Bool.eq_false_iff,ne_eq,Nat.ble_eq];omega]
     rfl
section
theorem NY:B3 Tryz.prog GX 165 Wc:=xf [] (Ws LF) Qt rfl trivial rfl (by kernel_rfl) follows λargs=>by
 unfold Qt;split
 ·rename_i n;exact ⟨rfl,rfl,rfl,_,_,(Ag9 LF noY () 0 n).trans (MU n ),rfl⟩
 ·trivial
theorem NX:B3 Tryz.prog GX 168 Vt:=xf [] (R4 LF) Qr rfl trivial rfl (by kernel_rfl) follows λargs=>by
 unfold Qr;split
 ·rename_i d c f;exact λh0=>λh1=>λh2=>⟨rfl,rfl,rfl,_,_,(Af7 LF noY () 0 d c f).trans (LV d c f h0 h1 h2),rfl⟩
 ·trivial
theorem A05:B3 Tryz.prog GX 166 OR:=xf [] (PT LF) EV rfl trivial rfl (by kernel_rfl) follows λargs=>by
 unfold EV;split
 ·rename_i k b;exact λh0=>λh1=>⟨rfl,rfl,rfl,_,_,(Bc3 LF noY () 0 k b).trans (Ah5 k b h0 h1),rfl⟩
 ·trivial
theorem Bf1:B3 Tryz.prog GX 167 WO:=xf [] (FY LF) Vu rfl trivial rfl (by kernel_rfl) follows λargs=>by
 unfold Vu;split
 ·rename_i d;exact λh0=>⟨rfl,rfl,rfl,_,_,(Av1 LF noY () 0 d).trans (TG d h0),rfl⟩
 ·trivial
theorem Bp2:B3 Tryz.prog GX 176 Al1:=xf [] (Ez LF) EW rfl trivial rfl (by kernel_rfl) follows λargs=>by
 unfold EW;split
 ·rename_i b;exact λh0=>⟨rfl,rfl,rfl,_,_,(Bc5 LF noY () 0 b).trans (Ah6 b h0),rfl⟩
 ·trivial
theorem Bo8:B3 Tryz.prog GX 125 Ak8:=xf [0,0] (J8 LF) EN rfl ⟨NY,A05,Bf1,NX,trivial⟩ rfl (by kernel_rfl) follows λargs=>by
 unfold EN;split
 ·rename_i p_z p_t p;exact λh0=>(let ⟨rr,hH,ee,qq⟩:=Bb0 p_z p_t p h0;⟨rfl,rfl,rfl,rr,hH,(Ba8 LF noY () 0 p_z p_t p).trans ee,qq⟩)
 ·trivial
theorem Bf7:B3 Tryz.prog GX 146 WT:=xf [1,0] (G8 LF) Wb rfl ⟨Bp2,A05,NX,NY,trivial⟩ rfl (by kernel_rfl) follows λargs=>by
 unfold Wb;split
 ·rename_i s;exact λh0=>(let ⟨rr,hH,ee,qq⟩:=Aw8 s h0;⟨rfl,rfl,rfl,rr,hH,(Aw7 LF noY () 0 s).trans ee,qq⟩)
 ·trivial
theorem Bf8:B3 Tryz.prog GX 103 WU:=xf [] (Gy LF) Wd rfl ⟨Bf7,Bo8,trivial⟩ rfl (by kernel_rfl) follows λargs=>by
 unfold Wd;split
 ·rename_i s;exact λh0=>⟨rfl,rfl,rfl,_,_,(Aw9 LF noY () 0 s).trans (UU s h0),rfl⟩
 ·trivial
theorem Bf5:B3 Tryz.prog GX 69 WR:=xf [] (Gw LF) Vy rfl ⟨Bf8,trivial⟩ rfl (by kernel_rfl) follows λargs=>by
 unfold Vy;split
 ·rename_i s;exact λh0=>⟨rfl,rfl,rfl,_,_,(Aw3 LF noY () 0 s).trans (UC s h0),rfl⟩
 ·trivial
theorem VZ:B3 Tryz.prog GX 32 EO:=xf [] (Mp LF) EP rfl ⟨WA,Zr,Bf5,trivial⟩ rfl (by kernel_rfl) follows λargs=>by
 unfold EP;split
 ·rename_i s;exact λh0=>⟨rfl,rfl,rfl,_,_,(Bb2 LF noY () 0 s).trans (Ag3 s h0),rfl⟩
 ·trivial
theorem Bf2:B3 Tryz.prog GX 19 WQ:=xf [] (FZ LF) Vv rfl ⟨VZ,trivial⟩ rfl (by kernel_rfl) follows λargs=>by
 unfold Vv;split
 ·rename_i p s;exact λh0=>λh1=>⟨rfl,rfl,rfl,_,_,(Av7 LF noY () 0 p s).trans (TX p s h0 h1),rfl⟩
 ·trivial
end
section
theorem Bo9:B3 Tryz.prog GX 67 Ak9:=xf [] (PS LF) EQ rfl ⟨VZ,Bf2,trivial⟩ rfl (by kernel_rfl) follows λargs=>by
 unfold EQ;split
 ·rename_i h b s;exact λh0=>λh1=>(let ⟨rr,hH,ee,qq⟩:=Bb5 h b s h0 h1;⟨rfl,rfl,rfl,rr,hH,(Bb4 LF noY () 0 h b s).trans ee,qq⟩)
 ·trivial
theorem Bp0:B3 Tryz.prog GX 31 OQ:=xf [0,0] (Mq LF) ER rfl ⟨Bo9,trivial⟩ rfl (by kernel_rfl) follows λargs=>by
 unfold ER;split
 ·rename_i l_z l_t l s;exact λh0=>λh1=>λh2=>λh3=>(let ⟨rr,hH,ee,qq⟩:=Bb8 l_z l_t l s h0 h1 h2 h3;⟨rfl,rfl,rfl,rr,hH,(Bb7 LF noY () 0 l_z l_t l s).trans ee,qq⟩)
 ·trivial
theorem Bn4:B3 Tryz.prog GX 12 OF:=xf [] (Mh LF) DL rfl trivial rfl (by kernel_rfl) follows λargs=>by
 unfold DL;split
 ·rename_i l_z l_t l n;exact λh0=>λh1=>⟨rfl,rfl,rfl,_,_,(A52 LF noY () 0 l_z l_t l n).trans (Ac0 l_z l_t l n h0 h1),rfl⟩
 ·trivial
end
section
theorem Bf6:B3 Tryz.prog GX 64 WS:=xf [] (Gx LF) Wa rfl ⟨Zr,trivial⟩ rfl (by kernel_rfl) follows λargs=>by
 unfold Wa;split
 ·rename_i s p;exact λh0=>λh1=>⟨rfl,rfl,rfl,_,_,(Aw6 LF noY () 0 s p).trans (UM s p h0 h1),rfl⟩
 ·trivial
theorem Bf4:B3 Tryz.prog GX 27 ET:=xf [2,0] (E6 LF) Vx rfl ⟨VZ,Bf6,trivial⟩ rfl (by kernel_rfl) follows λargs=>by
 unfold Vx;split
 ·rename_i l_z l_t l;exact λh0=>λh1=>λh2=>⟨λh3=>(let ⟨rr,hH,ee,qq⟩:=MJ l_z l_t l h0 h1 h2 h3;⟨rfl,rfl,rfl,rr,hH,(MB LF noY () 0 l_z l_t l).trans ee,qq⟩),λh3=>(let ⟨rr,hH,ee,qq⟩:=MJ l_z l_t l h0 h1 h2 h3;⟨rfl,rfl,rfl,rr,hH,(MB LF noY () 0 l_z l_t l).trans ee,qq⟩)⟩
 ·trivial
theorem Bf3:B3 Tryz.prog GX 29 ES:=xf [0,0] (Gv LF) Vw rfl trivial rfl (by kernel_rfl) follows λargs=>by
 unfold Vw;split
 ·rename_i l_z l_t l q;exact λh0=>λh1=>(let ⟨rr,hH,ee,qq⟩:=Aw1 l_z l_t l q h0 h1;⟨rfl,rfl,rfl,rr,hH,(Aw0 LF noY () 0 l_z l_t l q).trans ee,qq⟩)
 ·trivial
end
def evX (C:Cfg) (d g:Nat) (args:List PV):Tr:=match evC C d Unit noY g args [] () with
 | some (r,H,_)=>cond (B7 args).isEmpty (.ret r H) .fail
 | none=>.fail
theorem Bu2 {C:Cfg} (d g:Nat) (hX:XOK C) (hO:Cp C) (hm:C.P.follows .mixedOrders=true):B3 C.P C.G g (evX C d g):=
 Es hX hO hm λargs ret Hc h=>by
  unfold evX at h
  split at h
  ·rename_i r H s e
   cases hn:(B7 args).isEmpty with
   | false=>rw [hn] at h;cases h
   | true=>
    rw [hn] at h
    obtain ⟨rfl,rfl⟩:=I9 h
    exact ⟨List.isEmpty_iff.1 hn,d,e⟩
  ·cases h
def evS (C:Cfg) (d g:Nat) (args:List PV):Tr:=match evC C d Unit noY g args [] () with
 | some (r,H,_)=>cond ((B7 args).isEmpty&&(r.stab [] H).nms.isEmpty) (.ret (r.stab [] H) []) .fail
 | none=>.fail
theorem Bs2 {C:Cfg} (d g:Nat) (hX:XOK C) (hO:Cp C) (hm:C.P.follows .mixedOrders=true):B3 C.P C.G g (evS C d g):=
 N7 [] hX hO hm λargs ret Hc h=>by
  unfold evS at h
  split at h
  ·rename_i r H s e
   cases hn:((B7 args).isEmpty&&(r.stab [] H).nms.isEmpty) with
   | false=>rw [hn] at h;cases h
   | true=>
    rw [hn] at h
    obtain ⟨rfl,rfl⟩:=I9 h
    rw [Bool.and_eq_true] at hn
    exact ⟨List.isEmpty_iff.1 hn.1,rfl,List.isEmpty_iff.1 hn.2,d,r,H,e,rfl⟩
  ·cases h
noncomputable def Bh0:Cfg:=C1 100000 [85] (λ_=>none) [(112,OD),(114,Aj7),(115,WX),(93,Kd),(117,AK),(118,Aj9),(119,WW)]
noncomputable def Bg6:List PV->Tr:=evS Bh0 3 85
theorem Bs3:B3 Tryz.prog GX 85 Bg6:=Bs2 (C:=Bh0) 3 _ (L4.ok rfl ⟨Az4,Bn2,Bg0,DA,Aj2,Bn5,Bf9,trivial⟩) (G1 rfl (by kernel_rfl)) follows
noncomputable def Bh1:Cfg:=C1 100000 [23,52,51,83,110,84] (λ_=>none)
 [(85,Bg6),(50,EY),(49,FE),(111,OK)] (S:=[(106,Nl)]) (nt:=[(23,0,63,2)]) (fr:=[(12,[0,1],[1]),(15,[0,2],[1])])
noncomputable def Bg9:List PV->Tr:=evX Bh1 6 23
theorem Bs7:B3 Tryz.prog GX 23 Bg9:=Bu2 (C:=Bh1) 6 _ (Fo (ly:=[]) rfl rfl rfl ⟨Bs3,A07,A08,Az9,trivial⟩ trivial ⟨ZL,trivial⟩) (G1 rfl (by kernel_rfl)) follows
noncomputable def PC:Cfg:=C1 100000 [22,26,30,28,37] (λ_=>none)
 [(23,Bg9),(57,DQ),(60,DO),(65,OG),(41,Ql)]
 (S:=[(76,Gn)]) (lend:=[26]) (nt:=[(105,0,63,2)]) (Z:=[(61,Qo)])
theorem A12:XOK PC:=Bi0 (ly:=[]) rfl rfl rfl rfl ⟨Bs7,Az8,Az7,Az6,VX,trivial⟩ trivial ⟨IM,trivial⟩ ⟨ZM,trivial⟩
theorem Al7:Uz (evC PC 8 Unit noY 22 [] [] ())=true:=by kernel_rfl
theorem Ai9:B3 Tryz.prog GX 22 Qi:=
 B3.fix (pf:=Lq) _ (by
  have h:=WC (C₀:=PC) A12 (G1 rfl (by kernel_rfl)) follows Al7
  have e:(λargs:List PV=>match args with | []=>Tr.ret (.s (.bool true)) [] | _=>.fail)=Lq:=by
   funext args
   cases args<;>rfl
  rw [<-e]
  exact h)
end
section
open Go Go.ChangeAt Go.ChangeShapes Go.Proofs Go.RowKit Go.WideShapes
set_option maxRecDepth 100000
section
theorem RR (os:Os) (started:os.Started) (H:Type) (enc:TypeId × Value->H) :
  ReturnsInHanded {} Tryz.checked os 7 .any (λw args=>(Rows.preloadFindMatchesSpecSpec.pre enc Tryz.prog Tryz.f7 Rows.preloadFindMatchesSpecRow.domain false w args/\laidMetH Tryz.prog Bi w)/\sizedMet enc Tryz.prog Tryz.f7 (OpenSpec.ofChange Rows.preloadFindMatchesSpecSpec) false w args) (Rows.preloadFindMatchesSpecSpec.post enc Tryz.prog Tryz.f7 false true false false):=
 RE started (C:=JJ LF) (tb:=4) rfl rfl (L4.ok (l:=[(12,OF),(22,Qi),(26,OJ),(27,ET),(28,Ls),(29,ES),(30,OH),(31,OQ)]) rfl ⟨Bn4,Ai9,Bn8,Bf4,VY,Bf3,Bn6,Bp0,trivial⟩) (G1 rfl (by kernel_rfl)) (by kernel_rfl) Tryz.func7 (c:=D9 Tryz.f7) rfl (by kernel_rfl)
  (by
   intro t ht
   have:t=23\/t=9:=by simpa only [List.mem_cons,List.mem_nil_iff,or_false] using (show t∈[23,9] from ht)
   rcases this with rfl | rfl
   all_goals exact ⟨⟨by kernel_rfl,of_decide_eq_true (by kernel_rfl)⟩,by kernel_rfl⟩) rfl (by kernel_rfl) rfl
  (λds hds=>by
   match ds,hds with
   | [d0,d1],_=>rfl)
  #[(.slice none 0 0),(.string ⟨#[]⟩)] 8 (by kernel_rfl) (by kernel_rfl) (by kernel_rfl)
  (λargs h=>A71 args h)
set_option maxHeartbeats 4000000 in theorem Ad4:Rows.PreloadFindMatchesSpecSaid:=
 OpenClaim.holds_of_wide 7 Tryz.f7 rfl rfl rfl rfl rfl rfl rfl ⟨rfl,rfl,rfl,rfl,rfl⟩ rfl rfl rfl rfl rfl (by kernel_rfl) Tryz.func7 (by unfold joinedFacts;simp only [Bool.and_eq_true];(repeat' apply And.intro)<;>as_aux_lemma=>kernel_rfl)
  (of_decide_eq_true (by as_aux_lemma=>kernel_rfl)) (by unfold Func.isWrapper;first | (rw [if_pos (by decide +kernel)];kernel_rfl) | (rw [if_neg (by decide +kernel)];exact ⟨rfl,rfl⟩))
  (λos started H enc _=>RR os started H enc)
theorem lpf_card:Rows.PreloadFindMatchesSpecCardSaid:=
 Claim7.holds_tied_plain_at .later [] [.data,.data,.data,.data,.pinned] true (true, "7afd958ced9ec1c0e92f7929c3d546df191af6d231ea740845f3a84d94481a7c") false Ad4 (λ_ h=>by cases h) (by as_aux_lemma=>kernel_rfl) (λ_ h=>by cases h) preloadFindMatchesSpec_row_tie rfl ⟨rfl,rfl⟩ (by as_aux_lemma=>kernel_rfl) rfl
  (λf fn hf hfn=>by
   obtain rfl:f=7:=Option.some.inj ((show Tryz.prog.funcNamed "hstsstore/hstsstorelaw24.PreloadFindMatchesSpec" = some 7 by as_aux_lemma=>kernel_rfl).symm.trans hf) |>.symm
   obtain rfl:fn=Tryz.f7:=(Option.some.inj (Tryz.func7.symm.trans hfn)).symm
   exact ⟨by as_aux_lemma=>kernel_rfl,λj t ht=>by
    have hm:t∈[23,9]:=Array.mem_toList_iff.2 (Array.mem_of_getElem? ht)
    have hall:([23,9].all λu=>!Tryz.prog.wantsStandIn u)=true:=by as_aux_lemma=>kernel_rfl
    exact (show Tryz.prog.wantsStandIn t=false by simpa using List.all_eq_true.1 hall t hm)⟩)
  (by as_aux_lemma=>kernel_rfl)
end
end
#print axioms lpf_card
end Go.Proofs.YtelhbgonncceeaaGreatDoor.E
