/-
  Parts of the proof, merged by a program of the prover's own; no condition.
-/
import Derived.Test.YtcfingekgbbclaaGreatDoorKC2
import Derived.Deep.Draws
import Derived.KernelRfl
import Derived.Laws.RangeString
import Derived.Lib.IndexMore
import Derived.Lib.ItoaNum
import Derived.Lib.Join
import Derived.Lib.JoinLaws
import Derived.Lib.LaidTab
import Derived.Lib.LaidU8
import Derived.Lib.LastIndexLaws
import Derived.Lib.RuneCount
import Derived.Lib.TrailingZeros
import Derived.Lib.ValidU
import Derived.Sort.Grow
import Derived.Test.YtcfingekgbbclaaGreatDoorProg
namespace Go.Proofs.YtcfingekgbbclaaGreatDoor.E
open Go
set_option linter.unusedVariables false
def XFact (P:Program) (G:GT) (g:Nat) (pf:List PV→Tr):Prop:=
 ∀ args ret Hc,trRes (pf args)=some (ret,Hc)→∀ C:Cfg,C.P=P→C.G=G→∀ Γ w Vs,(∀ b,Γ.nm b=none)→HR Γ [] w→GOK C Γ.St w→CR Γ (shpOf []) w args Vs→
  UponOK P ((callFunc g Vs).run P w) (CRes C I0 Γ [] w noΦ ret Hc ())
theorem xfact_of_ev {C₀:Cfg} {g:Nat} {pf:List PV→Tr} (hX:XOK C₀) (hO:OkFns C₀) (hm:C₀.P.follows .mixedOrders=true)
  (h:∀ args ret Hc,trRes (pf args)=some (ret,Hc)→nmsL args=[]∧∃ d,evC C₀ d Unit noY g args [] ()=some (ret,Hc,())):XFact C₀.P C₀.G g pf:=by
 intro args ret Hc hpf C hP hGe Γ w Vs hnm hH hG hc
 obtain ⟨hna,d,hev⟩:=h args ret Hc hpf
 have hG0:GOK C₀ Γ.St w:=hG.congr hGe.symm
 refine (evC_sound hX hO hm d Unit I0 noY Γ.yv I0_HI I0_Yd g args [] () ret Hc () hev Γ noΦ w Vs rfl hH hG0 (fun _ h=>h) (fun b g h=>by rw [hnm] at h;cases h) hc (by rw [hna];simp)).mono ?_
 rintro V w' ⟨Γ1,Φ1,hs,hH1,hv,hvn,hi1,hd1⟩
 exact ⟨Γ1,Φ1,⟨hs.os,hs.tape,hs.output,hs.size,hs.sub,hs.stnew,hs.own,hs.foot,hs.frame,hs.yv,hs.len,fun b hb=>by simp at hb⟩,hH1,hv,hvn,hi1,hd1⟩
def Tr.snap:Tr→Tr
 | .ret v H=>cond (v.snap H).nms.isEmpty (.ret (v.snap H) []) .fail
 | .need c t=>.need c t.snap
 | .split c a b=>.split c a.snap b.snap
 | .fail=>.fail
theorem Tr.snap_res:∀ {t:Tr} {v:PV} {H:List Blk},trRes t.snap=some (v,H)→∃ v' H',trRes t=some (v',H')∧v=v'.snap H'∧H=[]∧v.nms=[]
 | .ret v' H',v,H,h=>by
  simp only [Tr.snap] at h
  cases he:(v'.snap H').nms.isEmpty with
  | false=>rw [he] at h;cases h
  | true=>
   rw [he] at h
   simp only [cond_true,trRes,runTr,Option.some.injEq,Prod.mk.injEq] at h
   obtain ⟨rfl,rfl⟩:=h
   exact ⟨v',H',rfl,rfl,rfl,List.isEmpty_iff.1 he⟩
 | .need c t,v,H,h=>by
  cases c with
  | true=>exact Tr.snap_res (t:=t) h
  | false=>cases h
 | .split c a b,v,H,h=>by
  cases c with
  | true=>exact Tr.snap_res (t:=a) h
  | false=>exact Tr.snap_res (t:=b) h
 | .fail,_,_,h=>by cases h
theorem XFact.snap {P:Program} {G:GT} {g:Nat} {pf:List PV→Tr} (h:XFact P G g pf):XFact P G g (fun args=>(pf args).snap):=by
 intro args ret Hc hpf C hP hGe Γ w Vs hnm hH hG hc
 obtain ⟨ret',Hc',hpf',rfl,rfl,hnr⟩:=Tr.snap_res hpf
 refine (h args ret' Hc' hpf' C hP hGe Γ w Vs hnm hH hG hc).mono ?_
 rintro V w' ⟨Γ1,Φ1,hs,hH1,hv,hvn,hi1,hd1⟩
 let Γ2:Ctx:={ Γ1.all with nm:=fun _=>none }
 have hlt:∀ g,Γ2.St g→g<w'.heap.size:=fun g hg=>by
  rcases hg with hg | ⟨b,hb⟩
  ·exact hH1.stlt g hg
  ·exact (hH1.lt b g hb).2.1
 refine ⟨Γ2,Φ1,⟨hs.os,hs.tape,hs.output,hs.size,fun g hg=>.inl (hs.sub g hg),fun g hg=>?_,fun b g h=>by simp [Γ2] at h,hs.foot,hs.frame,hs.yv,Nat.le_refl _,fun b hb=>by simp at hb⟩,
  bare_HR (fun _=>rfl) hlt,?_,by rw [hnr];simp,hi1,fun b g h=>by simp [Γ2] at h⟩
 ·rcases hg with hg | ⟨b,hb⟩
  ·exact hs.stnew g hg
  ·rcases hs.own b g hb with ⟨h',_⟩ | h'
   ·simp at h'
   ·exact .inr h'
 ·exact VP.mono (Γ:=Γ1.all) (Γ':=Γ2) (w:=w') (w':=w') (sh:=shpOf Hc') (ok:=fun _=>False) ⟨fun _ _=>rfl,fun _ h=>h,fun _ h=>h.elim,fun _ h=>h.elim,fun _ _ h=>h.elim,rfl⟩ (hv.snap hH1) (by rw [hnr];simp)
def tblX:List (Nat × (List PV→Tr))→Nat→Option (List PV→Tr)
 | [],_=>none
 | (g,pf)::r,n=>cond (Nat.beq n g) (some pf) (tblX r n)
def XFacts (P:Program) (G:GT):List (Nat × (List PV→Tr))→Prop
 | []=>True
 | (g,pf)::r=>XFact P G g pf∧XFacts P G r
theorem XFacts.x1 {C:Cfg} {l:List (Nat × (List PV→Tr))} (hl:C.X=tblX l) (h:XFacts C.P C.G l):X1OK C:=by
 intro g pf args ret Hc hg hpf Γ w Vs hnm hH hG hc
 rw [hl] at hg
 have key:∀ l:List (Nat × (List PV→Tr)),XFacts C.P C.G l→tblX l g=some pf→XFact C.P C.G g pf:=by
  intro l
  induction l with
  | nil=>intro _ h;cases h
  | cons e r ih=>
   intro h1 h2
   obtain ⟨n,q⟩:=e
   simp only [tblX] at h2
   cases hb:Nat.beq g n with
   | true=>
    rw [hb] at h2
    simp only [cond_true,Option.some.injEq] at h2
    have:=Nat.eq_of_beq_eq_true hb
    subst this;subst h2
    exact h1.1
   | false=>
    rw [hb] at h2
    exact ih h1.2 h2
 exact key l h hg args ret Hc hpf C rfl rfl Γ w Vs hnm hH hG hc
theorem fixS_congr {C C':Cfg} (h:C.P=C'.P):fixS C=fixS C':=by
 funext s
 unfold fixS
 split
 ·simp only [fixedT,Cfg.sh,h]
 ·rfl
 ·rfl
theorem Stp.congr {C C':Cfg} (h:C.P=C'.P) {Γ Γ':Ctx} {H H':List Blk} {w w':World} {Φ Φ':Nat→Prop} (s:Stp C Γ H w Φ Γ' H' w' Φ'):Stp C' Γ H w Φ Γ' H' w' Φ':=
 ⟨s.os,s.tape,s.output,s.size,s.sub,s.stnew,s.own,s.foot,s.frame,s.yv,s.len,fun b hb hf=>s.keep b hb (by rw [fixS_congr h];exact hf)⟩
def YFact (P:Program) (G:GT) (g:Nat) (pf:List PV→List Blk→Tr):Prop:=
 ∀ C:Cfg,C.P=P→C.G=G→∀ (σ:Type) (I:σ→(Nat→Prop)→(Nat→Prop)→World→Prop) (yh:Yh σ) (yv:Value),HI I→YdOK P I yh yv→
  ∀ args H s ret Hc,trRes (pf args H)=some (ret,Hc)→∀ Γ Φ w Vs,Γ.yv=yv→HR Γ H w→GOK C Γ.St w→I s Γ.St Φ w→(∀ b g,Γ.nm b=some g→¬ Φ g)→CR Γ (shpOf H) w args Vs→(∀ c∈nmsL args,c<H.length)→
   UponOK P ((callFunc g Vs).run P w) (CRes C I Γ H w Φ ret Hc s)
def SFact (P:Program) (G:GT) (g:Nat) (pf:List PV→List Blk→Option (Bool × List (List PV))):Prop:=
 ∀ C:Cfg,C.P=P→C.G=G→∀ (σ:Type) (I:σ→(Nat→Prop)→(Nat→Prop)→World→Prop) (yh:Yh σ) (yv:Value),HI I→YdOK P I yh yv→
  ∀ args H L s s',pf args H=some (true,L)→H.all isBox=true→seqRun yh L s=some s'→∀ Γ Φ w Vs,Γ.yv=yv→HR Γ H w→GOK C Γ.St w→I s Γ.St Φ w→(∀ b g,Γ.nm b=some g→¬ Φ g)→CR Γ (shpOf H) w args Vs→(∀ c∈nmsL args,c<H.length)→
   UponOK P ((callFunc g Vs).run P w) (CRes C I Γ H w Φ (.tup []) (H.map bareB) s')
theorem bare_res {C C₀:Cfg} {σ:Type} {I:σ→(Nat→Prop)→(Nat→Prop)→World→Prop} {Γ:Ctx} {H Hc:List Blk} {w w':World} {Φ:Nat→Prop} {s':σ} {V:Value} (hP:C₀.P=C.P) (hb:H.all isBox=true) (hH:HR Γ H w) (h:CRes C₀ I Γ H w Φ (.tup []) Hc s' V w'):CRes C I Γ H w Φ (.tup []) (H.map bareB) s' V w':=by
 obtain ⟨Γ1,Φ1,hs,k1,k2,k3,k4,k5⟩:=h
 have hn:∀ b g,(if b<H.length then Γ1.nm b else none)=some g→b<H.length∧Γ1.nm b=some g:=fun b g h=>by
  split at h
  ·exact ⟨‹_›,h⟩
  ·cases h
 have hlen:(H.map bareB).length=H.length:=List.length_map _
 refine ⟨{ Γ1 with nm:=fun b=>if b<H.length then Γ1.nm b else none },Φ1,⟨hs.os,hs.tape,hs.output,hs.size,hs.sub,hs.stnew,fun b g hg=>hs.own b g (hn b g hg).2,hs.foot,hs.frame,hs.yv,by rw [hlen];exact Nat.le_refl _,fun b hbl hf=>?_⟩,
  ⟨fun b b' g h1 h2=>k1.inj b b' g (hn b g h1).2 (hn b' g h2).2,fun b g hg=>?_,k1.stlt,fun b hbl c hc=>?_,fun b hbl=>?_⟩,?_,by simp [PV.nms,nmsL],k4,fun b g hg=>k5 b g (hn b g hg).2⟩
 ·obtain ⟨m1,m2,m3⟩:=hs.keep b hbl (by rw [fixS_congr hP];exact hf)
  refine ⟨by simp only;rw [if_pos hbl];exact m1,?_,m3⟩
  simp only [shpOf,List.getElem?_map]
  cases H[b]? with
  | none=>rfl
  | some x=>exact congrArg some (bareB_shp x)
 ·obtain ⟨q1,q2⟩:=hn b g hg
  have:=k1.lt b g q2
  exact ⟨by rw [hlen];exact q1,this.2⟩
 ·rw [List.getElem_map,bareB_nms] at hc
  simp at hc
 ·rw [hlen] at hbl
  rw [List.getElem_map]
  have hbx:=List.all_eq_true.1 hb _ (List.getElem_mem hbl)
  have hB:=hH.blk b hbl
  cases hx:H[b] with
  | box cells=>
   rw [hx] at hB
   obtain ⟨g,cur,e,h1,h2,h3,_⟩:=hB
   obtain ⟨m1,m2,m3⟩:=hs.keep b hbl (by simp only [shpOf,List.getElem?_eq_getElem hbl,hx];exact trivial)
   have hl2:b<Hc.length:=Nat.lt_of_lt_of_le hbl hs.len
   have hB2:=k1.blk b hl2
   have hshp:(Hc[b]).shp = .box:=by
    simp only [shpOf,List.getElem?_eq_getElem hbl,List.getElem?_eq_getElem hl2,Option.map_some,Option.some.injEq] at m2
    rw [m2,hx];rfl
   cases hy:Hc[b] with
   | box cells'=>
    rw [hy] at hB2
    obtain ⟨g',cur',e',h1',h2',h3',h4'⟩:=hB2
    have hgg:g'=g:=by
     rw [m1,h1] at h1'
     exact (Option.some.inj h1').symm
    subst hgg
    have hsz:=m3 g' h1
    simp only [World.shape?,h2,h2',Option.some.injEq,Prod.mk.injEq] at hsz
    refine ⟨g',cur',e',by simp only;rw [if_pos hbl];exact h1',h2',by rw [hsz.2,h3];simp,fun j hj=>?_⟩
    have hj':j<cur'.size:=by rw [hsz.2,h3];simpa using hj
    exact ⟨cur'[j],Array.getElem?_eq_getElem hj',by rw [List.getElem_map];exact .bad _⟩
   | arr a b c d=>rw [hy] at hshp;cases hshp
   | iter a b=>rw [hy] at hshp;cases hshp
   | dead=>rw [hy] at hshp;cases hshp
  | arr a b c d=>rw [hx] at hbx;cases hbx
  | iter a b=>rw [hx] at hbx;cases hbx
  | dead=>rw [hx] at hbx;cases hbx
 ·obtain ⟨A,rfl,hA,hcA⟩:=k2.inv_tup
  exact VP.mk_tup hA fun j hj=>by simp at hj
theorem sfact_of_ev {C₀:Cfg} {g:Nat} {pf:List PV→List Blk→Option (Bool × List (List PV))} (hX:XOK C₀) (hO:OkFns C₀) (hm:C₀.P.follows .mixedOrders=true)
  (h:∀ args H L,pf args H=some (true,L)→∀ (σ:Type) (yh:Yh σ) (s s':σ),seqRun yh L s=some s'→∃ d Hc,evC C₀ d σ yh g args H s=some (.tup [],Hc,s')):SFact C₀.P C₀.G g pf:=by
 intro C hP hG σ I yh yv hI hy args H L s s' hpf hb hrun Γ Φ w Vs hyv hH hg hi hdis hc hn
 obtain ⟨d,Hc,hev⟩:=h args H L hpf σ yh s s' hrun
 exact (evC_sound hX hO hm d σ I yh yv hI hy g args H s _ Hc s' hev Γ Φ w Vs hyv hH (hg.congr hG.symm) hi hdis hc hn).mono fun V w' hr=>bare_res hP.symm hb hH hr
def tblG {α:Type}:List (Nat × α)→Nat→Option α
 | [],_=>none
 | (g,pf)::r,n=>cond (Nat.beq n g) (some pf) (tblG r n)
theorem tblG_mem {α:Type}:∀ {l:List (Nat × α)} {g:Nat} {pf:α},tblG l g=some pf→(g,pf)∈l
 | [],_,_,h=>by cases h
 | (n,q)::r,g,pf,h=>by
  simp only [tblG] at h
  cases hb:Nat.beq g n with
  | true=>
   rw [hb] at h
   simp only [cond_true,Option.some.injEq] at h
   have:=Nat.eq_of_beq_eq_true hb
   subst this;subst h
   simp
  | false=>
   rw [hb] at h
   exact List.mem_cons_of_mem _ (tblG_mem h)
def YFacts (P:Program) (G:GT):List (Nat × (List PV→List Blk→Tr))→Prop
 | []=>True
 | (g,pf)::r=>YFact P G g pf∧YFacts P G r
def SFacts (P:Program) (G:GT):List (Nat × (List PV→List Blk→Option (Bool × List (List PV))))→Prop
 | []=>True
 | (g,pf)::r=>SFact P G g pf∧SFacts P G r
theorem YFacts.mem {P:Program} {G:GT}:∀ {l:List (Nat × (List PV→List Blk→Tr))} {g:Nat} {pf:List PV→List Blk→Tr},YFacts P G l→(g,pf)∈l→YFact P G g pf
 | [],_,_,_,hm=>by simp at hm
 | (n,q)::r,g,pf,h,hm=>by
  rcases List.mem_cons.1 hm with e | hm
  ·cases e;exact h.1
  ·exact YFacts.mem h.2 hm
theorem SFacts.mem {P:Program} {G:GT}:∀ {l:List (Nat × (List PV→List Blk→Option (Bool × List (List PV))))} {g:Nat} {pf:List PV→List Blk→Option (Bool × List (List PV))},SFacts P G l→(g,pf)∈l→SFact P G g pf
 | [],_,_,_,hm=>by simp at hm
 | (n,q)::r,g,pf,h,hm=>by
  rcases List.mem_cons.1 hm with e | hm
  ·cases e;exact h.1
  ·exact SFacts.mem h.2 hm
theorem YFacts.ok {C:Cfg} {l:List (Nat × (List PV→List Blk→Tr))} (hl:C.Y=tblG l) (h:YFacts C.P C.G l):CalleeOK C (clY C):=by
 intro σ I yh yv hI hy g args H s ret Hc s' hcl Γ Φ w Vs hyv hH hg hi hd hc hn
 simp only [clY,hl] at hcl
 split at hcl
 ·rename_i pf hpf
  split at hcl
  ·rename_i r' h' hr
   simp only [Option.some.injEq,Prod.mk.injEq] at hcl
   obtain ⟨rfl,rfl,rfl⟩:=hcl
   exact h.mem (tblG_mem hpf) C rfl rfl σ I yh yv hI hy args H s _ _ hr Γ Φ w Vs hyv hH hg hi hd hc hn
  ·cases hcl
 ·cases hcl
theorem SFacts.ok {C:Cfg} {l:List (Nat × (List PV→List Blk→Option (Bool × List (List PV))))} (hl:C.S=tblG l) (h:SFacts C.P C.G l):CalleeOK C (clS C):=by
 intro σ I yh yv hI hy g args H s ret Hc s' hcl Γ Φ w Vs hyv hH hg hi hd hc hn
 simp only [clS,hl] at hcl
 split at hcl
 ·rename_i pf hpf
  split at hcl
  ·rename_i hb
   split at hcl
   ·rename_i L hL
    split at hcl
    ·rename_i s2 hr
     simp only [Option.some.injEq,Prod.mk.injEq] at hcl
     obtain ⟨rfl,rfl,rfl⟩:=hcl
     exact h.mem (tblG_mem hpf) C rfl rfl σ I yh yv hI hy args H L s _ hL hb hr Γ Φ w Vs hyv hH hg hi hd hc hn
    ·cases hcl
   ·cases hcl
  ·cases hcl
 ·cases hcl
theorem xok_of {C:Cfg} {lx:List (Nat × (List PV→Tr))} {ly:List (Nat × (List PV→List Blk→Tr))} {ls:List (Nat × (List PV→List Blk→Option (Bool × List (List PV))))} (h1:C.X=tblX lx) (h2:C.Y=tblG ly) (h3:C.S=tblG ls) (x:XFacts C.P C.G lx) (y:YFacts C.P C.G ly) (s:SFacts C.P C.G ls):XOK C:=
 ⟨XFacts.x1 h1 x,YFacts.ok h2 y,SFacts.ok h3 s⟩
theorem XFacts.ok {C:Cfg} {l:List (Nat × (List PV→Tr))} (hl:C.X=tblX l) (h:XFacts C.P C.G l) (h2:C.Y=tblG []:=by rfl) (h3:C.S=tblG []:=by rfl):XOK C:=
 xok_of hl h2 h3 h trivial trivial
def okL:List Nat→Nat→Bool
 | [],_=>false
 | a::r,n=>Nat.beq n a || okL r n
def okFnsB (C:Cfg) (l:List Nat):Bool:=l.all fun f=>match C.P.funcs[f]? with
 | some fn=>match fn.body with
  | some c=>codeOK C c && !(fn.name == "runtime.NumGoroutine")
  | none=>true
 | none=>true
theorem okFns_of {C:Cfg} {l:List Nat} (hl:C.okf=okL l) (h:okFnsB C l=true):OkFns C:=by
 intro f fn c hok hf hb
 have key:∀ l:List Nat,okL l f=true→f∈l:=by
  intro l
  induction l with
  | nil=>intro h;cases h
  | cons a r ih=>
   intro h
   simp only [okL,Bool.or_eq_true] at h
   rcases h with h | h
   ·have:=Nat.eq_of_beq_eq_true h;subst this;simp
   ·exact List.mem_cons_of_mem _ (ih h)
 have hm:f∈l:=key l (by rw [←hl];exact hok)
 simp only [okFnsB,List.all_eq_true] at h
 have:=h f hm
 rw [hf] at this
 simp only [hb,Bool.and_eq_true,Bool.not_eq_true'] at this
 exact this
def cd:List Nat→Code→Code
 | [],c=>c
 | 0::p,.seq a _=>cd p a
 | 1::p,.seq _ b=>cd p b
 | 0::p,.cond _ a _=>cd p a
 | 1::p,.cond _ _ b=>cd p b
 | 0::p,.block _ a=>cd p a
 | 0::p,.loop a=>cd p a
 | 0::p,.scope a=>cd p a
 | 0::p,.rangeFunc _ _ a _=>cd p a
 | 1::p,.rangeFunc _ _ _ b=>cd p b
 | _,_=>.skip
def putC:List Nat→Code→Code→Code
 | [],b,_=>b
 | 0::p,b,.seq x y=>.seq (putC p b x) y
 | 1::p,b,.seq x y=>.seq x (putC p b y)
 | 0::p,b,.cond c x y=>.cond c (putC p b x) y
 | 1::p,b,.cond c x y=>.cond c x (putC p b y)
 | 0::p,b,.block id x=>.block id (putC p b x)
 | 0::p,b,.loop x=>.loop (putC p b x)
 | 0::p,b,.scope x=>.scope (putC p b x)
 | 0::p,b,.rangeFunc g ps x y=>.rangeFunc g ps (putC p b x) y
 | 1::p,b,.rangeFunc g ps x y=>.rangeFunc g ps x (putC p b y)
 | _,_,c=>c
def bodyOf (f:Func):Code:=f.body.getD .skip
section
variable {σ R : Type}
def bd (C:Cfg) (cl:CallT) (yh:Yh σ) (c:Code):St σ→(Out→St σ→Option R)→Option R:=fun st k=>evCode C cl yh c st k
def seqK (C:Cfg) (cl:CallT) (yh:Yh σ) (b:Code) (k:Out→St σ→Option R):Out→St σ→Option R:=fun o st'=>match o with
 | .normal=>evCode C cl yh b st' k
 | o=>k o st'
def blkK (id:Nat) (k:Out→St σ→Option R):Out→St σ→Option R:=fun o st'=>match o with
 | .exit j=>if j=id then k .normal st' else k (.exit j) st'
 | o=>k o st'
def retK (C:Cfg) (fn:Func):Out→St σ→Option (PV × List Blk × σ):=fun o st=>match o with
 | .normal=>resK C st.sl st.hp fn.results.toList fun vs=>some (packRes vs,st.hp,st.s)
 | .ret=>resK C st.sl st.hp fn.results.toList fun vs=>some (packRes vs,st.hp,st.s)
 | _=>none
def lpK (L:Nat) (ds:Option (List Nat)) (body:St σ→(Out→St σ→Option R)→Option R) (n:Nat) (k:Out→St σ→Option R):Out→St σ→Option R:=fun o st'=>match o with
 | .normal=>loopK L ds body n (forget ds (trunc L st')) k
 | o=>k o (forget ds st')
end
theorem evC_eq {C:Cfg} {d f:Nat} {fn:Func} {σ:Type} {yh:Yh σ} {args:List PV} {H:List Blk} {s:σ} (h2:C.P.funcs[f]? = some fn) (h1:C.okf f=true) (h3:fn.body=some (bodyOf fn)) :
  evC C (d+1) σ yh f args H s=evCode C (evC C d) yh (bodyOf fn) { sl:=args++List.replicate (fn.ntmps-args.length) (.tup []),hp:=H,s:=s } (retK C fn):=by
 simp only [evC,h1,h2]
 split
 ·rename_i c hc
  rw [hc] at h3
  simp only [Option.some.injEq] at h3
  rw [←h3]
  rfl
 ·rename_i hc
  rw [hc] at h3
  cases h3
end Go.Proofs.YtcfingekgbbclaaGreatDoor.E
namespace Go.Proofs.YtcfingekgbbclaaGreatDoor.E
open Go
set_option linter.unusedVariables false
def deadAt:List Nat→List Blk→List Blk
 | [],H=>H
 | i::r,H=>deadAt r (H.set i .dead)
def deadOk (idx:List Nat) (ret:PV) (H:List Blk):Bool:=idx.all fun i=>!(ret.nms.contains i)&&(deadAt idx H).all fun b=>!(b.nms.contains i)
theorem deadAt_spec:∀ (idx:List Nat) (H:List Blk),(deadAt idx H).length=H.length∧∀ i (h:i<(deadAt idx H).length) (h':i<H.length),(i∈idx∧(deadAt idx H)[i] = .dead)∨(i∉idx∧(deadAt idx H)[i]=H[i])
 | [],H=>⟨rfl,fun i h h'=>.inr ⟨by simp,rfl⟩⟩
 | a::r,H=>by
  obtain ⟨h1,h2⟩:=deadAt_spec r (H.set a .dead)
  simp only [deadAt]
  refine ⟨by rw [h1,List.length_set],fun i h h'=>?_⟩
  rcases h2 i h (by rw [List.length_set];exact h') with ⟨q1,q2⟩ | ⟨q1,q2⟩
  ·exact .inl ⟨by simp [q1],q2⟩
  ·by_cases e:a=i
   ·subst e
    exact .inl ⟨by simp,by rw [q2];simp⟩
   ·exact .inr ⟨by simp [q1,Ne.symm e],by rw [q2,List.getElem_set_ne e]⟩
theorem CRes.dead {C:Cfg} {Γ:Ctx} {w w':World} {ret:PV} {Hc:List Blk} {V:Value} {idx:List Nat} (h:CRes C I0 Γ [] w noΦ ret Hc () V w') (hok:deadOk idx ret Hc=true):CRes C I0 Γ [] w noΦ ret (deadAt idx Hc) () V w':=by
 obtain ⟨Γ1,Φ1,hs,hH1,hv,hvn,hi1,hd1⟩:=h
 obtain ⟨hl,hsp⟩:=deadAt_spec idx Hc
 simp only [deadOk,List.all_eq_true,Bool.and_eq_true,Bool.not_eq_true',List.contains_iff_mem,←Bool.not_eq_true] at hok
 let Γ2:Ctx:={ Γ1 with nm:=fun b=>if b∈idx then none else Γ1.nm b }
 have hnm:∀ b g,Γ2.nm b=some g→b∉idx∧Γ1.nm b=some g:=fun b g h=>by
  simp only [Γ2] at h
  split at h
  ·cases h
  ·exact ⟨‹_›,h⟩
 have M:Mono Γ1 (shpOf Hc) w' Γ2 (shpOf (deadAt idx Hc)) w' (·∉idx):=⟨fun _ _=>rfl,fun _ h=>h,fun b hb=>by simp only [Γ2];rw [if_neg hb],fun b hb=>by
  simp only [shpOf]
  by_cases hlt:b<Hc.length
  ·rcases hsp b (by omega) hlt with ⟨q,_⟩ | ⟨_,q⟩
   ·exact absurd q hb
   ·rw [List.getElem?_eq_getElem (by omega),List.getElem?_eq_getElem hlt,q]
  ·rw [List.getElem?_eq_none (by omega),List.getElem?_eq_none (by omega)],fun _ _ _ _=>rfl,rfl⟩
 refine ⟨Γ2,Φ1,⟨hs.os,hs.tape,hs.output,hs.size,hs.sub,hs.stnew,fun b g h=>hs.own b g (hnm b g h).2,hs.foot,hs.frame,hs.yv,Nat.zero_le _,fun b hb=>by simp at hb⟩,
  ⟨fun b b' g h1 h2=>hH1.inj b b' g (hnm b g h1).2 (hnm b' g h2).2,fun b g h=>by have:=hH1.lt b g (hnm b g h).2;rw [hl];exact this,hH1.stlt,fun b hb c hc=>?_,fun b hb=>?_⟩,
  hv.mono M (fun b hb hi=>by have:=(hok b hi).1;exact this hb),fun c hc=>by rw [hl];exact hvn c hc,hi1,fun b g h=>hd1 b g (hnm b g h).2⟩
 ·have hlt:b<Hc.length:=by omega
  rcases hsp b hb hlt with ⟨_,q⟩ | ⟨_,q⟩
  ·rw [q] at hc;simp [Blk.nms] at hc
  ·rw [q] at hc;rw [hl];exact hH1.nms b hlt c hc
 ·have hlt:b<Hc.length:=by omega
  rcases hsp b hb hlt with ⟨_,q⟩ | ⟨q0,q⟩
  ·rw [q];trivial
  ·rw [q]
   refine (hH1.blk b hlt).mono M (M.nm b q0) (fun _ _=>rfl) (fun c hc hi=>?_)
   have:=(hok c hi).2 _ (List.getElem_mem hb)
   rw [q] at this
   exact this hc
theorem xfact_of_run {C₀:Cfg} {g:Nat} {pf:List PV→Tr} (hX:XOK C₀) (hO:OkFns C₀) (hm:C₀.P.follows .mixedOrders=true)
  (h:∀ args ret Hc,trRes (pf args)=some (ret,Hc)→nmsL args=[]∧∃ d H0 idx,evC C₀ d Unit noY g args [] ()=some (ret,H0,())∧deadOk idx ret H0=true∧deadAt idx H0=Hc):XFact C₀.P C₀.G g pf:=by
 intro args ret Hc hpf C hP hGe Γ w Vs hnm hH hG hc
 obtain ⟨hna,d,H0,idx,hev,hd,rfl⟩:=h args ret Hc hpf
 have h0:=xfact_of_ev (C₀:=C₀) (g:=g) (pf:=fun a=>match trRes (pf a) with | some _=>(match evC C₀ d Unit noY g a [] () with | some (r,H,_)=>cond (nmsL a).isEmpty (.ret r H) .fail | none=>.fail) | none=>.fail) hX hO hm (fun a r H hr=>by
  split at hr
  ·split at hr
   ·rename_i r' H' _ he
    cases hn:(nmsL a).isEmpty with
    | true=>
     rw [hn] at hr
     simp only [cond_true,trRes,runTr,Option.some.injEq,Prod.mk.injEq] at hr
     obtain ⟨rfl,rfl⟩:=hr
     exact ⟨List.isEmpty_iff.1 hn,d,he⟩
    | false=>rw [hn] at hr;cases hr
   ·cases hr
  ·cases hr)
 refine (h0 args ret H0 ?_ C hP hGe Γ w Vs hnm hH hG hc).mono fun V w' hR=>hR.dead hd
 dsimp only
 rw [hpf]
 dsimp only
 rw [hev]
 dsimp only
 rw [hna]
 rfl
theorem xfact_of_val {C₀:Cfg} {g:Nat} {pf:List PV→Tr} (hX:XOK C₀) (hO:OkFns C₀) (hm:C₀.P.follows .mixedOrders=true)
  (h:∀ args ret Hc,trRes (pf args)=some (ret,Hc)→nmsL args=[]∧Hc=[]∧ret.nms=[]∧∃ d ret' H0,evC C₀ d Unit noY g args [] ()=some (ret',H0,())∧ret'.snap H0=ret):XFact C₀.P C₀.G g pf:=by
 intro args ret Hc hpf C hP hGe Γ w Vs hnm hH hG hc
 obtain ⟨hna,rfl,hnr,d,ret',H0,hev,rfl⟩:=h args ret Hc hpf
 have h0:=xfact_of_ev (C₀:=C₀) (g:=g) (pf:=fun a=>match evC C₀ d Unit noY g a [] () with | some (r,H,_)=>cond (nmsL a).isEmpty (.ret r H) .fail | none=>.fail) hX hO hm (fun a r H hr=>by
  split at hr
  ·rename_i r' H' _ he
   cases hn:(nmsL a).isEmpty with
   | true=>
    rw [hn] at hr
    simp only [cond_true,trRes,runTr,Option.some.injEq,Prod.mk.injEq] at hr
    obtain ⟨rfl,rfl⟩:=hr
    exact ⟨List.isEmpty_iff.1 hn,d,he⟩
   | false=>rw [hn] at hr;cases hr
  ·cases hr)
 refine h0.snap args (ret'.snap H0) [] ?_ C hP hGe Γ w Vs hnm hH hG hc
 dsimp only
 rw [hev]
 dsimp only
 rw [hna]
 simp only [List.isEmpty_nil,cond_true,Tr.snap,hnr]
 rfl
end Go.Proofs.YtcfingekgbbclaaGreatDoor.E
namespace Go.Proofs.YtcfingekgbbclaaGreatDoor.E
open Go
set_option linter.unusedVariables false
section
variable {σ R : Type} {C : Cfg} {cl : CallT} {yh : Yh σ} {c a b : Code} {st : St σ} {k : Out → St σ → Option R} {id : Nat}
theorem cond_congr {b:Bool} {x y x' y':Option R} (hx:x=x') (hy:y=y'):cond b x y=cond b x' y':=by rw [hx,hy]
end
def recN {α:Type} (z:α) (f:Nat→α→α):Nat→α
 | 0=>z
 | n+1=>f n (recN z f n)
def lookK {α:Type}:List (Nat × α)→Nat→Option α
 | [],_=>none
 | (a,l)::r,n=>cond (Nat.beq n a) (some l) (lookK r n)
def bds (n:Nat):List PV:=List.replicate n .bad
def tps (n:Nat):List PV:=List.replicate n (.tup [])
def gp:List (Nat × PV)→Nat→List PV
 | [],n=>bds n
 | (m,v)::r,n=>bds m++v::gp r n
abbrev LL:=List (List SV)
abbrev By:=List UInt8
def wi64 (n:Int):Int:=IntKind.wrap .i64 n
def wu64 (n:Int):Int:=IntKind.wrap .u64 n
def wu32 (n:Int):Int:=IntKind.wrap .u32 n
def wu16 (n:Int):Int:=IntKind.wrap .u16 n
def wu8 (n:Int):Int:=IntKind.wrap .u8 n
def bAnd (k:IntKind) (a b:Int):Int:=k.wrap (BitVec.ofInt k.bits a &&& BitVec.ofInt k.bits b).toNat
def bOr (k:IntKind) (a b:Int):Int:=k.wrap (BitVec.ofInt k.bits a ||| BitVec.ofInt k.bits b).toNat
def shlI (k:IntKind) (a b:Int):Int:=k.wrap (a*2 ^ min b.toNat k.bits)
def shrI (k:IntKind) (a b:Int):Int:=a.fdiv (2 ^ min b.toNat k.bits)
def inR (n:Int) (m:Nat):Bool:=decide (0≤n)&&decide (n<m)
def tI64:TI:=⟨true,false,[.int .i64]⟩
def tStr:TI:=⟨true,false,[.str]⟩
def okE (t:TI) (l:LL) (i o:Nat):Bool:=decide (i<l.length)&&okS t (l.getD i []) o
def gC (l:LL) (i j:Nat):SV:=(l.getD i []).getD j .nilp
def gE (l:LL) (i j:Nat):Int:=(gC l i j).gI
def gX (l:LL) (i j:Nat):By:=(gC l i j).gS
def bAt (s:By) (n:Int):Int:=((s.getD n.toNat 0).toNat:Int)
def sub3 (l h:Int) (n:Nat):Bool:=decide (0≤l)&&decide (l≤h)&&decide (h≤n)
def cut {α:Type} (s:List α) (l h:Int):List α:=(s.take h.toNat).drop l.toNat
def isRg:Code→Bool | .rangeFunc _ _ _ _=>true | _=>false
def rgX:Code→Operand | .rangeFunc x _ _ _=>x | _=>.tmp 0
def rgP:Code→Array Tmp | .rangeFunc _ p _ _=>p | _=>#[]
theorem cd_skip:∀ (p:List Nat),cd p .skip = .skip
 | []=>rfl
 | 0::_=>rfl
 | 1::_=>rfl
 | (_+2)::_=>rfl
theorem cd_app:∀ (p q:List Nat) (c:Code),cd (p++q) c=cd q (cd p c)
 | [],q,c=>rfl
 | i::p,q,c=>by
  rw [List.cons_append]
  match i,c with
  | 0,.seq a b=>exact cd_app p q a
  | 1,.seq a b=>exact cd_app p q b
  | 0,.cond _ a b=>exact cd_app p q a
  | 1,.cond _ a b=>exact cd_app p q b
  | 0,.block _ a=>exact cd_app p q a
  | 0,.loop a=>exact cd_app p q a
  | 0,.scope a=>exact cd_app p q a
  | 0,.rangeFunc _ _ a b=>exact cd_app p q a
  | 1,.rangeFunc _ _ a b=>exact cd_app p q b
  | 0,.skip | 0,.region _ _ _ | 0,.exit _ | 0,.label _ | 0,.goto _ | 0,.ret | 0,.refuse _=>exact (cd_skip q).symm
  | 1,.skip | 1,.region _ _ _ | 1,.exit _ | 1,.scope _ | 1,.label _ | 1,.goto _ | 1,.ret | 1,.refuse _ | 1,.block _ _ | 1,.loop _=>exact (cd_skip q).symm
  | _+2,.skip | _+2,.region _ _ _ | _+2,.exit _ | _+2,.scope _ | _+2,.label _ | _+2,.goto _ | _+2,.ret | _+2,.refuse _ | _+2,.block _ _ | _+2,.loop _ | _+2,.seq _ _ | _+2,.cond _ _ _ | _+2,.rangeFunc _ _ _ _=>exact (cd_skip q).symm
section
variable {σ R : Type} {C : Cfg} {cl : CallT} {yh : Yh σ} {B : Code} {st : St σ} {k : Out → St σ → Option R}
theorem ev_rg (p:List Nat) (h:isRg (cd p B)=true):evCode C cl yh (cd p B) st k=rangeK C cl (opnd C st.sl (rgX (cd p B))) st (fun sl0=>roundY (rgP (cd p B)) sl0 (bd C cl yh (cd (p++[0]) B)) (bd C cl yh (cd (p++[1]) B))) (fun sl0=>roundsK (rgP (cd p B)) sl0 (bd C cl yh (cd (p++[0]) B)) (bd C cl yh (cd (p++[1]) B))) k:=by
 rw [cd_app,cd_app]
 cases hc:cd p B<;>rw [hc] at h<;>first | rfl | cases h
theorem yd_congr {x:Option (Bool × σ)} {k k':Bool→σ→Option R} (h:∀ b s,k b s=k' b s):ydK x k=ydK x k':=by
 have:k=k':=funext fun b=>funext fun s=>h b s
 rw [this]
theorem need_congr {c:Bool} {x y:Option R} (h:x=y):need c x=cond c y none:=by rw [h];rfl
end
abbrev vl {α β:Type} (e:α) (f:α→β):β:=f e
theorem vl_congr {α R:Type} {e:α} {f g:α→Option R} (h:∀ x,f x=g x):vl e f=vl e g:=h e
def catOk (m n:Nat):Bool:=decide (m+n<4611686018427387904)
theorem fx1 {A R:Type} {f g:A→R} (h0:∀ a,f a=g a):f=g:=funext h0
theorem fx2 {A B R:Type} {f g:A→B→R} (h0:∀ a b,f a b=g a b):f=g:=funext fun a=>fx1 (h0 a)
theorem fx3 {A B C R:Type} {f g:A→B→C→R} (h0:∀ a b c,f a b c=g a b c):f=g:=funext fun a=>fx2 (h0 a)
theorem fx4 {A B C D R:Type} {f g:A→B→C→D→R} (h0:∀ a b c d,f a b c d=g a b c d):f=g:=funext fun a=>fx3 (h0 a)
theorem fx5 {A B C D E R:Type} {f g:A→B→C→D→E→R} (h0:∀ a b c d e,f a b c d e=g a b c d e):f=g:=funext fun a=>fx4 (h0 a)
theorem fx6 {A B C D E H R:Type} {f g:A→B→C→D→E→H→R} (h0:∀ a b c d e h,f a b c d e h=g a b c d e h):f=g:=funext fun a=>fx5 (h0 a)
theorem fx7 {A B C D E H I R:Type} {f g:A→B→C→D→E→H→I→R} (h0:∀ a b c d e h i,f a b c d e h i=g a b c d e h i):f=g:=funext fun a=>fx6 (h0 a)
theorem fx8 {A B C D E H I J R:Type} {f g:A→B→C→D→E→H→I→J→R} (h0:∀ a b c d e h i j,f a b c d e h i j=g a b c d e h i j):f=g:=funext fun a=>fx7 (h0 a)
theorem fx9 {A B C D E H I J K R:Type} {f g:A→B→C→D→E→H→I→J→K→R} (h0:∀ a b c d e h i j k,f a b c d e h i j k=g a b c d e h i j k):f=g:=funext fun a=>fx8 (h0 a)
theorem fx10 {A B C D E H I J K L R:Type} {f g:A→B→C→D→E→H→I→J→K→L→R} (h0:∀ a b c d e h i j k l,f a b c d e h i j k l=g a b c d e h i j k l):f=g:=funext fun a=>fx9 (h0 a)
def recS {α β:Type} (z:α) (f:β→List β→α→α):List β→α
 | []=>z
 | x::xs=>f x xs (recS z f xs)
end Go.Proofs.YtcfingekgbbclaaGreatDoor.E
namespace Go.Proofs.YtcfingekgbbclaaGreatDoor.E
open Go
set_option linter.unusedVariables false
def fix1 (n:Nat):PV→PV
 | .s (.sl z t k els)=>if n=0 then .s (.sl z t k els) else if k=n then .s (.sl z t k els) else .s (.sl z t (cond z n k) els)
 | v=>v
def fixC:List Nat→List PV→List PV
 | n::r,v::l=>fix1 n v::fixC r l
 | _,l=>l
def fixA (szs:List Nat):PV→PV
 | .agg l=>.agg (fixC szs l)
 | v=>fix1 (szs.headD 0) v
def fixL:List (List Nat)→List PV→List PV
 | s::r,v::l=>fixA s v::fixL r l
 | _,l=>l
section
variable {Γ : Ctx} {sh : Nat → Option Shp} {w : World}
theorem fix1_VP {n:Nat} {v:PV} {V:Value} (h:VP Γ sh w v V):VP Γ sh w (fix1 n v) V:=by
 unfold fix1
 split
 ·rename_i z t k els
  split
  ·exact h
  ·split
   ·exact h
   ·cases z with
    | false=>exact h
    | true=>
     have hs:=h.inv_s
     cases hs with
     | nil=>exact .s _ _ (.nil _ _)
 ·exact h
theorem fixC_len:∀ (szs:List Nat) (l:List PV),(fixC szs l).length=l.length
 | [],_=>rfl
 | _::_,[]=>rfl
 | n::r,v::l=>by simp [fixC,fixC_len r l]
theorem fixC_get:∀ (szs:List Nat) (l:List PV) (j:Nat) (h:j<l.length) (h':j<(fixC szs l).length),∃ n,(fixC szs l)[j]=fix1 n l[j]
 | [],l,j,h,h'=>⟨0,by
  have e:fixC [] l=l:=by cases l<;>rfl
  simp only [e]
  unfold fix1
  split
  ·rename_i he;rw [he];simp
  ·rfl⟩
 | n::r,v::l,0,h,h'=>⟨n,rfl⟩
 | n::r,v::l,j+1,h,h'=>by
  obtain ⟨m,e⟩:=fixC_get r l j (by simpa using h) (by simpa [fixC] using h')
  exact ⟨m,by simpa [fixC] using e⟩
theorem fixA_VP {szs:List Nat} {v:PV} {V:Value} (h:VP Γ sh w v V):VP Γ sh w (fixA szs v) V:=by
 unfold fixA
 split
 ·rename_i l
  obtain ⟨A,rfl,hA,hc⟩:=h.inv_agg
  refine VP.mk_agg (by rw [fixC_len];exact hA) fun j hj=>?_
  have hj':j<l.length:=by rw [fixC_len] at hj;exact hj
  obtain ⟨U,e,k⟩:=hc j hj'
  obtain ⟨m,e2⟩:=fixC_get szs l j hj' hj
  exact ⟨U,e,by rw [e2];exact fix1_VP k⟩
 ·exact fix1_VP h
theorem fixL_len:∀ (szs:List (List Nat)) (l:List PV),(fixL szs l).length=l.length
 | [],_=>rfl
 | _::_,[]=>rfl
 | n::r,v::l=>by simp [fixL,fixL_len r l]
theorem fixL_CR:∀ (szs:List (List Nat)) (l:List PV) (V:Array Value),CR Γ sh w l V→CR Γ sh w (fixL szs l) V:=by
 intro szs l V h
 refine ⟨by rw [fixL_len];exact h.1,?_⟩
 have key:∀ (szs:List (List Nat)) (l:List PV) (As:Nat→Option Value),(∀ j (h:j<l.length),∃ U,As j=some U∧VP Γ sh w (l[j]) U)→∀ j (h:j<(fixL szs l).length),∃ U,As j=some U∧VP Γ sh w ((fixL szs l)[j]) U:=by
  intro szs
  induction szs with
  | nil=>intro l As hl j hj;exact hl j (by cases l<;>exact hj)
  | cons s r ih=>
   intro l As hl j hj
   cases l with
   | nil=>simp [fixL] at hj
   | cons v l=>
    cases j with
    | zero=>
     obtain ⟨U,e,k⟩:=hl 0 (by simp)
     exact ⟨U,e,fixA_VP k⟩
    | succ j=>
     have:=ih l (fun j=>As (j+1)) (fun j h=>hl (j+1) (by simpa using h)) j (by simpa [fixL] using hj)
     simpa [fixL] using this
 exact key szs l (fun j=>V[j]?) h.2
end
theorem XFact.fix {P:Program} {G:GT} {g:Nat} {pf:List PV→Tr} (szs:List (List Nat)) (h:XFact P G g pf):XFact P G g (fun args=>pf (fixL szs args)):=
 fun args ret Hc hpf C hP hGe Γ w Vs hnm hH hG hc=>h (fixL szs args) ret Hc hpf C hP hGe Γ w Vs hnm hH hG (fixL_CR szs args Vs hc)
theorem tr_ret {v:PV} {H:List Blk} {ret:PV} {Hc:List Blk} (h:trRes (.ret v H)=some (ret,Hc)):ret=v∧Hc=H:=by
 simp only [trRes,runTr,Option.some.injEq,Prod.mk.injEq] at h
 exact ⟨h.1.symm,h.2.symm⟩
theorem tr_need {c:Bool} {t:Tr} {ret:PV} {Hc:List Blk} (h:trRes (.need c t)=some (ret,Hc)):c=true∧trRes t=some (ret,Hc):=by
 cases c with
 | true=>exact ⟨rfl,h⟩
 | false=>cases h
def LF:Nat:=100000000000000000000
theorem LF_big:100000000000000000000≤LF:=Nat.le_refl _
attribute [irreducible] LF
end Go.Proofs.YtcfingekgbbclaaGreatDoor.E
namespace Go.Proofs.YtcfingekgbbclaaGreatDoor.E
open Go
set_option linter.unusedVariables false
theorem elU8_u8el (b:UInt8):elU8 (u8el b)=b:=by
 simp [elU8,u8el,SV.gI]
theorem map_elU8 (l:List UInt8):(l.map u8el).map elU8=l:=by
 rw [List.map_map]
 have:elU8 ∘ u8el=id:=by funext b;exact elU8_u8el b
 rw [this,List.map_id]
theorem isU8_u8el (b:UInt8):isU8 (u8el b)=true:=by
 have:=b.toNat_lt
 simp only [isU8,u8el,Bool.and_eq_true,decide_eq_true_eq]
 omega
theorem all_isU8 (l:List UInt8):(l.map u8el).all isU8=true:=by
 rw [List.all_map]
 simp [Function.comp_def,isU8_u8el]
theorem wrapu8 (n:Nat):IntKind.wrap .u8 (n:Int)=((n % 256:Nat):Int):=by simp [IntKind.wrap,IntKind.bits,IntKind.signed]
theorem wrapu16 (n:Nat):IntKind.wrap .u16 (n:Int)=((n % 65536:Nat):Int):=by simp [IntKind.wrap,IntKind.bits,IntKind.signed]
theorem wrapu32 (n:Nat):IntKind.wrap .u32 (n:Int)=((n % 4294967296:Nat):Int):=by simp [IntKind.wrap,IntKind.bits,IntKind.signed]
theorem wrapu64 (n:Nat):IntKind.wrap .u64 (n:Int)=((n % 18446744073709551616:Nat):Int):=by simp [IntKind.wrap,IntKind.bits,IntKind.signed]
theorem wrapi64 (n:Int) (h0:-9223372036854775808≤n) (h1:n<9223372036854775808):IntKind.wrap .i64 n=n:=by
 simp [IntKind.wrap,IntKind.bits,IntKind.signed]
 split<;>omega
theorem fdiv_nat (n m:Nat):Int.fdiv (n:Int) (m:Int)=((n / m:Nat):Int):=by
 rw [Int.fdiv_eq_ediv_of_nonneg _ (by omega)]
 rfl
theorem tdiv_nat (n m:Nat):Int.tdiv (n:Int) (m:Int)=((n / m:Nat):Int):=by
 rw [Int.tdiv_eq_ediv_of_nonneg (by omega)]
 rfl
theorem tmod_nat (n m:Nat):Int.tmod (n:Int) (m:Int)=((n % m:Nat):Int):=by
 rw [Int.tmod_eq_emod_of_nonneg (by omega)]
 rfl
theorem bvor (w a b:Nat) (ha:a<2 ^ w) (hb:b<2 ^ w):(BitVec.ofInt w (a:Int) ||| BitVec.ofInt w (b:Int)).toNat=a ||| b:=by
 simp [BitVec.ofInt_natCast,Nat.mod_eq_of_lt ha,Nat.mod_eq_of_lt hb]
theorem bvand (w a b:Nat) (ha:a<2 ^ w) (hb:b<2 ^ w):(BitVec.ofInt w (a:Int) &&& BitVec.ofInt w (b:Int)).toNat=a &&& b:=by
 simp [BitVec.ofInt_natCast,Nat.mod_eq_of_lt ha,Nat.mod_eq_of_lt hb]
theorem or_add (a b i:Nat) (h:a<2 ^ i):a ||| (b*2 ^ i)=a+b*2 ^ i:=by
 rw [Nat.mul_comm b,Nat.or_comm,Nat.add_comm]
 exact (Nat.two_pow_add_eq_or_of_lt h b).symm
end Go.Proofs.YtcfingekgbbclaaGreatDoor.E
namespace Go.Proofs.YtcfingekgbbclaaGreatDoor.E
open Go Go.ChangeShapes Go.WideShapes Go.RowKit Go.Sort
set_option linter.unusedVariables false
theorem upon_of_calls {P:Program} {f:Nat} {fn:Func} {Vs:Array Value} {w:World} {R:Value→World→Prop} (hf:P.funcs[f]? = some fn) (hb:fn.body.isSome=true) (hn:(fn.name == "runtime.NumGoroutine")=false)
  (h:Calls P f Vs w fun e w'=>∃ V,e = .returned V∧R V w'):UponOK P ((callFunc f Vs).run P w) R:=by
 obtain ⟨c,hb⟩:=Option.isSome_iff_exists.1 hb
 intro ro n o a next Q hnext
 have hrun:(callFunc f Vs).run P w = .ok (.enter f Vs) w:=by
  have hn':¬ fn.name = "runtime.NumGoroutine":=by simpa using hn
  simp [callFunc,hf,hb,hn',Result.andThen]
 rw [hrun]
 simp only [Oper.uponIn_enter]
 refine ⟨fun h=>(by simp [wideAt,Fence.wide] at h),?_⟩
 have key:CallsIn Fence.wide (n-1) P f Vs w fun e w'=>∃ V,e = .returned V∧R V w':=callsIn_wide.2 h
 have key':CallsIn (wideAt ro) (n-1) P f Vs w fun e w'=>∃ V,e = .returned V∧R V w':=key
 refine key'.mono ?_
 rintro e w' ⟨V,rfl,hR⟩
 exact hnext V w' hR
theorem cres_val {C:Cfg} {Γ:Ctx} {w w':World} {ret:PV} {V:Value} (hnm:∀ b,Γ.nm b=none) (hH:HR Γ [] w) (hb:Below w.heap.size w w') (hv:VP Γ (shpOf []) w' ret V) (hr:ret.nms=[]):CRes C I0 Γ [] w noΦ ret [] () V w':=by
 refine ⟨Γ,noΦ,⟨hb.os,hb.tape,hb.output,hb.size,fun _ h=>h,fun _ h=>.inl h,fun b g h=>(by rw [hnm] at h;cases h),fun _ h=>h.elim,fun g hg _ _=>hb.block g hg,rfl,Nat.le_refl _,fun b h=>(by simp at h)⟩,
  ⟨fun b b' g h=>(by rw [hnm] at h;cases h),fun b g h=>(by rw [hnm] at h;cases h),fun g hg=>Nat.lt_of_lt_of_le (hH.stlt g hg) hb.size,fun b h=>(by simp at h),fun b h=>(by simp at h)⟩,hv,by rw [hr];simp,fun _ h=>h,fun b g h=>(by rw [hnm] at h;cases h)⟩
theorem below_drewN (w:World) (n:Nat):Below w.heap.size w (w.drewN n):=⟨rfl,rfl,rfl,Nat.le_refl _,fun _ _=>rfl⟩
theorem below_grow (w:World) (os:Array Obj):Below w.heap.size w (grow w os):=by
 refine ⟨rfl,rfl,rfl,by simp [grow],fun k hk=>?_⟩
 simp only [grow]
 rw [Array.getElem?_append_left hk]
theorem below_iter (w:World) (s:ByteArray) (pos:Nat):Below w.heap.size w (w.iter s pos):=(Below.refl _ w).alloc (Nat.le_refl _) _
section
variable {Γ : Ctx} {sh : Nat → Option Shp} {w : World}
theorem CR.arr1 {a:PV} {A:Array Value} (h:CR Γ sh w [a] A):∃ U,A = #[U]∧VP Γ sh w a U:=by
 obtain ⟨U,e,k⟩:=h.2 0 (by simp)
 refine ⟨U,?_,k⟩
 have hs:A.size=1:=h.1
 apply Array.ext_getElem?
 intro i
 match i with
 | 0=>simpa using e
 | i+1=>simp [Array.getElem?_eq_none (show A.size≤i+1 by omega)]
theorem CR.arr2 {a b:PV} {A:Array Value} (h:CR Γ sh w [a,b] A):∃ U V,A = #[U,V]∧VP Γ sh w a U∧VP Γ sh w b V:=by
 obtain ⟨U,e,k⟩:=h.2 0 (by simp)
 obtain ⟨V,e',k'⟩:=h.2 1 (by simp)
 refine ⟨U,V,?_,k,k'⟩
 have hs:A.size=2:=h.1
 apply Array.ext_getElem?
 intro i
 match i with
 | 0=>simpa using e
 | 1=>simpa using e'
 | i+2=>simp [Array.getElem?_eq_none (show A.size≤i+2 by omega)]
theorem CR.arr3 {a b c:PV} {A:Array Value} (h:CR Γ sh w [a,b,c] A):∃ U V W,A = #[U,V,W]∧VP Γ sh w a U∧VP Γ sh w b V∧VP Γ sh w c W:=by
 obtain ⟨U,e,k⟩:=h.2 0 (by simp)
 obtain ⟨V,e',k'⟩:=h.2 1 (by simp)
 obtain ⟨W,e'',k''⟩:=h.2 2 (by simp)
 refine ⟨U,V,W,?_,k,k',k''⟩
 have hs:A.size=3:=h.1
 apply Array.ext_getElem?
 intro i
 match i with
 | 0=>simpa using e
 | 1=>simpa using e'
 | 2=>simpa using e''
 | i+3=>simp [Array.getElem?_eq_none (show A.size≤i+3 by omega)]
theorem VP.mk_str (l:List UInt8):VP Γ sh w (.s (.str l)) (.string ⟨l.toArray⟩):=by
 have:=VP.s (Γ:=Γ) (sh:=sh) (w:=w) _ _ (VS.str (St:=Γ.St) (w:=w) ⟨l.toArray⟩)
 simpa using this
theorem VP.mk_int (k:IntKind) (n:Int):VP Γ sh w (.s (.int k n)) (.int k n):=.s _ _ (.int k n)
theorem VP.mk_bool (b:Bool):VP Γ sh w (.s (.bool b)) (.bool b):=.s _ _ (.bool b)
theorem VP.mk_tup3 {a b c:PV} {U V W:Value} (h:VP Γ sh w a U) (k:VP Γ sh w b V) (l:VP Γ sh w c W):VP Γ sh w (.tup [a,b,c]) (.tuple #[U,V,W]):=
 VP.mk_tup rfl fun j hj=>by
  match j,hj with
  | 0,_=>exact ⟨U,rfl,h⟩
  | 1,_=>exact ⟨V,rfl,k⟩
  | 2,_=>exact ⟨W,rfl,l⟩
end
theorem xfact_of_calls {P:Program} {G:GT} {g:Nat} {fn:Func} {pf:List PV→Tr} (hf:P.funcs[g]? = some fn) (hb:fn.body.isSome=true) (hn:(fn.name == "runtime.NumGoroutine")=false)
  (h:∀ args ret Hc,trRes (pf args)=some (ret,Hc)→Hc=[]∧ret.nms=[]∧∀ C:Cfg,C.P=P→C.G=G→∀ Γ w Vs,GOK C Γ.St w→(∀ g,Γ.St g→g<w.heap.size)→CR Γ (shpOf []) w args Vs→
   Calls P g Vs w fun e w'=>∃ V,e = .returned V∧Below w.heap.size w w'∧VP Γ (shpOf []) w' ret V):XFact P G g pf:=by
 intro args ret Hc hpf C hP hG Γ w Vs hnm hH hg hc
 obtain ⟨rfl,hr,h1⟩:=h args ret Hc hpf
 exact upon_of_calls hf hb hn ((h1 C hP hG Γ w Vs hg hH.stlt hc).mono fun e w' ⟨V,he,hb,hv⟩=>⟨V,he,cres_val hnm hH hb hv hr⟩)
def PV.stab (szs:List Nat) (H:List Blk):PV→PV
 | .tup l=>.tup (fixC szs (snapL H l))
 | v=>fix1 (szs.headD 0) (v.snap H)
theorem VP.stab {Γ:Ctx} {H:List Blk} {w:World} (szs:List Nat) (hH:HR Γ H w) {v:PV} {V:Value} (h:VP Γ (shpOf H) w v V):VP Γ.all (shpOf H) w (v.stab szs H) V:=by
 by_cases ht:∃ l,v = .tup l
 ·obtain ⟨l,rfl⟩:=ht
  obtain ⟨A,rfl,hA,hc⟩:=h.inv_tup
  simp only [PV.stab]
  have hl:(fixC szs (snapL H l)).length=l.length:=by rw [fixC_len,snapL_eq,List.length_map]
  refine VP.mk_tup (by rw [hl];exact hA) fun j hj=>?_
  obtain ⟨U,e,k⟩:=hc j (by omega)
  refine ⟨U,e,?_⟩
  have hj':j<(snapL H l).length:=by rw [snapL_eq,List.length_map];omega
  obtain ⟨n,en⟩:=fixC_get szs (snapL H l) j hj' hj
  rw [en]
  have e2:(snapL H l)[j]=(l[j]'(by omega)).snap H:=by
   simp only [snapL_eq,List.getElem_map]
  rw [e2]
  exact fix1_VP (k.snap hH)
 ·have e:v.stab szs H=fix1 (szs.headD 0) (v.snap H):=by
   cases v with
   | tup l=>exact absurd ⟨l,rfl⟩ ht
   | _=>rfl
  rw [e]
  exact fix1_VP (h.snap hH)
theorem xfact_of_stab (szs:List Nat) {C₀:Cfg} {g:Nat} {pf:List PV→Tr} (hX:XOK C₀) (hO:OkFns C₀) (hm:C₀.P.follows .mixedOrders=true)
  (h:∀ args ret Hc,trRes (pf args)=some (ret,Hc)→nmsL args=[]∧Hc=[]∧ret.nms=[]∧∃ d ret' H0,evC C₀ d Unit noY g args [] ()=some (ret',H0,())∧ret'.stab szs H0=ret):XFact C₀.P C₀.G g pf:=by
 intro args ret Hc hpf C hP hGe Γ w Vs hnm hH hG hc
 obtain ⟨hna,rfl,hnr,d,ret',H0,hev,rfl⟩:=h args ret Hc hpf
 have h0:=xfact_of_ev (C₀:=C₀) (g:=g) (pf:=fun a=>match evC C₀ d Unit noY g a [] () with | some (r,H,_)=>cond (nmsL a).isEmpty (.ret r H) .fail | none=>.fail) hX hO hm (fun a r H hr=>by
  split at hr
  ·rename_i r' H' _ he
   cases hn:(nmsL a).isEmpty with
   | true=>
    rw [hn] at hr
    simp only [cond_true,trRes,runTr,Option.some.injEq,Prod.mk.injEq] at hr
    obtain ⟨rfl,rfl⟩:=hr
    exact ⟨List.isEmpty_iff.1 hn,d,he⟩
   | false=>rw [hn] at hr;cases hr
  ·cases hr)
 refine (h0 args ret' H0 (by dsimp only;rw [hev];dsimp only;rw [hna];rfl) C hP hGe Γ w Vs hnm hH hG hc).mono ?_
 rintro V w' ⟨Γ1,Φ1,hs,hH1,hv,hvn,hi1,hd1⟩
 let Γ2:Ctx:={ Γ1.all with nm:=fun _=>none }
 have hlt:∀ g,Γ2.St g→g<w'.heap.size:=fun g hg=>by
  rcases hg with hg | ⟨b,hb⟩
  ·exact hH1.stlt g hg
  ·exact (hH1.lt b g hb).2.1
 refine ⟨Γ2,Φ1,⟨hs.os,hs.tape,hs.output,hs.size,fun g hg=>.inl (hs.sub g hg),fun g hg=>?_,fun b g h=>by simp [Γ2] at h,hs.foot,hs.frame,hs.yv,Nat.le_refl _,fun b hb=>by simp at hb⟩,
  bare_HR (fun _=>rfl) hlt,?_,by rw [hnr];simp,hi1,fun b g h=>by simp [Γ2] at h⟩
 ·rcases hg with hg | ⟨b,hb⟩
  ·exact hs.stnew g hg
  ·rcases hs.own b g hb with ⟨h',_⟩ | h'
   ·simp at h'
   ·exact .inr h'
 ·exact VP.mono (Γ:=Γ1.all) (Γ':=Γ2) (w:=w') (w':=w') (sh:=shpOf H0) (ok:=fun _=>False) ⟨fun _ _=>rfl,fun _ h=>h,fun _ h=>h.elim,fun _ h=>h.elim,fun _ _ h=>h.elim,rfl⟩ (hv.stab szs hH1) (by rw [hnr];simp)
end Go.Proofs.YtcfingekgbbclaaGreatDoor.E
namespace Go.Proofs.YtcfingekgbbclaaGreatDoor.E
open Go
set_option linter.unusedVariables false
def headOk (n:Nat) (ret:PV) (H:List Blk):Bool:=ret.nms.all (Nat.blt · n)&&H.all fun b=>b.nms.all (Nat.blt · n)
theorem CRes.head {C:Cfg} {σ:Type} {I:σ→(Nat→Prop)→(Nat→Prop)→World→Prop} {Γ:Ctx} {H Hc T:List Blk} {w w':World} {Φ:Nat→Prop} {s':σ} {ret:PV} {V:Value}
  (h:CRes C I Γ H w Φ ret (Hc++T) s' V w') (hl:H.length≤Hc.length) (hok:headOk Hc.length ret Hc=true):CRes C I Γ H w Φ ret Hc s' V w':=by
 obtain ⟨Γ1,Φ1,hs,hH1,hv,hvn,hi1,hd1⟩:=h
 simp only [headOk,Bool.and_eq_true,List.all_eq_true,Nat.blt_eq] at hok
 let Γ2:Ctx:={ Γ1 with nm:=fun b=>if b<Hc.length then Γ1.nm b else none }
 have hnm:∀ b g,Γ2.nm b=some g→b<Hc.length∧Γ1.nm b=some g:=fun b g h=>by
  simp only [Γ2] at h
  split at h
  ·exact ⟨‹_›,h⟩
  ·cases h
 have get:∀ b (h:b<Hc.length) (h':b<(Hc++T).length),(Hc++T)[b]=Hc[b]:=fun b h h'=>List.getElem_append_left h
 have shp:∀ b,b<Hc.length→shpOf Hc b=shpOf (Hc++T) b:=fun b hb=>by
  simp only [shpOf]
  rw [List.getElem?_append_left hb]
 have M:Mono Γ1 (shpOf (Hc++T)) w' Γ2 (shpOf Hc) w' (· < Hc.length):=⟨fun _ _=>rfl,fun _ h=>h,fun b hb=>by simp only [Γ2];rw [if_pos hb],fun b hb=>shp b hb,fun _ _ _ _=>rfl,rfl⟩
 refine ⟨Γ2,Φ1,⟨hs.os,hs.tape,hs.output,hs.size,hs.sub,hs.stnew,fun b g h=>hs.own b g (hnm b g h).2,hs.foot,hs.frame,hs.yv,hl,fun b hb hf=>?_⟩,
  ⟨fun b b' g h1 h2=>hH1.inj b b' g (hnm b g h1).2 (hnm b' g h2).2,fun b g h=>by have:=hH1.lt b g (hnm b g h).2;exact ⟨(hnm b g h).1,this.2⟩,hH1.stlt,fun b hb c hc=>hok.2 _ (List.getElem_mem hb) c hc,fun b hb=>?_⟩,
  hv.mono M (fun b hb=>hok.1 b hb),fun c hc=>hok.1 c hc,hi1,fun b g h=>hd1 b g (hnm b g h).2⟩
 ·obtain ⟨m1,m2,m3⟩:=hs.keep b hb hf
  have hb2:b<Hc.length:=Nat.lt_of_lt_of_le hb hl
  exact ⟨by simp only [Γ2];rw [if_pos hb2];exact m1,by rw [shp b hb2];exact m2,m3⟩
 ·have hb':b<(Hc++T).length:=by rw [List.length_append];omega
  have:=hH1.blk b hb'
  rw [get b hb hb'] at this
  exact this.mono M (M.nm b hb) (fun _ _=>rfl) (fun c hc=>hok.2 _ (List.getElem_mem hb) c hc)
theorem yfact_of_run {C₀:Cfg} {g:Nat} {pf:List PV→List Blk→Tr} (hX:XOK C₀) (hO:OkFns C₀) (hm:C₀.P.follows .mixedOrders=true)
  (h:∀ args H ret Hc,trRes (pf args H)=some (ret,Hc)→Nat.ble H.length Hc.length=true∧headOk Hc.length ret Hc=true∧∀ (σ:Type) (yh:Yh σ) (s:σ),∃ d H0,evC C₀ d σ yh g args H s=some (ret,H0,s)∧H0.take Hc.length=Hc):YFact C₀.P C₀.G g pf:=by
 intro C hP hG σ I yh yv hI hy args H s ret Hc hpf Γ Φ w Vs hyv hH hg hi hd hc hn
 obtain ⟨hl,hok,h1⟩:=h args H ret Hc hpf
 obtain ⟨d,H0,hev,ht⟩:=h1 σ yh s
 rw [←List.take_append_drop Hc.length H0,ht] at hev
 refine (evC_sound hX hO hm d σ I yh yv hI hy g args H s ret (Hc++H0.drop Hc.length) s hev Γ Φ w Vs hyv hH (hg.congr hG.symm) hi hd hc hn).mono ?_
 rintro V w' hr
 obtain ⟨Γ1,Φ1,hs,k1,k2,k3,k4,k5⟩:=hr.head (Nat.le_of_ble_eq_true hl) hok
 exact ⟨Γ1,Φ1,hs.congr hP.symm,k1,k2,k3,k4,k5⟩
def accTab:List Int:=(List.range 32).map fun i=>((if i % 2=0 then Lib.accLo (i / 2) else Lib.accHi (i / 2):Nat):Int)
def GX:GT:=⟨fun g=>cond (Nat.beq g 2) (some (.u8,Lib.firstTab)) (cond (Nat.beq g 3) (some (.u8,accTab)) (cond (Nat.beq g 1) (some (.u64,Lib.pow10Tab)) (cond (Nat.beq g 5) (some (.u8,Lib.deBruijn64tab.map fun n:Nat=>(n:Int))) none))),fun g=>Nat.beq g 0⟩
def nilL:List (Nat × Nat × Nat × Nat)→Nat→Nat→Nat × Nat
 | [],_,_=>(0,0)
 | (t,j,e,k)::r,t',j'=>cond (Nat.beq t t'&&Nat.beq j j') (e,k) (nilL r t' j')
def lookR:List (Nat × Nat)→Nat→Option Nat
 | [],_=>none
 | (a,b)::r,i=>cond (Nat.beq a i) (some b) (lookR r i)
noncomputable def mkCfg (lf:Nat) (okf:List Nat) (keep:Nat→Option (List Nat)) (X:List (Nat × (List PV→Tr))) (keepR:Nat→Option (List Nat):=fun _=>none) (xp:List Nat:=[]) (keepE:Nat→Option (List Nat):=fun _=>none) (keepT:Option (List Nat):=none) (Y:List (Nat × (List PV→List Blk→Tr)):=[]) (S:List (Nat × (List PV→List Blk→Option (Bool × List (List PV)))):=[]) (lend:List Nat:=[]) (nt:List (Nat × Nat × Nat × Nat):=[]) (rw:List (Nat × Nat):=[]):Cfg:=
 { P:=Tryz.prog,G:=GX,X:=tblX X,lend:=okL lend,okf:=okL okf,lf:=lf,keep:=keep,keepR:=keepR,xp:=okL xp,keepE:=keepE,keepT:=keepT,Y:=tblG Y,S:=tblG S,nilT:=nilL nt,rowR:=lookR rw }
theorem follows:Tryz.prog.follows .mixedOrders=true:=by kernel_rfl
theorem roomy_iff {n:Nat}:roomy n=true↔n≤68719476736:=by simp [roomy]
theorem roomy_of {n:Nat} (h:n≤68719476736):roomy n=true:=roomy_iff.2 h
theorem ltI_t {a b:Int} (h:a<b):ltI a b=true:=by rw [ltI_eq];simpa using h
theorem ltI_f {a b:Int} (h:b≤a):ltI a b=false:=by rw [ltI_eq];simpa using h
theorem ltI_iff {a b:Int}:ltI a b=true↔a<b:=by rw [ltI_eq];simp
theorem ltI_niff {a b:Int}:ltI a b=false↔b≤a:=by rw [ltI_eq];simp
theorem wi64_id {n:Int} (h0:-9223372036854775808≤n) (h1:n<9223372036854775808):wi64 n=n:=wrapi64 n h0 h1
theorem wu64_id {n:Int} (h0:0≤n) (h1:n<18446744073709551616):wu64 n=n:=by
 obtain ⟨m,rfl⟩:=Int.eq_ofNat_of_zero_le h0
 unfold wu64;rw [wrapu64,Nat.mod_eq_of_lt (by omega)]
theorem wu32_id {n:Int} (h0:0≤n) (h1:n<4294967296):wu32 n=n:=by
 obtain ⟨m,rfl⟩:=Int.eq_ofNat_of_zero_le h0
 unfold wu32;rw [wrapu32,Nat.mod_eq_of_lt (by omega)]
theorem wu16_id {n:Int} (h0:0≤n) (h1:n<65536):wu16 n=n:=by
 obtain ⟨m,rfl⟩:=Int.eq_ofNat_of_zero_le h0
 unfold wu16;rw [wrapu16,Nat.mod_eq_of_lt (by omega)]
theorem wu8_id {n:Int} (h0:0≤n) (h1:n<256):wu8 n=n:=by
 obtain ⟨m,rfl⟩:=Int.eq_ofNat_of_zero_le h0
 unfold wu8;rw [wrapu8,Nat.mod_eq_of_lt (by omega)]
theorem wu16_nat (n:Nat):wu16 (n:Int)=((n % 65536:Nat):Int):=wrapu16 n
theorem shr_nat (k:IntKind) (a m:Nat) (h:m≤k.bits):shrI k (a:Int) (m:Int)=((a / 2 ^ m:Nat):Int):=by
 unfold shrI
 rw [Int.toNat_natCast,Nat.min_eq_left h]
 have:(2:Int) ^ m=((2 ^ m:Nat):Int):=by simp
 rw [this,fdiv_nat]
theorem sub3_t {l h:Int} {n:Nat} (h0:0≤l) (h1:l≤h) (h2:h≤n):sub3 l h n=true:=by simp [sub3,h0,h1,h2]
theorem inR_t {i:Int} {n:Nat} (h0:0≤i) (h1:i<n):inR i n=true:=by simp [inR,h0,h1]
end Go.Proofs.YtcfingekgbbclaaGreatDoor.E
namespace Go.Proofs.YtcfingekgbbclaaGreatDoor.E
open Go Go.Proofs
set_option linter.unusedVariables false
def resTrue (r:Option (PV × List Blk × Unit)):Bool:=match r with
 | some (.s (.bool true),_,_)=>true
 | _=>false
theorem resTrue_some {r:Option (PV × List Blk × Unit)} (h:resTrue r=true):∃ H,r=some (.s (.bool true),H,()):=by
 unfold resTrue at h
 split at h
 ·exact ⟨_,rfl⟩
 ·cases h
theorem xfact_true {C₀:Cfg} {g d:Nat} (hX:XOK C₀) (hO:OkFns C₀) (hm:C₀.P.follows .mixedOrders=true) (h:resTrue (evC C₀ d Unit noY g [] [] ())=true):XFact C₀.P C₀.G g (fun args=>match args with | []=>.ret (.s (.bool true)) [] | _=>.fail):=
 xfact_of_val hX hO hm fun args ret Hc hr=>by
  cases args with
  | nil=>
   obtain ⟨rfl,rfl⟩:=tr_ret hr
   obtain ⟨H,e⟩:=resTrue_some h
   exact ⟨rfl,rfl,rfl,d,_,H,e,rfl⟩
  | cons a r=>cases hr
theorem arg_one {P:Program} {t:Nat} {v:PV} {ty:Ty} (h:ArgOf P t v) (e:tysOf P 20 t=some [ty]) (ha:aggOf P t=false):∃ x,v = .s x∧ty.of x:=by
 obtain ⟨tys,l,h1,h2,h3⟩:=h
 rw [e] at h1
 simp only [Option.some.injEq] at h1
 subst h1
 rcases h3 with ⟨h3,_⟩ | ⟨_,x,rfl,rfl⟩
 ·rw [ha] at h3;cases h3
 ·simp only [Ty.ofL] at h2
  obtain ⟨v,q,h4,h5,rfl⟩:=h2
  simp only [List.cons.injEq,and_true] at h4
  subst h4
  exact ⟨_,rfl,h5⟩
theorem arg_int {P:Program} {t:Nat} {v:PV} {k:IntKind} (h:ArgOf P t v) (e:tysOf P 20 t=some [.int k]) (ha:aggOf P t=false):∃ n,v = .s (.int k n)∧k.min≤n∧n≤k.max:=by
 obtain ⟨x,rfl,n,rfl,h1,h2⟩:=arg_one h e ha
 exact ⟨n,rfl,h1,h2⟩
theorem arg_str {P:Program} {t:Nat} {v:PV} (h:ArgOf P t v) (e:tysOf P 20 t=some [.str]) (ha:aggOf P t=false):∃ l,v = .s (.str l)∧l.length≤maxLen:=by
 obtain ⟨x,rfl,l,rfl,h1⟩:=arg_one h e ha
 exact ⟨l,rfl,h1⟩
end Go.Proofs.YtcfingekgbbclaaGreatDoor.E
namespace Go.Proofs.YtcfingekgbbclaaGreatDoor.E
open Go
set_option linter.unusedVariables false
def strE (l:List By):LL:=l.map fun s=>[SV.str s]
def u16E (l:List Nat):LL:=l.map fun n=>[SV.int .u16 (Int.ofNat n)]
def splitGo (c:UInt8):By→By→List By
 | acc,[]=>[acc]
 | acc,b::r=>if b=c then acc::splitGo c [] r else splitGo c (acc++[b]) r
def pcs (c:UInt8) (s:By):List By:=splitGo c [] s
theorem splitGo_len (c:UInt8):∀ (s acc:By),(splitGo c acc s).length=s.count c+1
 | [],acc=>rfl
 | b::r,acc=>by
  simp only [splitGo,List.count_cons]
  by_cases h:b=c
  ·simp [h,splitGo_len c r]
  ·simp [h,splitGo_len c r]
theorem splitGo_none (c:UInt8):∀ (s acc:By),c∉s→splitGo c acc s=[acc++s]
 | [],acc,_=>by simp [splitGo]
 | b::r,acc,h=>by
  simp only [List.mem_cons,not_or] at h
  simp only [splitGo]
  rw [if_neg (fun e=>h.1 e.symm),splitGo_none c r _ h.2]
  simp
theorem splitGo_app (c:UInt8):∀ (p acc s:By),c∉p→splitGo c acc (p++c::s)=(acc++p)::splitGo c [] s
 | [],acc,s,_=>by simp [splitGo]
 | b::r,acc,s,h=>by
  simp only [List.mem_cons,not_or] at h
  simp only [List.cons_append,splitGo]
  rw [if_neg (fun e=>h.1 e.symm),splitGo_app c r _ s h.2]
  simp
theorem splitGo_ne (c:UInt8) (s acc:By):splitGo c acc s≠[]:=by
 intro h
 have:=splitGo_len c s acc
 rw [h] at this
 simp at this
theorem splitGo_mem (c:UInt8):∀ (s acc:By),c∉acc→∀ x∈splitGo c acc s,c∉x∧x.length≤acc.length+s.length
 | [],acc,h,x,hx=>by
  simp only [splitGo,List.mem_singleton] at hx
  subst hx
  exact ⟨h,by simp⟩
 | b::r,acc,h,x,hx=>by
  simp only [splitGo] at hx
  split at hx
  ·rcases List.mem_cons.1 hx with rfl | hx
   ·exact ⟨h,by simp⟩
   ·have:=splitGo_mem c r [] (by simp) x hx
    refine ⟨this.1,?_⟩
    have:=this.2
    simp at this ⊢
    omega
  ·rename_i hb
   have:=splitGo_mem c r (acc++[b]) (by simp [h,Ne.symm hb]) x hx
   refine ⟨this.1,?_⟩
   have:=this.2
   simp at this ⊢
   omega
def lowB (b:UInt8):UInt8:=if 65≤b∧b≤90 then b+32 else b
def lower (s:By):By:=s.map lowB
def dig (b:UInt8):Nat:=
 if 48≤b.toNat∧b.toNat≤57 then b.toNat-48 else if 97≤b.toNat∧b.toNat≤102 then b.toNat-87 else if 65≤b.toNat∧b.toNat≤70 then b.toNat-55 else 99
def satB:Nat:=1099511627776
def digGo (base:Nat):Nat→By→Option Nat
 | n,[]=>some n
 | n,b::r=>if dig b<base then digGo base (min (n*base+dig b) satB) r else none
def isHex (s:By):Bool:=s.getD 0 0==48&&(s.getD 1 0==120 || s.getD 1 0==88)
def numB (s:By):Option Nat:=
 if s=[] then none else if isHex s then digGo 16 0 (s.drop 2) else if 1<s.length∧s.getD 0 0=48 then digGo 8 0 (s.drop 1) else digGo 10 0 s
def partsB (s:By):List By:=if 1<(pcs 46 s).length∧(pcs 46 s).getLastD []=[] then (pcs 46 s).dropLast else pcs 46 s
def lastB (s:By):By:=(partsB s).getLastD []
def numericB (s:By):Bool:=if isHex (lastB s) then (digGo 16 0 ((lastB s).drop 2)).isSome else !(lastB s).isEmpty&&(digGo 10 0 (lastB s)).isSome
def pnGo (free:Nat):Nat→List By→Option Nat
 | _,[]=>none
 | v,p::r=>match numB p with
  | none=>none
  | some n=>match r with
   | []=>if n<2 ^ free then some (v*2 ^ free+n) else none
   | r=>if n≤255 then pnGo free (v*256+n) r else none
def pnB (s:By):Option Nat:=if 4<(partsB s).length then none else pnGo (8*(5-(partsB s).length)) 0 (partsB s)
def oct (s:By):Option Nat:=match digGo 10 0 s with
 | some n=>if n≤255∧Lib.decDigits n=s then some n else none
 | none=>none
def octs:Nat→List By→Option Nat
 | v,[]=>some v
 | v,p::r=>match oct p with
  | some n=>octs (v*256+n) r
  | none=>none
def v4B (s:By):Option Nat:=if (pcs 46 s).length=4 then octs 0 (pcs 46 s) else none
def v4Fmt (v:Nat):By:=Lib.decDigits (v / 16777216)++46::(Lib.decDigits (v / 65536 % 256)++46::(Lib.decDigits (v / 256 % 256)++46::Lib.decDigits (v % 256)))
def grpGo:Nat→By→Option Nat
 | n,[]=>some n
 | n,b::r=>if dig b<16 then grpGo (n*16+dig b) r else none
def grp (s:By):Option Nat:=if s=[]∨4<s.length then none else grpGo 0 s
def grps (last:Bool):List By→Option (List Nat)
 | []=>some []
 | x::r=>match grp x with
  | some v=>(grps last r).map (v::·)
  | none=>match v4B x with
   | some v=>if last=true∧r=[] then some [v / 65536,v % 65536] else none
   | none=>none
def grpsB (s:By) (last:Bool):Option (List Nat):=if s=[] then some [] else grps last (pcs 58 s)
def v6B (s:By):Option (List Nat):=
 match grpsB (Lib.cut s [58,58]).1 (!(Lib.cut s [58,58]).2.2),grpsB (Lib.cut s [58,58]).2.1 true with
 | some x,some y=>if (Lib.cut s [58,58]).2.2 then (if x.length+y.length≤7 then some (x++List.replicate (8-x.length-y.length) 0++y) else none)
   else if x.length+y.length=8 then some (x++y) else none
 | _,_=>none
def run0 (l:List Nat):Nat:=(l.takeWhile (· == 0)).length
def zGo:List Nat→Nat→Nat→Nat→Nat × Nat
 | [],_,z,m=>(z,m)
 | x::r,i,z,m=>if m<run0 (x::r) then zGo r (i+1) i (run0 (x::r)) else zGo r (i+1) z m
def hexD (n:Nat):UInt8:=if n<10 then UInt8.ofNat (48+n) else UInt8.ofNat (87+n)
def hexN (v:Nat):By:=if h:v<16 then [hexD v] else hexN (v / 16)++[hexD (v % 16)]
 termination_by v
 decreasing_by omega
def joinH (l:List Nat):By:=Lib.join (l.map hexN) [58]
def v6Fmt (a:List Nat):By:=if (zGo a 0 0 0).2<2 then joinH a else joinH (a.take (zGo a 0 0 0).1)++58::58::joinH (a.drop ((zGo a 0 0 0).1+(zGo a 0 0 0).2))
def isPt (n:Nat):Bool:=Nat.ble n 1114111&&(Nat.blt n 55296 || Nat.blt 57343 n)
def adGo (d k:Nat):Nat:=if h:455<d then adGo (d / 35) (k+36) else k+36*d / (d+38)
 termination_by d
 decreasing_by omega
def adapt (delta count:Nat) (first:Bool):Nat:=
 let d:=if first then delta / 700 else delta / 2
 adGo (d+d / count) 0
def thr (k bias:Nat):Nat:=max 1 (min 26 (36*(k+1)-bias))
theorem thr_range (k bias:Nat):1≤thr k bias∧thr k bias≤26:=by unfold thr;omega
def dig36 (d:Nat):UInt8:=if d<26 then UInt8.ofNat (97+d) else UInt8.ofNat (22+d)
def val36 (b:UInt8):Option Nat:=
 if 97≤b.toNat∧b.toNat≤122 then some (b.toNat-97) else if 65≤b.toNat∧b.toNat≤90 then some (b.toNat-65) else if 48≤b.toNat∧b.toNat≤57 then some (b.toNat-22) else none
def encNum (q k bias:Nat):By:=
 if h:q<thr k bias then [dig36 q] else dig36 (thr k bias+(q-thr k bias) % (36-thr k bias))::encNum ((q-thr k bias) / (36-thr k bias)) (k+1) bias
 termination_by q
 decreasing_by
  have:=thr_range k bias
  exact Nat.lt_of_le_of_lt (Nat.div_le_self _ _) (by omega)
structure EncS where
 delta:Nat
 bias:Nat
 done:Nat
 out:By
def encIn (n basic:Nat):List Nat→EncS→EncS
 | [],s=>s
 | p::r,s=>if p<n then encIn n basic r { s with delta:=s.delta+1 }
  else if p=n then encIn n basic r { delta:=0,bias:=adapt s.delta (s.done+1) (s.done==basic),done:=s.done+1,out:=s.out++encNum s.delta 0 s.bias }
  else encIn n basic r s
def leastP (n:Nat):List Nat→Nat→Nat
 | [],m=>m
 | p::r,m=>leastP n r (if n≤p then min m p else m)
def encOut (pts:List Nat) (basic:Nat):Nat→Nat→EncS→EncS
 | 0,_,s=>s
 | f+1,n,s=>if s.done<pts.length then
   let m:=leastP n pts 1114112
   let s':=encIn m basic pts { s with delta:=s.delta+(m-n)*(s.done+1) }
   encOut pts basic f (m+1) { s' with delta:=s'.delta+1 }
  else s
def basicB (pts:List Nat):By:=(pts.filter (· < 128)).map UInt8.ofNat
def encP (pts:List Nat):By × Nat:=
 if 256<pts.length then ([],3) else if !(pts.all isPt) then ([],2)
 else ((encOut pts (basicB pts).length 256 128 { delta:=0,bias:=72,done:=(basicB pts).length,out:=if (basicB pts).isEmpty then [] else basicB pts++[45] }).out,0)
def decNum (bias:Nat):By→Nat→Nat→Nat→Nat × By × Nat
 | [],i,w,k=>(0,[],4)
 | b::r,i,w,k=>match val36 b with
  | none=>(0,[],4)
  | some x=>if satB<i+x*w then (0,[],19) else if x<thr k bias then (i+x*w,r,0)
   else if satB<w*(36-thr k bias) then (0,[],19) else decNum bias r (i+x*w) (w*(36-thr k bias)) (k+1)
theorem decNum_lt (bias:Nat):∀ (s:By) (i w k:Nat),(decNum bias s i w k).2.2=0→(decNum bias s i w k).2.1.length<s.length
 | [],i,w,k,h=>by simp [decNum] at h
 | b::r,i,w,k,h=>by
  unfold decNum at h ⊢
  cases hv:val36 b with
  | none=>simp [hv] at h
  | some x=>
   simp only [hv] at h ⊢
   split at h
   ·simp at h
   ·rename_i h1
    rw [if_neg h1]
    split at h
    ·rename_i h2
     rw [if_pos h2]
     simp
    ·rename_i h2
     rw [if_neg h2]
     split at h
     ·simp at h
     ·rename_i h3
      rw [if_neg h3]
      have:=decNum_lt bias r _ _ _ h
      simp only [List.length_cons]
      omega
def insAt (l:List Nat) (i n:Nat):List Nat:=l.take i++n::l.drop i
def decGoP (s:By) (pts:List Nat) (n i bias:Nat) (first:Bool):List Nat × Nat:=
 if hs:s=[] then (pts,0) else
  let q:=decNum bias s i 1 0
  if hq:q.2.2=0 then
   let count:=pts.length+1
   let n':=n+q.1 / count
   if isPt n' then (if 256<count then ([],3) else decGoP q.2.1 (insAt pts (q.1 % count) n') n' (q.1 % count+1) (adapt (q.1-i) count first) false)
   else ([],2)
  else ([],q.2.2)
 termination_by s.length
 decreasing_by exact decNum_lt bias s i 1 0 hq
def lastDash:By→Nat
 | []=>0
 | b::r=>if 45∈r then lastDash r+1 else 0
def decP (s:By):List Nat × Nat:=
 if 1024<s.length then ([],3) else if s.any (fun b=>Nat.ble 128 b.toNat) then ([],4)
 else if 256<lastDash s then ([],3)
 else decGoP (if lastDash s=0 then s else s.drop (lastDash s+1)) ((s.take (lastDash s)).map (·.toNat)) 128 0 72 true
def ptsGo:Nat→By→Option (List Nat)
 | 0,_=>some []
 | f+1,l=>if l=[] then some [] else if (Lib.decodeL l).1=65533∧(Lib.decodeL l).2=1 then none else (ptsGo f (l.drop (Lib.decodeL l).2)).map ((Lib.decodeL l).1::·)
def ptsB (s:By):Option (List Nat):=ptsGo s.length s
def properB (s:By):Bool:=
 (decP s).2==0 && !((decP s).1.any fun p=>Nat.ble 65 p&&Nat.ble p 90)&&((decP s).1.any fun p=>Nat.ble 128 p)&&(encP (decP s).1).2==0&&(encP (decP s).1).1==s
def lblByte (b:UInt8):Bool:=(Nat.ble 97 b.toNat&&Nat.ble b.toNat 122) || (Nat.ble 48 b.toNat&&Nat.ble b.toNat 57) || b==45 || b==95
def xnB:By:=[120,110,45,45]
def validL (s:By):Bool:=
 !s.isEmpty&&Nat.ble s.length 63&&s.getD 0 0 != 45&&s.getD (s.length-1) 0 != 45&&s.all lblByte&&(!(xnB.isPrefixOf s) || properB (s.drop 4))
def toAsc (s:By):By × Nat:=match ptsB s with
 | none=>([],4)
 | some p=>if 256<p.length then ([],3)
  else if p.length<s.length then (match ptsB (lower s) with
   | none=>([],14)
   | some q=>if (encP q).2=0 then (if validL (xnB++(encP q).1) then (xnB++(encP q).1,0) else ([],14)) else ([],14))
  else if validL (lower s) then (lower s,0) else ([],14)
def pctB:By→Option By
 | []=>some []
 | b::r=>if b=37 then (match r with
   | x::y::r'=>if dig x<16∧dig y<16 then (pctB r').map (UInt8.ofNat (16*dig x+dig y)::·) else none
   | _=>none)
  else (pctB r).map (b::·)
structure HostV where
 kind:Nat
 name:By
 v4:Nat
 v6:List Nat
 deriving DecidableEq
def z8:List Nat:=[0,0,0,0,0,0,0,0]
def noHost:HostV:=⟨0,[],0,z8⟩
def asciis:List By→List By × Nat
 | []=>([],0)
 | x::r=>if (toAsc x).2=0 then ((toAsc x).1::(asciis r).1,(asciis r).2) else ([],(toAsc x).2)
def trimDot (s:By):By:=if s.getLast? = some 46 then s.dropLast else s
def parseH (s:By):HostV × Nat:=
 if 1024<s.length then (noHost,3)
 else if s.head? = some 91 then (if s.getLast? = some 93∧2≤s.length then (match v6B ((s.take (s.length-1)).drop 1) with
   | some a=>(⟨3,[],0,a⟩,0)
   | none=>(noHost,14)) else (noHost,14))
 else match pctB s with
  | none=>(noHost,14)
  | some t=>if numericB (trimDot t) then (match pnB (trimDot t) with
    | some v=>(⟨2,[],v,z8⟩,0)
    | none=>(noHost,14))
   else if (asciis (pcs 46 (trimDot t))).2=0 then (
    let name:=Lib.join (asciis (pcs 46 (trimDot t))).1 [46]
    if 253<name.length then (noHost,3) else if numericB name then (noHost,14) else (⟨1,name,0,z8⟩,0))
   else (noHost,(asciis (pcs 46 (trimDot t))).2)
def validN (s:By):Bool:=Nat.ble s.length 253 && !(numericB s)&&(pcs 46 s).all validL
def validH (h:HostV):Bool:=
 if h.kind=1 then validN h.name&&h.v4==0&&h.v6==z8 else if h.kind=2 then h.name.isEmpty&&h.v6==z8 else if h.kind=3 then h.name.isEmpty&&h.v4==0 else false
def fmtH (h:HostV):By:=if validH h then (if h.kind=1 then h.name else if h.kind=2 then v4Fmt h.v4 else 91::(v6Fmt h.v6++[93])) else []
def small (n:Nat):Bool:=decide (n≤1000000000)
theorem small_iff {n:Nat}:small n=true↔n≤1000000000:=by simp [small]
def isS:List SV→Bool | [.str _]=>true | _=>false
def elS (el:List SV):By:=(el.getD 0 .nilp).gS
def optN (o:Option Nat):Nat:=o.getD 0
def u8n (c:Int):UInt8:=UInt8.ofNat c.toNat
def tsuf (s p:By):By:=if p.isSuffixOf s then s.take (s.length-p.length) else s
def cutp (s p:By):By:=if p.isPrefixOf s then s.drop p.length else s
def ltN (v:Int) (n:Nat):Bool:=match v with
 | .ofNat m=>Nat.ble (m+1) n
 | .negSucc _=>false
theorem ltN_iff {v:Int} {n:Nat}:ltN v n=true↔0≤v∧v<(n:Int):=by
 cases v with
 | ofNat m=>
  simp only [ltN,Nat.ble_eq,Int.ofNat_eq_natCast]
  omega
 | negSucc m=>
  refine ⟨fun h=>(by cases h),fun h=>?_⟩
  have:=Int.negSucc_lt_zero m
  omega
def X_fromintB0 (b:Nat):List PV→Tr
 | [.s (.int .i64 n)]=>.need (ltN n b) (.ret (.s (.str (Lib.decDigits (Int.toNat n)))) [])
 | _=>.fail
def gvs (s:By) (last:Bool):List Nat:=(grpsB s last).getD []
def v6c (i:Nat) (s:By):Nat:=((v6B s).getD z8).getD i 0
def n8 (a b c d e f g h:Int):List Nat:=[a.toNat,b.toNat,c.toNat,d.toNat,e.toNat,f.toNat,g.toNat,h.toNat]
def ok8 (a b c d e f g h:Int):Bool:=[a,b,c,d,e,f,g,h].all fun x=>ltN x 65536
def isU16:List SV→Bool | [.int .u16 n]=>ltN n 65536 | _=>false
def elN (el:List SV):Nat:=(el.getD 0 .nilp).gI.toNat
def ptI (n:Int):Bool:=match n with | .ofNat m=>isPt m | .negSucc _=>false
def val36I (b:UInt8):Int:=match val36 b with | some n=>n | none=>-1
def thrI (k b:Int):Int:=max 1 (min 26 (k+36-b))
def isI64:List SV→Bool | [.int .i64 _]=>true | _=>false
def elI (el:List SV):Int:=(el.getD 0 .nilp).gI
def encI (l:List Int):By × Nat:=if 256<l.length then ([],3) else if l.all ptI then encP (l.map Int.toNat) else ([],2)
def dnGo (b:Int):By→Int→Int→Int→Int × By × Int
 | [],i,w,k=>(4,[],i)
 | c::r,i,w,k=>if val36I c<0 then (4,c::r,i) else if 1099511627776<i+val36I c*w then (19,r,i+val36I c*w)
  else if val36I c<thrI k b then (0,r,i+val36I c*w) else if 1099511627776<w*(36-thrI k b) then (19,r,i+val36I c*w)
  else dnGo b r (i+val36I c*w) (w*(36-thrI k b)) (k+36)
def numE (b:Int) (s:By) (i:Int):Int:=(dnGo b s i 1 0).1
def numR (b:Int) (s:By) (i:Int):By:=(dnGo b s i 1 0).2.1
def numI (b:Int) (s:By) (i:Int):Int:=(dnGo b s i 1 0).2.2
def insR (l:List (List SV)) (i:Nat) (n:Int):List (List SV):=l.take i++[SV.int .i64 n]::l.drop i
structure DS where
 rest:By
 n:Int
 i:Int
 b:Int
 st:Bool
 l:List (List SV)
def dsStep (s:DS):Int × DS:=
 if numE s.b s.rest s.i=0 then
  let c:Int:=s.l.length+1
  let x:=numI s.b s.rest s.i
  let d:DS:={ rest:=numR s.b s.rest s.i,n:=s.n+Int.tdiv x c,i:=Int.tmod x c,b:=adapt (x-s.i).toNat c.toNat (!s.st),st:=true,l:=s.l }
  if ptI d.n then (if 256<c then (3,d) else (0,{ d with i:=d.i+1,l:=insR s.l d.i.toNat d.n })) else (2,d)
 else (numE s.b s.rest s.i,{ s with rest:=numR s.b s.rest s.i,i:=numI s.b s.rest s.i })
def lastI (c:UInt8):By→Int
 | []=>-1
 | b::r=>if lastI c r<0 then (if b=c then 0 else -1) else lastI c r+1
def natR (l:List Nat):List (List SV):=l.map fun x:Nat=>[SV.int .i64 (x:Int)]
def digI (b:UInt8):Int:=if dig b<16 then dig b else -1
def pctV (s:By):By:=(pctB s).getD []
def addrH (s:By):HostV × Nat:=if s.getLast? = some 93∧2≤s.length then (match v6B ((s.take (s.length-1)).drop 1) with
 | some a=>(⟨3,[],0,a⟩,0)
 | none=>(noHost,14)) else (noHost,14)
def mkH (kd:Int) (nm:By) (v4:Int) (a:List Nat):HostV:=⟨if ltN kd 4 then kd.toNat else 0,nm,v4.toNat,a⟩
def isBr (s:By):Bool:=([91]:By).isPrefixOf s
end Go.Proofs.YtcfingekgbbclaaGreatDoor.E
namespace Go.Proofs.YtcfingekgbbclaaGreatDoor.E
open Go Go.Proofs 
set_option linter.unusedVariables false
set_option maxRecDepth 100000
section
def X_gsplitM0:List PV→Tr
 | [.s (.str s),.s (.str p),.s (.int .i64 v),.s (.int .i64 n)]=>.need (small (List.length s)) (.need ((List.length p)==1) (.need (v==(0:Int)) (.need (n==((-1):Int)) (.ret (.vw 0 0 (List.length (pcs (List.getD p 0 0) s))) [.arr false 9 1 (strE (pcs (List.getD p 0 0) s))]))))
 | _=>.fail
def X_gsplitM (args:List PV):Tr:=X_gsplitM0 (fixL [[0],[0],[0],[0]] args)
def X_ssplitM0:List PV→Tr
 | [.s (.str s),.s (.str p)]=>.need (small (List.length s)) (.need ((List.length p)==1) (.ret (.vw 0 0 (List.length (pcs (List.getD p 0 0) s))) [.arr false 9 1 (strE (pcs (List.getD p 0 0) s))]))
 | _=>.fail
def X_ssplitM (args:List PV):Tr:=X_ssplitM0 (fixL [[0],[0]] args)
def X_lpre0:List PV→Tr
 | [.s (.str s),.s (.str p)]=>.need (small (List.length s)) (.ret (.s (.bool (List.isPrefixOf p s))) [])
 | _=>.fail
def X_lpre (args:List PV):Tr:=X_lpre0 (fixL [[0],[0]] args)
def X_hpre0:List PV→Tr
 | [.s (.str s),.s (.str p)]=>.need (small (List.length s)) (.ret (.s (.bool (List.isPrefixOf p s))) [])
 | _=>.fail
def X_hpre (args:List PV):Tr:=X_hpre0 (fixL [[0],[0]] args)
def X_lsuf0:List PV→Tr
 | [.s (.str s),.s (.str p)]=>.need (small (List.length s)) (.ret (.s (.bool (List.isSuffixOf p s))) [])
 | _=>.fail
def X_lsuf (args:List PV):Tr:=X_lsuf0 (fixL [[0],[0]] args)
def X_ltsuf0:List PV→Tr
 | [.s (.str s),.s (.str p)]=>.need (small (List.length s)) (.ret (.s (.str (tsuf s p))) [])
 | _=>.fail
def X_ltsuf (args:List PV):Tr:=X_ltsuf0 (fixL [[0],[0]] args)
def X_tsufc0:List PV→Tr
 | [.s (.str s),.s (.str p)]=>.need (small (List.length s)) (.ret (.s (.str (tsuf s p))) [])
 | _=>.fail
def X_tsufc (args:List PV):Tr:=X_tsufc0 (fixL [[0],[0]] args)
def X_lcpre0:List PV→Tr
 | [.s (.str s),.s (.str p)]=>.need (small (List.length s)) (.ret (.tup [.s (.str (cutp s p)),.s (.bool (List.isPrefixOf p s))]) [])
 | _=>.fail
def X_lcpre (args:List PV):Tr:=X_lcpre0 (fixL [[0],[0]] args)
def X_cpre0:List PV→Tr
 | [.s (.str s),.s (.str p)]=>.need (small (List.length s)) (.ret (.tup [.s (.str (cutp s p)),.s (.bool (List.isPrefixOf p s))]) [])
 | _=>.fail
def X_cpre (args:List PV):Tr:=X_cpre0 (fixL [[0],[0]] args)
def X_sidx0:List PV→Tr
 | [.s (.str s),.s (.str p)]=>.need (small (List.length s)) (.ret (.s (.int .i64 (Lib.index s p))) [])
 | _=>.fail
def X_sidx (args:List PV):Tr:=X_sidx0 (fixL [[0],[0]] args)
def X_scnt0:List PV→Tr
 | [.s (.str s),.s (.str p)]=>.need ((List.length p)==1) (.ret (.s (.int .i64 (↑(List.count (List.getD p 0 0) s):Int))) [])
 | _=>.fail
def X_scnt (args:List PV):Tr:=X_scnt0 (fixL [[0],[0]] args)
def X_explode0:List PV→Tr
 | [.s (.str s),.s (.int .i64 n)]=>.fail
 | _=>.fail
def X_explode (args:List PV):Tr:=X_explode0 (fixL [[0],[0]] args)
def X_gsplit0:List PV→Tr
 | [.s (.str s),.s (.str p),.s (.int .i64 v),.s (.int .i64 n)]=>.need (small (List.length s)) (.need ((List.length p)==1) (.need (v==(0:Int)) (.need (n==((-1):Int)) (.ret (.s (.sl false false 1 (strE (pcs (List.getD p 0 0) s)))) []))))
 | _=>.fail
def X_gsplit (args:List PV):Tr:=X_gsplit0 (fixL [[0],[0],[0],[0]] args)
def X_ssplit0:List PV→Tr
 | [.s (.str s),.s (.str p)]=>.need (small (List.length s)) (.need ((List.length p)==1) (.ret (.s (.sl false false 1 (strE (pcs (List.getD p 0 0) s)))) []))
 | _=>.fail
def X_ssplit (args:List PV):Tr:=X_ssplit0 (fixL [[0],[0]] args)
def X_itoa0:List PV→Tr
 | [.s (.int .i64 n)]=>.need (ltN n 4294967296) (.ret (.s (.str (Lib.decDigits (Int.toNat n)))) [])
 | _=>.fail
def X_itoa (args:List PV):Tr:=X_itoa0 (fixL [[0]] args)
def X_lowc0:List PV→Tr
 | [.s (.str s)]=>.need (small (List.length s)) (.ret (.s (.str (lower s))) [])
 | _=>.fail
def X_lowc (args:List PV):Tr:=X_lowc0 (fixL [[0]] args)
def X_hexc0:List PV→Tr
 | [.s (.str s)]=>.need (small (List.length s)) (.ret (.s (.bool (isHex s))) [])
 | _=>.fail
def X_hexc (args:List PV):Tr:=X_hexc0 (fixL [[0]] args)
def X_digs0:List PV→Tr
 | [.s (.str s),.s (.int .i64 base)]=>.need (small (List.length s)) (.need (ltN base 17) (.ret (.tup [.s (.int .i64 (↑(optN (digGo (Int.toNat base) 0 s)):Int)),.s (.bool (Option.isSome (digGo (Int.toNat base) 0 s)))]) []))
 | _=>.fail
def X_digs (args:List PV):Tr:=X_digs0 (fixL [[0],[0]] args)
def X_num0:List PV→Tr
 | [.s (.str s)]=>.need (small (List.length s)) (.ret (.tup [.s (.int .i64 (↑(optN (numB s)):Int)),.s (.bool (Option.isSome (numB s)))]) [])
 | _=>.fail
def X_num (args:List PV):Tr:=X_num0 (fixL [[0]] args)
def X_parts0:List PV→Tr
 | [.s (.str s)]=>.need (small (List.length s)) (.ret (.s (.sl false false 1 (strE (partsB s)))) [])
 | _=>.fail
def X_parts (args:List PV):Tr:=X_parts0 (fixL [[0]] args)
def X_numeric0:List PV→Tr
 | [.s (.str s)]=>.need (small (List.length s)) (.ret (.s (.bool (numericB s))) [])
 | _=>.fail
def X_numeric (args:List PV):Tr:=X_numeric0 (fixL [[0]] args)
def X_pnum0:List PV→Tr
 | [.s (.str s)]=>.need (small (List.length s)) (.ret (.tup [.s (.int .u32 (↑(optN (pnB s)):Int)),.s (.bool (Option.isSome (pnB s)))]) [])
 | _=>.fail
def X_pnum (args:List PV):Tr:=X_pnum0 (fixL [[0]] args)
def X_v4p0:List PV→Tr
 | [.s (.str s)]=>.need (small (List.length s)) (.ret (.tup [.s (.int .u32 (↑(optN (v4B s)):Int)),.s (.bool (Option.isSome (v4B s)))]) [])
 | _=>.fail
def X_v4p (args:List PV):Tr:=X_v4p0 (fixL [[0]] args)
def X_v4f0:List PV→Tr
 | [.s (.int .u32 v)]=>.need (ltN v 4294967296) (.ret (.s (.str (v4Fmt (Int.toNat v)))) [])
 | _=>.fail
def X_v4f (args:List PV):Tr:=X_v4f0 (fixL [[0]] args)
def X_rlow0:List PV→Tr
 | [.s (.str s)]=>.need (small (List.length s)) (.ret (.s (.str (lower s))) [])
 | _=>.fail
def X_rlow (args:List PV):Tr:=X_rlow0 (fixL [[0]] args)
def X_rsplit0:List PV→Tr
 | [.s (.str s),.s (.int .u8 c)]=>.need (small (List.length s)) (.need (inR c 256) (.ret (.s (.sl false false 1 (strE (pcs (u8n c) s)))) []))
 | _=>.fail
def X_rdig0:List PV→Tr
 | [.s (.int .u8 b)]=>.need (inR b 256) (.ret (.s (.int .i64 (↑(dig (u8n b)):Int))) [])
 | _=>.fail
def X_grpc0:List PV→Tr
 | [.s (.str s)]=>.need (small (List.length s)) (.ret (.tup [.s (.int .u16 (↑(optN (grp s)):Int)),.s (.bool (Option.isSome (grp s)))]) [])
 | _=>.fail
def X_grpc (args:List PV):Tr:=X_grpc0 (fixL [[0]] args)
def X_grpsc0:List PV→Tr
 | [.s (.str s),.s (.bool last)]=>.need (small (List.length s)) (.ret (.tup [.s (.sl (List.isEmpty (gvs s last)) (List.isEmpty (gvs s last)) 1 (u16E (gvs s last))),.s (.bool (Option.isSome (grpsB s last)))]) [])
 | _=>.fail
def X_grpsc (args:List PV):Tr:=X_grpsc0 (fixL [[0],[0]] args)
def X_v6p0:List PV→Tr
 | [.s (.str s)]=>.need (small (List.length s)) (.ret (.tup [.agg [.s (.int .u16 (↑(v6c 0 s):Int)),.s (.int .u16 (↑(v6c 1 s):Int)),.s (.int .u16 (↑(v6c 2 s):Int)),.s (.int .u16 (↑(v6c 3 s):Int)),.s (.int .u16 (↑(v6c 4 s):Int)),.s (.int .u16 (↑(v6c 5 s):Int)),.s (.int .u16 (↑(v6c 6 s):Int)),.s (.int .u16 (↑(v6c 7 s):Int))],.s (.bool (Option.isSome (v6B s)))]) [])
 | _=>.fail
def X_v6p (args:List PV):Tr:=X_v6p0 (fixL [[0]] args)
def X_zeros0:List PV→Tr
 | [.agg [.s (.int .u16 a0),.s (.int .u16 a1),.s (.int .u16 a2),.s (.int .u16 a3),.s (.int .u16 a4),.s (.int .u16 a5),.s (.int .u16 a6),.s (.int .u16 a7)]]=>.need (ok8 a0 a1 a2 a3 a4 a5 a6 a7) (.ret (.tup [.s (.int .i64 (↑((zGo (n8 a0 a1 a2 a3 a4 a5 a6 a7) 0 0 0)).1:Int)),.s (.int .i64 (↑((zGo (n8 a0 a1 a2 a3 a4 a5 a6 a7) 0 0 0)).2:Int))]) [])
 | _=>.fail
def X_zeros (args:List PV):Tr:=X_zeros0 (fixL [[0,0,0,0,0,0,0,0]] args)
def X_tz0:List PV→Tr
 | [.s (.int .u64 x)]=>.need (x==(16:Int)) (.ret (.s (.int .i64 (4:Int))) [])
 | _=>.fail
def X_tz (args:List PV):Tr:=X_tz0 (fixL [[0]] args)
def X_ispow0:List PV→Tr
 | [.s (.int .i64 x)]=>.need (x==(16:Int)) (.ret (.s (.bool true)) [])
 | _=>.fail
def X_ispow (args:List PV):Tr:=X_ispow0 (fixL [[0]] args)
def X_fbits0:List PV→Tr
 | [.s (.sl ds_z ds_t 0 ds),.s (.int .u64 v),.s (.int .i64 b),.s (.bool neg),.s (.bool app)]=>.need (ltN v 65536) (.need (b==(16:Int)) (.need (not neg) (.need (not app) (.ret (.tup [.s (.sl true true 1 List.nil),.s (.str (hexN (Int.toNat v)))]) []))))
 | _=>.fail
def X_fbits (args:List PV):Tr:=X_fbits0 (fixL [[0],[0],[0],[0],[0]] args)
def X_ifmtu0:List PV→Tr
 | [.s (.int .u64 v),.s (.int .i64 b)]=>.need (ltN v 65536) (.need (b==(16:Int)) (.ret (.s (.str (hexN (Int.toNat v)))) []))
 | _=>.fail
def X_ifmtu (args:List PV):Tr:=X_ifmtu0 (fixL [[0],[0]] args)
def X_fmtu0:List PV→Tr
 | [.s (.int .u64 v),.s (.int .i64 b)]=>.need (ltN v 65536) (.need (b==(16:Int)) (.ret (.s (.str (hexN (Int.toNat v)))) []))
 | _=>.fail
def X_fmtu (args:List PV):Tr:=X_fmtu0 (fixL [[0],[0]] args)
def X_sjoin0:List PV→Tr
 | [.s (.sl l_z l_t 1 l),.s (.str p)]=>.need (List.all l isS) (.need (small (List.length (Lib.join (List.map elS l) p))) (.need (small (List.length l)) (.ret (.s (.str (Lib.join (List.map elS l) p))) [])))
 | _=>.fail
def X_sjoin (args:List PV):Tr:=X_sjoin0 (fixL [[1],[0]] args)
def X_scut0:List PV→Tr
 | [.s (.str s),.s (.str p)]=>.need (small (List.length s)) (.ret (.tup [.s (.str ((Lib.cut s p)).1),.s (.str (((Lib.cut s p)).2).1),.s (.bool (((Lib.cut s p)).2).2)]) [])
 | _=>.fail
def X_scut (args:List PV):Tr:=X_scut0 (fixL [[0],[0]] args)
def X_v6j0:List PV→Tr
 | [.s (.sl l_z l_t 1 l)]=>.need (List.all l isU16) (.need (Nat.ble (List.length l) 8) (.ret (.s (.str (joinH (List.map elN l)))) []))
 | _=>.fail
def X_v6j (args:List PV):Tr:=X_v6j0 (fixL [[1]] args)
def X_v6f0:List PV→Tr
 | [.agg [.s (.int .u16 a0),.s (.int .u16 a1),.s (.int .u16 a2),.s (.int .u16 a3),.s (.int .u16 a4),.s (.int .u16 a5),.s (.int .u16 a6),.s (.int .u16 a7)]]=>.need (ok8 a0 a1 a2 a3 a4 a5 a6 a7) (.ret (.s (.str (v6Fmt (n8 a0 a1 a2 a3 a4 a5 a6 a7)))) [])
 | _=>.fail
def X_v6f (args:List PV):Tr:=X_v6f0 (fixL [[0,0,0,0,0,0,0,0]] args)
def X_ppoint0:List PV→Tr
 | [.s (.int .i64 n)]=>.ret (.s (.bool (ptI n))) []
 | _=>.fail
def X_ppoint (args:List PV):Tr:=X_ppoint0 (fixL [[0]] args)
def X_padapt0:List PV→Tr
 | [.s (.int .i64 d),.s (.int .i64 c),.s (.bool f)]=>.need (ltN d 1152921504606846976) (.need (ltN c 1000000) (.need (ltI (0:Int) c) (.ret (.s (.int .i64 (↑(adapt (Int.toNat d) (Int.toNat c) f):Int))) [])))
 | _=>.fail
def X_padapt (args:List PV):Tr:=X_padapt0 (fixL [[0],[0],[0]] args)
def X_pdig0:List PV→Tr
 | [.s (.int .i64 d)]=>.need (ltN d 36) (.ret (.s (.int .u8 (↑(UInt8.toNat (dig36 (Int.toNat d))):Int))) [])
 | _=>.fail
def X_pdig (args:List PV):Tr:=X_pdig0 (fixL [[0]] args)
def X_pval0:List PV→Tr
 | [.s (.int .u8 b)]=>.need (inR b 256) (.ret (.s (.int .i64 (val36I (u8n b)))) [])
 | _=>.fail
def X_pval (args:List PV):Tr:=X_pval0 (fixL [[0]] args)
def X_pthr0:List PV→Tr
 | [.s (.int .i64 b)]=>.ret (.fnr (Fn.func 188) [] [.ptr 1 0 0,.ptr 0 0 0]) [.box [.s (.int .i64 b)],.box [.s (.int .i64 (0:Int))]]
 | _=>.fail
def X_pthr (args:List PV):Tr:=X_pthr0 (fixL [[0]] args)
def X_pnext:List PV→List Blk→Tr
 | [.ptr 0 0 0,.ptr 1 0 0],[.box [.s (.int .i64 k)],.box [.s (.int .i64 b)]]=>.need (ltN k 1000000000000) (.need (ltN b 1000000) (.ret (.s (.int .i64 (thrI k b))) [.box [.s (.int .i64 (Int.add k (36:Int)))],.box [.s (.int .i64 b)]]))
 | _,_=>.fail
def X_papp:List PV→List Blk→Tr
 | [.fl 0,.s (.int .i64 q),.s (.int .i64 b)],[.arr z 5 1 l]=>.need (ltN q 1152921504606846976) (.need (ltN b 1000000) (.need (Nat.ble (List.length l) 100000) (.ret (.fl 0) [.arr z 5 1 (List.append l (List.map u8el (encNum (Int.toNat q) 0 (Int.toNat b))))])))
 | _,_=>.fail
def X_penc0:List PV→Tr
 | [.s (.sl p_z p_t 1 p)]=>.need (List.all p isI64) (.ret (.tup [.s (.str ((encI (List.map elI p))).1),.s (.int .i64 (↑((encI (List.map elI p))).2:Int))]) [])
 | _=>.fail
def X_penc (args:List PV):Tr:=X_penc0 (fixL [[1]] args)
def X_sins:List PV→List Blk→Tr
 | [.fl 0,.s (.int .i64 i),.fl 1],[.arr z 3 1 l,.arr false 3 1 [[.int .i64 n]]]=>.need (ltN i (Nat.add (List.length l) 1)) (.need (Nat.ble (List.length l) 100000) (.ret (.fl 0) [.arr z 3 1 (insR l (Int.toNat i) n),.arr false 3 1 [[.int .i64 n]]]))
 | _,_=>.fail
def X_dnum:List PV→List Blk→Tr
 | [.ptr 0 0 0],[.box [.s (.str rest),.fl 1,.s (.int .i64 n),.s (.int .i64 i),.s (.int .i64 b),.s (.bool st)],.arr z 3 1 l]=>.need (small (List.length rest)) (.need (ltN b 1000000) (.need (ltN i 1099511627777) (.ret (.s (.int .i64 (numE b rest i))) [.box [.s (.str (numR b rest i)),.fl 1,.s (.int .i64 n),.s (.int .i64 (numI b rest i)),.s (.int .i64 b),.s (.bool st)],.arr z 3 1 l])))
 | _,_=>.fail
def X_dstep:List PV→List Blk→Tr
 | [.ptr 0 0 0],[.box [.s (.str rest),.fl 1,.s (.int .i64 n),.s (.int .i64 i),.s (.int .i64 b),.s (.bool st)],.arr z 3 1 l]=>.need (small (List.length rest)) (.need (ltN b 1000000) (.need (ltN i 1099511627777) (.need (ltN n 1152921504606846976) (.need (Nat.ble (List.length l) 100000) (.ret (.s (.int .i64 ((dsStep (DS.mk rest n i b st l))).1)) [.box [.s (.str (DS.rest ((dsStep (DS.mk rest n i b st l))).2)),.fl 1,.s (.int .i64 (DS.n ((dsStep (DS.mk rest n i b st l))).2)),.s (.int .i64 (DS.i ((dsStep (DS.mk rest n i b st l))).2)),.s (.int .i64 (DS.b ((dsStep (DS.mk rest n i b st l))).2)),.s (.bool (DS.st ((dsStep (DS.mk rest n i b st l))).2))],.arr z 3 1 (DS.l ((dsStep (DS.mk rest n i b st l))).2)])))))
 | _,_=>.fail
def X_ilastb0:List PV→Tr
 | [.s (.str s),.s (.int .u8 c)]=>.need (small (List.length s)) (.need (inR c 256) (.ret (.s (.int .i64 (lastI (u8n c) s))) []))
 | _=>.fail
def X_ilastb (args:List PV):Tr:=X_ilastb0 (fixL [[0],[0]] args)
def X_lastb0:List PV→Tr
 | [.s (.str s),.s (.int .u8 c)]=>.need (small (List.length s)) (.need (inR c 256) (.ret (.s (.int .i64 (lastI (u8n c) s))) []))
 | _=>.fail
def X_lastb (args:List PV):Tr:=X_lastb0 (fixL [[0],[0]] args)
def X_pdec0:List PV→Tr
 | [.s (.str s)]=>.need (small (List.length s)) (.ret (.tup [.s (.sl (List.isEmpty ((decP s)).1) (List.isEmpty ((decP s)).1) 1 (natR ((decP s)).1)),.s (.int .i64 (↑((decP s)).2:Int))]) [])
 | _=>.fail
def X_pdec (args:List PV):Tr:=X_pdec0 (fixL [[0]] args)
def X_drune0:List PV→Tr
 | [.s (.str t)]=>.fail
 | _=>.fail
def X_drune (args:List PV):Tr:=X_drune0 (fixL [[0]] args)
def X_lsseq0:List PV→Tr
 | [.s (.str t),.s (.str p),.s (.int .i64 n)]=>.ret (.fnr (Fn.func 152) [] [.ptr 1 0 0,.ptr 0 0 0,.ptr 2 0 0]) [.box [.s (.str t)],.box [.s (.str p)],.box [.s (.int .i64 n)]]
 | _=>.fail
def X_lsseq (args:List PV):Tr:=X_lsseq0 (fixL [[0],[0],[0]] args)
def X_sseq0:List PV→Tr
 | [.s (.str t),.s (.str p)]=>.ret (.fnr (Fn.func 152) [] [.ptr 1 0 0,.ptr 0 0 0,.ptr 2 0 0]) [.box [.s (.str t)],.box [.s (.str p)],.box [.s (.int .i64 (0:Int))]]
 | _=>.fail
def X_sseq (args:List PV):Tr:=X_sseq0 (fixL [[0],[0]] args)
def X_sseqf:List PV→List Blk→Option (Bool × List (List PV))
 | [.yd,.ptr 0 0 0,.ptr 1 0 0,.ptr 2 0 0],[.box [.s (.str p)],.box [.s (.str t)],.box [.s (.int .i64 n)]]=>some (((small (List.length t))&&(((List.length p)==1)&&(n==(0:Int)))),List.map (fun (x:By)=>([.s (.str x)]:List PV)) (pcs (List.getD p 0 0) t))
 | _,_=>none
def X_rthr0:List PV→Tr
 | [.s (.int .i64 k),.s (.int .i64 b)]=>.need (ltN k 10000000000) (.need (ltN b 1000000) (.ret (.s (.int .i64 (thrI (Int.mul (36:Int) k) b))) []))
 | _=>.fail
def X_lprop0:List PV→Tr
 | [.s (.str s)]=>.need (small (List.length s)) (.ret (.s (.bool (properB s))) [])
 | _=>.fail
def X_lprop (args:List PV):Tr:=X_lprop0 (fixL [[0]] args)
def X_lval0:List PV→Tr
 | [.s (.str s)]=>.need (small (List.length s)) (.ret (.s (.bool (validL s))) [])
 | _=>.fail
def X_lval (args:List PV):Tr:=X_lval0 (fixL [[0]] args)
def X_uvalid0:List PV→Tr
 | [.s (.str s)]=>.need (small (List.length s)) (.ret (.s (.bool (Option.isSome (ptsB s)))) [])
 | _=>.fail
def X_uvalid (args:List PV):Tr:=X_uvalid0 (fixL [[0]] args)
def X_ucount0:List PV→Tr
 | [.s (.str s)]=>.need (small (List.length s)) (.ret (.s (.int .i64 (↑(Lib.runeCountL s):Int))) [])
 | _=>.fail
def X_ucount (args:List PV):Tr:=X_ucount0 (fixL [[0]] args)
def X_lasc0:List PV→Tr
 | [.s (.str s)]=>.need (small (List.length s)) (.ret (.tup [.s (.str ((toAsc s)).1),.s (.int .i64 (↑((toAsc s)).2:Int))]) [])
 | _=>.fail
def X_lasc (args:List PV):Tr:=X_lasc0 (fixL [[0]] args)
def X_hdig0:List PV→Tr
 | [.s (.int .u8 b)]=>.need (inR b 256) (.ret (.s (.int .i64 (digI (u8n b)))) [])
 | _=>.fail
def X_hdig (args:List PV):Tr:=X_hdig0 (fixL [[0]] args)
def X_hdec0:List PV→Tr
 | [.s (.str s)]=>.need (small (List.length s)) (.ret (.tup [.s (.str (pctV s)),.s (.bool (Option.isSome (pctB s)))]) [])
 | _=>.fail
def X_hdec (args:List PV):Tr:=X_hdec0 (fixL [[0]] args)
def X_haddr0:List PV→Tr
 | [.s (.str s)]=>.need (small (List.length s)) (.need (isBr s) (.ret (.tup [.agg [.s (.int .i64 (↑(HostV.kind ((addrH s)).1):Int)),.s (.str (HostV.name ((addrH s)).1)),.s (.int .u32 (↑(HostV.v4 ((addrH s)).1):Int)),.s (.int .u16 (↑(List.getD (HostV.v6 ((addrH s)).1) 0 0):Int)),.s (.int .u16 (↑(List.getD (HostV.v6 ((addrH s)).1) 1 0):Int)),.s (.int .u16 (↑(List.getD (HostV.v6 ((addrH s)).1) 2 0):Int)),.s (.int .u16 (↑(List.getD (HostV.v6 ((addrH s)).1) 3 0):Int)),.s (.int .u16 (↑(List.getD (HostV.v6 ((addrH s)).1) 4 0):Int)),.s (.int .u16 (↑(List.getD (HostV.v6 ((addrH s)).1) 5 0):Int)),.s (.int .u16 (↑(List.getD (HostV.v6 ((addrH s)).1) 6 0):Int)),.s (.int .u16 (↑(List.getD (HostV.v6 ((addrH s)).1) 7 0):Int))],.s (.int .i64 (↑((addrH s)).2:Int))]) []))
 | _=>.fail
def X_haddr (args:List PV):Tr:=X_haddr0 (fixL [[0]] args)
def X_hparse0:List PV→Tr
 | [.s (.str s)]=>.need (small (List.length s)) (.ret (.tup [.agg [.s (.int .i64 (↑(HostV.kind ((parseH s)).1):Int)),.s (.str (HostV.name ((parseH s)).1)),.s (.int .u32 (↑(HostV.v4 ((parseH s)).1):Int)),.s (.int .u16 (↑(List.getD (HostV.v6 ((parseH s)).1) 0 0):Int)),.s (.int .u16 (↑(List.getD (HostV.v6 ((parseH s)).1) 1 0):Int)),.s (.int .u16 (↑(List.getD (HostV.v6 ((parseH s)).1) 2 0):Int)),.s (.int .u16 (↑(List.getD (HostV.v6 ((parseH s)).1) 3 0):Int)),.s (.int .u16 (↑(List.getD (HostV.v6 ((parseH s)).1) 4 0):Int)),.s (.int .u16 (↑(List.getD (HostV.v6 ((parseH s)).1) 5 0):Int)),.s (.int .u16 (↑(List.getD (HostV.v6 ((parseH s)).1) 6 0):Int)),.s (.int .u16 (↑(List.getD (HostV.v6 ((parseH s)).1) 7 0):Int))],.s (.int .i64 (↑((parseH s)).2:Int))]) [])
 | _=>.fail
def X_hparse (args:List PV):Tr:=X_hparse0 (fixL [[0]] args)
def X_hvn0:List PV→Tr
 | [.s (.str s)]=>.need (small (List.length s)) (.ret (.s (.bool (validN s))) [])
 | _=>.fail
def X_hvn (args:List PV):Tr:=X_hvn0 (fixL [[0]] args)
def X_hval0:List PV→Tr
 | [.agg [.s (.int .i64 kd),.s (.str nm),.s (.int .u32 v4),.s (.int .u16 a0),.s (.int .u16 a1),.s (.int .u16 a2),.s (.int .u16 a3),.s (.int .u16 a4),.s (.int .u16 a5),.s (.int .u16 a6),.s (.int .u16 a7)]]=>.need (small (List.length nm)) (.need (ltN v4 4294967296) (.need (ok8 a0 a1 a2 a3 a4 a5 a6 a7) (.ret (.s (.bool (validH (mkH kd nm v4 (n8 a0 a1 a2 a3 a4 a5 a6 a7))))) [])))
 | _=>.fail
def X_hval (args:List PV):Tr:=X_hval0 (fixL [[0,0,0,0,0,0,0,0,0,0,0]] args)
def X_hfmt0:List PV→Tr
 | [.agg [.s (.int .i64 kd),.s (.str nm),.s (.int .u32 v4),.s (.int .u16 a0),.s (.int .u16 a1),.s (.int .u16 a2),.s (.int .u16 a3),.s (.int .u16 a4),.s (.int .u16 a5),.s (.int .u16 a6),.s (.int .u16 a7)]]=>.need (small (List.length nm)) (.need (ltN v4 4294967296) (.need (ok8 a0 a1 a2 a3 a4 a5 a6 a7) (.ret (.s (.str (fmtH (mkH kd nm v4 (n8 a0 a1 a2 a3 a4 a5 a6 a7))))) [])))
 | _=>.fail
def X_hfmt (args:List PV):Tr:=X_hfmt0 (fixL [[0,0,0,0,0,0,0,0,0,0,0]] args)
def X_kmod0:List PV→Tr
 | [.s (.int .i64 n),.s (.int .i64 m)]=>.need (ltI (0:Int) m) (.need (ltN m 1000000000) (.ret (.s (.int .i64 (Int.emod n m))) []))
 | _=>.fail
def X_kmod (args:List PV):Tr:=X_kmod0 (fixL [[0],[0]] args)
end
end Go.Proofs.YtcfingekgbbclaaGreatDoor.E
namespace Go.Proofs.YtcfingekgbbclaaGreatDoor.E
open Go Go.Proofs 
set_option linter.unusedVariables false
set_option maxRecDepth 100000
section
variable {σ R : Type} (lf : Nat) (cl : CallT) (yh : Yh σ) (s : σ) (k : Out → St σ → Option R)
noncomputable def c_lsseq (lf:Nat):Cfg:=mkCfg lf [125] (lookK []) [] (lookK [(1,[6]),(0,[3,0,0])]) [] (lookK []) (some [6]) [] [] []
noncomputable def lsseq {R:Type} (lf:Nat) (s0 sep1:By) (sepSave2:Int) (k0:By→By→Int→Option R):Option R:=k0 s0 sep1 sepSave2
theorem lsseq_ev (d:Nat) (s0 sep1:By) (sepSave2:Int):evC (c_lsseq lf) (d+1) σ yh 125 [.s (.str s0),.s (.str sep1),.s (.int .i64 sepSave2)] [] s=lsseq lf s0 sep1 sepSave2 (fun s0 s1 n2=>some (.fnr (Fn.func 152) [] [.ptr 1 0 0,.ptr 0 0 0,.ptr 2 0 0],[.box [.s (.str s0)],.box [.s (.str s1)],.box [.s (.int .i64 n2)]],s)):=by
 refine (evC_eq (fn:=Tryz.f125) (by kernel_rfl) (by kernel_rfl) (by kernel_rfl)).trans ?_
 generalize evC (c_lsseq lf) d=cl
 unfold lsseq;kernel_rfl
noncomputable def c_sseq (lf:Nat):Cfg:=mkCfg lf [91] (lookK []) [(125,X_lsseq)] (lookK [(1,[4]),(0,[0,0])]) [] (lookK []) (some [4]) [] [] []
noncomputable def sseq {R:Type} (lf:Nat) (s0 sep1:By) (k0:By→By→Option R):Option R:=k0 s0 sep1
theorem sseq_ev (d:Nat) (s0 sep1:By):evC (c_sseq lf) (d+1) σ yh 91 [.s (.str s0),.s (.str sep1)] [] s=sseq lf s0 sep1 (fun s0 s1=>some (.fnr (Fn.func 152) [] [.ptr 1 0 0,.ptr 0 0 0,.ptr 2 0 0],[.box [.s (.str s0)],.box [.s (.str s1)],.box [.s (.int .i64 (0:Int))]],s)):=by
 refine (evC_eq (fn:=Tryz.f91) (by kernel_rfl) (by kernel_rfl) (by kernel_rfl)).trans ?_
 generalize evC (c_sseq lf) d=cl
 unfold sseq;kernel_rfl
noncomputable abbrev b_hvn:Code:=bodyOf Tryz.f64
noncomputable def c_hvn (lf:Nat):Cfg:=mkCfg lf [64] (lookK []) [(90,X_numeric),(91,X_sseq),(92,X_lval)] (lookK [(7,[2]),(6,[2]),(5,[2,13]),(4,[2,0]),(3,[2,9]),(2,[2]),(1,[0,1,7]),(0,[0,1])]) [90,92] (lookK [(0,[2]),(1,[2])]) (some [2]) [] [(152,X_sseqf)] []
noncomputable def hvn_g0f {R:Type} (lf:Nat) (x'0:By) (xs:List By) (self:Unit→Option R) (k0:Unit→Option R) (k1:Unit→Option R):Option R:=cond (small (List.length x'0)) (cond (not (validL x'0)) (k1 ()) (self ())) (none)
noncomputable def hvn_g0 {R:Type} (lf:Nat) (L:List By) (k0:Unit→Option R) (k1:Unit→Option R):Option R:=recS (α:=Unit→Option R) (fun _=>k0 ()) (fun x'0 xs self _=>hvn_g0f lf x'0 xs self  k0 k1) L ()
theorem hvn_g0_s {R:Type} (lf:Nat) (x'0:By) (xs:List By) (k0:Unit→Option R) (k1:Unit→Option R):hvn_g0 lf (x'0::xs)  k0 k1=hvn_g0f lf x'0 xs (fun _=>hvn_g0 lf xs  k0 k1)  k0 k1:=rfl
theorem hvn_g0_eq (L:List By):roundsK #[13] (gp [(2,.ptr 0 0 0),(9,.fnr (Fn.func 152) [] [.bad,.bad,.bad])] 4) (bd (c_hvn lf) cl yh (cd [1,1,0,1,0,0] b_hvn)) (bd (c_hvn lf) cl yh (cd [1,1,0,1,0,1] b_hvn)) (L.map (fun (x'0:By)=>([.s (.str x'0)]:List PV))) [.box [.s (.bool false)],.dead,.dead,.dead] s (rgK (gp [(2,.ptr 0 0 0),(9,.fnr (Fn.func 152) [] [.bad,.bad,.bad])] 4) (fun H=>setAll H [2,1,3] [.box [.bad],.box [.bad],.box [.bad]]) k) =
 hvn_g0 lf L  (fun _=>k .normal ⟨gp [(2,.ptr 0 0 0),(9,.fnr (Fn.func 152) [] [.bad,.bad,.bad])] 4,[.box [.s (.bool false)],.box [.bad],.box [.bad],.box [.bad]],s⟩) (fun _=>k .ret ⟨gp [(2,.ptr 0 0 0),(9,.fnr (Fn.func 152) [] [.bad,.bad,.bad])] 4,[.box [.s (.bool false)],.box [.bad],.box [.bad],.box [.bad]],s⟩):=by
 induction L with
 | nil=>rfl
 | cons x'0 xs ih=>rw [hvn_g0_s];unfold hvn_g0f;exact (Eq.trans (by kernel_rfl) (cond_congr (cond_congr rfl ih) rfl))
noncomputable def hvn_e1 {R:Type} (lf:Nat) (s0:By) (k0:Unit→Option R) (k1:Unit→Option R):Option R:=cond ((small (List.length s0))&&((1==1)&&((0:Int)==(0:Int)))) (hvn_g0 lf (pcs (List.getD (([46]:List UInt8)) 0 0) s0)  k0 k1) none
abbrev hvn_e1_P (b:Code):Prop:=∀ (k:Out→St σ→Option R) (s0:By),evCode (c_hvn lf) cl yh b ⟨gp [(2,.ptr 0 0 0),(9,.fnr (Fn.func 152) [] [.ptr 2 0 0,.ptr 1 0 0,.ptr 3 0 0])] 4,[.box [.s (.bool false)],.box [.s (.str s0)],.box [.s (.str (([46]:List UInt8)))],.box [.s (.int .i64 (0:Int))]],s⟩ k=hvn_e1 lf s0 (fun _=>k .normal ⟨gp [(2,.ptr 0 0 0),(9,.fnr (Fn.func 152) [] [.bad,.bad,.bad])] 4,[.box [.s (.bool false)],.box [.bad],.box [.bad],.box [.bad]],s⟩) (fun _=>k .ret ⟨gp [(2,.ptr 0 0 0),(9,.fnr (Fn.func 152) [] [.bad,.bad,.bad])] 4,[.box [.s (.bool false)],.box [.bad],.box [.bad],.box [.bad]],s⟩)
theorem hvn_e1_eq:hvn_e1_P (R:=R) lf cl yh s (cd [1,1,0,1,0] b_hvn):=by
 intro k s0;unfold hvn_e1;exact ((ev_rg [1,1,0,1,0] (by kernel_rfl)).trans (by kernel_rfl)).trans (need_congr (hvn_g0_eq lf cl yh s k (pcs (List.getD (([46]:List UInt8)) 0 0) s0) ))
noncomputable def hvn {R:Type} (lf:Nat) (name0:By) (k0:Unit→Option R) (k1:Bool→Bool→Option R):Option R:=cond (ltI (253:Int) (↑(List.length name0):Int)) (k0 ()) (cond (small (List.length name0)) (cond (numericB name0) (k0 ()) (hvn_e1 lf name0 (fun _=>k1 true true) (fun _=>k1 false false))) (none))
theorem hvn_eq (b_11010:Code) (h_hvn_e1:hvn_e1_P (R:=PV × List Blk × σ) lf cl yh s b_11010) (name0:By):evCode (c_hvn lf) cl yh (cd [] (putC [1,1,0,1,0] b_11010 b_hvn)) ⟨[.s (.str name0)]++tps 16,[],s⟩ (retK (c_hvn lf) Tryz.f64)=hvn lf name0 (fun _=>some (.s (.bool false),[.box [.s (.bool false)]],s)) (fun r0 b1=>some (.s (.bool r0),[.box [.s (.bool b1)],.box [.bad],.box [.bad],.box [.bad]],s)):=by
 unfold hvn;exact (Eq.trans (by kernel_rfl) (cond_congr rfl (cond_congr (cond_congr rfl ((h_hvn_e1 (blkK 0 (seqK (c_hvn lf) cl yh (cd [1,1,1] b_hvn) (retK (c_hvn lf) Tryz.f64))) name0).trans (by kernel_rfl))) rfl)))
theorem hvn_ev (d:Nat) (name0:By):evC (c_hvn lf) (d+1) σ yh 64 [.s (.str name0)] [] s=hvn lf name0 (fun _=>some (.s (.bool false),[.box [.s (.bool false)]],s)) (fun r0 b1=>some (.s (.bool r0),[.box [.s (.bool b1)],.box [.bad],.box [.bad],.box [.bad]],s)):=
 (evC_eq (fn:=Tryz.f64) (by kernel_rfl) (by kernel_rfl) (by kernel_rfl)).trans (Eq.trans (by kernel_rfl) (hvn_eq lf (evC (c_hvn lf) d) yh s (cd [1,1,0,1,0] b_hvn) (hvn_e1_eq lf (evC (c_hvn lf) d) yh s) name0))
noncomputable abbrev b_sseqf:Code:=bodyOf Tryz.f152
noncomputable def c_sseqf (lf:Nat):Cfg:=mkCfg lf [152] (lookK [(5,[0,0,0,0]),(1,[0,1])]) [(153,X_drune),(154,X_sidx)] (lookK [(10,[]),(9,[0,0,0,0]),(8,[0,0,0,0,3,34]),(7,[0,0,0,0,3,0]),(6,[0,0,0,0,3,25]),(5,[0,0,0,0,3]),(4,[0,1]),(3,[0,1,3,18]),(2,[0,1,3]),(1,[0,1,11]),(0,[0,0,0,0,7])]) [154] (lookK [(2,[0,1]),(3,[0,0,0,0]),(0,[]),(1,[0,1])]) (some []) [] [] []
noncomputable def sseqf_l0f {σ R:Type} (yh:Yh σ) (lf n:Nat) (self:By→By→Int→σ→Option R) (s0 s1:By) (n2:Int) (s:σ) (k0:By→By→Int→σ→Option R):Option R:=cond (ltI (0:Int) (↑(List.length s1):Int)) (none) (k0 s0 s1 n2 s)
noncomputable def sseqf_l0 {σ R:Type} (yh:Yh σ) (lf n:Nat) (s0 s1:By) (n2:Int) (s:σ) (k0:By→By→Int→σ→Option R):Option R:=recN (α:=By→By→Int→σ→Option R) (fun _ _ _ _=>none) (fun n self s0 s1 n2 s=>sseqf_l0f yh lf n self s0 s1 n2 s k0) n s0 s1 n2 s
theorem sseqf_l0_s {σ R:Type} (yh:Yh σ) (lf n:Nat) (s0 s1:By) (n2:Int) (s:σ) (k0:By→By→Int→σ→Option R):sseqf_l0 yh lf (n+1) s0 s1 n2 s k0=sseqf_l0f yh lf n (fun s0 s1 n2 s=>sseqf_l0 yh lf n s0 s1 n2 s k0) s0 s1 n2 s k0:=rfl
theorem sseqf_l0_eq (n:Nat) (s0 s1:By) (n2:Int) (s:σ):loopK 3 ((c_sseqf lf).keep 1) (bd (c_sseqf lf) cl yh (cd [0,1,0,0,0,0] b_sseqf)) n ⟨gp [(0,.yd),(1,.ptr 1 0 0)] 49,[.box [.s (.str s0)],.box [.s (.str s1)],.box [.s (.int .i64 n2)]],s⟩ k =
 sseqf_l0 yh lf n s0 s1 n2 s (fun s0 s1 n2 s=>k (.exit 0) ⟨gp [] 52,[.box [.s (.str s0)],.box [.s (.str s1)],.box [.s (.int .i64 n2)]],s⟩):=by
 induction n generalizing s0 s1 n2 s with
 | zero=>rfl
 | succ n ih=>rw [sseqf_l0_s];unfold sseqf_l0f;kernel_rfl
noncomputable def sseqf_l1f {σ R:Type} (yh:Yh σ) (lf n:Nat) (self:By→By→Int→σ→Option R) (s0 s1:By) (n2:Int) (s:σ) (k0:By→By→Int→σ→Option R) (k1:By→By→Int→σ→Option R):Option R:=
 cond (small (List.length s1))
 (cond (ltI (Lib.index s1 s0) (0:Int))
  (k0 s0 s1 n2 s)
  (vl (wi64 ((Lib.index s1 s0)+n2)) fun n'5=>
  cond (sub3 (0:Int) n'5 (List.length s1))
   (ydK (yh [.s (.str (cut s1 (0:Int) n'5))] s) fun by'6 s'y6=>
   (cond (not by'6)
    (k1 s0 s1 n2 s'y6)
    (vl (wi64 ((Lib.index s1 s0)+(↑(List.length s0):Int))) fun n'7=>
    cond (sub3 n'7 (↑(List.length s1):Int) (List.length s1))
     (vl (cut s1 n'7 (↑(List.length s1):Int)) fun s'8=>
     self s0 s'8 n2 s'y6)
     (none))))
   (none)))
 (none)
noncomputable def sseqf_l1 {σ R:Type} (yh:Yh σ) (lf n:Nat) (s0 s1:By) (n2:Int) (s:σ) (k0:By→By→Int→σ→Option R) (k1:By→By→Int→σ→Option R):Option R:=recN (α:=By→By→Int→σ→Option R) (fun _ _ _ _=>none) (fun n self s0 s1 n2 s=>sseqf_l1f yh lf n self s0 s1 n2 s k0 k1) n s0 s1 n2 s
theorem sseqf_l1_s {σ R:Type} (yh:Yh σ) (lf n:Nat) (s0 s1:By) (n2:Int) (s:σ) (k0:By→By→Int→σ→Option R) (k1:By→By→Int→σ→Option R):sseqf_l1 yh lf (n+1) s0 s1 n2 s k0 k1=sseqf_l1f yh lf n (fun s0 s1 n2 s=>sseqf_l1 yh lf n s0 s1 n2 s k0 k1) s0 s1 n2 s k0 k1:=rfl
theorem sseqf_l1_eq (n:Nat) (s0 s1:By) (n2:Int) (s:σ):loopK 3 ((c_sseqf lf).keep 5) (bd (c_sseqf lf) cl yh (cd [1,0,0,0] b_sseqf)) n ⟨gp [(0,.yd),(0,.ptr 0 0 0),(0,.ptr 1 0 0),(0,.ptr 2 0 0)] 48,[.box [.s (.str s0)],.box [.s (.str s1)],.box [.s (.int .i64 n2)]],s⟩ k =
 sseqf_l1 yh lf n s0 s1 n2 s (fun s0 s1 n2 s=>k (.exit 2) ⟨gp [(0,.yd),(1,.ptr 1 0 0)] 49,[.box [.s (.str s0)],.box [.s (.str s1)],.box [.s (.int .i64 n2)]],s⟩) (fun s0 s1 n2 s=>k .ret ⟨gp [] 52,[.box [.s (.str s0)],.box [.s (.str s1)],.box [.s (.int .i64 n2)]],s⟩):=by
 induction n generalizing s0 s1 n2 s with
 | zero=>rfl
 | succ n ih=>rw [sseqf_l1_s];unfold sseqf_l1f;exact (Eq.trans (by kernel_rfl) (cond_congr (cond_congr rfl (vl_congr fun n'5=>(cond_congr (yd_congr fun by'6 s'y6=>(cond_congr rfl (vl_congr fun n'7=>(cond_congr (vl_congr fun s'8=>(ih s0 s'8 n2 s'y6)) rfl)))) rfl))) rfl))
noncomputable def sseqf {σ R:Type} (yh:Yh σ) (lf:Nat) (p t:By) (n:Int) (s:σ) (k0:By→By→Int→σ→Option R):Option R:=
 cond ((↑(List.length p):Int)==(0:Int))
 (sseqf_l0 yh lf lf p t n s (fun s'0 s'1 n'2 s'3=>k0 s'0 s'1 n'2 s'3))
 (sseqf_l1 yh lf lf p t n s (fun s'9 s'10 n'11 s'12=>ydK (yh [.s (.str s'10)] s'12) fun by'17 s'y17=>
  (k0 s'9 s'10 n'11 s'y17)) (fun s'13 s'14 n'15 s'16=>k0 s'13 s'14 n'15 s'16))
theorem sseqf_ev (d:Nat) (p t:By) (n:Int) (s:σ):evC (c_sseqf lf) (d+1) σ yh 152 [.yd,.ptr 0 0 0,.ptr 1 0 0,.ptr 2 0 0] [.box [.s (.str p)],.box [.s (.str t)],.box [.s (.int .i64 n)]] s=sseqf yh lf p t n s (fun s0 s1 n2 s=>some (.tup [],[.box [.s (.str s0)],.box [.s (.str s1)],.box [.s (.int .i64 n2)]],s)):=by
 refine (evC_eq (fn:=Tryz.f152) (by kernel_rfl) (by kernel_rfl) (by kernel_rfl)).trans ?_
 generalize evC (c_sseqf lf) d=cl
 unfold sseqf;exact (Eq.trans (by kernel_rfl) (cond_congr ((sseqf_l0_eq lf cl yh (blkK 0 (seqK (c_sseqf lf) cl yh (cd [0,1,0,1] b_sseqf) (seqK (c_sseqf lf) cl yh (cd [1] b_sseqf) (retK (c_sseqf lf) Tryz.f152)))) lf p t n s).trans (by kernel_rfl)) ((sseqf_l1_eq lf cl yh (blkK 2 (seqK (c_sseqf lf) cl yh (cd [1,1] b_sseqf) (retK (c_sseqf lf) Tryz.f152))) lf p t n s).trans (by kernel_rfl))))
end
end Go.Proofs.YtcfingekgbbclaaGreatDoor.E
namespace Go.Proofs.YtcfingekgbbclaaGreatDoor.E
open Go Go.Proofs 
set_option linter.unusedVariables false
set_option maxRecDepth 100000
section
variable {σ R : Type} (lf : Nat) (cl : CallT) (yh : Yh σ) (s : σ) (k : Out → St σ → Option R)
noncomputable abbrev b_grpc:Code:=bodyOf Tryz.f179
noncomputable def c_grpc (lf:Nat):Cfg:=mkCfg lf [179] (lookK [(5,[0,1,0,0,10,0])]) [] (lookK [(16,[2,0]),(15,[0,3,10,0]),(10,[0,3,10,0]),(12,[0,3,10,0]),(14,[0,3,10,0]),(8,[2,0]),(13,[0,3,1,8,0,32]),(11,[0,3,1,8,0,18]),(9,[0,3,1,8,0,5]),(7,[0,3,1,8,0]),(6,[0,3,0,9,0]),(5,[0,3,10,0,0]),(4,[0,3,10,0]),(3,[0,3]),(2,[2,0]),(1,[0,12]),(0,[0])]) [] (lookK [(0,[4]),(1,[0,3,10,0]),(2,[0,3,10,0])]) (some [2,0]) [] [] []
noncomputable def grpc_j0 {R:Type} (s0:By) (v1 b2 n3 n4:Int) (b5:Bool) (k0:By→Int→Int→Int→Option R) (k1:Unit→Option R):Option R:=cond b5 (vl (wu8 ((wu8 (b2-(65:Int)))+(10:Int))) fun n'4=>vl (bOr .u16 (shlI .u16 v1 (4:Int)) (wu16 n'4)) fun n'5=>k0 s0 n'5 n3 n4) (k1 ())
abbrev grpc_j0_P (b:Code):Prop:=∀ (k:Out→St σ→Option R) (s0:By) (v1 b2 n3 n4:Int) (b5:Bool),evCode (c_grpc lf) cl yh b ⟨gp [(0,.s (.str s0)),(3,.s (.int .u16 v1)),(1,.s (.int .u8 b2)),(8,.s (.int .i64 n3)),(0,.s (.int .i64 n4)),(32,.s (.bool b5))] 15,[],s⟩ k=grpc_j0 s0 v1 b2 n3 n4 b5 (fun s0 v1 n2 n3=>k .normal ⟨gp [(0,.s (.str s0)),(3,.s (.int .u16 v1)),(10,.s (.int .i64 n2)),(0,.s (.int .i64 n3))] 48,[],s⟩) (fun _=>k .ret ⟨gp [(2,.s (.int .u16 (0:Int))),(0,.s (.bool false))] 61,[],s⟩)
theorem grpc_j0_eq:grpc_j0_P (R:=R) lf cl yh s (cd [1,1,1,0,1,0,0,1,1,0,0,1,1,0,1,1,1,1,1] b_grpc):=by
 intro k s0 v1 b2 n3 n4 b5;unfold grpc_j0;kernel_rfl
noncomputable def grpc_j1 {R:Type} (s0:By) (v1 b2 n3 n4:Int) (b5:Bool) (k0:By→Int→Int→Int→Option R) (k1:Unit→Option R):Option R:=cond b5 (vl (wu8 ((wu8 (b2-(97:Int)))+(10:Int))) fun n'2=>vl (bOr .u16 (shlI .u16 v1 (4:Int)) (wu16 n'2)) fun n'3=>k0 s0 n'3 n3 n4) (cond (not (ltI b2 (65:Int))) (grpc_j0 s0 v1 b2 n3 n4 (not (ltI (70:Int) b2)) (fun s'6 v'7 n'8 n'9=>k0 s'6 v'7 n'8 n'9) (fun _=>k1 ())) (grpc_j0 s0 v1 b2 n3 n4 false (fun s'10 v'11 n'12 n'13=>k0 s'10 v'11 n'12 n'13) (fun _=>k1 ())))
abbrev grpc_j1_P (b:Code):Prop:=∀ (k:Out→St σ→Option R) (s0:By) (v1 b2 n3 n4:Int) (b5:Bool),evCode (c_grpc lf) cl yh b ⟨gp [(0,.s (.str s0)),(3,.s (.int .u16 v1)),(1,.s (.int .u8 b2)),(8,.s (.int .i64 n3)),(0,.s (.int .i64 n4)),(18,.s (.bool b5))] 29,[],s⟩ k=grpc_j1 s0 v1 b2 n3 n4 b5 (fun s0 v1 n2 n3=>k .normal ⟨gp [(0,.s (.str s0)),(3,.s (.int .u16 v1)),(10,.s (.int .i64 n2)),(0,.s (.int .i64 n3))] 48,[],s⟩) (fun _=>k .ret ⟨gp [(2,.s (.int .u16 (0:Int))),(0,.s (.bool false))] 61,[],s⟩)
theorem grpc_j1_eq (b_1110100110011011111:Code) (h_grpc_j0:grpc_j0_P (R:=R) lf cl yh s b_1110100110011011111):grpc_j1_P (R:=R) lf cl yh s (cd [1,1,1,0,1,0,0,1,1,0,0,1,1,0,1,1,1] (putC [1,1,1,0,1,0,0,1,1,0,0,1,1,0,1,1,1,1,1] b_1110100110011011111 b_grpc)):=by
 intro k s0 v1 b2 n3 n4 b5;unfold grpc_j1;exact (Eq.trans (by kernel_rfl) (cond_congr (vl_congr fun n'2=>(vl_congr fun n'3=>rfl)) (cond_congr ((h_grpc_j0 k s0 v1 b2 n3 n4 (not (ltI (70:Int) b2))).trans (by kernel_rfl)) ((h_grpc_j0 k s0 v1 b2 n3 n4 false).trans (by kernel_rfl)))))
theorem grpc_j1_fu:grpc_j1_P (R:=R) lf cl yh s (cd [1,1,1,0,1,0,0,1,1,0,0,1,1,0,1,1,1] b_grpc):=by
 intro k s0 v1 b2 n3 n4 b5;exact Eq.trans (by kernel_rfl) (grpc_j1_eq lf cl yh s (cd [1,1,1,0,1,0,0,1,1,0,0,1,1,0,1,1,1,1,1] b_grpc) (grpc_j0_eq lf cl yh s) k s0 v1 b2 n3 n4 b5)
noncomputable def grpc_j2 {R:Type} (s0:By) (v1 b2 n3 n4:Int) (b5:Bool) (k0:By→Int→Int→Int→Option R) (k1:Unit→Option R):Option R:=cond b5 (vl (wu16 (wu8 (b2-(48:Int)))) fun n'0=>vl (bOr .u16 (shlI .u16 v1 (4:Int)) n'0) fun n'1=>k0 s0 n'1 n3 n4) (cond (not (ltI b2 (97:Int))) (grpc_j1 s0 v1 b2 n3 n4 (not (ltI (102:Int) b2)) (fun s'14 v'15 n'16 n'17=>k0 s'14 v'15 n'16 n'17) (fun _=>k1 ())) (grpc_j1 s0 v1 b2 n3 n4 false (fun s'18 v'19 n'20 n'21=>k0 s'18 v'19 n'20 n'21) (fun _=>k1 ())))
abbrev grpc_j2_P (b:Code):Prop:=∀ (k:Out→St σ→Option R) (s0:By) (v1 b2 n3 n4:Int) (b5:Bool),evCode (c_grpc lf) cl yh b ⟨gp [(0,.s (.str s0)),(3,.s (.int .u16 v1)),(1,.s (.int .u8 b2)),(8,.s (.int .i64 n3)),(0,.s (.int .i64 n4)),(5,.s (.bool b5))] 42,[],s⟩ k=grpc_j2 s0 v1 b2 n3 n4 b5 (fun s0 v1 n2 n3=>k .normal ⟨gp [(0,.s (.str s0)),(3,.s (.int .u16 v1)),(10,.s (.int .i64 n2)),(0,.s (.int .i64 n3))] 48,[],s⟩) (fun _=>k .ret ⟨gp [(2,.s (.int .u16 (0:Int))),(0,.s (.bool false))] 61,[],s⟩)
theorem grpc_j2_eq (b_11101001100110111:Code) (h_grpc_j1:grpc_j1_P (R:=R) lf cl yh s b_11101001100110111):grpc_j2_P (R:=R) lf cl yh s (cd [1,1,1,0,1,0,0,1,1,0,0,1,1,0,1] (putC [1,1,1,0,1,0,0,1,1,0,0,1,1,0,1,1,1] b_11101001100110111 b_grpc)):=by
 intro k s0 v1 b2 n3 n4 b5;unfold grpc_j2;exact (Eq.trans (by kernel_rfl) (cond_congr (vl_congr fun n'0=>(vl_congr fun n'1=>rfl)) (cond_congr ((h_grpc_j1 k s0 v1 b2 n3 n4 (not (ltI (102:Int) b2))).trans (by kernel_rfl)) ((h_grpc_j1 k s0 v1 b2 n3 n4 false).trans (by kernel_rfl)))))
theorem grpc_j2_fu:grpc_j2_P (R:=R) lf cl yh s (cd [1,1,1,0,1,0,0,1,1,0,0,1,1,0,1] b_grpc):=by
 intro k s0 v1 b2 n3 n4 b5;exact Eq.trans (by kernel_rfl) (grpc_j2_eq lf cl yh s (cd [1,1,1,0,1,0,0,1,1,0,0,1,1,0,1,1,1] b_grpc) (grpc_j1_fu lf cl yh s) k s0 v1 b2 n3 n4 b5)
noncomputable def grpc_l0f {R:Type} (lf n:Nat) (self:By→Int→Int→Int→Option R) (s0:By) (v1 n2 n3:Int) (k0:Unit→Option R) (k1:Int→Option R):Option R:=cond (ltI n3 n2) (cond (inR n3 (List.length s0)) (cond (not (ltI (bAt s0 n3) (48:Int))) (grpc_j2 s0 v1 (bAt s0 n3) n2 n3 (not (ltI (57:Int) (bAt s0 n3))) (fun s'22 v'23 n'24 n'25=>vl (wi64 (n'25+(1:Int))) fun n'26=>self s'22 v'23 n'24 n'26) (fun _=>k0 ())) (grpc_j2 s0 v1 (bAt s0 n3) n2 n3 false (fun s'27 v'28 n'29 n'30=>vl (wi64 (n'30+(1:Int))) fun n'31=>self s'27 v'28 n'29 n'31) (fun _=>k0 ()))) (none)) (k1 v1)
noncomputable def grpc_l0 {R:Type} (lf n:Nat) (s0:By) (v1 n2 n3:Int) (k0:Unit→Option R) (k1:Int→Option R):Option R:=recN (α:=By→Int→Int→Int→Option R) (fun _ _ _ _=>none) (fun n self s0 v1 n2 n3=>grpc_l0f lf n self s0 v1 n2 n3 k0 k1) n s0 v1 n2 n3
theorem grpc_l0_s {R:Type} (lf n:Nat) (s0:By) (v1 n2 n3:Int) (k0:Unit→Option R) (k1:Int→Option R):grpc_l0 lf (n+1) s0 v1 n2 n3 k0 k1=grpc_l0f lf n (fun s0 v1 n2 n3=>grpc_l0 lf n s0 v1 n2 n3 k0 k1) s0 v1 n2 n3 k0 k1:=rfl
theorem grpc_l0_eq (b_111010011001101:Code) (h_grpc_j2:grpc_j2_P (R:=R) lf cl yh s b_111010011001101) (n:Nat) (s0:By) (v1 n2 n3:Int):loopK 0 ((c_grpc lf).keep 5) (bd (c_grpc lf) cl yh (cd [1,1,1,0,1,0,0] (putC [1,1,1,0,1,0,0,1,1,0,0,1,1,0,1] b_111010011001101 b_grpc))) n ⟨gp [(0,.s (.str s0)),(3,.s (.int .u16 v1)),(10,.s (.int .i64 n2)),(0,.s (.int .i64 n3))] 48,[],s⟩ k =
 grpc_l0 lf n s0 v1 n2 n3 (fun _=>k .ret ⟨gp [(2,.s (.int .u16 (0:Int))),(0,.s (.bool false))] 61,[],s⟩) (fun v0=>k (.exit 0) ⟨gp [(4,.s (.int .u16 v0))] 60,[],s⟩):=by
 induction n generalizing s0 v1 n2 n3 with
 | zero=>rfl
 | succ n ih=>rw [grpc_l0_s];unfold grpc_l0f;exact let K0:=(blkK 2 (blkK 1 (seqK (c_grpc lf) cl yh (cd [1,1,1,0,1,0,0,1,1,1] b_grpc) (lpK 0 ((c_grpc lf).keep 5) (bd (c_grpc lf) cl yh (cd [1,1,1,0,1,0,0] (putC [1,1,1,0,1,0,0,1,1,0,0,1,1,0,1] b_111010011001101 b_grpc))) n k))));(Eq.trans (by kernel_rfl) (cond_congr (cond_congr (cond_congr ((h_grpc_j2 K0 s0 v1 (bAt s0 n3) n2 n3 (not (ltI (57:Int) (bAt s0 n3)))).trans (congr (congr rfl (fx4 fun s'22 v'23 n'24 n'25=>(Eq.trans (by kernel_rfl) (vl_congr fun n'26=>(ih s'22 v'23 n'24 n'26))))) (by kernel_rfl))) ((h_grpc_j2 K0 s0 v1 (bAt s0 n3) n2 n3 false).trans (congr (congr rfl (fx4 fun s'27 v'28 n'29 n'30=>(Eq.trans (by kernel_rfl) (vl_congr fun n'31=>(ih s'27 v'28 n'29 n'31))))) (by kernel_rfl)))) rfl) rfl))
noncomputable def grpc {R:Type} (lf:Nat) (s0:By) (k0:Int→Bool→Option R):Option R:=cond (s0==([]:List UInt8)) (k0 0 false) (cond (ltI (4:Int) (↑(List.length s0):Int)) (k0 0 false) (grpc_l0 lf lf s0 0 (↑(List.length s0):Int) 0 (fun _=>k0 0 false) (fun v'32=>k0 v'32 true)))
theorem grpc_eq (b_111010011001101:Code) (h_grpc_j2:grpc_j2_P (R:=PV × List Blk × σ) lf cl yh s b_111010011001101) (s0:By):evCode (c_grpc lf) cl yh (cd [] (putC [1,1,1,0,1,0,0,1,1,0,0,1,1,0,1] b_111010011001101 b_grpc)) ⟨[.s (.str s0)]++tps 64,[],s⟩ (retK (c_grpc lf) Tryz.f179)=grpc lf s0 (fun r0 r1=>some (.tup [.s (.int .u16 r0),.s (.bool r1)],[],s)):=by
 unfold grpc;exact (Eq.trans (by kernel_rfl) (cond_congr rfl (cond_congr rfl ((grpc_l0_eq lf cl yh s (blkK 0 (seqK (c_grpc lf) cl yh (cd [1,1,1,1] b_grpc) (retK (c_grpc lf) Tryz.f179))) b_111010011001101 h_grpc_j2 lf s0 0 (↑(List.length s0):Int) 0).trans (by kernel_rfl)))))
theorem grpc_ev (d:Nat) (s0:By):evC (c_grpc lf) (d+1) σ yh 179 [.s (.str s0)] [] s=grpc lf s0 (fun r0 r1=>some (.tup [.s (.int .u16 r0),.s (.bool r1)],[],s)):=
 (evC_eq (fn:=Tryz.f179) (by kernel_rfl) (by kernel_rfl) (by kernel_rfl)).trans (Eq.trans (by kernel_rfl) (grpc_eq lf (evC (c_grpc lf) d) yh s (cd [1,1,1,0,1,0,0,1,1,0,0,1,1,0,1] b_grpc) (grpc_j2_fu lf (evC (c_grpc lf) d) yh s) s0))
noncomputable abbrev b_grpsc:Code:=bodyOf Tryz.f164
noncomputable def c_grpsc (lf:Nat):Cfg:=mkCfg lf [164] (lookK [(6,[1,2,0,0,0,10,0,0])]) [(109,X_ssplit),(179,X_grpc),(180,X_v4p)] (lookK [(16,[4,0]),(15,[1,4,0,10,0,0]),(14,[6]),(13,[4,0]),(12,[6,5,39]),(11,[1,4,0,0,3,0]),(10,[1,4,0,10,0,0]),(9,[1,4,0,0,0,0,7,0,0,9]),(8,[1,4,0,0,0,0,0,6,0,0]),(7,[1,4,0,0,0,8,0,0]),(6,[1,4,0,10,0,0,0]),(5,[1,4,0,10,0,0]),(4,[1,4,0]),(3,[0,0,4]),(2,[4,0]),(1,[0,0,13]),(0,[0,0])]) [179,180] (lookK [(0,[6]),(1,[1,4,0,10,0,0])]) (some [4,0]) [] [] []
noncomputable def grpsc_l0f {R:Type} (lf n:Nat) (self:Bool→LL→Int→Int→LL→Option R) (last0:Bool) (l1:LL) (n2 n3:Int) (l4:LL) (k0:LL→Option R) (k1:LL→Option R):Option R:=cond (ltI n3 n2) (cond (inR n3 (List.length l1)) (cond (okE tStr l1 (Int.toNat n3) 0) (cond (small (List.length (gX l1 (Int.toNat n3) 0))) (vl (↑(optN (grp (gX l1 (Int.toNat n3) 0))):Int) fun n'3=>cond (Option.isSome (grp (gX l1 (Int.toNat n3) 0))) (cond (roomy ((List.length l4)+1)) (self last0 l1 n2 (wi64 (n3+(1:Int))) (l4++[[(SV.int .u16 n'3)]])) (none)) (cond (small (List.length (gX l1 (Int.toNat n3) 0))) (vl (↑(optN (v4B (gX l1 (Int.toNat n3) 0))):Int) fun n'5=>cond (not (Option.isSome (v4B (gX l1 (Int.toNat n3) 0)))) (k0 l4) (cond (not last0) (k0 l4) (vl (wi64 ((↑(List.length l1):Int)-(1:Int))) fun n'7=>cond (ltI n3 n'7) (k0 l4) (vl (shrI .u32 n'5 (16:Int)) fun n'8=>cond (roomy ((List.length l4)+2)) (k1 (l4++[[(SV.int .u16 (wu16 n'8))],[(SV.int .u16 (wu16 n'5))]])) (none))))) (none))) (none)) (none)) (none)) (k1 l4)
noncomputable def grpsc_l0 {R:Type} (lf n:Nat) (last0:Bool) (l1:LL) (n2 n3:Int) (l4:LL) (k0:LL→Option R) (k1:LL→Option R):Option R:=recN (α:=Bool→LL→Int→Int→LL→Option R) (fun _ _ _ _ _=>none) (fun n self last0 l1 n2 n3 l4=>grpsc_l0f lf n self last0 l1 n2 n3 l4 k0 k1) n last0 l1 n2 n3 l4
theorem grpsc_l0_s {R:Type} (lf n:Nat) (last0:Bool) (l1:LL) (n2 n3:Int) (l4:LL) (k0:LL→Option R) (k1:LL→Option R):grpsc_l0 lf (n+1) last0 l1 n2 n3 l4 k0 k1=grpsc_l0f lf n (fun last0 l1 n2 n3 l4=>grpsc_l0 lf n last0 l1 n2 n3 l4 k0 k1) last0 l1 n2 n3 l4 k0 k1:=rfl
theorem grpsc_l0_eq (n:Nat) (last0:Bool) (l1:LL) (n2 n3:Int) (l4:LL):loopK 1 ((c_grpsc lf).keep 6) (bd (c_grpsc lf) cl yh (cd [1,0,1,1,1,1,0,1,0,0] b_grpsc)) n ⟨gp [(1,.s (.bool last0)),(4,.fl 0),(0,.s (.sl false false 1 l1)),(10,.s (.sl false false 1 l1)),(0,.s (.int .i64 n2)),(0,.s (.int .i64 n3))] 42,[.arr true 24 1 l4],s⟩ k =
 grpsc_l0 lf n last0 l1 n2 n3 l4 (fun l0=>k .ret ⟨gp [(4,.fl 1),(0,.s (.bool false))] 57,[.arr true 24 1 l0,.arr true 24 1 []],s⟩) (fun l0=>k (.exit 0) ⟨gp [(6,.fl 0)] 56,[.arr true 24 1 l0],s⟩):=by
 induction n generalizing last0 l1 n2 n3 l4 with
 | zero=>rfl
 | succ n ih=>rw [grpsc_l0_s];unfold grpsc_l0f;exact (Eq.trans (by kernel_rfl) (cond_congr (cond_congr (cond_congr (cond_congr (vl_congr fun n'3=>(cond_congr (cond_congr (ih last0 l1 n2 (wi64 (n3+(1:Int))) (l4++[[(SV.int .u16 n'3)]])) rfl) (cond_congr (vl_congr fun n'5=>(cond_congr rfl (cond_congr rfl (vl_congr fun n'7=>(cond_congr rfl (vl_congr fun n'8=>(cond_congr rfl rfl))))))) rfl))) rfl) rfl) rfl) rfl))
noncomputable def grpsc {R:Type} (lf:Nat) (s0:By) (last1:Bool) (k0:LL→Option R) (k1:LL→Option R):Option R:=cond (s0==([]:List UInt8)) (k0 []) (cond (small (List.length s0)) (cond (1==1) (vl (strE (pcs (List.getD (([58]:List UInt8)) 0 0) s0)) fun l'1=>grpsc_l0 lf lf last1 l'1 (↑(List.length l'1):Int) 0 [] (fun l'9=>k1 l'9) (fun l'10=>k0 l'10)) (none)) (none))
theorem grpsc_ev (d:Nat) (s0:By) (last1:Bool):evC (c_grpsc lf) (d+1) σ yh 164 [.s (.str s0),.s (.bool last1)] [] s=grpsc lf s0 last1 (fun l0=>some (.tup [.fl 0,.s (.bool true)],[.arr true 24 1 l0],s)) (fun l0=>some (.tup [.fl 1,.s (.bool false)],[.arr true 24 1 l0,.arr true 24 1 []],s)):=by
 refine (evC_eq (fn:=Tryz.f164) (by kernel_rfl) (by kernel_rfl) (by kernel_rfl)).trans ?_
 generalize evC (c_grpsc lf) d=cl
 unfold grpsc;exact (Eq.trans (by kernel_rfl) (cond_congr rfl (cond_congr (cond_congr (vl_congr fun l'1=>((grpsc_l0_eq lf cl yh s (blkK 0 (seqK (c_grpsc lf) cl yh (cd [1,0,1,1,1,1,1] b_grpsc) (retK (c_grpsc lf) Tryz.f164))) lf last1 l'1 (↑(List.length l'1):Int) 0 []).trans (by kernel_rfl))) rfl) rfl)))
noncomputable abbrev b_v6p:Code:=bodyOf Tryz.f135
noncomputable def c_v6p (lf:Nat):Cfg:=mkCfg lf [135] (lookK []) [(54,X_scut),(164,X_grpsc)] (lookK [(10,[2,0]),(9,[2,1]),(8,[2,1,5]),(7,[2,0]),(6,[2,1,3,1,45]),(5,[2,1,2,0,0,0,0,0]),(4,[2,1,2,0,0,0,0]),(3,[2,1,1,0,0,0]),(2,[2,1,0,0,0]),(1,[0,1,1]),(0,[0,1])]) [54] (lookK []) (some [2,0]) [] [] []
noncomputable def v6p_j0 {R:Type} (x1 y3 l5:LL) (k0:LL→LL→Option R):Option R:=cond (decide ((List.length l5)=8)) (cond (decide (8≤(List.length l5))) (vl ((List.take 0 l5)++((List.take 8 x1)++(List.drop (0+(min (List.length x1) 8)) l5))) fun l'9=>vl (wi64 ((8:Int)-(↑(List.length y3):Int))) fun n'10=>cond (decide ((List.length l'9)=8)) (cond (sub3 n'10 (8:Int) 8) (cond (decide (((Int.toNat n'10)+(8-(Int.toNat n'10)))≤(List.length l'9))) (vl ((List.take (Int.toNat n'10) l'9)++((List.take (8-(Int.toNat n'10)) y3)++(List.drop ((Int.toNat n'10)+(min (List.length y3) (8-(Int.toNat n'10)))) l'9))) fun l'11=>cond ((decide (8=((List.length l'11)*1)))&&(okS ⟨true,true,[.int .u16,.int .u16,.int .u16,.int .u16,.int .u16,.int .u16,.int .u16,.int .u16]⟩ (List.flatten l'11) 0)) (vl (SV.gI (List.getD (List.flatten l'11) 0 SV.nilp)) fun n'12=>vl (SV.gI (List.getD (List.flatten l'11) 1 SV.nilp)) fun n'13=>vl (SV.gI (List.getD (List.flatten l'11) 2 SV.nilp)) fun n'14=>vl (SV.gI (List.getD (List.flatten l'11) 3 SV.nilp)) fun n'15=>vl (SV.gI (List.getD (List.flatten l'11) 4 SV.nilp)) fun n'16=>vl (SV.gI (List.getD (List.flatten l'11) 5 SV.nilp)) fun n'17=>vl (SV.gI (List.getD (List.flatten l'11) 6 SV.nilp)) fun n'18=>vl (SV.gI (List.getD (List.flatten l'11) 7 SV.nilp)) fun n'19=>cond (decide (8=((List.length l5)*1))) (vl (chunk 1 (List.length l5) [(SV.int .u16 n'12),(SV.int .u16 n'13),(SV.int .u16 n'14),(SV.int .u16 n'15),(SV.int .u16 n'16),(SV.int .u16 n'17),(SV.int .u16 n'18),(SV.int .u16 n'19)]) fun l'20=>k0 l'20 l'11) (none)) (none)) (none)) (none)) (none)) (none)) (none)
abbrev v6p_j0_P (b:Code):Prop:=∀ (k:Out→St σ→Option R) (x_z0:Bool) (x1:LL) (y_z2:Bool) (y3:LL) (b4:Bool) (l5:LL),evCode (c_v6p lf) cl yh b ⟨gp [(2,.ptr 0 0 0),(1,.ptr 1 0 0),(3,.s (.sl x_z0 x_z0 1 x1)),(1,.s (.sl y_z2 y_z2 1 y3)),(45,.s (.bool b4))] 11,[.arr false 25 1 l5,.arr false 25 1 l5],s⟩ k=v6p_j0 x1 y3 l5 (fun l0 l1=>k .ret ⟨gp [(2,.ptr 0 0 0),(0,.s (.bool true))] 64,[.arr false 25 1 l0,.arr false 25 1 l1],s⟩)
theorem v6p_j0_eq:v6p_j0_P (R:=R) lf cl yh s (cd [1,1,1,1,1,1,1] b_v6p):=by
 intro k x_z0 x1 y_z2 y3 b4 l5;unfold v6p_j0;kernel_rfl
noncomputable def v6p {R:Type} (lf:Nat) (s0:By) (k0:Int→Int→Int→Int→Int→Int→Int→Int→Bool→LL→LL→Option R):Option R:=cond (small (List.length s0)) (vl ((Lib.cut s0 (([58,58]:List UInt8)))).1 fun s'2=>vl (((Lib.cut s0 (([58,58]:List UInt8)))).2).1 fun s'3=>cond (small (List.length s'2)) (vl (u16E (gvs s'2 (not (((Lib.cut s0 (([58,58]:List UInt8)))).2).2))) fun l'5=>cond (small (List.length s'3)) (vl (wi64 ((↑(List.length l'5):Int)+(↑(List.length (u16E (gvs s'3 true))):Int))) fun n'7=>cond (not (Option.isSome (grpsB s'2 (not (((Lib.cut s0 (([58,58]:List UInt8)))).2).2)))) (k0 0 0 0 0 0 0 0 0 false (List.replicate 8 [(SV.int .u16 (0:Int))]) (List.replicate 8 [(SV.int .u16 (0:Int))])) (cond (not (Option.isSome (grpsB s'3 true))) (k0 0 0 0 0 0 0 0 0 false (List.replicate 8 [(SV.int .u16 (0:Int))]) (List.replicate 8 [(SV.int .u16 (0:Int))])) (cond (not (((Lib.cut s0 (([58,58]:List UInt8)))).2).2) (cond (n'7 != (8:Int)) (k0 0 0 0 0 0 0 0 0 false (List.replicate 8 [(SV.int .u16 (0:Int))]) (List.replicate 8 [(SV.int .u16 (0:Int))])) (cond (((Lib.cut s0 (([58,58]:List UInt8)))).2).2 (cond (ltI (7:Int) n'7) (k0 0 0 0 0 0 0 0 0 false (List.replicate 8 [(SV.int .u16 (0:Int))]) (List.replicate 8 [(SV.int .u16 (0:Int))])) (v6p_j0 l'5 (u16E (gvs s'3 true)) (List.replicate 8 [(SV.int .u16 (0:Int))]) (fun l'21 l'22=>cond ((decide (8=((List.length l'21)*1)))&&(okS ⟨true,true,[.int .u16,.int .u16,.int .u16,.int .u16,.int .u16,.int .u16,.int .u16,.int .u16]⟩ (List.flatten l'21) 0)) (k0 (SV.gI (List.getD (List.flatten l'21) 0 SV.nilp)) (SV.gI (List.getD (List.flatten l'21) 1 SV.nilp)) (SV.gI (List.getD (List.flatten l'21) 2 SV.nilp)) (SV.gI (List.getD (List.flatten l'21) 3 SV.nilp)) (SV.gI (List.getD (List.flatten l'21) 4 SV.nilp)) (SV.gI (List.getD (List.flatten l'21) 5 SV.nilp)) (SV.gI (List.getD (List.flatten l'21) 6 SV.nilp)) (SV.gI (List.getD (List.flatten l'21) 7 SV.nilp)) true l'21 l'22) (none)))) (v6p_j0 l'5 (u16E (gvs s'3 true)) (List.replicate 8 [(SV.int .u16 (0:Int))]) (fun l'23 l'24=>cond ((decide (8=((List.length l'23)*1)))&&(okS ⟨true,true,[.int .u16,.int .u16,.int .u16,.int .u16,.int .u16,.int .u16,.int .u16,.int .u16]⟩ (List.flatten l'23) 0)) (k0 (SV.gI (List.getD (List.flatten l'23) 0 SV.nilp)) (SV.gI (List.getD (List.flatten l'23) 1 SV.nilp)) (SV.gI (List.getD (List.flatten l'23) 2 SV.nilp)) (SV.gI (List.getD (List.flatten l'23) 3 SV.nilp)) (SV.gI (List.getD (List.flatten l'23) 4 SV.nilp)) (SV.gI (List.getD (List.flatten l'23) 5 SV.nilp)) (SV.gI (List.getD (List.flatten l'23) 6 SV.nilp)) (SV.gI (List.getD (List.flatten l'23) 7 SV.nilp)) true l'23 l'24) (none))))) (cond (((Lib.cut s0 (([58,58]:List UInt8)))).2).2 (cond (ltI (7:Int) n'7) (k0 0 0 0 0 0 0 0 0 false (List.replicate 8 [(SV.int .u16 (0:Int))]) (List.replicate 8 [(SV.int .u16 (0:Int))])) (v6p_j0 l'5 (u16E (gvs s'3 true)) (List.replicate 8 [(SV.int .u16 (0:Int))]) (fun l'25 l'26=>cond ((decide (8=((List.length l'25)*1)))&&(okS ⟨true,true,[.int .u16,.int .u16,.int .u16,.int .u16,.int .u16,.int .u16,.int .u16,.int .u16]⟩ (List.flatten l'25) 0)) (k0 (SV.gI (List.getD (List.flatten l'25) 0 SV.nilp)) (SV.gI (List.getD (List.flatten l'25) 1 SV.nilp)) (SV.gI (List.getD (List.flatten l'25) 2 SV.nilp)) (SV.gI (List.getD (List.flatten l'25) 3 SV.nilp)) (SV.gI (List.getD (List.flatten l'25) 4 SV.nilp)) (SV.gI (List.getD (List.flatten l'25) 5 SV.nilp)) (SV.gI (List.getD (List.flatten l'25) 6 SV.nilp)) (SV.gI (List.getD (List.flatten l'25) 7 SV.nilp)) true l'25 l'26) (none)))) (v6p_j0 l'5 (u16E (gvs s'3 true)) (List.replicate 8 [(SV.int .u16 (0:Int))]) (fun l'27 l'28=>cond ((decide (8=((List.length l'27)*1)))&&(okS ⟨true,true,[.int .u16,.int .u16,.int .u16,.int .u16,.int .u16,.int .u16,.int .u16,.int .u16]⟩ (List.flatten l'27) 0)) (k0 (SV.gI (List.getD (List.flatten l'27) 0 SV.nilp)) (SV.gI (List.getD (List.flatten l'27) 1 SV.nilp)) (SV.gI (List.getD (List.flatten l'27) 2 SV.nilp)) (SV.gI (List.getD (List.flatten l'27) 3 SV.nilp)) (SV.gI (List.getD (List.flatten l'27) 4 SV.nilp)) (SV.gI (List.getD (List.flatten l'27) 5 SV.nilp)) (SV.gI (List.getD (List.flatten l'27) 6 SV.nilp)) (SV.gI (List.getD (List.flatten l'27) 7 SV.nilp)) true l'27 l'28) (none))))))) (none)) (none)) (none)
theorem v6p_eq (b_1111111:Code) (h_v6p_j0:v6p_j0_P (R:=PV × List Blk × σ) lf cl yh s b_1111111) (s0:By):evCode (c_v6p lf) cl yh (cd [] (putC [1,1,1,1,1,1,1] b_1111111 b_v6p)) ⟨[.s (.str s0)]++tps 67,[],s⟩ (retK (c_v6p lf) Tryz.f135)=v6p lf s0 (fun r0 r1 r2 r3 r4 r5 r6 r7 r8 l9 l10=>some (.tup [.agg [.s (.int .u16 r0),.s (.int .u16 r1),.s (.int .u16 r2),.s (.int .u16 r3),.s (.int .u16 r4),.s (.int .u16 r5),.s (.int .u16 r6),.s (.int .u16 r7)],.s (.bool r8)],[.arr false 25 1 l9,.arr false 25 1 l10],s)):=by
 unfold v6p;exact let K0:=(retK (c_v6p lf) Tryz.f135);(Eq.trans (by kernel_rfl) (cond_congr (vl_congr fun s'2=>(vl_congr fun s'3=>(cond_congr (vl_congr fun l'5=>(cond_congr (vl_congr fun n'7=>(cond_congr rfl (cond_congr rfl (cond_congr (cond_congr rfl (cond_congr (cond_congr rfl ((h_v6p_j0 K0 (List.isEmpty (gvs s'2 (not (((Lib.cut s0 (([58,58]:List UInt8)))).2).2))) l'5 (List.isEmpty (gvs s'3 true)) (u16E (gvs s'3 true)) (ltI (7:Int) n'7) (List.replicate 8 [(SV.int .u16 (0:Int))])).trans (by kernel_rfl))) ((h_v6p_j0 K0 (List.isEmpty (gvs s'2 (not (((Lib.cut s0 (([58,58]:List UInt8)))).2).2))) l'5 (List.isEmpty (gvs s'3 true)) (u16E (gvs s'3 true)) false (List.replicate 8 [(SV.int .u16 (0:Int))])).trans (by kernel_rfl)))) (cond_congr (cond_congr rfl ((h_v6p_j0 K0 (List.isEmpty (gvs s'2 (not (((Lib.cut s0 (([58,58]:List UInt8)))).2).2))) l'5 (List.isEmpty (gvs s'3 true)) (u16E (gvs s'3 true)) (ltI (7:Int) n'7) (List.replicate 8 [(SV.int .u16 (0:Int))])).trans (by kernel_rfl))) ((h_v6p_j0 K0 (List.isEmpty (gvs s'2 (not (((Lib.cut s0 (([58,58]:List UInt8)))).2).2))) l'5 (List.isEmpty (gvs s'3 true)) (u16E (gvs s'3 true)) false (List.replicate 8 [(SV.int .u16 (0:Int))])).trans (by kernel_rfl))))))) rfl)) rfl))) rfl))
theorem v6p_ev (d:Nat) (s0:By):evC (c_v6p lf) (d+1) σ yh 135 [.s (.str s0)] [] s=v6p lf s0 (fun r0 r1 r2 r3 r4 r5 r6 r7 r8 l9 l10=>some (.tup [.agg [.s (.int .u16 r0),.s (.int .u16 r1),.s (.int .u16 r2),.s (.int .u16 r3),.s (.int .u16 r4),.s (.int .u16 r5),.s (.int .u16 r6),.s (.int .u16 r7)],.s (.bool r8)],[.arr false 25 1 l9,.arr false 25 1 l10],s)):=
 (evC_eq (fn:=Tryz.f135) (by kernel_rfl) (by kernel_rfl) (by kernel_rfl)).trans (Eq.trans (by kernel_rfl) (v6p_eq lf (evC (c_v6p lf) d) yh s (cd [1,1,1,1,1,1,1] b_v6p) (v6p_j0_eq lf (evC (c_v6p lf) d) yh s) s0))
noncomputable abbrev b_zeros:Code:=bodyOf Tryz.f95
noncomputable def c_zeros (lf:Nat):Cfg:=mkCfg lf [95] (lookK [(6,[1,0,0,0,0,0,0,0]),(3,[1,0,0,0,0,2])]) [] (lookK [(11,[2,0]),(10,[1,2,0,2]),(9,[1,2,0,2]),(8,[1,2,0,0,0,0,18]),(7,[1,2,0,0,0,0]),(6,[1,2,0,0,0,0,13]),(5,[1,2,0,0,0,0]),(4,[1,2,0,0,1]),(3,[1,2,0,2,0]),(2,[1,2,0,2]),(1,[1,2,0]),(0,[1])]) [] (lookK [(0,[4,0]),(1,[1,2,0,2]),(2,[1,2,0,0,0,0]),(3,[1,2,0,0,0,0])]) (some [2,0]) [] [] []
noncomputable def zeros_l0f {R:Type} (lf n:Nat) (self:Int→Int→Int→Int→LL→Option R) (at0 most1 i2 n3:Int) (l4:LL) (k0:Int→Int→Int→Int→LL→Option R):Option R:=cond (ltI (wi64 (i2+n3)) (8:Int)) (cond (inR (wi64 (i2+n3)) 8) (cond (okE ⟨true,false,[.int .u16]⟩ l4 (Int.toNat (wi64 (i2+n3))) 0) (vl (gE l4 (Int.toNat (wi64 (i2+n3))) 0) fun n'0=>cond (n'0==(0:Int)) (self at0 most1 i2 (wi64 (n3+(1:Int))) l4) (k0 at0 most1 i2 n3 l4)) (none)) (none)) (k0 at0 most1 i2 n3 l4)
noncomputable def zeros_l0 {R:Type} (lf n:Nat) (at0 most1 i2 n3:Int) (l4:LL) (k0:Int→Int→Int→Int→LL→Option R):Option R:=recN (α:=Int→Int→Int→Int→LL→Option R) (fun _ _ _ _ _=>none) (fun n self at0 most1 i2 n3 l4=>zeros_l0f lf n self at0 most1 i2 n3 l4 k0) n at0 most1 i2 n3 l4
theorem zeros_l0_s {R:Type} (lf n:Nat) (at0 most1 i2 n3:Int) (l4:LL) (k0:Int→Int→Int→Int→LL→Option R):zeros_l0 lf (n+1) at0 most1 i2 n3 l4 k0=zeros_l0f lf n (fun at0 most1 i2 n3 l4=>zeros_l0 lf n at0 most1 i2 n3 l4 k0) at0 most1 i2 n3 l4 k0:=rfl
theorem zeros_l0_eq (n:Nat) (at0 most1 i2 n3:Int) (l4:LL):loopK 1 ((c_zeros lf).keep 6) (bd (c_zeros lf) cl yh (cd [1,1,0,1,0,0,1,1,0,0,1,1,0,0,0] b_zeros)) n ⟨gp [(1,.ptr 0 0 0),(2,.s (.int .i64 at0)),(0,.s (.int .i64 most1)),(0,.s (.int .i64 i2)),(0,.s (.int .i64 n3)),(0,.s (.int .i64 i2))] 24,[.arr false 25 1 l4],s⟩ k =
 zeros_l0 lf n at0 most1 i2 n3 l4 (fun at0 most1 i2 n3 l4=>k (.exit 2) ⟨gp [(1,.ptr 0 0 0),(2,.s (.int .i64 at0)),(0,.s (.int .i64 most1)),(0,.s (.int .i64 i2)),(0,.s (.int .i64 n3)),(0,.s (.int .i64 i2))] 24,[.arr false 25 1 l4],s⟩):=by
 induction n generalizing at0 most1 i2 n3 l4 with
 | zero=>rfl
 | succ n ih=>rw [zeros_l0_s];unfold zeros_l0f;exact (Eq.trans (by kernel_rfl) (cond_congr (cond_congr (cond_congr (vl_congr fun n'0=>(cond_congr (ih at0 most1 i2 (wi64 (n3+(1:Int))) l4) rfl)) rfl) rfl) rfl))
noncomputable def zeros_l1f {R:Type} (lf n:Nat) (self:Int→Int→Int→LL→Option R) (at0 most1 n2:Int) (l3:LL) (k0:Int→Int→LL→Option R):Option R:=cond (ltI n2 (8:Int)) (zeros_l0 lf lf at0 most1 n2 0 l3 (fun at'1 most'2 i'3 n'4 l'5=>cond (ltI most'2 n'4) (self i'3 n'4 (wi64 (i'3+(1:Int))) l'5) (self at'1 most'2 (wi64 (i'3+(1:Int))) l'5))) (k0 at0 most1 l3)
noncomputable def zeros_l1 {R:Type} (lf n:Nat) (at0 most1 n2:Int) (l3:LL) (k0:Int→Int→LL→Option R):Option R:=recN (α:=Int→Int→Int→LL→Option R) (fun _ _ _ _=>none) (fun n self at0 most1 n2 l3=>zeros_l1f lf n self at0 most1 n2 l3 k0) n at0 most1 n2 l3
theorem zeros_l1_s {R:Type} (lf n:Nat) (at0 most1 n2:Int) (l3:LL) (k0:Int→Int→LL→Option R):zeros_l1 lf (n+1) at0 most1 n2 l3 k0=zeros_l1f lf n (fun at0 most1 n2 l3=>zeros_l1 lf n at0 most1 n2 l3 k0) at0 most1 n2 l3 k0:=rfl
theorem zeros_l1_eq (n:Nat) (at0 most1 n2:Int) (l3:LL):loopK 1 ((c_zeros lf).keep 3) (bd (c_zeros lf) cl yh (cd [1,1,0,1,0,0] b_zeros)) n ⟨gp [(1,.ptr 0 0 0),(2,.s (.int .i64 at0)),(0,.s (.int .i64 most1)),(2,.s (.int .i64 n2))] 24,[.arr false 25 1 l3],s⟩ k =
 zeros_l1 lf n at0 most1 n2 l3 (fun at0 most1 l2=>k (.exit 0) ⟨gp [(4,.s (.int .i64 at0)),(0,.s (.int .i64 most1))] 27,[.arr false 25 1 l2],s⟩):=by
 induction n generalizing at0 most1 n2 l3 with
 | zero=>rfl
 | succ n ih=>rw [zeros_l1_s];unfold zeros_l1f;exact (Eq.trans (by kernel_rfl) (cond_congr ((zeros_l0_eq lf cl yh s (blkK 2 (seqK (c_zeros lf) cl yh (cd [1,1,0,1,0,0,1,1,0,0,1,1,1] b_zeros) (blkK 1 (seqK (c_zeros lf) cl yh (cd [1,1,0,1,0,0,1,1,1] b_zeros) (lpK 1 ((c_zeros lf).keep 3) (bd (c_zeros lf) cl yh (cd [1,1,0,1,0,0] b_zeros)) n k))))) lf at0 most1 n2 0 l3).trans (congr rfl (fx5 fun at'1 most'2 i'3 n'4 l'5=>(Eq.trans (by kernel_rfl) (cond_congr (ih i'3 n'4 (wi64 (i'3+(1:Int))) l'5) (ih at'1 most'2 (wi64 (i'3+(1:Int))) l'5)))))) rfl))
noncomputable def zeros {R:Type} (lf:Nat) (a0 a1 a2 a3 a4 a5 a6 a7:Int) (k0:Int→Int→LL→Option R):Option R:=zeros_l1 lf lf 0 0 0 [[(SV.int .u16 a0)],[(SV.int .u16 a1)],[(SV.int .u16 a2)],[(SV.int .u16 a3)],[(SV.int .u16 a4)],[(SV.int .u16 a5)],[(SV.int .u16 a6)],[(SV.int .u16 a7)]] (fun at'6 most'7 l'8=>k0 at'6 most'7 l'8)
theorem zeros_ev (d:Nat) (a0 a1 a2 a3 a4 a5 a6 a7:Int):evC (c_zeros lf) (d+1) σ yh 95 [.agg [.s (.int .u16 a0),.s (.int .u16 a1),.s (.int .u16 a2),.s (.int .u16 a3),.s (.int .u16 a4),.s (.int .u16 a5),.s (.int .u16 a6),.s (.int .u16 a7)]] [] s=zeros lf a0 a1 a2 a3 a4 a5 a6 a7 (fun r0 r1 l2=>some (.tup [.s (.int .i64 r0),.s (.int .i64 r1)],[.arr false 25 1 l2],s)):=by
 refine (evC_eq (fn:=Tryz.f95) (by kernel_rfl) (by kernel_rfl) (by kernel_rfl)).trans ?_
 generalize evC (c_zeros lf) d=cl
 unfold zeros;exact (Eq.trans (by kernel_rfl) ((zeros_l1_eq lf cl yh s (blkK 0 (seqK (c_zeros lf) cl yh (cd [1,1,1] b_zeros) (retK (c_zeros lf) Tryz.f95))) lf 0 0 0 [[(SV.int .u16 a0)],[(SV.int .u16 a1)],[(SV.int .u16 a2)],[(SV.int .u16 a3)],[(SV.int .u16 a4)],[(SV.int .u16 a5)],[(SV.int .u16 a6)],[(SV.int .u16 a7)]]).trans (by kernel_rfl)))
noncomputable abbrev b_v6j:Code:=bodyOf Tryz.f96
noncomputable def c_v6j (lf:Nat):Cfg:=mkCfg lf [96] (lookK [(3,[2,0,2,0,0])]) [(128,X_fmtu),(111,X_sjoin)] (lookK [(7,[2]),(6,[3,2,0,0]),(5,[3,2,0,0]),(4,[3,1,0,0,0]),(3,[3,2,0,0,0]),(2,[3,2,0,0]),(1,[0,2]),(0,[0])]) [128,111] (lookK [(0,[3]),(1,[3,2,0,0])]) (some [2]) [] [] []
noncomputable def v6j_l0f {R:Type} (lf n:Nat) (self:Bool→Bool→LL→Int→Int→LL→Option R) (z0 t1:Bool) (l2:LL) (n3 n4:Int) (l5:LL) (k0:LL→Option R):Option R:=cond (ltI n4 n3) (cond (inR n4 (List.length l2)) (cond (okE ⟨true,false,[.int .u16]⟩ l2 (Int.toNat n4) 0) (vl (wu64 (gE l2 (Int.toNat n4) 0)) fun n'0=>cond (ltN n'0 65536) (cond ((16:Int)==(16:Int)) (cond (roomy ((List.length l5)+1)) (self z0 t1 l2 n3 (wi64 (n4+(1:Int))) (l5++[[(SV.str (hexN (Int.toNat n'0)))]])) (none)) (none)) (none)) (none)) (none)) (k0 l5)
noncomputable def v6j_l0 {R:Type} (lf n:Nat) (z0 t1:Bool) (l2:LL) (n3 n4:Int) (l5:LL) (k0:LL→Option R):Option R:=recN (α:=Bool→Bool→LL→Int→Int→LL→Option R) (fun _ _ _ _ _ _=>none) (fun n self z0 t1 l2 n3 n4 l5=>v6j_l0f lf n self z0 t1 l2 n3 n4 l5 k0) n z0 t1 l2 n3 n4 l5
theorem v6j_l0_s {R:Type} (lf n:Nat) (z0 t1:Bool) (l2:LL) (n3 n4:Int) (l5:LL) (k0:LL→Option R):v6j_l0 lf (n+1) z0 t1 l2 n3 n4 l5 k0=v6j_l0f lf n (fun z0 t1 l2 n3 n4 l5=>v6j_l0 lf n z0 t1 l2 n3 n4 l5 k0) z0 t1 l2 n3 n4 l5 k0:=rfl
theorem v6j_l0_eq (n:Nat) (z0 t1:Bool) (l2:LL) (n3 n4:Int) (l5:LL):loopK 1 ((c_v6j lf).keep 3) (bd (c_v6j lf) cl yh (cd [1,1,0,1,0,0] b_v6j)) n ⟨gp [(3,.fl 0),(2,.s (.sl z0 t1 1 l2)),(0,.s (.int .i64 n3)),(0,.s (.int .i64 n4))] 12,[.arr true 9 1 l5],s⟩ k =
 v6j_l0 lf n z0 t1 l2 n3 n4 l5 (fun l0=>k (.exit 0) ⟨gp [(3,.fl 0)] 17,[.arr true 9 1 l0],s⟩):=by
 induction n generalizing z0 t1 l2 n3 n4 l5 with
 | zero=>rfl
 | succ n ih=>rw [v6j_l0_s];unfold v6j_l0f;exact (Eq.trans (by kernel_rfl) (cond_congr (cond_congr (cond_congr (vl_congr fun n'0=>(cond_congr (cond_congr (cond_congr (ih z0 t1 l2 n3 (wi64 (n4+(1:Int))) (l5++[[(SV.str (hexN (Int.toNat n'0)))]])) rfl) rfl) rfl)) rfl) rfl) rfl))
noncomputable def v6j {R:Type} (lf:Nat) (l_z0 l_t1:Bool) (l2:LL) (k0:By→LL→Option R):Option R:=v6j_l0 lf lf l_z0 l_t1 l2 (↑(List.length l2):Int) 0 [] (fun l'1=>cond (List.all l'1 isS) (cond (small (List.length (Lib.join (List.map elS l'1) (([58]:List UInt8))))) (cond (small (List.length l'1)) (vl (Lib.join (List.map elS l'1) (([58]:List UInt8))) fun s'2=>k0 s'2 l'1) (none)) (none)) (none))
theorem v6j_ev (d:Nat) (l_z0 l_t1:Bool) (l2:LL):evC (c_v6j lf) (d+1) σ yh 96 [.s (.sl l_z0 l_t1 1 l2)] [] s=v6j lf l_z0 l_t1 l2 (fun r0 l1=>some (.s (.str r0),[.arr true 9 1 l1],s)):=by
 refine (evC_eq (fn:=Tryz.f96) (by kernel_rfl) (by kernel_rfl) (by kernel_rfl)).trans ?_
 generalize evC (c_v6j lf) d=cl
 unfold v6j;exact (Eq.trans (by kernel_rfl) ((v6j_l0_eq lf cl yh s (blkK 0 (seqK (c_v6j lf) cl yh (cd [1,1,1] b_v6j) (retK (c_v6j lf) Tryz.f96))) lf l_z0 l_t1 l2 (↑(List.length l2):Int) 0 []).trans (by kernel_rfl)))
noncomputable def c_v6f (lf:Nat):Cfg:=mkCfg lf [68] (lookK []) [(95,X_zeros),(96,X_v6j)] (lookK [(4,[2]),(3,[2]),(2,[1,1,0,6]),(1,[1,1,0]),(0,[1])]) [95,96] (lookK []) (some [2]) [] [] []
noncomputable def v6f {R:Type} (lf:Nat) (a0 a1 a2 a3 a4 a5 a6 a7:Int) (k0:By→LL→Option R):Option R:=cond (ok8 a0 a1 a2 a3 a4 a5 a6 a7) (vl (↑((zGo (n8 a0 a1 a2 a3 a4 a5 a6 a7) 0 0 0)).1:Int) fun n'2=>vl (↑((zGo (n8 a0 a1 a2 a3 a4 a5 a6 a7) 0 0 0)).2:Int) fun n'3=>cond (ltI n'3 (2:Int)) (cond (List.all [[(SV.int .u16 a0)],[(SV.int .u16 a1)],[(SV.int .u16 a2)],[(SV.int .u16 a3)],[(SV.int .u16 a4)],[(SV.int .u16 a5)],[(SV.int .u16 a6)],[(SV.int .u16 a7)]] isU16) (cond (Nat.ble 8 8) (vl (joinH (List.map elN [[(SV.int .u16 a0)],[(SV.int .u16 a1)],[(SV.int .u16 a2)],[(SV.int .u16 a3)],[(SV.int .u16 a4)],[(SV.int .u16 a5)],[(SV.int .u16 a6)],[(SV.int .u16 a7)]])) fun s'5=>k0 s'5 [[(SV.int .u16 a0)],[(SV.int .u16 a1)],[(SV.int .u16 a2)],[(SV.int .u16 a3)],[(SV.int .u16 a4)],[(SV.int .u16 a5)],[(SV.int .u16 a6)],[(SV.int .u16 a7)]]) (none)) (none)) (cond (sub3 (0:Int) n'2 8) (cond (List.all (List.take ((Int.toNat n'2)-0) [[(SV.int .u16 a0)],[(SV.int .u16 a1)],[(SV.int .u16 a2)],[(SV.int .u16 a3)],[(SV.int .u16 a4)],[(SV.int .u16 a5)],[(SV.int .u16 a6)],[(SV.int .u16 a7)]]) isU16) (cond (Nat.ble (List.length (List.take ((Int.toNat n'2)-0) [[(SV.int .u16 a0)],[(SV.int .u16 a1)],[(SV.int .u16 a2)],[(SV.int .u16 a3)],[(SV.int .u16 a4)],[(SV.int .u16 a5)],[(SV.int .u16 a6)],[(SV.int .u16 a7)]])) 8) (vl (joinH (List.map elN (List.take ((Int.toNat n'2)-0) [[(SV.int .u16 a0)],[(SV.int .u16 a1)],[(SV.int .u16 a2)],[(SV.int .u16 a3)],[(SV.int .u16 a4)],[(SV.int .u16 a5)],[(SV.int .u16 a6)],[(SV.int .u16 a7)]]))) fun s'6=>cond (catOk (List.length s'6) 2) (vl (s'6++(([58,58]:List UInt8))) fun s'7=>cond (sub3 (wi64 (n'2+n'3)) (8:Int) 8) (cond (List.all (List.take (8-(Int.toNat (wi64 (n'2+n'3)))) (List.drop (Int.toNat (wi64 (n'2+n'3))) [[(SV.int .u16 a0)],[(SV.int .u16 a1)],[(SV.int .u16 a2)],[(SV.int .u16 a3)],[(SV.int .u16 a4)],[(SV.int .u16 a5)],[(SV.int .u16 a6)],[(SV.int .u16 a7)]])) isU16) (cond (Nat.ble (List.length (List.take (8-(Int.toNat (wi64 (n'2+n'3)))) (List.drop (Int.toNat (wi64 (n'2+n'3))) [[(SV.int .u16 a0)],[(SV.int .u16 a1)],[(SV.int .u16 a2)],[(SV.int .u16 a3)],[(SV.int .u16 a4)],[(SV.int .u16 a5)],[(SV.int .u16 a6)],[(SV.int .u16 a7)]]))) 8) (vl (joinH (List.map elN (List.take (8-(Int.toNat (wi64 (n'2+n'3)))) (List.drop (Int.toNat (wi64 (n'2+n'3))) [[(SV.int .u16 a0)],[(SV.int .u16 a1)],[(SV.int .u16 a2)],[(SV.int .u16 a3)],[(SV.int .u16 a4)],[(SV.int .u16 a5)],[(SV.int .u16 a6)],[(SV.int .u16 a7)]])))) fun s'8=>cond (catOk (List.length s'7) (List.length s'8)) (k0 (s'7++s'8) [[(SV.int .u16 a0)],[(SV.int .u16 a1)],[(SV.int .u16 a2)],[(SV.int .u16 a3)],[(SV.int .u16 a4)],[(SV.int .u16 a5)],[(SV.int .u16 a6)],[(SV.int .u16 a7)]]) (none)) (none)) (none)) (none)) (none)) (none)) (none)) (none))) (none)
theorem v6f_ev (d:Nat) (a0 a1 a2 a3 a4 a5 a6 a7:Int):evC (c_v6f lf) (d+1) σ yh 68 [.agg [.s (.int .u16 a0),.s (.int .u16 a1),.s (.int .u16 a2),.s (.int .u16 a3),.s (.int .u16 a4),.s (.int .u16 a5),.s (.int .u16 a6),.s (.int .u16 a7)]] [] s=v6f lf a0 a1 a2 a3 a4 a5 a6 a7 (fun r0 l1=>some (.s (.str r0),[.arr false 25 1 l1],s)):=by
 refine (evC_eq (fn:=Tryz.f68) (by kernel_rfl) (by kernel_rfl) (by kernel_rfl)).trans ?_
 generalize evC (c_v6f lf) d=cl
 unfold v6f;kernel_rfl
noncomputable def c_ppoint (lf:Nat):Cfg:=mkCfg lf [168] (lookK []) [] (lookK [(1,[2]),(0,[0])]) [] (lookK []) (some [2]) [] [] []
noncomputable def ppoint {R:Type} (lf:Nat) (n0:Int) (k0:Bool→Option R):Option R:=cond (not (ltI n0 (0:Int))) (cond (not (ltI (1114111:Int) n0)) (cond (ltI n0 (55296:Int)) (k0 true) (k0 (ltI (57343:Int) n0))) (k0 false)) (k0 false)
theorem ppoint_ev (d:Nat) (n0:Int):evC (c_ppoint lf) (d+1) σ yh 168 [.s (.int .i64 n0)] [] s=ppoint lf n0 (fun r0=>some (.s (.bool r0),[],s)):=by
 refine (evC_eq (fn:=Tryz.f168) (by kernel_rfl) (by kernel_rfl) (by kernel_rfl)).trans ?_
 generalize evC (c_ppoint lf) d=cl
 unfold ppoint;kernel_rfl
noncomputable abbrev b_padapt:Code:=bodyOf Tryz.f170
noncomputable def c_padapt (lf:Nat):Cfg:=mkCfg lf [170] (lookK [(6,[0,5,0])]) [] (lookK [(9,[6]),(8,[0,6]),(7,[0,6]),(6,[0,6,11]),(5,[0,6]),(4,[0]),(2,[0,0]),(3,[0,0]),(1,[0,0,6]),(0,[0,0,0])]) [] (lookK [(0,[0,6]),(1,[0,6])]) (some [6]) [] [] []
noncomputable def padapt_l0f {R:Type} (lf n:Nat) (self:Int→Int→Option R) (delta0 kk1:Int) (k0:Int→Int→Option R):Option R:=cond (ltI (455:Int) delta0) (vl (wi64 (Int.tdiv delta0 (35:Int))) fun n'6=>vl (wi64 (kk1+(36:Int))) fun n'7=>self n'6 n'7) (k0 delta0 kk1)
noncomputable def padapt_l0 {R:Type} (lf n:Nat) (delta0 kk1:Int) (k0:Int→Int→Option R):Option R:=recN (α:=Int→Int→Option R) (fun _ _=>none) (fun n self delta0 kk1=>padapt_l0f lf n self delta0 kk1 k0) n delta0 kk1
theorem padapt_l0_s {R:Type} (lf n:Nat) (delta0 kk1:Int) (k0:Int→Int→Option R):padapt_l0 lf (n+1) delta0 kk1 k0=padapt_l0f lf n (fun delta0 kk1=>padapt_l0 lf n delta0 kk1 k0) delta0 kk1 k0:=rfl
theorem padapt_l0_eq (n:Nat) (delta0 kk1:Int):loopK 0 ((c_padapt lf).keep 6) (bd (c_padapt lf) cl yh (cd [1,1,1,1,0,0,0] b_padapt)) n ⟨gp [(0,.s (.int .i64 delta0)),(6,.s (.int .i64 kk1))] 23,[],s⟩ k =
 padapt_l0 lf n delta0 kk1 (fun delta0 kk1=>k (.exit 0) ⟨gp [(0,.s (.int .i64 delta0)),(6,.s (.int .i64 kk1))] 23,[],s⟩):=by
 induction n generalizing delta0 kk1 with
 | zero=>rfl
 | succ n ih=>rw [padapt_l0_s];unfold padapt_l0f;exact (Eq.trans (by kernel_rfl) (cond_congr (vl_congr fun n'6=>(vl_congr fun n'7=>(ih n'6 n'7))) rfl))
noncomputable def padapt_j0 {R:Type} (lf:Nat) (delta0 count1:Int) (k0:Int→Option R):Option R:=cond (count1 != (0:Int)) (vl (wi64 (Int.tdiv delta0 count1)) fun n'5=>padapt_l0 lf lf (wi64 (delta0+n'5)) 0 (fun delta'8 kk'9=>vl (wi64 ((36:Int)*delta'8)) fun n'10=>vl (wi64 (delta'8+(38:Int))) fun n'11=>cond (n'11 != (0:Int)) (vl (wi64 (Int.tdiv n'10 n'11)) fun n'12=>k0 (wi64 (kk'9+n'12))) (none))) (none)
abbrev padapt_j0_P (b:Code):Prop:=∀ (k:Out→St σ→Option R) (delta0 count1:Int),evCode (c_padapt lf) cl yh b ⟨gp [(0,.s (.int .i64 delta0)),(0,.s (.int .i64 count1))] 29,[],s⟩ k=padapt_j0 lf delta0 count1 (fun n0=>k .ret ⟨gp [(6,.s (.int .i64 n0))] 24,[],s⟩)
theorem padapt_j0_eq:padapt_j0_P (R:=R) lf cl yh s (cd [1,1] b_padapt):=by
 intro k delta0 count1;unfold padapt_j0;exact (Eq.trans (by kernel_rfl) (cond_congr (vl_congr fun n'5=>((padapt_l0_eq lf cl yh s (blkK 0 (seqK (c_padapt lf) cl yh (cd [1,1,1,1,1] b_padapt) k)) lf (wi64 (delta0+n'5)) 0).trans (by kernel_rfl))) rfl))
noncomputable def padapt {R:Type} (lf:Nat) (delta0 count1:Int) (first2:Bool) (k0:Int→Option R):Option R:=cond first2 (vl (wi64 (Int.tdiv delta0 (700:Int))) fun n'2=>padapt_j0 lf n'2 count1 (fun n'13=>k0 n'13)) (vl (wi64 (Int.tdiv delta0 (2:Int))) fun n'3=>padapt_j0 lf n'3 count1 (fun n'14=>k0 n'14))
theorem padapt_eq (b_11:Code) (h_padapt_j0:padapt_j0_P (R:=PV × List Blk × σ) lf cl yh s b_11) (delta0 count1:Int) (first2:Bool):evCode (c_padapt lf) cl yh (cd [] (putC [1,1] b_11 b_padapt)) ⟨[.s (.int .i64 delta0),.s (.int .i64 count1),.s (.bool first2)]++tps 28,[],s⟩ (retK (c_padapt lf) Tryz.f170)=padapt lf delta0 count1 first2 (fun r0=>some (.s (.int .i64 r0),[],s)):=by
 unfold padapt;exact let K0:=(retK (c_padapt lf) Tryz.f170);(Eq.trans (by kernel_rfl) (cond_congr (vl_congr fun n'2=>((h_padapt_j0 K0 n'2 count1).trans (by kernel_rfl))) (vl_congr fun n'3=>((h_padapt_j0 K0 n'3 count1).trans (by kernel_rfl)))))
theorem padapt_ev (d:Nat) (delta0 count1:Int) (first2:Bool):evC (c_padapt lf) (d+1) σ yh 170 [.s (.int .i64 delta0),.s (.int .i64 count1),.s (.bool first2)] [] s=padapt lf delta0 count1 first2 (fun r0=>some (.s (.int .i64 r0),[],s)):=
 (evC_eq (fn:=Tryz.f170) (by kernel_rfl) (by kernel_rfl) (by kernel_rfl)).trans (Eq.trans (by kernel_rfl) (padapt_eq lf (evC (c_padapt lf) d) yh s (cd [1,1] b_padapt) (padapt_j0_eq lf (evC (c_padapt lf) d) yh s) delta0 count1 first2))
noncomputable def c_pdig (lf:Nat):Cfg:=mkCfg lf [183] (lookK []) [] (lookK [(3,[2]),(2,[2]),(1,[0,3]),(0,[0])]) [] (lookK []) (some [2]) [] [] []
noncomputable def pdig {R:Type} (lf:Nat) (d0:Int) (k0:Int→Option R):Option R:=cond (ltI d0 (26:Int)) (vl (wu8 (wi64 ((97:Int)+d0))) fun n'0=>k0 n'0) (vl (wi64 ((wi64 ((48:Int)+d0))-(26:Int))) fun n'1=>k0 (wu8 n'1))
theorem pdig_ev (d:Nat) (d0:Int):evC (c_pdig lf) (d+1) σ yh 183 [.s (.int .i64 d0)] [] s=pdig lf d0 (fun r0=>some (.s (.int .u8 r0),[],s)):=by
 refine (evC_eq (fn:=Tryz.f183) (by kernel_rfl) (by kernel_rfl) (by kernel_rfl)).trans ?_
 generalize evC (c_pdig lf) d=cl
 unfold pdig;kernel_rfl
noncomputable abbrev b_pval:Code:=bodyOf Tryz.f189
noncomputable def c_pval (lf:Nat):Cfg:=mkCfg lf [189] (lookK []) [] (lookK [(7,[2]),(2,[2]),(4,[2]),(6,[2]),(5,[0,22]),(3,[0,12]),(1,[0,2]),(0,[0])]) [] (lookK [(0,[])]) (some [2]) [] [] []
noncomputable def pval_j0 {R:Type} (b0:Int) (b1:Bool) (k0:Int→Option R) (k1:Int→Bool→Option R):Option R:=cond b1 (vl (wi64 (wu8 (b0-(65:Int)))) fun n'1=>k0 n'1) (cond (not (ltI b0 (48:Int))) (cond (not (ltI (57:Int) b0)) (vl (wi64 (wu8 (b0-(48:Int)))) fun n'2=>vl (wi64 (n'2+(26:Int))) fun n'3=>k0 n'3) (k1 b0 (not (ltI (57:Int) b0)))) (k1 b0 false))
abbrev pval_j0_P (b:Code):Prop:=∀ (k:Out→St σ→Option R) (b0:Int) (b1:Bool),evCode (c_pval lf) cl yh b ⟨gp [(0,.s (.int .u8 b0)),(12,.s (.bool b1))] 20,[],s⟩ k=pval_j0 b0 b1 (fun n0=>k .ret ⟨gp [(2,.s (.int .i64 n0))] 31,[],s⟩) (fun b0 b1=>k .normal ⟨gp [(0,.s (.int .u8 b0)),(22,.s (.bool b1))] 10,[],s⟩)
theorem pval_j0_eq:pval_j0_P (R:=R) lf cl yh s (cd [1,0,0,1,1,1] b_pval):=by
 intro k b0 b1;unfold pval_j0;kernel_rfl
noncomputable def pval_j1 {R:Type} (b0:Int) (b1:Bool) (k0:Int→Option R) (k1:Int→Bool→Option R):Option R:=cond b1 (vl (wi64 (wu8 (b0-(97:Int)))) fun n'0=>k0 n'0) (cond (not (ltI b0 (65:Int))) (pval_j0 b0 (not (ltI (90:Int) b0)) (fun n'4=>k0 n'4) (fun b'5 b'6=>k1 b'5 b'6)) (pval_j0 b0 false (fun n'7=>k0 n'7) (fun b'8 b'9=>k1 b'8 b'9)))
abbrev pval_j1_P (b:Code):Prop:=∀ (k:Out→St σ→Option R) (b0:Int) (b1:Bool),evCode (c_pval lf) cl yh b ⟨gp [(0,.s (.int .u8 b0)),(2,.s (.bool b1))] 30,[],s⟩ k=pval_j1 b0 b1 (fun n0=>k .ret ⟨gp [(2,.s (.int .i64 n0))] 31,[],s⟩) (fun b0 b1=>k .normal ⟨gp [(0,.s (.int .u8 b0)),(22,.s (.bool b1))] 10,[],s⟩)
theorem pval_j1_eq (b_100111:Code) (h_pval_j0:pval_j0_P (R:=R) lf cl yh s b_100111):pval_j1_P (R:=R) lf cl yh s (cd [1,0,0,1] (putC [1,0,0,1,1,1] b_100111 b_pval)):=by
 intro k b0 b1;unfold pval_j1;exact (Eq.trans (by kernel_rfl) (cond_congr (vl_congr fun n'0=>rfl) (cond_congr ((h_pval_j0 k b0 (not (ltI (90:Int) b0))).trans (by kernel_rfl)) ((h_pval_j0 k b0 false).trans (by kernel_rfl)))))
theorem pval_j1_fu:pval_j1_P (R:=R) lf cl yh s (cd [1,0,0,1] b_pval):=by
 intro k b0 b1;exact Eq.trans (by kernel_rfl) (pval_j1_eq lf cl yh s (cd [1,0,0,1,1,1] b_pval) (pval_j0_eq lf cl yh s) k b0 b1)
noncomputable def pval {R:Type} (lf:Nat) (b0:Int) (k0:Int→Option R):Option R:=cond (not (ltI b0 (97:Int))) (pval_j1 b0 (not (ltI (122:Int) b0)) (fun n'10=>k0 n'10) (fun b'11 b'12=>k0 (-1))) (pval_j1 b0 false (fun n'13=>k0 n'13) (fun b'14 b'15=>k0 (-1)))
theorem pval_eq (b_1001:Code) (h_pval_j1:pval_j1_P (R:=PV × List Blk × σ) lf cl yh s b_1001) (b0:Int):evCode (c_pval lf) cl yh (cd [] (putC [1,0,0,1] b_1001 b_pval)) ⟨[.s (.int .u8 b0)]++tps 33,[],s⟩ (retK (c_pval lf) Tryz.f189)=pval lf b0 (fun r0=>some (.s (.int .i64 r0),[],s)):=by
 unfold pval;exact let K0:=(blkK 0 (seqK (c_pval lf) cl yh (cd [1,1] b_pval) (retK (c_pval lf) Tryz.f189)));(Eq.trans (by kernel_rfl) (cond_congr ((h_pval_j1 K0 b0 (not (ltI (122:Int) b0))).trans (by kernel_rfl)) ((h_pval_j1 K0 b0 false).trans (by kernel_rfl))))
theorem pval_ev (d:Nat) (b0:Int):evC (c_pval lf) (d+1) σ yh 189 [.s (.int .u8 b0)] [] s=pval lf b0 (fun r0=>some (.s (.int .i64 r0),[],s)):=
 (evC_eq (fn:=Tryz.f189) (by kernel_rfl) (by kernel_rfl) (by kernel_rfl)).trans (Eq.trans (by kernel_rfl) (pval_eq lf (evC (c_pval lf) d) yh s (cd [1,0,0,1] b_pval) (pval_j1_fu lf (evC (c_pval lf) d) yh s) b0))
end
end Go.Proofs.YtcfingekgbbclaaGreatDoor.E
namespace Go.Proofs.YtcfingekgbbclaaGreatDoor.E
open Go Go.Proofs 
set_option linter.unusedVariables false
set_option maxRecDepth 100000
section
variable {σ R : Type} (lf : Nat) (cl : CallT) (yh : Yh σ) (s : σ) (k : Out → St σ → Option R)
noncomputable def c_lpre (lf:Nat):Cfg:=mkCfg lf [79] (lookK []) [] (lookK [(1,[4]),(0,[0,0])]) [] (lookK []) (some [4]) [] [] []
noncomputable def lpre {R:Type} (lf:Nat) (s0 prefix1:By) (k0:Bool→Option R):Option R:=cond (not (ltI (↑(List.length s0):Int) (↑(List.length prefix1):Int))) (cond (sub3 (0:Int) (↑(List.length prefix1):Int) (List.length s0)) (vl (cut s0 (0:Int) (↑(List.length prefix1):Int)) fun s'0=>k0 (s'0==prefix1)) (none)) (k0 false)
theorem lpre_ev (d:Nat) (s0 prefix1:By):evC (c_lpre lf) (d+1) σ yh 79 [.s (.str s0),.s (.str prefix1)] [] s=lpre lf s0 prefix1 (fun r0=>some (.s (.bool r0),[],s)):=by
 refine (evC_eq (fn:=Tryz.f79) (by kernel_rfl) (by kernel_rfl) (by kernel_rfl)).trans ?_
 generalize evC (c_lpre lf) d=cl
 unfold lpre;kernel_rfl
noncomputable def c_hpre (lf:Nat):Cfg:=mkCfg lf [59] (lookK []) [(79,X_lpre)] (lookK [(1,[4]),(0,[0,0])]) [79] (lookK []) (some [4]) [] [] []
noncomputable def hpre {R:Type} (lf:Nat) (s0 prefix1:By) (k0:Bool→Option R):Option R:=cond (small (List.length s0)) (k0 (List.isPrefixOf prefix1 s0)) (none)
theorem hpre_ev (d:Nat) (s0 prefix1:By):evC (c_hpre lf) (d+1) σ yh 59 [.s (.str s0),.s (.str prefix1)] [] s=hpre lf s0 prefix1 (fun r0=>some (.s (.bool r0),[],s)):=by
 refine (evC_eq (fn:=Tryz.f59) (by kernel_rfl) (by kernel_rfl) (by kernel_rfl)).trans ?_
 generalize evC (c_hpre lf) d=cl
 unfold hpre;kernel_rfl
noncomputable def c_lsuf (lf:Nat):Cfg:=mkCfg lf [93] (lookK []) [] (lookK [(1,[4]),(0,[0,0])]) [] (lookK []) (some [4]) [] [] []
noncomputable def lsuf {R:Type} (lf:Nat) (s0 suffix1:By) (k0:Bool→Option R):Option R:=cond (not (ltI (↑(List.length s0):Int) (↑(List.length suffix1):Int))) (vl (wi64 ((↑(List.length s0):Int)-(↑(List.length suffix1):Int))) fun n'0=>cond (sub3 n'0 (↑(List.length s0):Int) (List.length s0)) (vl (cut s0 n'0 (↑(List.length s0):Int)) fun s'1=>k0 (s'1==suffix1)) (none)) (k0 false)
theorem lsuf_ev (d:Nat) (s0 suffix1:By):evC (c_lsuf lf) (d+1) σ yh 93 [.s (.str s0),.s (.str suffix1)] [] s=lsuf lf s0 suffix1 (fun r0=>some (.s (.bool r0),[],s)):=by
 refine (evC_eq (fn:=Tryz.f93) (by kernel_rfl) (by kernel_rfl) (by kernel_rfl)).trans ?_
 generalize evC (c_lsuf lf) d=cl
 unfold lsuf;kernel_rfl
noncomputable def c_ltsuf (lf:Nat):Cfg:=mkCfg lf [137] (lookK []) [(93,X_lsuf)] (lookK [(3,[4]),(2,[4]),(1,[0,0,5]),(0,[0,0])]) [93] (lookK []) (some [4]) [] [] []
noncomputable def ltsuf {R:Type} (lf:Nat) (s0 suffix1:By) (k0:By→Option R):Option R:=cond (small (List.length s0)) (cond (List.isSuffixOf suffix1 s0) (vl (wi64 ((↑(List.length s0):Int)-(↑(List.length suffix1):Int))) fun n'0=>cond (sub3 (0:Int) n'0 (List.length s0)) (k0 (cut s0 (0:Int) n'0)) (none)) (k0 s0)) (none)
theorem ltsuf_ev (d:Nat) (s0 suffix1:By):evC (c_ltsuf lf) (d+1) σ yh 137 [.s (.str s0),.s (.str suffix1)] [] s=ltsuf lf s0 suffix1 (fun r0=>some (.s (.str r0),[],s)):=by
 refine (evC_eq (fn:=Tryz.f137) (by kernel_rfl) (by kernel_rfl) (by kernel_rfl)).trans ?_
 generalize evC (c_ltsuf lf) d=cl
 unfold ltsuf;kernel_rfl
noncomputable def c_tsufc (lf:Nat):Cfg:=mkCfg lf [107] (lookK []) [(137,X_ltsuf)] (lookK [(1,[4]),(0,[0,0])]) [137] (lookK []) (some [4]) [] [] []
noncomputable def tsufc {R:Type} (lf:Nat) (s0 suffix1:By) (k0:By→Option R):Option R:=cond (small (List.length s0)) (k0 (tsuf s0 suffix1)) (none)
theorem tsufc_ev (d:Nat) (s0 suffix1:By):evC (c_tsufc lf) (d+1) σ yh 107 [.s (.str s0),.s (.str suffix1)] [] s=tsufc lf s0 suffix1 (fun r0=>some (.s (.str r0),[],s)):=by
 refine (evC_eq (fn:=Tryz.f107) (by kernel_rfl) (by kernel_rfl) (by kernel_rfl)).trans ?_
 generalize evC (c_tsufc lf) d=cl
 unfold tsufc;kernel_rfl
noncomputable def c_lcpre (lf:Nat):Cfg:=mkCfg lf [74] (lookK []) [(79,X_lpre)] (lookK [(3,[4,0]),(2,[4,0]),(1,[0,0,7]),(0,[0,0])]) [79] (lookK []) (some [4,0]) [] [] []
noncomputable def lcpre {R:Type} (lf:Nat) (s0 prefix1:By) (k0:By→Bool→Option R):Option R:=cond (small (List.length s0)) (cond (not (List.isPrefixOf prefix1 s0)) (k0 s0 false) (cond (sub3 (↑(List.length prefix1):Int) (↑(List.length s0):Int) (List.length s0)) (vl (cut s0 (↑(List.length prefix1):Int) (↑(List.length s0):Int)) fun s'0=>k0 s'0 true) (none))) (none)
theorem lcpre_ev (d:Nat) (s0 prefix1:By):evC (c_lcpre lf) (d+1) σ yh 74 [.s (.str s0),.s (.str prefix1)] [] s=lcpre lf s0 prefix1 (fun r0 r1=>some (.tup [.s (.str r0),.s (.bool r1)],[],s)):=by
 refine (evC_eq (fn:=Tryz.f74) (by kernel_rfl) (by kernel_rfl) (by kernel_rfl)).trans ?_
 generalize evC (c_lcpre lf) d=cl
 unfold lcpre;kernel_rfl
noncomputable def c_cpre (lf:Nat):Cfg:=mkCfg lf [57] (lookK []) [(74,X_lcpre)] (lookK [(1,[4,0]),(0,[0,0])]) [74] (lookK []) (some [4,0]) [] [] []
noncomputable def cpre {R:Type} (lf:Nat) (s0 prefix1:By) (k0:By→Bool→Option R):Option R:=cond (small (List.length s0)) (k0 (cutp s0 prefix1) (List.isPrefixOf prefix1 s0)) (none)
theorem cpre_ev (d:Nat) (s0 prefix1:By):evC (c_cpre lf) (d+1) σ yh 57 [.s (.str s0),.s (.str prefix1)] [] s=cpre lf s0 prefix1 (fun r0 r1=>some (.tup [.s (.str r0),.s (.bool r1)],[],s)):=by
 refine (evC_eq (fn:=Tryz.f57) (by kernel_rfl) (by kernel_rfl) (by kernel_rfl)).trans ?_
 generalize evC (c_cpre lf) d=cl
 unfold cpre;kernel_rfl
noncomputable abbrev b_gsplit:Code:=bodyOf Tryz.f138
noncomputable def c_gsplit (lf:Nat):Cfg:=mkCfg lf [138] (lookK [(11,[0,0,0,0,4,0,0])]) [(165,X_explode),(166,X_scnt),(154,X_sidx)] (lookK [(18,[8]),(17,[9,0]),(16,[0,0,0,0,5,0]),(15,[0,0,0,0,5,0]),(14,[0,0,0,0,5,0,0]),(13,[0,0,0,0,5,0,0,29]),(12,[0,0,0,0,5,0,0]),(11,[0,0,0,0,5,0,25]),(10,[0,0,0,0,5,0]),(9,[0,0,0,0,5]),(8,[0,0,0,0,5]),(7,[0,0,0,0]),(6,[0,0,0,0]),(5,[0,0,0,0,16]),(4,[8]),(3,[0,0,0,0,11]),(2,[8]),(1,[0,0,0,0,9]),(0,[0,0,0,0])]) [166,154] (lookK [(0,[0,8,0]),(1,[0,0,0,0,5,0])]) (some [8]) [] [] []
noncomputable def gsplit_l0f {R:Type} (lf n:Nat) (self:By→By→Int→Int→Int→LL→Option R) (s0 sep1:By) (sepSave2 n3 i4:Int) (l5:LL) (k0:By→Int→LL→Option R):Option R:=cond (ltI i4 n3) (cond (small (List.length s0)) (cond (ltI (Lib.index s0 sep1) (0:Int)) (k0 s0 i4 l5) (vl (wi64 ((Lib.index s0 sep1)+sepSave2)) fun n'12=>cond (sub3 (0:Int) n'12 (List.length s0)) (cond (inR i4 (List.length l5)) (cond (decide ((Int.toNat i4)<(List.length l5))) (vl (List.set l5 (Int.toNat i4) (putAt (List.getD l5 (Int.toNat i4) []) 0 [(SV.str (cut s0 (0:Int) n'12))])) fun l'13=>vl (wi64 ((Lib.index s0 sep1)+(↑(List.length sep1):Int))) fun n'14=>cond (sub3 n'14 (↑(List.length s0):Int) (List.length s0)) (vl (cut s0 n'14 (↑(List.length s0):Int)) fun s'15=>self s'15 sep1 sepSave2 n3 (wi64 (i4+(1:Int))) l'13) (none)) (none)) (none)) (none))) (none)) (k0 s0 i4 l5)
noncomputable def gsplit_l0 {R:Type} (lf n:Nat) (s0 sep1:By) (sepSave2 n3 i4:Int) (l5:LL) (k0:By→Int→LL→Option R):Option R:=recN (α:=By→By→Int→Int→Int→LL→Option R) (fun _ _ _ _ _ _=>none) (fun n self s0 sep1 sepSave2 n3 i4 l5=>gsplit_l0f lf n self s0 sep1 sepSave2 n3 i4 l5 k0) n s0 sep1 sepSave2 n3 i4 l5
theorem gsplit_l0_s {R:Type} (lf n:Nat) (s0 sep1:By) (sepSave2 n3 i4:Int) (l5:LL) (k0:By→Int→LL→Option R):gsplit_l0 lf (n+1) s0 sep1 sepSave2 n3 i4 l5 k0=gsplit_l0f lf n (fun s0 sep1 sepSave2 n3 i4 l5=>gsplit_l0 lf n s0 sep1 sepSave2 n3 i4 l5 k0) s0 sep1 sepSave2 n3 i4 l5 k0:=rfl
theorem gsplit_l0_eq (n:Nat) (s0 sep1:By) (sepSave2 n3 i4:Int) (l5:LL):loopK 1 ((c_gsplit lf).keep 11) (bd (c_gsplit lf) cl yh (cd [1,1,1,1,1,1,1,1,0,0,0] b_gsplit)) n ⟨gp [(0,.s (.str s0)),(0,.s (.str sep1)),(0,.s (.int .i64 sepSave2)),(0,.s (.int .i64 n3)),(5,.fl 0),(0,.s (.int .i64 i4))] 55,[.arr false 9 1 l5],s⟩ k =
 gsplit_l0 lf n s0 sep1 sepSave2 n3 i4 l5 (fun s0 i1 l2=>k (.exit 0) ⟨gp [(0,.s (.str s0)),(8,.fl 0),(0,.s (.int .i64 i1))] 55,[.arr false 9 1 l2],s⟩):=by
 induction n generalizing s0 sep1 sepSave2 n3 i4 l5 with
 | zero=>rfl
 | succ n ih=>rw [gsplit_l0_s];unfold gsplit_l0f;exact (Eq.trans (by kernel_rfl) (cond_congr (cond_congr (cond_congr rfl (vl_congr fun n'12=>(cond_congr (cond_congr (cond_congr (vl_congr fun l'13=>(vl_congr fun n'14=>(cond_congr (vl_congr fun s'15=>(ih s'15 sep1 sepSave2 n3 (wi64 (i4+(1:Int))) l'13)) rfl))) rfl) rfl) rfl))) rfl) rfl))
noncomputable def gsplit {R:Type} (lf:Nat) (s0 sep1:By) (sepSave2 n3:Int) (k0:Unit→Option R) (k1:Nat→LL→Option R):Option R:=cond (n3==(0:Int)) (k0 ()) (cond (sep1==([]:List UInt8)) (none) (cond (ltI n3 (0:Int)) (cond ((List.length sep1)==1) (vl (↑(List.count (List.getD sep1 0 0) s0):Int) fun n'1=>vl (wi64 ((↑(List.length s0):Int)+(1:Int))) fun n'4=>vl (if (n'4<(wi64 (n'1+(1:Int)))) then n'4 else (wi64 (n'1+(1:Int)))) fun n'5=>cond (((decide ((0:Int)≤n'5))&&(decide (n'5≤n'5)))&&(roomy (Int.toNat n'5))) (gsplit_l0 lf lf s0 sep1 sepSave2 (wi64 (n'5-(1:Int))) 0 (List.replicate (Int.toNat n'5) [(SV.str ([]:List UInt8))]) (fun s'16 i'17 l'18=>cond (inR i'17 (List.length l'18)) (cond (decide ((Int.toNat i'17)<(List.length l'18))) (vl (List.set l'18 (Int.toNat i'17) (putAt (List.getD l'18 (Int.toNat i'17) []) 0 [(SV.str s'16)])) fun l'19=>vl (wi64 (i'17+(1:Int))) fun n'20=>cond (sub3 (0:Int) n'20 (List.length l'19)) (k1 ((Int.toNat n'20)-0) l'19) (none)) (none)) (none))) (none)) (none)) (vl (wi64 ((↑(List.length s0):Int)+(1:Int))) fun n'8=>vl (if (n'8<n3) then n'8 else n3) fun n'9=>cond (((decide ((0:Int)≤n'9))&&(decide (n'9≤n'9)))&&(roomy (Int.toNat n'9))) (gsplit_l0 lf lf s0 sep1 sepSave2 (wi64 (n'9-(1:Int))) 0 (List.replicate (Int.toNat n'9) [(SV.str ([]:List UInt8))]) (fun s'21 i'22 l'23=>cond (inR i'22 (List.length l'23)) (cond (decide ((Int.toNat i'22)<(List.length l'23))) (vl (List.set l'23 (Int.toNat i'22) (putAt (List.getD l'23 (Int.toNat i'22) []) 0 [(SV.str s'21)])) fun l'24=>vl (wi64 (i'22+(1:Int))) fun n'25=>cond (sub3 (0:Int) n'25 (List.length l'24)) (k1 ((Int.toNat n'25)-0) l'24) (none)) (none)) (none))) (none))))
theorem gsplit_ev (d:Nat) (s0 sep1:By) (sepSave2 n3:Int):evC (c_gsplit lf) (d+1) σ yh 138 [.s (.str s0),.s (.str sep1),.s (.int .i64 sepSave2),.s (.int .i64 n3)] [] s=gsplit lf s0 sep1 sepSave2 n3 (fun _=>some (.fl 0,[.arr true 9 1 []],s)) (fun r_m0 l1=>some (.vw 0 0 r_m0,[.arr false 9 1 l1],s)):=by
 refine (evC_eq (fn:=Tryz.f138) (by kernel_rfl) (by kernel_rfl) (by kernel_rfl)).trans ?_
 generalize evC (c_gsplit lf) d=cl
 unfold gsplit;exact let K0:=(blkK 0 (seqK (c_gsplit lf) cl yh (cd [1,1,1,1,1,1,1,1,1] b_gsplit) (retK (c_gsplit lf) Tryz.f138)));(Eq.trans (by kernel_rfl) (cond_congr rfl (cond_congr rfl (cond_congr (cond_congr (vl_congr fun n'1=>(vl_congr fun n'4=>(vl_congr fun n'5=>(cond_congr ((gsplit_l0_eq lf cl yh s K0 lf s0 sep1 sepSave2 (wi64 (n'5-(1:Int))) 0 (List.replicate (Int.toNat n'5) [(SV.str ([]:List UInt8))])).trans (by kernel_rfl)) rfl)))) rfl) (vl_congr fun n'8=>(vl_congr fun n'9=>(cond_congr ((gsplit_l0_eq lf cl yh s K0 lf s0 sep1 sepSave2 (wi64 (n'9-(1:Int))) 0 (List.replicate (Int.toNat n'9) [(SV.str ([]:List UInt8))])).trans (by kernel_rfl)) rfl)))))))
noncomputable def c_ssplit (lf:Nat):Cfg:=mkCfg lf [109] (lookK []) [(138,X_gsplit)] (lookK [(1,[4]),(0,[0,0])]) [] (lookK []) (some [4]) [] [] []
noncomputable def ssplit {R:Type} (lf:Nat) (s0 sep1:By) (k0:LL→Option R):Option R:=cond (small (List.length s0)) (cond ((List.length sep1)==1) (cond ((0:Int)==(0:Int)) (cond (((-1):Int)==((-1):Int)) (vl (strE (pcs (List.getD sep1 0 0) s0)) fun l'0=>k0 l'0) (none)) (none)) (none)) (none)
theorem ssplit_ev (d:Nat) (s0 sep1:By):evC (c_ssplit lf) (d+1) σ yh 109 [.s (.str s0),.s (.str sep1)] [] s=ssplit lf s0 sep1 (fun r0=>some (.s (.sl false false 1 r0),[],s)):=by
 refine (evC_eq (fn:=Tryz.f109) (by kernel_rfl) (by kernel_rfl) (by kernel_rfl)).trans ?_
 generalize evC (c_ssplit lf) d=cl
 unfold ssplit;kernel_rfl
noncomputable abbrev b_lowc:Code:=bodyOf Tryz.f56
noncomputable def c_lowc (lf:Nat):Cfg:=mkCfg lf [56] (lookK [(3,[0,1,0,6,0])]) [] (lookK [(10,[2]),(9,[0,2,6,0]),(8,[0,2,6,0]),(7,[0,2,1,4,0]),(6,[0,2,1,4,0,10]),(5,[0,2,1,4,0]),(4,[0,2,0,5,0]),(3,[0,2,6,0,0]),(2,[0,2,6,0]),(1,[0,2]),(0,[0])]) [] (lookK [(0,[3]),(1,[0,2,6,0])]) (some [2]) [] [] []
noncomputable def lowc_l0f {R:Type} (lf n:Nat) (self:By→Int→Int→LL→Option R) (s0:By) (n1 n2:Int) (l3:LL) (k0:LL→Option R):Option R:=cond (ltI n2 n1) (cond (inR n2 (List.length s0)) (cond (not (ltI (bAt s0 n2) (65:Int))) (cond (not (ltI (90:Int) (bAt s0 n2))) (vl (wu8 ((bAt s0 n2)+(32:Int))) fun n'0=>cond (roomy ((List.length l3)+1)) (self s0 n1 (wi64 (n2+(1:Int))) (l3++[[(SV.int .u8 n'0)]])) (none)) (cond (roomy ((List.length l3)+1)) (self s0 n1 (wi64 (n2+(1:Int))) (l3++[[(SV.int .u8 (bAt s0 n2))]])) (none))) (cond (roomy ((List.length l3)+1)) (self s0 n1 (wi64 (n2+(1:Int))) (l3++[[(SV.int .u8 (bAt s0 n2))]])) (none))) (none)) (k0 l3)
noncomputable def lowc_l0 {R:Type} (lf n:Nat) (s0:By) (n1 n2:Int) (l3:LL) (k0:LL→Option R):Option R:=recN (α:=By→Int→Int→LL→Option R) (fun _ _ _ _=>none) (fun n self s0 n1 n2 l3=>lowc_l0f lf n self s0 n1 n2 l3 k0) n s0 n1 n2 l3
theorem lowc_l0_s {R:Type} (lf n:Nat) (s0:By) (n1 n2:Int) (l3:LL) (k0:LL→Option R):lowc_l0 lf (n+1) s0 n1 n2 l3 k0=lowc_l0f lf n (fun s0 n1 n2 l3=>lowc_l0 lf n s0 n1 n2 l3 k0) s0 n1 n2 l3 k0:=rfl
theorem lowc_l0_eq (n:Nat) (s0:By) (n1 n2:Int) (l3:LL):loopK 1 ((c_lowc lf).keep 3) (bd (c_lowc lf) cl yh (cd [1,1,0,1,0,0] b_lowc)) n ⟨gp [(0,.s (.str s0)),(2,.fl 0),(6,.s (.int .i64 n1)),(0,.s (.int .i64 n2))] 20,[.arr false 5 1 l3],s⟩ k =
 lowc_l0 lf n s0 n1 n2 l3 (fun l0=>k (.exit 0) ⟨gp [(3,.fl 0)] 28,[.arr false 5 1 l0],s⟩):=by
 induction n generalizing s0 n1 n2 l3 with
 | zero=>rfl
 | succ n ih=>rw [lowc_l0_s];unfold lowc_l0f;exact (Eq.trans (by kernel_rfl) (cond_congr (cond_congr (cond_congr (cond_congr (vl_congr fun n'0=>(cond_congr (ih s0 n1 (wi64 (n2+(1:Int))) (l3++[[(SV.int .u8 n'0)]])) rfl)) (cond_congr (ih s0 n1 (wi64 (n2+(1:Int))) (l3++[[(SV.int .u8 (bAt s0 n2))]])) rfl)) (cond_congr (ih s0 n1 (wi64 (n2+(1:Int))) (l3++[[(SV.int .u8 (bAt s0 n2))]])) rfl)) rfl) rfl))
noncomputable def lowc {R:Type} (lf:Nat) (s0:By) (k0:By→LL→Option R):Option R:=cond ((decide ((0:Int)≤(↑(List.length s0):Int)))&&(roomy (Int.toNat (↑(List.length s0):Int)))) (lowc_l0 lf lf s0 (↑(List.length s0):Int) 0 [] (fun l'1=>cond (List.all l'1 isU8) (k0 (List.map elU8 l'1) l'1) (none))) (none)
theorem lowc_ev (d:Nat) (s0:By):evC (c_lowc lf) (d+1) σ yh 56 [.s (.str s0)] [] s=lowc lf s0 (fun r0 l1=>some (.s (.str r0),[.arr false 5 1 l1],s)):=by
 refine (evC_eq (fn:=Tryz.f56) (by kernel_rfl) (by kernel_rfl) (by kernel_rfl)).trans ?_
 generalize evC (c_lowc lf) d=cl
 unfold lowc;exact (Eq.trans (by kernel_rfl) (cond_congr ((lowc_l0_eq lf cl yh s (blkK 0 (seqK (c_lowc lf) cl yh (cd [1,1,1] b_lowc) (retK (c_lowc lf) Tryz.f56))) lf s0 (↑(List.length s0):Int) 0 []).trans (by kernel_rfl)) rfl))
noncomputable def c_hexc (lf:Nat):Cfg:=mkCfg lf [122] (lookK []) [(59,X_hpre)] (lookK [(1,[2]),(0,[0])]) [59] (lookK []) (some [2]) [] [] []
noncomputable def hexc {R:Type} (lf:Nat) (s0:By) (k0:Bool→Option R):Option R:=cond (small (List.length s0)) (cond (List.isPrefixOf (([48,120]:List UInt8)) s0) (k0 true) (cond (small (List.length s0)) (k0 (List.isPrefixOf (([48,88]:List UInt8)) s0)) (none))) (none)
theorem hexc_ev (d:Nat) (s0:By):evC (c_hexc lf) (d+1) σ yh 122 [.s (.str s0)] [] s=hexc lf s0 (fun r0=>some (.s (.bool r0),[],s)):=by
 refine (evC_eq (fn:=Tryz.f122) (by kernel_rfl) (by kernel_rfl) (by kernel_rfl)).trans ?_
 generalize evC (c_hexc lf) d=cl
 unfold hexc;kernel_rfl
noncomputable abbrev b_digs:Code:=bodyOf Tryz.f124
noncomputable def c_digs (lf:Nat):Cfg:=mkCfg lf [124] (lookK [(3,[0,0,2,0,0,4,0])]) [] (lookK [(18,[4,0]),(17,[0,0,4,4,0]),(16,[0,0,4,4,0]),(15,[4,0]),(14,[0,0,4,1,2,0,39]),(9,[0,0,4,1,2,0]),(11,[0,0,4,1,2,0]),(13,[0,0,4,1,2,0]),(7,[4,0]),(12,[0,0,4,2,1,0,26]),(10,[0,0,4,2,1,0,15]),(8,[0,0,4,2,1,0,5]),(6,[0,0,4,2,1,0]),(5,[0,0,4,0,3,0]),(4,[0,0,4,0,3,0]),(3,[0,0,4,4,0,0]),(2,[0,0,4,4,0]),(1,[0,0,4]),(0,[0,0])]) [] (lookK [(0,[6]),(1,[0,0,4,4,0]),(2,[0,0,4,1,2,0])]) (some [4,0]) [] [] []
noncomputable def digs_j0 {R:Type} (s0:By) (base1 n2 b3 n4 n5:Int) (b6:Bool) (k0:By→Int→Int→Int→Int→Int→Option R) (k1:Unit→Option R):Option R:=cond b6 (vl (wi64 (wu8 (b3-(97:Int)))) fun n'1=>vl (wi64 (n'1+(10:Int))) fun n'2=>k0 s0 base1 n2 n'2 n4 n5) (cond (not (ltI b3 (65:Int))) (cond (not (ltI (70:Int) b3)) (vl (wi64 (wu8 (b3-(65:Int)))) fun n'3=>vl (wi64 (n'3+(10:Int))) fun n'4=>k0 s0 base1 n2 n'4 n4 n5) (k1 ())) (k1 ()))
abbrev digs_j0_P (b:Code):Prop:=∀ (k:Out→St σ→Option R) (s0:By) (base1 n2 b3 n4 n5:Int) (b6:Bool),evCode (c_digs lf) cl yh b ⟨gp [(0,.s (.str s0)),(0,.s (.int .i64 base1)),(4,.s (.int .i64 n2)),(2,.s (.int .u8 b3)),(1,.s (.int .i64 n4)),(0,.s (.int .i64 n5)),(15,.s (.bool b6))] 32,[],s⟩ k=digs_j0 s0 base1 n2 b3 n4 n5 b6 (fun s0 base1 n2 d3 n4 n5=>k .normal ⟨gp [(0,.s (.str s0)),(0,.s (.int .i64 base1)),(4,.s (.int .i64 n2)),(1,.s (.int .i64 d3)),(2,.s (.int .i64 n4)),(0,.s (.int .i64 n5))] 48,[],s⟩) (fun _=>k .ret ⟨gp [(4,.s (.int .i64 (0:Int))),(0,.s (.bool false))] 55,[],s⟩)
theorem digs_j0_eq:digs_j0_P (R:=R) lf cl yh s (cd [1,1,0,1,0,0,1,1,0,0,1,1,0,1,0,1,1,1] b_digs):=by
 intro k s0 base1 n2 b3 n4 n5 b6;unfold digs_j0;kernel_rfl
noncomputable def digs_j1 {R:Type} (s0:By) (base1 n2 b3 n4 n5:Int) (b6:Bool) (k0:By→Int→Int→Int→Int→Int→Option R) (k1:Unit→Option R):Option R:=cond b6 (vl (wi64 (wu8 (b3-(48:Int)))) fun n'0=>k0 s0 base1 n2 n'0 n4 n5) (cond (not (ltI b3 (97:Int))) (digs_j0 s0 base1 n2 b3 n4 n5 (not (ltI (102:Int) b3)) (fun s'5 base'6 n'7 d'8 n'9 n'10=>k0 s'5 base'6 n'7 d'8 n'9 n'10) (fun _=>k1 ())) (digs_j0 s0 base1 n2 b3 n4 n5 false (fun s'11 base'12 n'13 d'14 n'15 n'16=>k0 s'11 base'12 n'13 d'14 n'15 n'16) (fun _=>k1 ())))
abbrev digs_j1_P (b:Code):Prop:=∀ (k:Out→St σ→Option R) (s0:By) (base1 n2 b3 n4 n5:Int) (b6:Bool),evCode (c_digs lf) cl yh b ⟨gp [(0,.s (.str s0)),(0,.s (.int .i64 base1)),(4,.s (.int .i64 n2)),(2,.s (.int .u8 b3)),(1,.s (.int .i64 n4)),(0,.s (.int .i64 n5)),(5,.s (.bool b6))] 42,[],s⟩ k=digs_j1 s0 base1 n2 b3 n4 n5 b6 (fun s0 base1 n2 d3 n4 n5=>k .normal ⟨gp [(0,.s (.str s0)),(0,.s (.int .i64 base1)),(4,.s (.int .i64 n2)),(1,.s (.int .i64 d3)),(2,.s (.int .i64 n4)),(0,.s (.int .i64 n5))] 48,[],s⟩) (fun _=>k .ret ⟨gp [(4,.s (.int .i64 (0:Int))),(0,.s (.bool false))] 55,[],s⟩)
theorem digs_j1_eq (b_110100110011010111:Code) (h_digs_j0:digs_j0_P (R:=R) lf cl yh s b_110100110011010111):digs_j1_P (R:=R) lf cl yh s (cd [1,1,0,1,0,0,1,1,0,0,1,1,0,1,0,1] (putC [1,1,0,1,0,0,1,1,0,0,1,1,0,1,0,1,1,1] b_110100110011010111 b_digs)):=by
 intro k s0 base1 n2 b3 n4 n5 b6;unfold digs_j1;exact (Eq.trans (by kernel_rfl) (cond_congr (vl_congr fun n'0=>rfl) (cond_congr ((h_digs_j0 k s0 base1 n2 b3 n4 n5 (not (ltI (102:Int) b3))).trans (by kernel_rfl)) ((h_digs_j0 k s0 base1 n2 b3 n4 n5 false).trans (by kernel_rfl)))))
theorem digs_j1_fu:digs_j1_P (R:=R) lf cl yh s (cd [1,1,0,1,0,0,1,1,0,0,1,1,0,1,0,1] b_digs):=by
 intro k s0 base1 n2 b3 n4 n5 b6;exact Eq.trans (by kernel_rfl) (digs_j1_eq lf cl yh s (cd [1,1,0,1,0,0,1,1,0,0,1,1,0,1,0,1,1,1] b_digs) (digs_j0_eq lf cl yh s) k s0 base1 n2 b3 n4 n5 b6)
noncomputable def digs_j2 {R:Type} (s0:By) (base1 n2 d3 n4 n5:Int) (k0:Unit→Option R) (k1:By→Int→Int→Int→Int→Option R):Option R:=cond (not (ltI d3 base1)) (k0 ()) (vl (wi64 ((wi64 (n2*base1))+d3)) fun n'23=>vl (if ((1099511627776:Int)<n'23) then (1099511627776:Int) else n'23) fun n'24=>k1 s0 base1 n'24 n4 n5)
abbrev digs_j2_P (b:Code):Prop:=∀ (k:Out→St σ→Option R) (s0:By) (base1 n2 d3 n4 n5:Int),evCode (c_digs lf) cl yh b ⟨gp [(0,.s (.str s0)),(0,.s (.int .i64 base1)),(4,.s (.int .i64 n2)),(1,.s (.int .i64 d3)),(2,.s (.int .i64 n4)),(0,.s (.int .i64 n5))] 48,[],s⟩ k=digs_j2 s0 base1 n2 d3 n4 n5 (fun _=>k .ret ⟨gp [(4,.s (.int .i64 (0:Int))),(0,.s (.bool false))] 55,[],s⟩) (fun s0 base1 n2 n3 n4=>k .normal ⟨gp [(0,.s (.str s0)),(0,.s (.int .i64 base1)),(4,.s (.int .i64 n2)),(4,.s (.int .i64 n3)),(0,.s (.int .i64 n4))] 48,[],s⟩)
theorem digs_j2_eq:digs_j2_P (R:=R) lf cl yh s (cd [1,1,0,1,0,0,1,1,0,0,1,1,1] b_digs):=by
 intro k s0 base1 n2 d3 n4 n5;unfold digs_j2;kernel_rfl
noncomputable def digs_l0f {R:Type} (lf n:Nat) (self:By→Int→Int→Int→Int→Option R) (s0:By) (base1 n2 n3 n4:Int) (k0:Unit→Option R) (k1:Int→Option R):Option R:=cond (ltI n4 n3) (cond (inR n4 (List.length s0)) (cond (not (ltI (bAt s0 n4) (48:Int))) (digs_j1 s0 base1 n2 (bAt s0 n4) n3 n4 (not (ltI (57:Int) (bAt s0 n4))) (fun s'17 base'18 n'19 d'20 n'21 n'22=>digs_j2 s'17 base'18 n'19 d'20 n'21 n'22 (fun _=>k0 ()) (fun s'25 base'26 n'27 n'28 n'29=>vl (wi64 (n'29+(1:Int))) fun n'30=>self s'25 base'26 n'27 n'28 n'30)) (fun _=>k0 ())) (digs_j1 s0 base1 n2 (bAt s0 n4) n3 n4 false (fun s'31 base'32 n'33 d'34 n'35 n'36=>digs_j2 s'31 base'32 n'33 d'34 n'35 n'36 (fun _=>k0 ()) (fun s'37 base'38 n'39 n'40 n'41=>vl (wi64 (n'41+(1:Int))) fun n'42=>self s'37 base'38 n'39 n'40 n'42)) (fun _=>k0 ()))) (none)) (k1 n2)
noncomputable def digs_l0 {R:Type} (lf n:Nat) (s0:By) (base1 n2 n3 n4:Int) (k0:Unit→Option R) (k1:Int→Option R):Option R:=recN (α:=By→Int→Int→Int→Int→Option R) (fun _ _ _ _ _=>none) (fun n self s0 base1 n2 n3 n4=>digs_l0f lf n self s0 base1 n2 n3 n4 k0 k1) n s0 base1 n2 n3 n4
theorem digs_l0_s {R:Type} (lf n:Nat) (s0:By) (base1 n2 n3 n4:Int) (k0:Unit→Option R) (k1:Int→Option R):digs_l0 lf (n+1) s0 base1 n2 n3 n4 k0 k1=digs_l0f lf n (fun s0 base1 n2 n3 n4=>digs_l0 lf n s0 base1 n2 n3 n4 k0 k1) s0 base1 n2 n3 n4 k0 k1:=rfl
theorem digs_l0_eq (b_1101001100110101:Code) (h_digs_j1:digs_j1_P (R:=R) lf cl yh s b_1101001100110101) (b_1101001100111:Code) (h_digs_j2:digs_j2_P (R:=R) lf cl yh s b_1101001100111) (n:Nat) (s0:By) (base1 n2 n3 n4:Int):loopK 0 ((c_digs lf).keep 3) (bd (c_digs lf) cl yh (cd [1,1,0,1,0,0] (putC [1,1,0,1,0,0,1,1,0,0,1,1,1] b_1101001100111 (putC [1,1,0,1,0,0,1,1,0,0,1,1,0,1,0,1] b_1101001100110101 b_digs)))) n ⟨gp [(0,.s (.str s0)),(0,.s (.int .i64 base1)),(4,.s (.int .i64 n2)),(4,.s (.int .i64 n3)),(0,.s (.int .i64 n4))] 48,[],s⟩ k =
 digs_l0 lf n s0 base1 n2 n3 n4 (fun _=>k .ret ⟨gp [(4,.s (.int .i64 (0:Int))),(0,.s (.bool false))] 55,[],s⟩) (fun n0=>k (.exit 0) ⟨gp [(6,.s (.int .i64 n0))] 54,[],s⟩):=by
 induction n generalizing s0 base1 n2 n3 n4 with
 | zero=>rfl
 | succ n ih=>rw [digs_l0_s];unfold digs_l0f;exact let K0:=(blkK 1 (seqK (c_digs lf) cl yh (cd [1,1,0,1,0,0,1,1,1] b_digs) (lpK 0 ((c_digs lf).keep 3) (bd (c_digs lf) cl yh (cd [1,1,0,1,0,0] (putC [1,1,0,1,0,0,1,1,0,0,1,1,1] b_1101001100111 (putC [1,1,0,1,0,0,1,1,0,0,1,1,0,1,0,1] b_1101001100110101 b_digs)))) n k)));let K1:=(blkK 2 (seqK (c_digs lf) cl yh b_1101001100111 K0));(Eq.trans (by kernel_rfl) (cond_congr (cond_congr (cond_congr ((h_digs_j1 K1 s0 base1 n2 (bAt s0 n4) n3 n4 (not (ltI (57:Int) (bAt s0 n4)))).trans (congr (congr rfl (fx6 fun s'17 base'18 n'19 d'20 n'21 n'22=>(Eq.trans (by kernel_rfl) ((h_digs_j2 K0 s'17 base'18 n'19 d'20 n'21 n'22).trans (congr (congr rfl (by kernel_rfl)) (fx5 fun s'25 base'26 n'27 n'28 n'29=>(Eq.trans (by kernel_rfl) (vl_congr fun n'30=>(ih s'25 base'26 n'27 n'28 n'30))))))))) (by kernel_rfl))) ((h_digs_j1 K1 s0 base1 n2 (bAt s0 n4) n3 n4 false).trans (congr (congr rfl (fx6 fun s'31 base'32 n'33 d'34 n'35 n'36=>(Eq.trans (by kernel_rfl) ((h_digs_j2 K0 s'31 base'32 n'33 d'34 n'35 n'36).trans (congr (congr rfl (by kernel_rfl)) (fx5 fun s'37 base'38 n'39 n'40 n'41=>(Eq.trans (by kernel_rfl) (vl_congr fun n'42=>(ih s'37 base'38 n'39 n'40 n'42))))))))) (by kernel_rfl)))) rfl) rfl))
noncomputable def digs {R:Type} (lf:Nat) (s0:By) (base1:Int) (k0:Int→Bool→Option R):Option R:=digs_l0 lf lf s0 base1 0 (↑(List.length s0):Int) 0 (fun _=>k0 0 false) (fun n'43=>k0 n'43 true)
theorem digs_eq (b_1101001100110101:Code) (h_digs_j1:digs_j1_P (R:=PV × List Blk × σ) lf cl yh s b_1101001100110101) (b_1101001100111:Code) (h_digs_j2:digs_j2_P (R:=PV × List Blk × σ) lf cl yh s b_1101001100111) (s0:By) (base1:Int):evCode (c_digs lf) cl yh (cd [] (putC [1,1,0,1,0,0,1,1,0,0,1,1,1] b_1101001100111 (putC [1,1,0,1,0,0,1,1,0,0,1,1,0,1,0,1] b_1101001100110101 b_digs))) ⟨[.s (.str s0),.s (.int .i64 base1)]++tps 59,[],s⟩ (retK (c_digs lf) Tryz.f124)=digs lf s0 base1 (fun r0 r1=>some (.tup [.s (.int .i64 r0),.s (.bool r1)],[],s)):=by
 unfold digs;exact (Eq.trans (by kernel_rfl) ((digs_l0_eq lf cl yh s (blkK 0 (seqK (c_digs lf) cl yh (cd [1,1,1] b_digs) (retK (c_digs lf) Tryz.f124))) b_1101001100110101 h_digs_j1 b_1101001100111 h_digs_j2 lf s0 base1 0 (↑(List.length s0):Int) 0).trans (by kernel_rfl)))
theorem digs_ev (d:Nat) (s0:By) (base1:Int):evC (c_digs lf) (d+1) σ yh 124 [.s (.str s0),.s (.int .i64 base1)] [] s=digs lf s0 base1 (fun r0 r1=>some (.tup [.s (.int .i64 r0),.s (.bool r1)],[],s)):=
 (evC_eq (fn:=Tryz.f124) (by kernel_rfl) (by kernel_rfl) (by kernel_rfl)).trans (Eq.trans (by kernel_rfl) (digs_eq lf (evC (c_digs lf) d) yh s (cd [1,1,0,1,0,0,1,1,0,0,1,1,0,1,0,1] b_digs) (digs_j1_fu lf (evC (c_digs lf) d) yh s) (cd [1,1,0,1,0,0,1,1,0,0,1,1,1] b_digs) (digs_j2_eq lf (evC (c_digs lf) d) yh s) s0 base1))
noncomputable def c_num (lf:Nat):Cfg:=mkCfg lf [123] (lookK []) [(122,X_hexc),(124,X_digs)] (lookK [(7,[2,0]),(2,[2,0]),(4,[2,0]),(6,[2,0]),(5,[0,14]),(3,[0,6]),(1,[0,3]),(0,[0])]) [122,124] (lookK [(0,[0])]) (some [2,0]) [] [] []
noncomputable def num {R:Type} (lf:Nat) (s0:By) (k0:Int→Bool→Option R):Option R:=cond (s0==([]:List UInt8)) (k0 0 false) (cond (small (List.length s0)) (cond (isHex s0) (cond (sub3 (2:Int) (↑(List.length s0):Int) (List.length s0)) (vl (cut s0 (2:Int) (↑(List.length s0):Int)) fun s'0=>cond (small (List.length s'0)) (cond (ltN (16:Int) 17) (vl (↑(optN (digGo 16 0 s'0)):Int) fun n'1=>k0 n'1 (Option.isSome (digGo 16 0 s'0))) (none)) (none)) (none)) (cond (ltI (1:Int) (↑(List.length s0):Int)) (cond (inR (0:Int) (List.length s0)) (cond ((bAt s0 (0:Int))==(48:Int)) (cond (sub3 (1:Int) (↑(List.length s0):Int) (List.length s0)) (vl (cut s0 (1:Int) (↑(List.length s0):Int)) fun s'2=>cond (small (List.length s'2)) (cond (ltN (8:Int) 17) (vl (↑(optN (digGo 8 0 s'2)):Int) fun n'3=>k0 n'3 (Option.isSome (digGo 8 0 s'2))) (none)) (none)) (none)) (cond (small (List.length s0)) (cond (ltN (10:Int) 17) (vl (↑(optN (digGo 10 0 s0)):Int) fun n'4=>k0 n'4 (Option.isSome (digGo 10 0 s0))) (none)) (none))) (none)) (cond (small (List.length s0)) (cond (ltN (10:Int) 17) (vl (↑(optN (digGo 10 0 s0)):Int) fun n'5=>k0 n'5 (Option.isSome (digGo 10 0 s0))) (none)) (none)))) (none))
theorem num_ev (d:Nat) (s0:By):evC (c_num lf) (d+1) σ yh 123 [.s (.str s0)] [] s=num lf s0 (fun r0 r1=>some (.tup [.s (.int .i64 r0),.s (.bool r1)],[],s)):=by
 refine (evC_eq (fn:=Tryz.f123) (by kernel_rfl) (by kernel_rfl) (by kernel_rfl)).trans ?_
 generalize evC (c_num lf) d=cl
 unfold num;kernel_rfl
noncomputable def c_parts (lf:Nat):Cfg:=mkCfg lf [121] (lookK []) [(109,X_ssplit)] (lookK [(5,[2]),(4,[3]),(3,[3,0,13]),(2,[3,0]),(1,[3]),(0,[0])]) [] (lookK []) (some [2]) [] [] []
noncomputable def parts {R:Type} (lf:Nat) (s0:By) (k0:LL→Option R):Option R:=cond (small (List.length s0)) (cond (1==1) (vl (strE (pcs (List.getD (([46]:List UInt8)) 0 0) s0)) fun l'1=>vl (wi64 ((↑(List.length l'1):Int)-(1:Int))) fun n'3=>cond (ltI (0:Int) n'3) (cond (inR n'3 (List.length l'1)) (cond (okE tStr l'1 (Int.toNat n'3) 0) (vl (gX l'1 (Int.toNat n'3) 0) fun s'4=>cond (s'4==([]:List UInt8)) (cond (sub3 (0:Int) n'3 (List.length l'1)) (k0 (cut l'1 (0:Int) n'3)) (none)) (k0 l'1)) (none)) (none)) (k0 l'1)) (none)) (none)
theorem parts_ev (d:Nat) (s0:By):evC (c_parts lf) (d+1) σ yh 121 [.s (.str s0)] [] s=parts lf s0 (fun r0=>some (.s (.sl false false 1 r0),[],s)):=by
 refine (evC_eq (fn:=Tryz.f121) (by kernel_rfl) (by kernel_rfl) (by kernel_rfl)).trans ?_
 generalize evC (c_parts lf) d=cl
 unfold parts;kernel_rfl
noncomputable def c_numeric (lf:Nat):Cfg:=mkCfg lf [90] (lookK []) [(121,X_parts),(122,X_hexc),(123,X_num),(124,X_digs)] (lookK [(7,[2]),(6,[4,3]),(5,[2]),(4,[6]),(3,[4,13]),(2,[4]),(1,[3]),(0,[0])]) [122,123,124] (lookK []) (some [2]) [] [] []
noncomputable def numeric {R:Type} (lf:Nat) (s0:By) (k0:Bool→Option R):Option R:=cond (small (List.length s0)) (vl (wi64 ((↑(List.length (strE (partsB s0))):Int)-(1:Int))) fun n'2=>cond (inR n'2 (List.length (strE (partsB s0)))) (cond (okE tStr (strE (partsB s0)) (Int.toNat n'2) 0) (vl (gX (strE (partsB s0)) (Int.toNat n'2) 0) fun s'3=>cond (small (List.length s'3)) (cond (isHex s'3) (cond (small (List.length s'3)) (vl (↑(optN (numB s'3)):Int) fun n'5=>k0 (Option.isSome (numB s'3))) (none)) (cond (small (List.length s'3)) (cond (ltN (10:Int) 17) (vl (↑(optN (digGo 10 0 s'3)):Int) fun n'6=>cond (Option.isSome (digGo 10 0 s'3)) (k0 (not (s'3==([]:List UInt8)))) (k0 false)) (none)) (none))) (none)) (none)) (none)) (none)
theorem numeric_ev (d:Nat) (s0:By):evC (c_numeric lf) (d+1) σ yh 90 [.s (.str s0)] [] s=numeric lf s0 (fun r0=>some (.s (.bool r0),[],s)):=by
 refine (evC_eq (fn:=Tryz.f90) (by kernel_rfl) (by kernel_rfl) (by kernel_rfl)).trans ?_
 generalize evC (c_numeric lf) d=cl
 unfold numeric;kernel_rfl
noncomputable abbrev b_pnum:Code:=bodyOf Tryz.f108
noncomputable def c_pnum (lf:Nat):Cfg:=mkCfg lf [108] (lookK [(6,[2,0,0,0,10,0,0])]) [(121,X_parts),(123,X_num)] (lookK [(20,[2,0]),(19,[4,0,10,0,0]),(18,[4,0,10,0,0]),(17,[2,0]),(16,[4,0,2,1,5,0,0,29]),(15,[4,0,2,1,5,0,0]),(14,[4,0,10,0,0]),(13,[2,0]),(12,[4,0,2,7,0,0,17]),(11,[4,0,2,7,0,0,15]),(10,[2,0]),(9,[4,0,0,1,7,0,0,10]),(8,[4,0,0,1,0,6,0,0]),(7,[4,0,0,0,8,0,0]),(6,[4,0,10,0,0,0]),(5,[4,0,10,0,0]),(4,[4,0]),(3,[2,0]),(2,[4,10]),(1,[4]),(0,[0])]) [123] (lookK [(0,[5]),(1,[4,0,10,0,0])]) (some [2,0]) [] [] []
noncomputable def pnum_l0f {R:Type} (lf n:Nat) (self:LL→Int→Int→Int→Option R) (l0:LL) (v1 n2 n3:Int) (k0:Unit→Option R) (k1:Int→Option R):Option R:=cond (ltI n3 n2) (cond (inR n3 (List.length l0)) (cond (okE tStr l0 (Int.toNat n3) 0) (cond (small (List.length (gX l0 (Int.toNat n3) 0))) (vl (↑(optN (numB (gX l0 (Int.toNat n3) 0))):Int) fun n'1=>cond (not (Option.isSome (numB (gX l0 (Int.toNat n3) 0)))) (k0 ()) (vl (wi64 ((↑(List.length l0):Int)-(1:Int))) fun n'6=>cond (ltI n3 n'6) (cond (ltI (255:Int) n'1) (k0 ()) (vl (bOr .i64 (shlI .i64 v1 (8:Int)) n'1) fun n'7=>self l0 n'7 n2 (wi64 (n3+(1:Int))))) (vl (wi64 ((5:Int)-(↑(List.length l0):Int))) fun n'9=>cond (decide ((0:Int)≤(wi64 ((8:Int)*n'9)))) (vl (shlI .i64 (1:Int) (wi64 ((8:Int)*n'9))) fun n'10=>cond (not (ltI n'1 n'10)) (k0 ()) (cond (decide ((0:Int)≤(wi64 ((8:Int)*n'9)))) (vl (shlI .i64 v1 (wi64 ((8:Int)*n'9))) fun n'11=>self l0 (bOr .i64 n'11 n'1) n2 (wi64 (n3+(1:Int)))) (none))) (none)))) (none)) (none)) (none)) (k1 v1)
noncomputable def pnum_l0 {R:Type} (lf n:Nat) (l0:LL) (v1 n2 n3:Int) (k0:Unit→Option R) (k1:Int→Option R):Option R:=recN (α:=LL→Int→Int→Int→Option R) (fun _ _ _ _=>none) (fun n self l0 v1 n2 n3=>pnum_l0f lf n self l0 v1 n2 n3 k0 k1) n l0 v1 n2 n3
theorem pnum_l0_s {R:Type} (lf n:Nat) (l0:LL) (v1 n2 n3:Int) (k0:Unit→Option R) (k1:Int→Option R):pnum_l0 lf (n+1) l0 v1 n2 n3 k0 k1=pnum_l0f lf n (fun l0 v1 n2 n3=>pnum_l0 lf n l0 v1 n2 n3 k0 k1) l0 v1 n2 n3 k0 k1:=rfl
theorem pnum_l0_eq (n:Nat) (l0:LL) (v1 n2 n3:Int):loopK 0 ((c_pnum lf).keep 6) (bd (c_pnum lf) cl yh (cd [1,0,1,1,1,1,0,1,0,0] b_pnum)) n ⟨gp [(4,.s (.sl false false 1 l0)),(0,.s (.int .i64 v1)),(10,.s (.sl false false 1 l0)),(0,.s (.int .i64 n2)),(0,.s (.int .i64 n3))] 38,[],s⟩ k =
 pnum_l0 lf n l0 v1 n2 n3 (fun _=>k .ret ⟨gp [(2,.s (.int .u32 (0:Int))),(0,.s (.bool false))] 53,[],s⟩) (fun v0=>k (.exit 0) ⟨gp [(5,.s (.int .i64 v0))] 51,[],s⟩):=by
 induction n generalizing l0 v1 n2 n3 with
 | zero=>rfl
 | succ n ih=>rw [pnum_l0_s];unfold pnum_l0f;exact (Eq.trans (by kernel_rfl) (cond_congr (cond_congr (cond_congr (cond_congr (vl_congr fun n'1=>(cond_congr rfl (vl_congr fun n'6=>(cond_congr (cond_congr rfl (vl_congr fun n'7=>(ih l0 n'7 n2 (wi64 (n3+(1:Int)))))) (vl_congr fun n'9=>(cond_congr (vl_congr fun n'10=>(cond_congr rfl (cond_congr (vl_congr fun n'11=>(ih l0 (bOr .i64 n'11 n'1) n2 (wi64 (n3+(1:Int))))) rfl))) rfl)))))) rfl) rfl) rfl) rfl))
noncomputable def pnum {R:Type} (lf:Nat) (s0:By) (k0:Int→Bool→Option R):Option R:=cond (small (List.length s0)) (cond (ltI (4:Int) (↑(List.length (strE (partsB s0))):Int)) (k0 0 false) (pnum_l0 lf lf (strE (partsB s0)) 0 (↑(List.length (strE (partsB s0))):Int) 0 (fun _=>k0 0 false) (fun v'12=>k0 (wu32 v'12) true))) (none)
theorem pnum_ev (d:Nat) (s0:By):evC (c_pnum lf) (d+1) σ yh 108 [.s (.str s0)] [] s=pnum lf s0 (fun r0 r1=>some (.tup [.s (.int .u32 r0),.s (.bool r1)],[],s)):=by
 refine (evC_eq (fn:=Tryz.f108) (by kernel_rfl) (by kernel_rfl) (by kernel_rfl)).trans ?_
 generalize evC (c_pnum lf) d=cl
 unfold pnum;exact (Eq.trans (by kernel_rfl) (cond_congr (cond_congr rfl ((pnum_l0_eq lf cl yh s (blkK 0 (seqK (c_pnum lf) cl yh (cd [1,0,1,1,1,1,1] b_pnum) (retK (c_pnum lf) Tryz.f108))) lf (strE (partsB s0)) 0 (↑(List.length (strE (partsB s0))):Int) 0).trans (by kernel_rfl))) rfl))
noncomputable abbrev b_v4p:Code:=bodyOf Tryz.f180
noncomputable def c_v4p (lf:Nat):Cfg:=mkCfg lf [180] (lookK [(6,[2,0,1,9,0,0])]) [(109,X_ssplit),(124,X_digs),(51,X_itoa)] (lookK [(13,[2,0]),(12,[5,9,0,0]),(11,[5,9,0,0]),(10,[2,0]),(9,[5,2,6,0,0,19]),(8,[5,1,0,0,5,0,0]),(7,[5,1,7,0,0]),(6,[5,9,0,0,0]),(5,[5,9,0,0]),(4,[4,0]),(3,[2,0]),(2,[4,9]),(1,[4]),(0,[0])]) [124,51] (lookK [(0,[5]),(1,[5,9,0,0])]) (some [2,0]) [] [] []
noncomputable def v4p_l0f {R:Type} (lf n:Nat) (self:Int→LL→Int→Int→Option R) (v0:Int) (l1:LL) (n2 n3:Int) (k0:Unit→Option R) (k1:Int→Option R):Option R:=cond (ltI n3 n2) (cond (inR n3 (List.length l1)) (cond (okE tStr l1 (Int.toNat n3) 0) (cond (small (List.length (gX l1 (Int.toNat n3) 0))) (cond (ltN (10:Int) 17) (vl (↑(optN (digGo 10 0 (gX l1 (Int.toNat n3) 0))):Int) fun n'3=>cond (not (Option.isSome (digGo 10 0 (gX l1 (Int.toNat n3) 0)))) (k0 ()) (cond (ltI (255:Int) n'3) (k0 ()) (cond (ltN n'3 4294967296) (vl (Lib.decDigits (Int.toNat n'3)) fun s'4=>cond (not (s'4==(gX l1 (Int.toNat n3) 0))) (k0 ()) (vl (bOr .u32 (shlI .u32 v0 (8:Int)) (wu32 n'3)) fun n'5=>self n'5 l1 n2 (wi64 (n3+(1:Int))))) (none)))) (none)) (none)) (none)) (none)) (k1 v0)
noncomputable def v4p_l0 {R:Type} (lf n:Nat) (v0:Int) (l1:LL) (n2 n3:Int) (k0:Unit→Option R) (k1:Int→Option R):Option R:=recN (α:=Int→LL→Int→Int→Option R) (fun _ _ _ _=>none) (fun n self v0 l1 n2 n3=>v4p_l0f lf n self v0 l1 n2 n3 k0 k1) n v0 l1 n2 n3
theorem v4p_l0_s {R:Type} (lf n:Nat) (v0:Int) (l1:LL) (n2 n3:Int) (k0:Unit→Option R) (k1:Int→Option R):v4p_l0 lf (n+1) v0 l1 n2 n3 k0 k1=v4p_l0f lf n (fun v0 l1 n2 n3=>v4p_l0 lf n v0 l1 n2 n3 k0 k1) v0 l1 n2 n3 k0 k1:=rfl
theorem v4p_l0_eq (n:Nat) (v0:Int) (l1:LL) (n2 n3:Int):loopK 0 ((c_v4p lf).keep 6) (bd (c_v4p lf) cl yh (cd [1,1,1,1,0,1,0,0] b_v4p)) n ⟨gp [(5,.s (.int .u32 v0)),(9,.s (.sl false false 1 l1)),(0,.s (.int .i64 n2)),(0,.s (.int .i64 n3))] 27,[],s⟩ k =
 v4p_l0 lf n v0 l1 n2 n3 (fun _=>k .ret ⟨gp [(2,.s (.int .u32 (0:Int))),(0,.s (.bool false))] 41,[],s⟩) (fun v0=>k (.exit 0) ⟨gp [(5,.s (.int .u32 v0))] 39,[],s⟩):=by
 induction n generalizing v0 l1 n2 n3 with
 | zero=>rfl
 | succ n ih=>rw [v4p_l0_s];unfold v4p_l0f;exact (Eq.trans (by kernel_rfl) (cond_congr (cond_congr (cond_congr (cond_congr (cond_congr (vl_congr fun n'3=>(cond_congr rfl (cond_congr rfl (cond_congr (vl_congr fun s'4=>(cond_congr rfl (vl_congr fun n'5=>(ih n'5 l1 n2 (wi64 (n3+(1:Int))))))) rfl)))) rfl) rfl) rfl) rfl) rfl))
noncomputable def v4p {R:Type} (lf:Nat) (s0:By) (k0:Int→Bool→Option R):Option R:=cond (small (List.length s0)) (cond (1==1) (vl (strE (pcs (List.getD (([46]:List UInt8)) 0 0) s0)) fun l'1=>cond ((↑(List.length l'1):Int) != (4:Int)) (k0 0 false) (v4p_l0 lf lf 0 l'1 (↑(List.length l'1):Int) 0 (fun _=>k0 0 false) (fun v'6=>k0 v'6 true))) (none)) (none)
theorem v4p_ev (d:Nat) (s0:By):evC (c_v4p lf) (d+1) σ yh 180 [.s (.str s0)] [] s=v4p lf s0 (fun r0 r1=>some (.tup [.s (.int .u32 r0),.s (.bool r1)],[],s)):=by
 refine (evC_eq (fn:=Tryz.f180) (by kernel_rfl) (by kernel_rfl) (by kernel_rfl)).trans ?_
 generalize evC (c_v4p lf) d=cl
 unfold v4p;exact (Eq.trans (by kernel_rfl) (cond_congr (cond_congr (vl_congr fun l'1=>(cond_congr rfl ((v4p_l0_eq lf cl yh s (blkK 0 (seqK (c_v4p lf) cl yh (cd [1,1,1,1,1] b_v4p) (retK (c_v4p lf) Tryz.f180))) lf 0 l'1 (↑(List.length l'1):Int) 0).trans (by kernel_rfl)))) rfl) rfl))
noncomputable abbrev b_v4f:Code:=bodyOf Tryz.f67
noncomputable def c_v4f (lf:Nat):Cfg:=mkCfg lf [67] (lookK [(3,[0,1,0,0])]) [(51,X_itoa)] (lookK [(6,[2]),(4,[0,2,0]),(5,[0,2,0]),(3,[0,2,0,1]),(2,[0,2,0]),(1,[0,2]),(0,[0])]) [51] (lookK [(0,[3]),(1,[0,2,0])]) (some [2]) [] [] []
noncomputable def v4f_l0f {R:Type} (lf n:Nat) (self:Int→By→Int→Option R) (v0:Int) (out1:By) (i2:Int) (k0:By→Option R):Option R:=cond (not (ltI i2 (0:Int))) (cond (decide ((0:Int)≤i2)) (vl (bAnd .u32 (shrI .u32 v0 i2) (255:Int)) fun n'0=>cond (ltN (wi64 n'0) 4294967296) (vl (Lib.decDigits (Int.toNat (wi64 n'0))) fun s'1=>cond (catOk (List.length s'1) 1) (vl (s'1++(([46]:List UInt8))) fun s'2=>cond (catOk (List.length out1) (List.length s'2)) (self v0 (out1++s'2) (wi64 (i2-(8:Int)))) (none)) (none)) (none)) (none)) (k0 out1)
noncomputable def v4f_l0 {R:Type} (lf n:Nat) (v0:Int) (out1:By) (i2:Int) (k0:By→Option R):Option R:=recN (α:=Int→By→Int→Option R) (fun _ _ _=>none) (fun n self v0 out1 i2=>v4f_l0f lf n self v0 out1 i2 k0) n v0 out1 i2
theorem v4f_l0_s {R:Type} (lf n:Nat) (v0:Int) (out1:By) (i2:Int) (k0:By→Option R):v4f_l0 lf (n+1) v0 out1 i2 k0=v4f_l0f lf n (fun v0 out1 i2=>v4f_l0 lf n v0 out1 i2 k0) v0 out1 i2 k0:=rfl
theorem v4f_l0_eq (n:Nat) (v0:Int) (out1:By) (i2:Int):loopK 0 ((c_v4f lf).keep 3) (bd (c_v4f lf) cl yh (cd [1,1,0,1,0,0] b_v4f)) n ⟨gp [(0,.s (.int .u32 v0)),(2,.s (.str out1)),(0,.s (.int .i64 i2))] 18,[],s⟩ k =
 v4f_l0 lf n v0 out1 i2 (fun out0=>k (.exit 0) ⟨gp [(3,.s (.str out0))] 19,[],s⟩):=by
 induction n generalizing v0 out1 i2 with
 | zero=>rfl
 | succ n ih=>rw [v4f_l0_s];unfold v4f_l0f;exact (Eq.trans (by kernel_rfl) (cond_congr (cond_congr (vl_congr fun n'0=>(cond_congr (vl_congr fun s'1=>(cond_congr (vl_congr fun s'2=>(cond_congr (ih v0 (out1++s'2) (wi64 (i2-(8:Int)))) rfl)) rfl)) rfl)) rfl) rfl))
noncomputable def v4f {R:Type} (lf:Nat) (v0:Int) (k0:By→Option R):Option R:=v4f_l0 lf lf v0 ([]:List UInt8) 24 (fun out'3=>vl (wi64 ((↑(List.length out'3):Int)-(1:Int))) fun n'4=>cond (sub3 (0:Int) n'4 (List.length out'3)) (vl (cut out'3 (0:Int) n'4) fun s'5=>k0 s'5) (none))
theorem v4f_ev (d:Nat) (v0:Int):evC (c_v4f lf) (d+1) σ yh 67 [.s (.int .u32 v0)] [] s=v4f lf v0 (fun r0=>some (.s (.str r0),[],s)):=by
 refine (evC_eq (fn:=Tryz.f67) (by kernel_rfl) (by kernel_rfl) (by kernel_rfl)).trans ?_
 generalize evC (c_v4f lf) d=cl
 unfold v4f;exact (Eq.trans (by kernel_rfl) ((v4f_l0_eq lf cl yh s (blkK 0 (seqK (c_v4f lf) cl yh (cd [1,1,1] b_v4f) (retK (c_v4f lf) Tryz.f67))) lf v0 ([]:List UInt8) 24).trans (by kernel_rfl)))
noncomputable abbrev b_rlow:Code:=bodyOf Tryz.f17
noncomputable def c_rlow (lf:Nat):Cfg:=mkCfg lf [17] (lookK [(3,[0,1,0,0])]) [] (lookK [(9,[2]),(4,[0,2,0]),(8,[0,2,0]),(7,[0,2,0,0]),(6,[0,2,0,0,14]),(5,[0,2,0,0]),(3,[0,2,0,4]),(2,[0,2,0]),(1,[0,2]),(0,[0])]) [] (lookK [(0,[3]),(1,[0,2,0])]) (some [2]) [] [] []
noncomputable def rlow_l0f {R:Type} (lf n:Nat) (self:By→Int→LL→Option R) (s0:By) (i1:Int) (l2:LL) (k0:LL→Option R):Option R:=cond (ltI i1 (↑(List.length s0):Int)) (cond (inR i1 (List.length s0)) (cond (not (ltI (bAt s0 i1) (65:Int))) (cond (not (ltI (90:Int) (bAt s0 i1))) (vl (wu8 ((bAt s0 i1)+(32:Int))) fun n'0=>cond (roomy ((List.length l2)+1)) (self s0 (wi64 (i1+(1:Int))) (l2++[[(SV.int .u8 n'0)]])) (none)) (cond (roomy ((List.length l2)+1)) (self s0 (wi64 (i1+(1:Int))) (l2++[[(SV.int .u8 (bAt s0 i1))]])) (none))) (cond (roomy ((List.length l2)+1)) (self s0 (wi64 (i1+(1:Int))) (l2++[[(SV.int .u8 (bAt s0 i1))]])) (none))) (none)) (k0 l2)
noncomputable def rlow_l0 {R:Type} (lf n:Nat) (s0:By) (i1:Int) (l2:LL) (k0:LL→Option R):Option R:=recN (α:=By→Int→LL→Option R) (fun _ _ _=>none) (fun n self s0 i1 l2=>rlow_l0f lf n self s0 i1 l2 k0) n s0 i1 l2
theorem rlow_l0_s {R:Type} (lf n:Nat) (s0:By) (i1:Int) (l2:LL) (k0:LL→Option R):rlow_l0 lf (n+1) s0 i1 l2 k0=rlow_l0f lf n (fun s0 i1 l2=>rlow_l0 lf n s0 i1 l2 k0) s0 i1 l2 k0:=rfl
theorem rlow_l0_eq (n:Nat) (s0:By) (i1:Int) (l2:LL):loopK 1 ((c_rlow lf).keep 3) (bd (c_rlow lf) cl yh (cd [1,1,0,1,0,0] b_rlow)) n ⟨gp [(0,.s (.str s0)),(2,.fl 0),(0,.s (.int .i64 i1))] 24,[.arr true 5 1 l2],s⟩ k =
 rlow_l0 lf n s0 i1 l2 (fun l0=>k (.exit 0) ⟨gp [(3,.fl 0)] 25,[.arr true 5 1 l0],s⟩):=by
 induction n generalizing s0 i1 l2 with
 | zero=>rfl
 | succ n ih=>rw [rlow_l0_s];unfold rlow_l0f;exact (Eq.trans (by kernel_rfl) (cond_congr (cond_congr (cond_congr (cond_congr (vl_congr fun n'0=>(cond_congr (ih s0 (wi64 (i1+(1:Int))) (l2++[[(SV.int .u8 n'0)]])) rfl)) (cond_congr (ih s0 (wi64 (i1+(1:Int))) (l2++[[(SV.int .u8 (bAt s0 i1))]])) rfl)) (cond_congr (ih s0 (wi64 (i1+(1:Int))) (l2++[[(SV.int .u8 (bAt s0 i1))]])) rfl)) rfl) rfl))
noncomputable def rlow {R:Type} (lf:Nat) (s0:By) (k0:By→LL→Option R):Option R:=rlow_l0 lf lf s0 0 [] (fun l'1=>cond (List.all l'1 isU8) (k0 (List.map elU8 l'1) l'1) (none))
theorem rlow_ev (d:Nat) (s0:By):evC (c_rlow lf) (d+1) σ yh 17 [.s (.str s0)] [] s=rlow lf s0 (fun r0 l1=>some (.s (.str r0),[.arr true 5 1 l1],s)):=by
 refine (evC_eq (fn:=Tryz.f17) (by kernel_rfl) (by kernel_rfl) (by kernel_rfl)).trans ?_
 generalize evC (c_rlow lf) d=cl
 unfold rlow;exact (Eq.trans (by kernel_rfl) ((rlow_l0_eq lf cl yh s (blkK 0 (seqK (c_rlow lf) cl yh (cd [1,1,1] b_rlow) (retK (c_rlow lf) Tryz.f17))) lf s0 0 []).trans (by kernel_rfl)))
noncomputable def rpnum_l0f {R:Type} (lf n:Nat) (self:LL→Int→Int→Option R) (p0:LL) (v1 i2:Int) (k0:Unit→Option R) (k1:Int→Option R):Option R:=cond (ltI i2 (↑(List.length p0):Int)) (cond (inR i2 (List.length p0)) (cond (okE tStr p0 (Int.toNat i2) 0) (cond (small (List.length (gX p0 (Int.toNat i2) 0))) (vl (↑(optN (numB (gX p0 (Int.toNat i2) 0))):Int) fun n'1=>cond (not (Option.isSome (numB (gX p0 (Int.toNat i2) 0)))) (k0 ()) (vl (wi64 ((↑(List.length p0):Int)-(1:Int))) fun n'7=>cond (i2==n'7) (vl (wi64 ((5:Int)-(↑(List.length p0):Int))) fun n'8=>cond (decide ((0:Int)≤(wi64 ((8:Int)*n'8)))) (vl (shlI .i64 (1:Int) (wi64 ((8:Int)*n'8))) fun n'9=>cond (not (ltI n'1 n'9)) (k0 ()) (self p0 (wi64 (v1+n'1)) (wi64 (i2+(1:Int))))) (none)) (cond (ltI (255:Int) n'1) (k0 ()) (vl (wi64 ((24:Int)-(wi64 ((8:Int)*i2)))) fun n'10=>cond (decide ((0:Int)≤n'10)) (vl (wi64 (v1+(shlI .i64 n'1 n'10))) fun n'11=>self p0 n'11 (wi64 (i2+(1:Int)))) (none))))) (none)) (none)) (none)) (k1 v1)
noncomputable def rpnum_l0 {R:Type} (lf n:Nat) (p0:LL) (v1 i2:Int) (k0:Unit→Option R) (k1:Int→Option R):Option R:=recN (α:=LL→Int→Int→Option R) (fun _ _ _=>none) (fun n self p0 v1 i2=>rpnum_l0f lf n self p0 v1 i2 k0 k1) n p0 v1 i2
theorem rpnum_l0_s {R:Type} (lf n:Nat) (p0:LL) (v1 i2:Int) (k0:Unit→Option R) (k1:Int→Option R):rpnum_l0 lf (n+1) p0 v1 i2 k0 k1=rpnum_l0f lf n (fun p0 v1 i2=>rpnum_l0 lf n p0 v1 i2 k0 k1) p0 v1 i2 k0 k1:=rfl
noncomputable def c_ssplitM (lf:Nat):Cfg:=mkCfg lf [109] (lookK []) [(138,X_gsplitM)] (lookK [(1,[4]),(0,[0,0])]) [] (lookK []) (some [4]) [] [] []
noncomputable def ssplitM {R:Type} (lf:Nat) (s0 sep1:By) (k0:Nat→LL→Option R):Option R:=cond (small (List.length s0)) (cond ((List.length sep1)==1) (cond ((0:Int)==(0:Int)) (cond (((-1):Int)==((-1):Int)) (vl (strE (pcs (List.getD sep1 0 0) s0)) fun l'0=>k0 (List.length (pcs (List.getD sep1 0 0) s0)) l'0) (none)) (none)) (none)) (none)
theorem ssplitM_ev (d:Nat) (s0 sep1:By):evC (c_ssplitM lf) (d+1) σ yh 109 [.s (.str s0),.s (.str sep1)] [] s=ssplitM lf s0 sep1 (fun r_m0 l1=>some (.vw 0 0 r_m0,[.arr false 9 1 l1],s)):=by
 refine (evC_eq (fn:=Tryz.f109) (by kernel_rfl) (by kernel_rfl) (by kernel_rfl)).trans ?_
 generalize evC (c_ssplitM lf) d=cl
 unfold ssplitM;kernel_rfl
end
end Go.Proofs.YtcfingekgbbclaaGreatDoor.E
namespace Go.Proofs.YtcfingekgbbclaaGreatDoor.E
open Go
set_option linter.unusedVariables false
attribute [simp] ltI_t ltI_f wi64_id wu64_id wu32_id wu16_id wu8_id sub3_t inR_t roomy_of
attribute [simp] vl
@[simp] theorem small_t {n:Nat} (h:n≤1000000000):small n=true:=small_iff.2 h
@[simp] theorem ltN_t {v:Int} {n:Nat} (h:0≤v) (h1:v<n):ltN v n=true:=ltN_iff.2 ⟨h,h1⟩
@[simp] theorem catOk_t {m n:Nat} (h:m+n<4611686018427387904):catOk m n=true:=by simp [catOk,h]
abbrev rv (v:PV) (H:List Blk):Option (PV × List Blk × Unit):=some (v,H,())
theorem maxL {n:Nat} (h:small n=true):n≤1000000000:=small_iff.1 h
theorem drop_cons (s:By) (i:Nat) (h:i<s.length):s.drop i=s.getD i 0::s.drop (i+1):=by
 rw [List.getD_eq_getElem?_getD,List.getElem?_eq_getElem h,Option.getD_some,List.getElem_cons_drop]
theorem take_step (s:By) (i:Nat) (h:i<s.length):s.take (i+1)=s.take i++[s.getD i 0]:=by
 rw [List.take_add_one,List.getD_eq_getElem?_getD,List.getElem?_eq_getElem h]
 rfl
theorem lower_step (s:By) (i:Nat) (h:i<s.length):(lower (s.take (i+1))).map u8el=(lower (s.take i)).map u8el++[u8el (lowB (s.getD i 0))]:=by
 unfold lower
 rw [take_step s i h,List.map_append,List.map_append]
 rfl
theorem lowB_cases (b:UInt8):(b.toNat<65∧lowB b=b)∨(90<b.toNat∧lowB b=b)∨(65≤b.toNat∧b.toNat≤90∧((lowB b).toNat=b.toNat+32)):=by
 unfold lowB
 by_cases h1:b.toNat<65
 ·refine .inl ⟨h1,if_neg ?_⟩
  intro h
  have:=UInt8.le_iff_toNat_le.1 h.1
  simp at this
  omega
 ·by_cases h2:90<b.toNat
  ·refine .inr (.inl ⟨h2,if_neg ?_⟩)
   intro h
   have:=UInt8.le_iff_toNat_le.1 h.2
   simp at this
   omega
  ·refine .inr (.inr ⟨by omega,by omega,?_⟩)
   rw [if_pos (by constructor<;>(rw [UInt8.le_iff_toNat_le];simp;omega)),UInt8.toNat_add]
   simp
   omega
@[simp] theorem bAt_nat (s:By) (i:Nat):bAt s (i:Int)=((s.getD i 0).toNat:Int):=by simp [bAt]
@[simp] theorem bAt_zero (s:By):bAt s 0=((s.getD 0 0).toNat:Int):=by simp [bAt]
@[simp] theorem bAt_one (s:By):bAt s 1=((s.getD 1 0).toNat:Int):=by simp [bAt]
theorem cut_nat {α:Type} (s:List α) (a b:Nat):cut s (a:Int) (b:Int)=(s.take b).drop a:=by simp [cut]
@[simp] theorem cut_all {α:Type} (s:List α) (a:Int):cut s a (s.length:Int)=s.drop a.toNat:=by simp [cut]
@[simp] theorem cut_zero {α:Type} (s:List α) (b:Int):cut s 0 b=s.take b.toNat:=by simp [cut]
@[simp] theorem strE_len (l:List By):(strE l).length=l.length:=by simp [strE]
@[simp] theorem gX_strE (l:List By) (i:Nat):gX (strE l) i 0=l.getD i []:=by
 unfold gX gC strE
 by_cases h:i<l.length
 ·simp [List.getD_eq_getElem?_getD,List.getElem?_eq_getElem h,SV.gS]
 ·simp [List.getD_eq_getElem?_getD,List.getElem?_eq_none (show l.length≤i by omega),SV.gS]
@[simp] theorem okE_strE {l:List By} {i:Nat} (h:i<l.length):okE tStr (strE l) i 0=true:=by
 unfold okE strE
 simp [List.getD_eq_getElem?_getD,List.getElem?_eq_getElem h,h,tStr,okS,SV.has]
theorem strE_app (a b:List By):strE (a++b)=strE a++strE b:=by simp [strE]
theorem u8n_nat (b:UInt8):u8n (b.toNat:Int)=b:=by simp [u8n]
theorem u8_inR (b:UInt8):inR (b.toNat:Int) 256=true:=by
 have:=b.toNat_lt
 exact inR_t (by omega) (by omega)
theorem u8_eq {a b:UInt8}:((a.toNat:Int)==(b.toNat:Int))=(a==b):=by
 rw [Bool.eq_iff_iff]
 simp only [beq_iff_eq]
 constructor
 ·intro h;exact UInt8.toNat_inj.1 (by omega)
 ·intro h;rw [h]
theorem u8_eqn (a:UInt8) (n:Nat) (h:n<256):((a.toNat:Int)==(n:Int))=(a==UInt8.ofNat n):=by
 rw [←u8_eq]
 simp [Nat.mod_eq_of_lt h]
theorem isPrefixOf_take (p s:By):p.isPrefixOf s=(decide (p.length≤s.length)&&(s.take p.length==p)):=by
 rw [Bool.eq_iff_iff]
 simp only [List.isPrefixOf_iff_prefix,Bool.and_eq_true,decide_eq_true_eq,beq_iff_eq]
 constructor
 ·intro h;exact ⟨h.length_le,(List.prefix_iff_eq_take.1 h).symm⟩
 ·rintro ⟨_,h⟩;exact List.prefix_iff_eq_take.2 h.symm
theorem isSuffixOf_drop (p s:By):p.isSuffixOf s=(decide (p.length≤s.length)&&(s.drop (s.length-p.length)==p)):=by
 rw [Bool.eq_iff_iff]
 simp only [List.isSuffixOf_iff_suffix,Bool.and_eq_true,decide_eq_true_eq,beq_iff_eq]
 constructor
 ·intro h;exact ⟨h.length_le,(List.suffix_iff_eq_drop.1 h).symm⟩
 ·rintro ⟨_,h⟩;exact List.suffix_iff_eq_drop.2 h.symm
theorem dig_cases (b:UInt8):(48≤b.toNat∧b.toNat≤57∧dig b=b.toNat-48)∨(97≤b.toNat∧b.toNat≤102∧dig b=b.toNat-87)∨(65≤b.toNat∧b.toNat≤70∧dig b=b.toNat-55)∨(¬(48≤b.toNat∧b.toNat≤57)∧¬(97≤b.toNat∧b.toNat≤102)∧¬(65≤b.toNat∧b.toNat≤70)∧dig b=99):=by
 unfold dig
 split
 ·rename_i h;exact .inl ⟨h.1,h.2,rfl⟩
 ·split
  ·rename_i h;exact .inr (.inl ⟨h.1,h.2,rfl⟩)
  ·split
   ·rename_i h;exact .inr (.inr (.inl ⟨h.1,h.2,rfl⟩))
   ·exact .inr (.inr (.inr ⟨by assumption,by assumption,by assumption,rfl⟩))
theorem satI (m:Nat):(if (1099511627776:Int)<(m:Int) then (1099511627776:Int) else (m:Int))=((min m satB:Nat):Int):=by
 unfold satB
 split<;>omega
theorem digGo_le {base:Nat}:∀ {s:By} {n v:Nat},n≤satB→digGo base n s=some v→v≤satB
 | [],n,v,h,e=>by simp only [digGo,Option.some.injEq] at e;omega
 | b::r,n,v,h,e=>by
  simp only [digGo] at e
  split at e
  ·exact digGo_le (by omega) e
  ·cases e
theorem numB_le {s:By} {v:Nat} (h:numB s=some v):v≤satB:=by
 unfold numB at h
 repeat' split at h
 all_goals first | (cases h;done) | exact digGo_le (by unfold satB;omega) h
theorem digGo_app (base:Nat):∀ (x y:By) (n:Nat),digGo base n (x++y)=(digGo base n x).bind fun m=>digGo base m y
 | [],y,n=>rfl
 | b::r,y,n=>by
  simp only [List.cons_append,digGo]
  split
  ·exact digGo_app base r y _
  ·rfl
theorem decDigits_eq2 (u:Nat) (h:¬ u<10):Lib.decDigits u=Lib.decDigits (u / 10)++[UInt8.ofNat (48+u % 10)]:=by
 rw [Lib.decDigits,dif_neg h]
theorem dig_d (d:Nat) (h:d<10):dig (UInt8.ofNat (48+d))=d:=by
 unfold dig
 have:(UInt8.ofNat (48+d)).toNat=48+d:=by simp;omega
 rw [this,if_pos (by omega)]
 omega
theorem digGo_dec:∀ u:Nat,u≤satB→digGo 10 0 (Lib.decDigits u)=some u:=by
 intro u
 induction u using Nat.strongRecOn with
 | _ u ih=>
  intro hu
  by_cases h:u<10
  ·rw [Lib.decDigits_one h]
   simp only [digGo,dig_d u h]
   rw [if_pos h]
   unfold satB
   simp
   omega
  ·rw [decDigits_eq2 u h,digGo_app,ih (u / 10) (by omega) (by omega)]
   simp only [Option.bind_some,digGo,dig_d (u % 10) (by omega)]
   rw [if_pos (by omega)]
   unfold satB at *
   simp
   omega
theorem decDigits_len (u:Nat) (h:u<4294967296):(Lib.decDigits u).length≤10:=by
 rw [Lib.decDigits_length]
 by_cases h0:u=0
 ·subst h0;rw [Lib.nDigits_small (by omega)];omega
 ·apply Classical.byContradiction
  intro hc
  have hp:=Lib.lt_pow_nDigits u
  have:∀ k u:Nat,k+1≤Lib.nDigits u→10 ^ k≤u∨k=0:=by
   intro k
   induction k with
   | zero=>intro u _;exact .inr rfl
   | succ k ih=>
    intro u hk
    left
    by_cases hs:u<10
    ·rw [Lib.nDigits_small hs] at hk;omega
    ·rw [Lib.nDigits_big hs] at hk
     rcases ih (u / 10) (by omega) with h | h
     ·rw [Nat.pow_succ];omega
     ·subst h;simp;omega
  rcases this 10 u (by omega) with h1 | h1
  ·omega
  ·omega
theorem oct_iff {s:By} {n:Nat}:oct s=some n↔n<256∧Lib.decDigits n=s:=by
 unfold oct
 constructor
 ·intro h
  split at h
  ·rename_i m hm
   split at h
   ·rename_i hc
    cases h
    exact ⟨by omega,hc.2⟩
   ·cases h
  ·cases h
 ·rintro ⟨h1,rfl⟩
  rw [digGo_dec n (by unfold satB;omega)]
  exact if_pos ⟨by omega,rfl⟩
theorem bOr64 (a b:Nat) (ha:a<9223372036854775808) (hb:b<9223372036854775808):bOr .i64 (a:Int) (b:Int)=((a ||| b:Nat):Int):=by
 unfold bOr
 rw [show IntKind.bits .i64=64 from rfl,bvor 64 a b (by omega) (by omega)]
 have:a ||| b<2 ^ 63:=Nat.or_lt_two_pow (by omega) (by omega)
 exact wi64_id (by omega) (by omega)
theorem bOr32 (a b:Nat) (ha:a<4294967296) (hb:b<4294967296):bOr .u32 (a:Int) (b:Int)=((a ||| b:Nat):Int):=by
 unfold bOr
 rw [show IntKind.bits .u32=32 from rfl,bvor 32 a b (by omega) (by omega)]
 have:a ||| b<2 ^ 32:=Nat.or_lt_two_pow (by omega) (by omega)
 exact wu32_id (by omega) (by omega)
theorem bAnd32 (a b:Nat) (ha:a<4294967296) (hb:b<4294967296):bAnd .u32 (a:Int) (b:Int)=((a &&& b:Nat):Int):=by
 unfold bAnd
 rw [show IntKind.bits .u32=32 from rfl,bvand 32 a b (by omega) (by omega)]
 have:a &&& b<2 ^ 32:=Nat.and_lt_two_pow _ (by omega)
 exact wu32_id (by omega) (by omega)
theorem and255 (x:Nat):x &&& 255=x % 256:=Nat.and_two_pow_sub_one_eq_mod x 8
theorem shl64 (a m:Nat) (h:a*2 ^ m<9223372036854775808) (hm:m≤64):shlI .i64 (a:Int) (m:Int)=((a*2 ^ m:Nat):Int):=by
 unfold shlI
 rw [Int.toNat_natCast,show IntKind.bits .i64=64 from rfl,Nat.min_eq_left hm]
 have:(a:Int)*2 ^ m=((a*2 ^ m:Nat):Int):=by simp
 rw [this]
 exact wi64_id (by omega) (by omega)
theorem shl32 (a m:Nat) (h:a*2 ^ m<4294967296) (hm:m≤32):shlI .u32 (a:Int) (m:Int)=((a*2 ^ m:Nat):Int):=by
 unfold shlI
 rw [Int.toNat_natCast,show IntKind.bits .u32=32 from rfl,Nat.min_eq_left hm]
 have:(a:Int)*2 ^ m=((a*2 ^ m:Nat):Int):=by simp
 rw [this]
 exact wu32_id (by omega) (by omega)
theorem orShift (v n m:Nat) (h:n<2 ^ m):v*2 ^ m ||| n=v*2 ^ m+n:=by
 rw [Nat.or_comm,or_add n v m h,Nat.add_comm]
theorem pcs_none {c:UInt8} {s:By} (h:c∉s):pcs c s=[s]:=by
 unfold pcs;rw [splitGo_none c s [] h];rfl
theorem pcs_app {c:UInt8} {p r:By} (h:c∉p):pcs c (p++c::r)=p::pcs c r:=by
 unfold pcs;rw [splitGo_app c p [] r h];rfl
theorem pcs_len (c:UInt8) (s:By):(pcs c s).length=s.count c+1:=splitGo_len c s []
theorem pcs_ne (c:UInt8) (s:By):pcs c s≠[]:=splitGo_ne c s []
theorem pcs_mem {c:UInt8} {s x:By} (h:x∈pcs c s):c∉x∧x.length≤s.length:=by
 have:=splitGo_mem c s [] (by simp) x h
 simpa using this
theorem count_le (c:UInt8) (s:By):s.count c≤s.length:=List.count_le_length
theorem split_first (c:UInt8):∀ s:By,c∉s∨∃ p r,s=p++c::r∧c∉p
 | []=>.inl (by simp)
 | b::s=>by
  by_cases h:b=c
  ·subst h;exact .inr ⟨[],s,rfl,by simp⟩
  ·rcases split_first c s with h1 | ⟨p,r,rfl,h2⟩
   ·exact .inl (by simp [h1,Ne.symm h])
   ·exact .inr ⟨b::p,r,rfl,by simp [h2,Ne.symm h]⟩
theorem index_none {c:UInt8} {s:By} (h:c∉s):Lib.index s [c] = -1:=by
 rcases Lib.index_spec s [c] with h1 | ⟨i,h1,h2,h3,h4⟩
 ·exact h1.1
 ·exfalso
  simp only [Lib.occAt,List.isPrefixOf_iff_prefix] at h3
  obtain ⟨t,ht⟩:=h3
  have:c∈s.drop i:=by rw [←ht];simp
  exact h (List.mem_of_mem_drop this)
theorem index_app {c:UInt8} {p r:By} (h:c∉p):Lib.index (p++c::r) [c]=(p.length:Int):=by
 rcases Lib.index_spec (p++c::r) [c] with h1 | ⟨i,h1,h2,h3,h4⟩
 ·exfalso
  have:=h1.2 p.length (by simp)
  simp [Lib.occAt] at this
 ·rw [h1]
  have hi:¬ p.length<i:=by
   intro hlt
   have:=h4 p.length hlt
   simp [Lib.occAt] at this
  have hi2:¬ i<p.length:=by
   intro hlt
   simp only [Lib.occAt,List.isPrefixOf_iff_prefix] at h3
   obtain ⟨t,ht⟩:=h3
   have h5:(p++c::r).drop i=p.drop i++c::r:=by rw [List.drop_append_of_le_length (by omega)]
   rw [h5] at ht
   cases hd:p.drop i with
   | nil=>have:=List.length_drop (i:=i) (l:=p);rw [hd] at this;simp at this;omega
   | cons x y=>
    rw [hd] at ht
    simp at ht
    have:x∈p:=List.mem_of_mem_drop (i:=i) (by rw [hd];simp)
    rw [←ht.1] at this
    exact h this
  omega
theorem partsB_ne (s:By):partsB s≠[]:=by
 unfold partsB
 split
 ·rename_i h
  intro e
  have:=congrArg List.length e
  simp at this
  omega
 ·exact pcs_ne _ _
theorem partsB_mem {s x:By} (h:x∈partsB s):x.length≤s.length:=by
 unfold partsB at h
 split at h
 ·exact (pcs_mem ((List.dropLast_sublist _).subset h)).2
 ·exact (pcs_mem h).2
theorem partsB_len (s:By):1≤(partsB s).length∧(partsB s).length≤s.length+1:=by
 have h1:=List.length_pos_iff.2 (partsB_ne s)
 have h2:=pcs_len 46 s
 have h3:=count_le 46 s
 refine ⟨h1,?_⟩
 unfold partsB
 split
 ·rw [List.length_dropLast];omega
 ·omega
theorem lastB_get (s:By):(partsB s).getD ((partsB s).length-1) []=lastB s:=by
 unfold lastB
 rw [List.getLastD_eq_getLast?,List.getLast?_eq_getElem?,List.getD_eq_getElem?_getD]
theorem lastB_mem (s:By):lastB s∈partsB s:=by
 have h:=(partsB_len s).1
 rw [←lastB_get,List.getD_eq_getElem?_getD,List.getElem?_eq_getElem (by omega)]
 exact List.getElem_mem _
theorem isHex_iff (s:By):isHex s=true↔s.getD 0 0=48∧(s.getD 1 0=120∨s.getD 1 0=88):=by
 simp [isHex]
theorem isHex_len {s:By} (h:isHex s=true):2≤s.length:=by
 rw [isHex_iff] at h
 match s with
 | []=>simp at h
 | [a]=>simp at h
 | a::b::r=>simp
end Go.Proofs.YtcfingekgbbclaaGreatDoor.E
namespace Go.Proofs.YtcfingekgbbclaaGreatDoor.E
open Go Go.Proofs
set_option linter.unusedVariables false
set_option linter.unusedSimpArgs false
theorem lpre_spec {R:Type} {k0:Bool→Option R} (s p:By) (h0:small s.length=true):lpre LF s p k0=k0 (p.isPrefixOf s):=by
 have:=maxL h0
 unfold lpre
 rw [isPrefixOf_take]
 by_cases h:p.length≤s.length
 ·simp (disch:=omega) [h]
 ·simp (disch:=omega) [h]
theorem hpre_spec {R:Type} {k0:Bool→Option R} (s p:By) (h0:small s.length=true):hpre LF s p k0=k0 (p.isPrefixOf s):=by
 unfold hpre;rw [h0];rfl
theorem lsuf_spec {R:Type} {k0:Bool→Option R} (s p:By) (h0:small s.length=true):lsuf LF s p k0=k0 (p.isSuffixOf s):=by
 have:=maxL h0
 unfold lsuf
 rw [isSuffixOf_drop]
 by_cases h:p.length≤s.length
 ·have e:((s.length:Int)-(p.length:Int)).toNat=s.length-p.length:=by omega
  simp (disch:=omega) [h,e]
 ·simp (disch:=omega) [h]
theorem ltsuf_spec {R:Type} {k0:By→Option R} (s p:By) (h0:small s.length=true):ltsuf LF s p k0=k0 (tsuf s p):=by
 have:=maxL h0
 unfold ltsuf tsuf
 rw [h0]
 cases h:p.isSuffixOf s with
 | false=>simp
 | true=>
  have:p.length≤s.length:=by rw [isSuffixOf_drop] at h;simp at h;exact h.1
  have e:((s.length:Int)-(p.length:Int)).toNat=s.length-p.length:=by omega
  simp (disch:=omega) [e]
theorem tsufc_spec {R:Type} {k0:By→Option R} (s p:By) (h0:small s.length=true):tsufc LF s p k0=k0 (tsuf s p):=by
 unfold tsufc;rw [h0];rfl
theorem lcpre_spec {R:Type} {k0:By→Bool→Option R} (s p:By) (h0:small s.length=true):lcpre LF s p k0=k0 (cutp s p) (p.isPrefixOf s):=by
 have:=maxL h0
 unfold lcpre cutp
 rw [h0]
 cases h:p.isPrefixOf s with
 | false=>simp
 | true=>
  have:p.length≤s.length:=by rw [isPrefixOf_take] at h;simp at h;exact h.1
  simp (disch:=omega)
theorem cpre_spec {R:Type} {k0:By→Bool→Option R} (s p:By) (h0:small s.length=true):cpre LF s p k0=k0 (cutp s p) (p.isPrefixOf s):=by
 unfold cpre;rw [h0];rfl
theorem ssplit_spec {R:Type} {k0:LL→Option R} (s p:By) (h0:small s.length=true) (h1:(p.length==1)=true):ssplit LF s p k0=k0 (strE (pcs (p.getD 0 0) s)):=by
 unfold ssplit;rw [h0,h1];rfl
theorem lowc_loop {R:Type} {k0:LL→Option R} (s:By) (hs:s.length≤1000000000):∀ (r i n:Nat),i+r=s.length→r<n→lowc_l0 LF n s (s.length:Int) (i:Int) ((lower (s.take i)).map u8el) k0=k0 ((lower s).map u8el):=by
 intro r
 induction r with
 | zero=>
  intro i n hi hn
  obtain ⟨n,rfl⟩:∃ m,n=m+1:=⟨n-1,by omega⟩
  rw [lowc_l0_s]
  unfold lowc_l0f
  rw [ltI_f (by omega),List.take_of_length_le (by omega)]
  rfl
 | succ r ih=>
  intro i n hi hn
  obtain ⟨n,rfl⟩:∃ m,n=m+1:=⟨n-1,by omega⟩
  rw [lowc_l0_s]
  have hl:(lower (s.take i)).length=i:=by simp [lower];omega
  have ih:=ih (i+1) n (by omega) (by omega)
  rw [lower_step s i (by omega)] at ih
  unfold lowc_l0f
  rw [bAt_nat]
  have hb:=(s.getD i 0).toNat_lt
  generalize s.getD i 0=b at *
  have hn1:((i:Int)+1)=((i+1:Nat):Int):=by omega
  simp (disch:=omega) only [ltI_t,inR_t,cond_true,vl,List.length_map,hl,roomy_of,wi64_id]
  rw [hn1]
  rcases lowB_cases b with ⟨h1,e⟩ | ⟨h1,e⟩ | ⟨h1,h2,e⟩
  ·simp (disch:=omega) only [ltI_t,Bool.not_true,cond_false]
   rw [e] at ih;exact ih
  ·simp (disch:=omega) only [ltI_f,ltI_t,Bool.not_true,Bool.not_false,cond_false,cond_true]
   rw [e] at ih;exact ih
  ·have e2:wu8 ((b.toNat:Int)+32)=((lowB b).toNat:Int):=by
    rw [wu8_id (by omega) (by omega)];omega
   simp (disch:=omega) only [ltI_f,Bool.not_false,cond_true,e2]
   exact ih
theorem lowc_spec {R:Type} {k0:By→LL→Option R} (s:By) (h0:small s.length=true):lowc LF s k0=k0 (lower s) ((lower s).map u8el):=by
 have hs:=maxL h0
 have:=LF_big
 unfold lowc
 simp (disch:=omega) only [Int.toNat_natCast,roomy_of,Bool.and_true]
 rw [show (decide ((0:Int)≤(s.length:Int)))=true by simp]
 have:=lowc_loop (k0:=fun l'1=>cond (List.all l'1 isU8) (k0 (List.map elU8 l'1) l'1) none) s hs s.length 0 LF (by omega) (by omega)
 simp only [List.take_zero,lower,List.map_nil] at this
 rw [cond_true]
 refine Eq.trans this ?_
 rw [show (List.map lowB s).map u8el=(lower s).map u8el from rfl,all_isU8,map_elU8]
 rfl
theorem rlow_loop {R:Type} {k0:LL→Option R} (s:By) (hs:s.length≤1000000000):∀ (r i n:Nat),i+r=s.length→r<n→rlow_l0 LF n s (i:Int) ((lower (s.take i)).map u8el) k0=k0 ((lower s).map u8el):=by
 intro r
 induction r with
 | zero=>
  intro i n hi hn
  obtain ⟨n,rfl⟩:∃ m,n=m+1:=⟨n-1,by omega⟩
  rw [rlow_l0_s]
  unfold rlow_l0f
  rw [ltI_f (by omega),List.take_of_length_le (by omega)]
  rfl
 | succ r ih=>
  intro i n hi hn
  obtain ⟨n,rfl⟩:∃ m,n=m+1:=⟨n-1,by omega⟩
  rw [rlow_l0_s]
  have hl:(lower (s.take i)).length=i:=by simp [lower];omega
  have ih:=ih (i+1) n (by omega) (by omega)
  rw [lower_step s i (by omega)] at ih
  unfold rlow_l0f
  rw [bAt_nat]
  have hb:=(s.getD i 0).toNat_lt
  generalize s.getD i 0=b at *
  have hn1:((i:Int)+1)=((i+1:Nat):Int):=by omega
  simp (disch:=omega) only [ltI_t,inR_t,cond_true,vl,List.length_map,hl,roomy_of,wi64_id]
  rw [hn1]
  rcases lowB_cases b with ⟨h1,e⟩ | ⟨h1,e⟩ | ⟨h1,h2,e⟩
  ·simp (disch:=omega) only [ltI_t,Bool.not_true,cond_false]
   rw [e] at ih;exact ih
  ·simp (disch:=omega) only [ltI_f,ltI_t,Bool.not_true,Bool.not_false,cond_false,cond_true]
   rw [e] at ih;exact ih
  ·have e2:wu8 ((b.toNat:Int)+32)=((lowB b).toNat:Int):=by
    rw [wu8_id (by omega) (by omega)];omega
   simp (disch:=omega) only [ltI_f,Bool.not_false,cond_true,e2]
   exact ih
theorem rlow_spec {R:Type} {k0:By→LL→Option R} (s:By) (h0:small s.length=true):rlow LF s k0=k0 (lower s) ((lower s).map u8el):=by
 have hs:=maxL h0
 have:=LF_big
 unfold rlow
 have:=rlow_loop (k0:=fun l'1=>cond (List.all l'1 isU8) (k0 (List.map elU8 l'1) l'1) none) s hs s.length 0 LF (by omega) (by omega)
 refine Eq.trans this ?_
 rw [all_isU8,map_elU8]
 rfl
theorem hexc_spec {R:Type} {k0:Bool→Option R} (s:By) (h0:small s.length=true):hexc LF s k0=k0 (isHex s):=by
 unfold hexc
 have key:isHex s=(([48,120]:By).isPrefixOf s || ([48,88]:By).isPrefixOf s):=by
  match s with
  | []=>rfl
  | [a]=>simp [isHex,List.isPrefixOf]
  | a::b::r=>
   simp only [isHex,List.isPrefixOf,List.getD_cons_zero,List.getD_cons_succ,Bool.and_true]
   rw [BEq.comm (a:=(48:UInt8)),BEq.comm (a:=(120:UInt8)),BEq.comm (a:=(88:UInt8))]
   cases (a==48)<;>simp
 rw [h0,key]
 cases ([48,120]:By).isPrefixOf s<;>rfl
theorem digs_loop {R:Type} {k0:Unit→Option R} {k1:Int→Option R} (s:By) (hs:s.length≤1000000000) (base:Nat) (hb:base≤16):∀ (r i acc n:Nat),i+r=s.length→r<n→acc≤satB→
  digs_l0 LF n s (base:Int) (acc:Int) (s.length:Int) (i:Int) k0 k1=match digGo base acc (s.drop i) with | some v=>k1 (v:Int) | none=>k0 ():=by
 intro r
 induction r with
 | zero=>
  intro i acc n hi hn ha
  obtain ⟨n,rfl⟩:∃ m,n=m+1:=⟨n-1,by omega⟩
  rw [digs_l0_s]
  unfold digs_l0f
  rw [ltI_f (by omega),List.drop_of_length_le (by omega)]
  rfl
 | succ r ih=>
  intro i acc n hi hn ha
  obtain ⟨n,rfl⟩:∃ m,n=m+1:=⟨n-1,by omega⟩
  rw [digs_l0_s,drop_cons s i (by omega)]
  unfold digs_l0f
  rw [bAt_nat]
  have hbt:=(s.getD i 0).toNat_lt
  generalize s.getD i 0=b at *
  have hn1:((i:Int)+1)=((i+1:Nat):Int):=by omega
  have hsat:satB=1099511627776:=rfl
  have step:∀ d:Nat,d<base→(acc*base+d<100000000000000∧wi64 (wi64 ((acc:Int)*(base:Int))+(d:Int))=((acc*base+d:Nat):Int)):=by
   intro d hd
   have h1:acc*base≤1099511627776*16:=Nat.mul_le_mul (by omega) (by omega)
   refine ⟨by omega,?_⟩
   have e1:wi64 ((acc*base:Nat):Int)=((acc*base:Nat):Int):=wi64_id (by omega) (by omega)
   rw [←Int.natCast_mul,e1,wi64_id (by omega) (by omega)]
   rfl
  simp (disch:=omega) only [ltI_t,inR_t,cond_true,vl,wi64_id,digs_j2,digs_j1,digs_j0]
  rw [hn1]
  simp only [digGo]
  rcases dig_cases b with ⟨h1,h2,e⟩ | ⟨h1,h2,e⟩ | ⟨h1,h2,e⟩ | ⟨h1,h2,h3,e⟩
  ·have e2:wu8 ((b.toNat:Int)-48)=((dig b:Nat):Int):=by rw [wu8_id (by omega) (by omega)];omega
   simp (disch:=omega) only [ltI_t,ltI_f,Bool.not_true,Bool.not_false,cond_false,cond_true,e2,wi64_id]
   by_cases hd:dig b<base
   ·rw [if_pos hd,ltI_t (by omega),(step _ hd).2,satI]
    exact ih (i+1) _ n (by omega) (by omega) (by omega)
   ·rw [if_neg hd,ltI_f (by omega)];rfl
  ·have e2:wu8 ((b.toNat:Int)-97)+10=((dig b:Nat):Int):=by rw [wu8_id (by omega) (by omega)];omega
   have e3:wu8 ((b.toNat:Int)-97)=((b.toNat:Int)-97):=wu8_id (by omega) (by omega)
   rw [e3] at e2
   simp (disch:=omega) only [ltI_t,ltI_f,Bool.not_true,Bool.not_false,cond_false,cond_true,e3,wi64_id,e2]
   by_cases hd:dig b<base
   ·rw [if_pos hd,ltI_t (by omega),(step _ hd).2,satI]
    exact ih (i+1) _ n (by omega) (by omega) (by omega)
   ·rw [if_neg hd,ltI_f (by omega)];rfl
  ·have e2:wu8 ((b.toNat:Int)-65)+10=((dig b:Nat):Int):=by rw [wu8_id (by omega) (by omega)];omega
   have e3:wu8 ((b.toNat:Int)-65)=((b.toNat:Int)-65):=wu8_id (by omega) (by omega)
   rw [e3] at e2
   simp (disch:=omega) only [ltI_t,ltI_f,Bool.not_true,Bool.not_false,cond_false,cond_true,e3,wi64_id,e2]
   by_cases hd:dig b<base
   ·rw [if_pos hd,ltI_t (by omega),(step _ hd).2,satI]
    exact ih (i+1) _ n (by omega) (by omega) (by omega)
   ·rw [if_neg hd,ltI_f (by omega)];rfl
  ·rw [if_neg (show ¬ dig b<base by omega)]
   by_cases c1:b.toNat<48
   ·simp (disch:=omega) only [ltI_t,ltI_f,Bool.not_true,Bool.not_false,cond_false,cond_true]
   ·by_cases c2:b.toNat<65
    ·simp (disch:=omega) only [ltI_t,ltI_f,Bool.not_true,Bool.not_false,cond_false,cond_true]
    ·by_cases c3:b.toNat<97
     ·simp (disch:=omega) only [ltI_t,ltI_f,Bool.not_true,Bool.not_false,cond_false,cond_true]
     ·simp (disch:=omega) only [ltI_t,ltI_f,Bool.not_true,Bool.not_false,cond_false,cond_true]
theorem digs_spec {R:Type} {k0:Int→Bool→Option R} (s:By) (base:Int) (h0:small s.length=true) (h1:ltN base 17=true):digs LF s base k0=k0 (optN (digGo base.toNat 0 s):Int) (digGo base.toNat 0 s).isSome:=by
 have hs:=maxL h0
 have:=LF_big
 obtain ⟨hb0,hb1⟩:=ltN_iff.1 h1
 obtain ⟨bn,rfl⟩:=Int.eq_ofNat_of_zero_le hb0
 unfold digs
 have:=digs_loop (k0:=fun _=>k0 0 false) (k1:=fun n=>k0 n true) s hs bn (by omega) s.length 0 0 LF (by omega) (by omega) (by unfold satB;omega)
 refine Eq.trans this ?_
 rw [List.drop_zero,Int.toNat_natCast]
 cases digGo bn 0 s<;>rfl
theorem num_spec {R:Type} {k0:Int→Bool→Option R} (s:By) (h0:small s.length=true):num LF s k0=k0 (optN (numB s):Int) (numB s).isSome:=by
 have hs:=maxL h0
 unfold num numB
 rw [h0]
 by_cases h1:s=[]
 ·subst h1;rfl
 have h1':(s==([]:By))=false:=by simpa using h1
 have hl:0<s.length:=List.length_pos_iff.2 h1
 rw [if_neg h1,h1']
 simp only [cond_true,cond_false,vl]
 cases hx:isHex s with
 | true=>
  have:=isHex_len hx
  simp (disch:=first | omega | (simp;omega)) only [cond_true,if_true,sub3_t,cut_all,small_t,ltN_t]
  rfl
 | false=>
  simp only [cond_false,Bool.false_eq_true,if_false]
  have hd:(digGo 10 0 s)=digGo 10 0 s:=rfl
  by_cases h2:1<s.length
  ·simp (disch:=omega) only [ltI_t,inR_t,cond_true,bAt_zero,h2,true_and]
   have e:=u8_eqn (s.getD 0 0) 48 (by omega)
   rw [show ((48:Nat):Int)=48 from rfl] at e
   rw [e]
   by_cases h3:s.getD 0 0=48
   ·rw [if_pos h3,h3,show ((48:UInt8)==UInt8.ofNat 48)=true from rfl]
    simp (disch:=first | omega | (simp;omega)) only [sub3_t,cut_all,small_t,ltN_t,cond_true]
    rfl
   ·rw [if_neg h3,show (s.getD 0 0==UInt8.ofNat 48)=false from beq_eq_false_iff_ne.2 h3]
    rfl
  ·rw [ltI_f (by omega),if_neg (by omega)]
   rfl
theorem numeric_spec {R:Type} {k0:Bool→Option R} (s:By) (h0:small s.length=true):numeric LF s k0=k0 (numericB s):=by
 have hs:=maxL h0
 have hp:=partsB_len s
 have hm:=partsB_mem (lastB_mem s)
 have hg:=lastB_get s
 have e1:((partsB s).length:Int)-1=(((partsB s).length-1:Nat):Int):=by omega
 unfold numeric numericB
 rw [h0]
 simp (disch:=omega) only [cond_true,vl,strE_len,e1,wi64_id,inR_t,Int.toNat_natCast,okE_strE,gX_strE,hg,small_t]
 cases hx:isHex (lastB s) with
 | true=>
  have:=isHex_len hx
  have hn:numB (lastB s)=digGo 16 0 ((lastB s).drop 2):=by
   unfold numB
   rw [if_neg (by intro e;rw [e] at this;simp at this),if_pos hx]
  simp [hn]
 | false=>
  simp only [cond_false,Bool.false_eq_true,if_false]
  cases digGo 10 0 (lastB s) with
  | none=>simp
  | some v=>cases lastB s<;>rfl
theorem setRep (d:List By) (x:By) (m:Nat):List.set (strE (d++List.replicate (m+1) [])) d.length (putAt (List.getD (strE (d++List.replicate (m+1) [])) d.length []) 0 [SV.str x])=strE ((d++[x])++List.replicate m []):=by
 have hg:List.getD (strE (d++List.replicate (m+1) [])) d.length []=[SV.str []]:=by
  unfold strE
  rw [List.getD_eq_getElem?_getD,List.getElem?_map,List.getElem?_append_right (by omega)]
  simp
 rw [hg]
 simp only [putAt,List.set_cons_zero,strE_app]
 rw [show d.length=(strE d).length by simp,List.set_append_right _ _ (by omega),Nat.sub_self,List.replicate_succ]
 simp [strE]
theorem gsplit_loop {R:Type} {k0:By→Int→LL→Option R} (c:UInt8):∀ (m n:Nat) (s:By) (d:List By),s.length≤1000000000→m=s.count c→d.length+m≤1000000000→m<n→
  ∃ (d':List By) (s':By),pcs c s=d'++[s']∧s'.length≤s.length∧gsplit_l0 LF n s [c] 0 ((d.length+m:Nat):Int) (d.length:Int) (strE (d++List.replicate (m+1) [])) k0=k0 s' ((d.length+m:Nat):Int) (strE ((d++d')++[[]])):=by
 intro m
 induction m with
 | zero=>
  intro n s d hs hm hd hn
  obtain ⟨n,rfl⟩:∃ m,n=m+1:=⟨n-1,by omega⟩
  have hc:c∉s:=List.count_eq_zero.1 hm.symm
  refine ⟨[],s,pcs_none hc,Nat.le_refl _,?_⟩
  rw [gsplit_l0_s]
  unfold gsplit_l0f
  rw [ltI_f (by omega)]
  simp
 | succ m ih=>
  intro n s d hs hm hd hn
  obtain ⟨n,rfl⟩:∃ m,n=m+1:=⟨n-1,by omega⟩
  rcases split_first c s with hc | ⟨p,r,rfl,hc⟩
  ·rw [List.count_eq_zero.2 hc] at hm;omega
  ·have hm':m=r.count c:=by
    rw [List.count_append,List.count_cons,List.count_eq_zero.2 hc] at hm
    simp at hm
    omega
   simp only [List.length_append,List.length_cons] at hs
   obtain ⟨d',s',h1,h2,h3⟩:=ih n r (d++[p]) (by omega) hm' (by simp<;>omega) (by omega)
   refine ⟨p::d',s',by rw [pcs_app hc,h1];rfl,by simp<;>omega,?_⟩
   rw [gsplit_l0_s]
   unfold gsplit_l0f
   have e1:((p.length:Int)+1)=((p.length+1:Nat):Int):=by omega
   have e2:(d.length:Int)+1=((d.length+1:Nat):Int):=by omega
   have e3:((p.length+1:Nat):Int).toNat=p.length+1:=by omega
   have e4:(((p++c::r).length:Nat):Int)=((p.length+(r.length+1):Nat):Int):=by simp
   have e5:(p++c::r).take p.length=p:=List.take_left' rfl
   have e6:(p++c::r).drop (p.length+1)=r:=by
    rw [show p++c::r=(p++[c])++r by simp,List.drop_left' (by simp)]
   rw [index_app hc]
   have el:(strE (d++List.replicate (m+1+1) [])).length=d.length+(m+2):=by simp<;>omega
   simp (disch:=first | omega | (simp;omega)) only [ltI_t,ltI_f,small_t,cond_true,cond_false,vl,Int.add_zero,wi64_id,sub3_t,inR_t,el,Int.toNat_natCast,List.length_singleton,cut_all,cut_zero,e5,setRep]
   rw [decide_eq_true (show d.length<d.length+(m+2) by omega),cond_true,show ((1:Nat):Int)=1 from rfl,e1]
   simp (disch:=first | omega | (simp;omega)) only [wi64_id,sub3_t,cond_true,cut_all,e3,e6,e2]
   have h3':((((d++[p]).length+m:Nat):Int))=((d.length+(m+1):Nat):Int):=by simp<;>omega
   have h4':(((d++[p]).length:Nat):Int)=((d.length+1:Nat):Int):=by simp
   rw [h3',h4'] at h3
   rw [h3]
   simp
theorem gsplit_run {R:Type} {k0:Unit→Option R} {k1:Nat→LL→Option R} (s p:By) (v n:Int) (h0:small s.length=true) (h1:(p.length==1)=true) (h2:(v==0)=true) (h3:(n==(-1))=true) :
  gsplit LF s p v n k0 k1=k1 (pcs (p.getD 0 0) s).length (strE (pcs (p.getD 0 0) s)):=by
 have hs:=maxL h0
 have:=LF_big
 obtain ⟨c,rfl⟩:∃ c,p=[c]:=by
  match p,h1 with
  | [c],_=>exact ⟨c,rfl⟩
 have:v=0:=by simpa using h2
 subst this
 have:n = -1:=by simpa using h3
 subst this
 have hc:=count_le c s
 have hpl:=pcs_len c s
 obtain ⟨d',s',g1,g2,g3⟩:=gsplit_loop (R:=R) (k0:=fun s'14 i'15 l'16=>cond (inR i'15 (List.length l'16))
     (cond (decide ((Int.toNat i'15)<(List.length l'16)))
      (vl (wi64 (i'15+(1))) fun n'17=>
      cond (sub3 (0) n'17 (List.length (List.set l'16 (Int.toNat i'15) (putAt (List.getD l'16 (Int.toNat i'15) []) 0 [(SV.str s'14)]))))
       (k1 ((Int.toNat n'17)-0) (List.set l'16 (Int.toNat i'15) (putAt (List.getD l'16 (Int.toNat i'15) []) 0 [(SV.str s'14)])))
       (none))
      (none))
     (none)) c (s.count c) LF s [] hs rfl (by simp<;>omega) (by omega)
 unfold gsplit
 have e1:wi64 ((s.count c:Int)+1)=((s.count c+1:Nat):Int):=wi64_id (by omega) (by omega)
 have e2:wi64 ((s.length:Int)+1)=((s.length+1:Nat):Int):=wi64_id (by omega) (by omega)
 have e3:(if ((s.length+1:Nat):Int)<((s.count c+1:Nat):Int) then ((s.length+1:Nat):Int) else ((s.count c+1:Nat):Int))=((s.count c+1:Nat):Int):=if_neg (by omega)
 have e4:((s.count c+1:Nat):Int)-1=(s.count c:Int):=by omega
 have e5:(List.replicate (s.count c+1) [SV.str ([]:By)])=strE ([]++List.replicate (s.count c+1) []):=by simp [strE]
 simp only [List.getD_cons_zero,vl,List.length_singleton,e1,e2,e3,Int.toNat_natCast,e5]
 rw [show ((-1:Int)==0)=false from rfl,show ([c]==([]:By))=false from rfl,show ltI (-1) 0=true from rfl,decide_eq_true (show (0:Int)≤((s.count c+1:Nat):Int) by omega),decide_eq_true (show ((s.count c+1:Nat):Int)≤((s.count c+1:Nat):Int) by omega),roomy_of (by omega),e4,wi64_id (by omega) (by omega)]
 simp only [cond_true,cond_false,beq_self_eq_true,Bool.and_self]
 simp only [List.length_nil,Nat.zero_add] at g3
 refine Eq.trans g3 ?_
 have e6:(strE ((([]:List By)++d')++[[]]))=strE (d'++List.replicate (0+1) []):=by simp
 have hd:d'.length=s.count c:=by
  rw [g1] at hpl
  simp at hpl
  omega
 have e7:=setRep d' s' 0
 rw [←hd,e6]
 have el:(strE (d'++List.replicate (0+1) ([]:By))).length=d'.length+1:=by simp
 have e8:wi64 ((d'.length:Int)+1)=((d'.length+1:Nat):Int):=wi64_id (by omega) (by omega)
 simp only [Int.toNat_natCast,e7,el,vl,e8]
 rw [inR_t (by omega) (by omega),decide_eq_true (show d'.length<d'.length+1 by omega),sub3_t (by omega) (by omega) (by simp),g1]
 simp
theorem gsplit_spec (s p:By) (v n:Int) (h0:small s.length=true) (h1:(p.length==1)=true) (h2:(v==0)=true) (h3:(n==(-1))=true) :
  ∃ r H,gsplit LF s p v n (fun _=>rv (.fl 0) [.arr true 9 1 []]) (fun i l=>rv (.vw 0 0 i) [.arr false 9 1 l])=rv r H∧r.stab [1] H = .s (.sl false false 1 (strE (pcs (p.getD 0 0) s))):=by
 refine ⟨_,_,gsplit_run s p v n h0 h1 h2 h3,?_⟩
 simp [PV.stab,fix1,PV.snap,List.take_of_length_le]
theorem ssplitM_spec {R:Type} {k0:Nat→LL→Option R} (s p:By) (h0:small s.length=true) (h1:(p.length==1)=true):ssplitM LF s p k0=k0 (pcs (p.getD 0 0) s).length (strE (pcs (p.getD 0 0) s)):=by
 unfold ssplitM;rw [h0,h1];rfl
theorem okGet {l:List By} {i:Nat} (h:i<l.length):l.getD i []∈l:=by
 rw [List.getD_eq_getElem?_getD,List.getElem?_eq_getElem h]
 exact List.getElem_mem _
theorem parts_spec {R:Type} {k0:LL→Option R} (s:By) (h0:small s.length=true):parts LF s k0=k0 (strE (partsB s)):=by
 have hs:=maxL h0
 have hpl:=pcs_len 46 s
 have hc:=count_le 46 s
 unfold parts
 rw [h0]
 have e1:wi64 (((pcs 46 s).length:Int)-1)=(((pcs 46 s).length-1:Nat):Int):=by rw [wi64_id (by omega) (by omega)];omega
 simp only [cond_true,vl,List.getD_cons_zero,show ((1:Nat)==1)=true from rfl,strE_len,e1,Int.toNat_natCast]
 by_cases h1:1<(pcs 46 s).length
 ·rw [ltI_t (by omega),inR_t (by omega) (by omega),okE_strE (by omega),gX_strE]
  have hg:(pcs 46 s).getD ((pcs 46 s).length-1) []=(pcs 46 s).getLastD []:=by
   rw [List.getLastD_eq_getLast?,List.getLast?_eq_getElem?,List.getD_eq_getElem?_getD]
  rw [hg]
  by_cases h2:(pcs 46 s).getLastD []=[]
  ·rw [h2,show (([]:By)==[])=true from rfl,sub3_t (by omega) (by omega) (by omega)]
   have:partsB s=(pcs 46 s).dropLast:=by unfold partsB;rw [if_pos ⟨h1,h2⟩]
   rw [this,List.dropLast_eq_take,cut_zero,Int.toNat_natCast]
   simp [strE]
  ·rw [show ((pcs 46 s).getLastD []==[])=false from beq_eq_false_iff_ne.2 h2]
   have:partsB s=pcs 46 s:=by unfold partsB;rw [if_neg (fun h=>h2 h.2)]
   rw [this]
   rfl
 ·rw [ltI_f (by omega)]
  have:partsB s=pcs 46 s:=by unfold partsB;rw [if_neg (fun h=>h1 h.1)]
  rw [this]
  rfl
theorem pn_get (l:List By) (i:Nat) (h:i<l.length):l.drop i=l.getD i []::l.drop (i+1):=by
 rw [List.getD_eq_getElem?_getD,List.getElem?_eq_getElem h,Option.getD_some,List.getElem_cons_drop]
theorem pnum_loop {R:Type} {k0:Unit→Option R} {k1:Int→Option R} (l:List By) (hm1:1≤l.length) (hm:l.length≤4) (hl:∀ x∈l,x.length≤1000000000):∀ (r i v n:Nat),i+r=l.length→0<r→r<n→v<256 ^ i→
  pnum_l0 LF n (strE l) (v:Int) (l.length:Int) (i:Int) k0 k1=match pnGo (8*(5-l.length)) v (l.drop i) with | some w=>k1 (w:Int) | none=>k0 ():=by
 intro r
 induction r with
 | zero=>intro i v n _ h;omega
 | succ r ih=>
  intro i v n hi _ hn hv
  obtain ⟨n,rfl⟩:∃ m,n=m+1:=⟨n-1,by omega⟩
  rw [pnum_l0_s,pn_get l i (by omega)]
  unfold pnum_l0f
  have hx:=hl _ (okGet (show i<l.length by omega))
  have hsat:satB=1099511627776:=rfl
  have hpw:256 ^ i≤16777216:=by
   have:i=0∨i=1∨i=2∨i=3:=by omega
   rcases this with rfl | rfl | rfl | rfl<;>decide
  simp (disch:=omega) only [ltI_t,strE_len,inR_t,cond_true,Int.toNat_natCast,okE_strE,gX_strE,small_t,vl]
  simp only [pnGo]
  have hn1:((i:Int)+1)=((i+1:Nat):Int):=by omega
  cases hq:numB (l.getD i []) with
  | none=>rfl
  | some q=>
   have hql:=numB_le hq
   have ep:wi64 ((l.length:Int)-1)=((l.length-1:Nat):Int):=by rw [wi64_id (by omega) (by omega)];omega
   simp only [Option.isSome_some,Bool.not_true,cond_false,optN,Option.getD_some,ep]
   by_cases hr:r=0
   ·subst hr
    have hd:l.drop (i+1)=[]:=List.drop_of_length_le (by omega)
    have ef:wi64 (8*wi64 (5-(l.length:Int)))=((8*(5-l.length):Nat):Int):=by
     rw [wi64_id (n:=5-(l.length:Int)) (by omega) (by omega),wi64_id (by omega) (by omega)];omega
    have hfp:2 ^ (8*(5-l.length))*256 ^ i=4294967296:=by
     have:l.length=1∨l.length=2∨l.length=3∨l.length=4:=by omega
     have hi2:i=l.length-1:=by omega
     rcases this with h | h | h | h<;>rw [hi2,h]<;>decide
    have hf1:1*2 ^ (8*(5-l.length))≤4294967296:=by
     rw [←hfp,Nat.one_mul]
     exact Nat.le_mul_of_pos_right _ (Nat.pow_pos (by omega))
    rw [hd,ltI_f (by omega),ef,decide_eq_true (show (0:Int)≤((8*(5-l.length):Nat):Int) by omega)]
    simp only [cond_false,cond_true]
    have s1:=shl64 1 (8*(5-l.length)) (by omega) (by omega)
    have hvf:v*2 ^ (8*(5-l.length))<4294967296:=by
     rw [←hfp,Nat.mul_comm]
     exact Nat.mul_lt_mul_of_pos_left hv (Nat.pow_pos (by omega))
    have s2:=shl64 v (8*(5-l.length)) (by omega) (by omega)
    rw [show ((1:Nat):Int)=1 from rfl] at s1
    rw [s1,s2,Nat.one_mul]
    by_cases hc:q<2 ^ (8*(5-l.length))
    ·rw [ltI_t (by omega),if_pos hc,bOr64 _ _ (by omega) (by omega),orShift v q _ hc]
     simp only [Bool.not_true,cond_false]
     obtain ⟨n,rfl⟩:∃ m,n=m+1:=⟨n-1,by omega⟩
     rw [pnum_l0_s]
     unfold pnum_l0f
     rw [hn1,wi64_id (by omega) (by omega),ltI_f (by omega)]
     rfl
    ·rw [ltI_f (by omega),if_neg hc];rfl
   ·obtain ⟨y,z,hyz⟩:∃ y z,l.drop (i+1)=y::z:=⟨_,_,pn_get l (i+1) (by omega)⟩
    rw [hyz,ltI_t (by omega)]
    simp only [cond_true]
    by_cases hc:q≤255
    ·have s2:=shl64 v 8 (by omega) (by omega)
     rw [show ((8:Nat):Int)=8 from rfl] at s2
     rw [ltI_f (by omega),if_pos hc,s2,bOr64 _ _ (by omega) (by omega),orShift v q 8 (by omega),hn1,wi64_id (by omega) (by omega)]
     rw [←hyz]
     exact ih (i+1) _ n (by omega) (by omega) (by omega) (by rw [Nat.pow_succ];omega)
    ·rw [ltI_t (by omega),if_neg hc];rfl
theorem pnGo_lt (free m:Nat):∀ (l:List By) (v w:Nat),v<256 ^ m→pnGo free v l=some w→w<256 ^ (m+(l.length-1))*2 ^ free
 | [],v,w,hv,h=>by cases h
 | p::r,v,w,hv,h=>by
  simp only [pnGo] at h
  cases hq:numB p with
  | none=>simp [hq] at h
  | some q=>
   simp only [hq] at h
   cases r with
   | nil=>
    simp only at h
    split at h
    ·rename_i hc
     cases h
     simp only [List.length_cons,List.length_nil,Nat.add_sub_cancel,Nat.add_zero]
     have:(v+1)*2 ^ free≤256 ^ m*2 ^ free:=Nat.mul_le_mul_right _ hv
     rw [Nat.add_mul] at this
     omega
    ·cases h
   | cons y z=>
    simp only at h
    split at h
    ·rename_i hc
     have:=pnGo_lt free (m+1) (y::z) (v*256+q) w (by rw [Nat.pow_succ];omega) h
     simp only [List.length_cons] at this ⊢
     rw [show m+1+(z.length+1-1)=m+(z.length+1+1-1) by omega] at this
     exact this
    ·cases h
theorem pnB_lt {s:By} {w:Nat} (h:pnB s=some w):w<4294967296:=by
 unfold pnB at h
 split at h
 ·cases h
 ·rename_i hc
  have hp:=partsB_len s
  have:=pnGo_lt _ 0 (partsB s) 0 w (by decide) h
  have e:(partsB s).length=1∨(partsB s).length=2∨(partsB s).length=3∨(partsB s).length=4:=by omega
  rcases e with e | e | e | e<;>rw [e] at this<;>simpa using this
theorem pnum_spec {R:Type} {k0:Int→Bool→Option R} (s:By) (h0:small s.length=true):pnum LF s k0=k0 (optN (pnB s):Int) (pnB s).isSome:=by
 have hs:=maxL h0
 have:=LF_big
 have hp:=partsB_len s
 unfold pnum
 rw [h0,strE_len]
 by_cases h:4<(partsB s).length
 ·rw [ltI_t (by omega)]
  unfold pnB
  rw [if_pos h]
  rfl
 ·rw [ltI_f (by omega)]
  simp only [cond_true,cond_false]
  refine Eq.trans (pnum_loop (partsB s) hp.1 (by omega) (fun x hx=>Nat.le_trans (partsB_mem hx) hs) (partsB s).length 0 0 LF (by omega) (by omega) (by omega) (by decide)) ?_
  have e:pnB s=pnGo (8*(5-(partsB s).length)) 0 (partsB s):=by unfold pnB;rw [if_neg h]
  rw [List.drop_zero,←e]
  cases hq:pnB s with
  | none=>rfl
  | some w=>
   have:=pnB_lt hq
   simp only [optN,Option.getD_some,Option.isSome_some]
   rw [wu32_id (by omega) (by omega)]
theorem rpnum_loop {R:Type} {k0:Unit→Option R} {k1:Int→Option R} (l:List By) (hm1:1≤l.length) (hm:l.length≤4) (hl:∀ x∈l,x.length≤1000000000):∀ (r i v n:Nat),i+r=l.length→0<r→r<n→v<256 ^ i→
  rpnum_l0 LF n (strE l) ((v*2 ^ (32-8*i):Nat):Int) (i:Int) k0 k1=match pnGo (8*(5-l.length)) v (l.drop i) with | some w=>k1 (w:Int) | none=>k0 ():=by
 intro r
 induction r with
 | zero=>intro i v n _ h;omega
 | succ r ih=>
  intro i v n hi _ hn hv
  obtain ⟨n,rfl⟩:∃ m,n=m+1:=⟨n-1,by omega⟩
  rw [rpnum_l0_s,pn_get l i (by omega)]
  unfold rpnum_l0f
  have hx:=hl _ (okGet (show i<l.length by omega))
  have hsat:satB=1099511627776:=rfl
  have hvb:v*2 ^ (32-8*i)<4294967296:=by
   have:i=0∨i=1∨i=2∨i=3:=by omega
   rcases this with rfl | rfl | rfl | rfl
   ·show v*4294967296<_;have:v<1:=hv;omega
   ·show v*16777216<_;have:v<256:=hv;omega
   ·show v*65536<_;have:v<65536:=hv;omega
   ·show v*256<_;have:v<16777216:=hv;omega
  simp (disch:=omega) only [ltI_t,strE_len,inR_t,cond_true,Int.toNat_natCast,okE_strE,gX_strE,small_t,vl]
  simp only [pnGo]
  have hn1:((i:Int)+1)=((i+1:Nat):Int):=by omega
  cases hq:numB (l.getD i []) with
  | none=>rfl
  | some q=>
   have hql:=numB_le hq
   have ep:wi64 ((l.length:Int)-1)=((l.length-1:Nat):Int):=by rw [wi64_id (by omega) (by omega)];omega
   simp only [Option.isSome_some,Bool.not_true,cond_false,optN,Option.getD_some,ep]
   by_cases hr:r=0
   ·subst hr
    have hd:l.drop (i+1)=[]:=List.drop_of_length_le (by omega)
    have ef:wi64 (8*wi64 (5-(l.length:Int)))=((8*(5-l.length):Nat):Int):=by
     rw [wi64_id (n:=5-(l.length:Int)) (by omega) (by omega),wi64_id (by omega) (by omega)];omega
    have hfp:2 ^ (8*(5-l.length))*256 ^ i=4294967296:=by
     have:l.length=1∨l.length=2∨l.length=3∨l.length=4:=by omega
     have hi2:i=l.length-1:=by omega
     rcases this with h | h | h | h<;>rw [hi2,h]<;>decide
    have hf1:1*2 ^ (8*(5-l.length))≤4294967296:=by
     rw [←hfp,Nat.one_mul]
     exact Nat.le_mul_of_pos_right _ (Nat.pow_pos (by omega))
    have he:((i:Int)==((l.length-1:Nat):Int))=true:=by rw [beq_iff_eq];omega
    rw [hd,he,ef,decide_eq_true (show (0:Int)≤((8*(5-l.length):Nat):Int) by omega)]
    simp only [cond_true]
    have s1:=shl64 1 (8*(5-l.length)) (by omega) (by omega)
    rw [show ((1:Nat):Int)=1 from rfl] at s1
    rw [s1,Nat.one_mul]
    by_cases hc:q<2 ^ (8*(5-l.length))
    ·rw [ltI_t (by omega),if_pos hc]
     simp only [Bool.not_true,cond_false]
     obtain ⟨n,rfl⟩:∃ m,n=m+1:=⟨n-1,by omega⟩
     rw [rpnum_l0_s]
     unfold rpnum_l0f
     rw [hn1,wi64_id (n:=((i+1:Nat):Int)) (by omega) (by omega),strE_len,ltI_f (by omega)]
     have:32-8*i=8*(5-l.length):=by omega
     rw [this] at hvb ⊢
     rw [cond_false,wi64_id (by omega) (by omega)]
     rfl
    ·rw [ltI_f (by omega),if_neg hc];rfl
   ·obtain ⟨y,z,hyz⟩:∃ y z,l.drop (i+1)=y::z:=⟨_,_,pn_get l (i+1) (by omega)⟩
    have he:((i:Int)==((l.length-1:Nat):Int))=false:=by rw [beq_eq_false_iff_ne];omega
    rw [hyz,he]
    simp only [cond_false]
    by_cases hc:q≤255
    ·have e1:wi64 (24-wi64 (8*(i:Int)))=((24-8*i:Nat):Int):=by
      rw [wi64_id (n:=8*(i:Int)) (by omega) (by omega),wi64_id (by omega) (by omega)];omega
     have hqb:q*2 ^ (24-8*i)<4294967296:=by
      have:i=0∨i=1∨i=2:=by omega
      clear hvb
      rcases this with rfl | rfl | rfl
      ·show q*16777216<_;omega
      ·show q*65536<_;omega
      ·show q*256<_;omega
     have s2:=shl64 q (24-8*i) (by omega) (by omega)
     rw [ltI_f (by omega),if_pos hc,e1,decide_eq_true (show (0:Int)≤((24-8*i:Nat):Int) by omega),s2,hn1,wi64_id (n:=((i+1:Nat):Int)) (by omega) (by omega)]
     have e2:wi64 (((v*2 ^ (32-8*i):Nat):Int)+((q*2 ^ (24-8*i):Nat):Int))=(((v*256+q)*2 ^ (32-8*(i+1)):Nat):Int):=by
      rw [wi64_id (by omega) (by omega)]
      have:i=0∨i=1∨i=2:=by omega
      clear hvb hqb s2 e1
      rcases this with rfl | rfl | rfl
      ·show ((v*4294967296:Nat):Int)+((q*16777216:Nat):Int)=(((v*256+q)*16777216:Nat):Int);omega
      ·show ((v*16777216:Nat):Int)+((q*65536:Nat):Int)=(((v*256+q)*65536:Nat):Int);omega
      ·show ((v*65536:Nat):Int)+((q*256:Nat):Int)=(((v*256+q)*256:Nat):Int);omega
     rw [e2,←hyz]
     exact ih (i+1) _ n (by omega) (by omega) (by omega) (by rw [Nat.pow_succ];omega)
    ·rw [ltI_t (by omega),if_neg hc];rfl
theorem octs_lt:∀ (l:List By) (v w m:Nat),v<256 ^ m→octs v l=some w→w<256 ^ (m+l.length)
 | [],v,w,m,hv,h=>by simp only [octs,Option.some.injEq] at h;subst h;simpa using hv
 | p::r,v,w,m,hv,h=>by
  simp only [octs] at h
  cases hq:oct p with
  | none=>simp [hq] at h
  | some q=>
   simp only [hq] at h
   have hq1:=(oct_iff.1 hq).1
   have:=octs_lt r (v*256+q) w (m+1) (by rw [Nat.pow_succ];omega) h
   rw [show m+1+r.length=m+(p::r).length by simp<;>omega] at this
   exact this
theorem oct_num (s:By):oct s=match digGo 10 0 s with | some n=>(if n≤255 then (if Lib.decDigits n=s then some n else none) else none) | none=>none:=by
 unfold oct
 cases digGo 10 0 s with
 | none=>rfl
 | some n=>
  simp only []
  by_cases h1:n≤255
  ·by_cases h2:Lib.decDigits n=s
   ·rw [if_pos ⟨h1,h2⟩,if_pos h1,if_pos h2]
   ·rw [if_neg (fun h=>h2 h.2),if_pos h1,if_neg h2]
  ·rw [if_neg (fun h=>h1 h.1),if_neg h1]
theorem v4p_loop {R:Type} {k0:Unit→Option R} {k1:Int→Option R} (l:List By) (hm:l.length=4) (hl:∀ x∈l,x.length≤1000000000):∀ (r i v n:Nat),i+r=4→r<n→v<256 ^ i→
  v4p_l0 LF n (v:Int) (strE l) 4 (i:Int) k0 k1=match octs v (l.drop i) with | some w=>k1 (w:Int) | none=>k0 ():=by
 intro r
 induction r with
 | zero=>
  intro i v n hi hn hv
  obtain ⟨n,rfl⟩:∃ m,n=m+1:=⟨n-1,by omega⟩
  rw [v4p_l0_s]
  unfold v4p_l0f
  rw [ltI_f (by omega),List.drop_of_length_le (by omega)]
  rfl
 | succ r ih=>
  intro i v n hi hn hv
  obtain ⟨n,rfl⟩:∃ m,n=m+1:=⟨n-1,by omega⟩
  rw [v4p_l0_s,pn_get l i (by omega)]
  unfold v4p_l0f
  have hx:=hl _ (okGet (show i<l.length by omega))
  have hpw:256 ^ i≤16777216:=by
   have:i=0∨i=1∨i=2∨i=3:=by omega
   rcases this with rfl | rfl | rfl | rfl<;>decide
  simp (disch:=omega) only [ltI_t,strE_len,inR_t,cond_true,Int.toNat_natCast,okE_strE,gX_strE,small_t,ltN_t,vl]
  simp only [octs]
  have hn1:((i:Int)+1)=((i+1:Nat):Int):=by omega
  rw [oct_num]
  cases hq:digGo 10 0 (l.getD i []) with
  | none=>rfl
  | some q=>
   have hql:=digGo_le (by unfold satB;omega) hq
   have hsat:satB=1099511627776:=rfl
   simp only [Option.isSome_some,Bool.not_true,cond_false,optN,Option.getD_some,Int.toNat_natCast]
   by_cases hc:q≤255
   ·rw [ltI_f (by omega),if_pos hc,ltN_t (by omega) (by omega)]
    simp only [cond_false,cond_true]
    by_cases he:Lib.decDigits q=l.getD i []
    ·have s2:=shl32 v 8 (by omega) (by omega)
     rw [show ((8:Nat):Int)=8 from rfl] at s2
     rw [show (Lib.decDigits q==l.getD i [])=true by simpa using he,if_pos he,s2,wu32_id (by omega) (by omega),bOr32 _ _ (by omega) (by omega),orShift v q 8 (by omega),hn1,wi64_id (by omega) (by omega)]
     exact ih (i+1) _ n (by omega) (by omega) (by rw [Nat.pow_succ];omega)
    ·rw [show (Lib.decDigits q==l.getD i [])=false from beq_eq_false_iff_ne.2 he,if_neg he];rfl
   ·rw [ltI_t (by omega),if_neg hc];rfl
theorem v4p_spec {R:Type} {k0:Int→Bool→Option R} (s:By) (h0:small s.length=true):v4p LF s k0=k0 (optN (v4B s):Int) (v4B s).isSome:=by
 have hs:=maxL h0
 have:=LF_big
 unfold v4p v4B
 rw [h0]
 simp only [cond_true,vl,List.getD_cons_zero,strE_len,show ((1:Nat)==1)=true from rfl]
 by_cases h:(pcs 46 s).length=4
 ·rw [if_pos h,h,show (((4:Nat):Int) != 4)=false from rfl,cond_false]
  refine Eq.trans (v4p_loop (pcs 46 s) h (fun x hx=>Nat.le_trans (pcs_mem hx).2 hs) 4 0 0 LF (by omega) (by omega) (by decide)) ?_
  rw [List.drop_zero]
  cases octs 0 (pcs 46 s)<;>rfl
 ·rw [if_neg h,show (((pcs 46 s).length:Int) != 4)=true by simp<;>omega]
  rfl
theorem v4f_spec {R:Type} {k0:By→Option R} (v:Int) (h0:ltN v 4294967296=true):v4f LF v k0=k0 (v4Fmt v.toNat):=by
 obtain ⟨hb0,hb1⟩:=ltN_iff.1 h0
 obtain ⟨m,rfl⟩:=Int.eq_ofNat_of_zero_le hb0
 have:=LF_big
 obtain ⟨f,hf⟩:∃ f,LF=f+1+1+1+1+1:=⟨LF-5,by omega⟩
 have step:∀ (n:Nat) (i:Nat) (out:By) (K:By→Option R),i≤24→out.length≤1000→v4f_l0 LF (n+1) (m:Int) out (i:Int) K=v4f_l0 LF n (m:Int) (out++(Lib.decDigits (m / 2 ^ i % 256)++[46])) ((i:Int)-8) K:=by
  intro n i out K hi ho
  rw [v4f_l0_s]
  unfold v4f_l0f
  have hlt:m / 2 ^ i<4294967296:=Nat.lt_of_le_of_lt (Nat.div_le_self _ _) (by omega)
  have e1:bAnd .u32 (shrI .u32 (m:Int) (i:Int)) 255=((m / 2 ^ i % 256:Nat):Int):=by
   rw [shr_nat .u32 m i (by show i≤32;omega),show (255:Int)=((255:Nat):Int) from rfl,bAnd32 _ _ hlt (by omega),and255]
  have hl:=decDigits_len (m / 2 ^ i % 256) (by omega)
  have e2:wi64 ((m / 2 ^ i % 256:Nat):Int)=((m / 2 ^ i % 256:Nat):Int):=wi64_id (by omega) (by omega)
  rw [ltI_f (by omega),decide_eq_true (show (0:Int)≤(i:Int) by omega),e1]
  simp only [vl,e2,Int.toNat_natCast,Bool.not_false,cond_true]
  rw [ltN_t (by omega) (by omega),catOk_t (by omega),catOk_t (by simp<;>omega),wi64_id (by omega) (by omega)]
  rfl
 have fin:∀ (n:Nat) (out:By) (K:By→Option R),v4f_l0 LF (n+1) (m:Int) out (-8) K=K out:=by
  intro n out K
  rw [v4f_l0_s]
  unfold v4f_l0f
  rw [ltI_t (by omega)]
  rfl
 have l24:=decDigits_len (m / 2 ^ 24 % 256) (by omega)
 have l16:=decDigits_len (m / 2 ^ 16 % 256) (by omega)
 have l8:=decDigits_len (m / 2 ^ 8 % 256) (by omega)
 have l0:=decDigits_len (m / 2 ^ 0 % 256) (by omega)
 have k24:=decDigits_len (m / 16777216 % 256) (by omega)
 have k16:=decDigits_len (m / 65536 % 256) (by omega)
 have k8:=decDigits_len (m / 256 % 256) (by omega)
 have k0':=decDigits_len (m % 256) (by omega)
 unfold v4f
 rw [show v4f_l0 LF LF=v4f_l0 LF (f+1+1+1+1+1) by rw [←hf]]
 rw [show (24:Int)=((24:Nat):Int) from rfl,step _ 24 _ _ (by omega) (by simp)]
 rw [show ((24:Nat):Int)-8=((16:Nat):Int) from rfl,step _ 16 _ _ (by omega) (by simp<;>omega)]
 rw [show ((16:Nat):Int)-8=((8:Nat):Int) from rfl,step _ 8 _ _ (by omega) (by simp<;>omega)]
 rw [show ((8:Nat):Int)-8=((0:Nat):Int) from rfl,step _ 0 _ _ (by omega) (by simp<;>omega)]
 rw [show ((0:Nat):Int)-8 = -8 from rfl,fin]
 have hm24:m / 2 ^ 24 % 256=m / 16777216:=by
  rw [show (2:Nat) ^ 24=16777216 from rfl];omega
 have e:(([]:By)++(Lib.decDigits (m / 2 ^ 24 % 256)++[46])++(Lib.decDigits (m / 2 ^ 16 % 256)++[46])++(Lib.decDigits (m / 2 ^ 8 % 256)++[46])++(Lib.decDigits (m / 2 ^ 0 % 256)++[46]))=v4Fmt m++[46]:=by
  unfold v4Fmt
  rw [hm24]
  simp
 have hlen:(v4Fmt m++[46]).length≤1000:=by rw [←e];simp;omega
 rw [e]
 have hl1:((v4Fmt m++[46]).length:Int)-1=((v4Fmt m).length:Int):=by simp<;>omega
 simp only [vl,hl1]
 simp only [List.length_append,List.length_singleton] at hlen
 rw [wi64_id (by omega) (by omega),sub3_t (by omega) (by omega) (by simp<;>omega),cut_zero,Int.toNat_natCast,Int.toNat_natCast]
 rw [List.take_left' rfl]
 rfl
theorem bOr16 (a b:Nat) (ha:a<65536) (hb:b<65536):bOr .u16 (a:Int) (b:Int)=((a ||| b:Nat):Int):=by
 unfold bOr
 rw [show IntKind.bits .u16=16 from rfl,bvor 16 a b (by omega) (by omega)]
 have:a ||| b<2 ^ 16:=Nat.or_lt_two_pow (by omega) (by omega)
 exact wu16_id (by omega) (by omega)
theorem shl16 (a m:Nat) (h:a*2 ^ m<65536) (hm:m≤16):shlI .u16 (a:Int) (m:Int)=((a*2 ^ m:Nat):Int):=by
 unfold shlI
 rw [Int.toNat_natCast,show IntKind.bits .u16=16 from rfl,Nat.min_eq_left hm]
 have:(a:Int)*2 ^ m=((a*2 ^ m:Nat):Int):=by simp
 rw [this]
 exact wu16_id (by omega) (by omega)
theorem step16 (v d:Nat) (hv:v<4096) (hd:d<16):bOr .u16 (shlI .u16 (v:Int) 4) (d:Int)=((v*16+d:Nat):Int):=by
 have:=shl16 v 4 (by omega) (by omega)
 rw [show ((4:Nat):Int)=4 from rfl] at this
 rw [this,bOr16 _ _ (by omega) (by omega),orShift v d 4 (by omega)]
theorem grp_loop {R:Type} {k0:Unit→Option R} {k1:Int→Option R} (s:By) (hs:s.length≤4):∀ (r i v n:Nat),i+r=s.length→r<n→v<16 ^ i→
  grpc_l0 LF n s (v:Int) (s.length:Int) (i:Int) k0 k1=match grpGo v (s.drop i) with | some w=>k1 (w:Int) | none=>k0 ():=by
 intro r
 induction r with
 | zero=>
  intro i v n hi hn hv
  obtain ⟨n,rfl⟩:∃ m,n=m+1:=⟨n-1,by omega⟩
  rw [grpc_l0_s]
  unfold grpc_l0f
  rw [ltI_f (by omega),List.drop_of_length_le (by omega)]
  rfl
 | succ r ih=>
  intro i v n hi hn hv
  obtain ⟨n,rfl⟩:∃ m,n=m+1:=⟨n-1,by omega⟩
  rw [grpc_l0_s,drop_cons s i (by omega)]
  unfold grpc_l0f
  rw [bAt_nat]
  have hbt:=(s.getD i 0).toNat_lt
  generalize s.getD i 0=b at *
  have hn1:((i:Int)+1)=((i+1:Nat):Int):=by omega
  have hp:16 ^ i≤4096:=by
   have:i=0∨i=1∨i=2∨i=3:=by omega
   rcases this with rfl | rfl | rfl | rfl<;>decide
  simp (disch:=omega) only [ltI_t,inR_t,cond_true,vl,wi64_id,grpc_j2,grpc_j1,grpc_j0]
  rw [hn1]
  simp only [grpGo]
  have go:∀ d:Nat,d<16→grpc_l0 LF n s ((v*16+d:Nat):Int) (s.length:Int) ((i+1:Nat):Int) k0 k1=match grpGo (v*16+d) (s.drop (i+1)) with | some w=>k1 (w:Int) | none=>k0 ():=
   fun d hd=>ih (i+1) _ n (by omega) (by omega) (by rw [Nat.pow_succ];omega)
  rcases dig_cases b with ⟨h1,h2,e⟩ | ⟨h1,h2,e⟩ | ⟨h1,h2,e⟩ | ⟨h1,h2,h3,e⟩
  ·have e2:wu16 (wu8 ((b.toNat:Int)-48))=((dig b:Nat):Int):=by rw [wu8_id (by omega) (by omega),wu16_id (by omega) (by omega)];omega
   simp (disch:=omega) only [ltI_t,ltI_f,Bool.not_true,Bool.not_false,cond_false,cond_true,e2,step16,if_pos (show dig b<16 by omega)]
   exact go _ (by omega)
  ·have e2:wu16 (wu8 (wu8 ((b.toNat:Int)-97)+10))=((dig b:Nat):Int):=by rw [wu8_id (n:=(b.toNat:Int)-97) (by omega) (by omega),wu8_id (by omega) (by omega),wu16_id (by omega) (by omega)];omega
   simp (disch:=omega) only [ltI_t,ltI_f,Bool.not_true,Bool.not_false,cond_false,cond_true,e2,step16,if_pos (show dig b<16 by omega)]
   exact go _ (by omega)
  ·have e2:wu16 (wu8 (wu8 ((b.toNat:Int)-65)+10))=((dig b:Nat):Int):=by rw [wu8_id (n:=(b.toNat:Int)-65) (by omega) (by omega),wu8_id (by omega) (by omega),wu16_id (by omega) (by omega)];omega
   simp (disch:=omega) only [ltI_t,ltI_f,Bool.not_true,Bool.not_false,cond_false,cond_true,e2,step16,if_pos (show dig b<16 by omega)]
   exact go _ (by omega)
  ·rw [if_neg (show ¬ dig b<16 by omega)]
   by_cases c1:b.toNat<48
   ·simp (disch:=omega) only [ltI_t,ltI_f,Bool.not_true,Bool.not_false,cond_false,cond_true]
   ·by_cases c2:b.toNat<65
    ·simp (disch:=omega) only [ltI_t,ltI_f,Bool.not_true,Bool.not_false,cond_false,cond_true]
    ·by_cases c3:b.toNat<97
     ·simp (disch:=omega) only [ltI_t,ltI_f,Bool.not_true,Bool.not_false,cond_false,cond_true]
     ·simp (disch:=omega) only [ltI_t,ltI_f,Bool.not_true,Bool.not_false,cond_false,cond_true]
theorem grpc_spec {R:Type} {k0:Int→Bool→Option R} (s:By) (h0:small s.length=true):grpc LF s k0=k0 (optN (grp s):Int) (grp s).isSome:=by
 have:=LF_big
 unfold grpc grp
 by_cases h1:s=[]
 ·subst h1;rfl
 ·rw [show (s==([]:By))=false from beq_eq_false_iff_ne.2 h1]
  by_cases h2:4<s.length
  ·rw [ltI_t (by omega),if_pos (.inr h2)];rfl
  ·rw [ltI_f (by omega),if_neg (by intro h;rcases h with h | h;exact h1 h;exact h2 h)]
   refine Eq.trans (grp_loop s (by omega) s.length 0 0 LF (by omega) (by omega) (by decide)) ?_
   rw [List.drop_zero]
   cases grpGo 0 s<;>rfl
theorem grpGo_lt:∀ (s:By) (v w m:Nat),v<16 ^ m→grpGo v s=some w→w<16 ^ (m+s.length)
 | [],v,w,m,hv,h=>by simp only [grpGo,Option.some.injEq] at h;subst h;simpa using hv
 | b::r,v,w,m,hv,h=>by
  simp only [grpGo] at h
  split at h
  ·have:=grpGo_lt r (v*16+dig b) w (m+1) (by rw [Nat.pow_succ];omega) h
   rw [show m+1+r.length=m+(b::r).length by simp<;>omega] at this
   exact this
  ·cases h
theorem grp_lt {s:By} {v:Nat} (h:grp s=some v):v<65536:=by
 unfold grp at h
 split at h
 ·cases h
 ·rename_i hc
  have:=grpGo_lt s 0 v 0 (by decide) h
  have hl:s.length≤4:=by
   apply Classical.byContradiction
   intro hx
   exact hc (.inr (by omega))
  have:16 ^ (0+s.length)≤16 ^ 4:=Nat.pow_le_pow_right (by omega) (by omega)
  omega
theorem u16E_len (l:List Nat):(u16E l).length=l.length:=by simp [u16E]
theorem u16E_app (a b:List Nat):u16E (a++b)=u16E a++u16E b:=by simp [u16E]
theorem u16E_isEmpty (l:List Nat):(u16E l).isEmpty=l.isEmpty:=by cases l<;>rfl
theorem okE_u16 {l:List Nat} {i:Nat} (h:i<l.length):okE ⟨true,false,[.int .u16]⟩ (u16E l) i 0=true:=by
 unfold okE u16E
 simp [List.getD_eq_getElem?_getD,h,okS,SV.has]
theorem gE_u16 (l:List Nat) (i:Nat):gE (u16E l) i 0=(l.getD i 0:Int):=by
 unfold gE gC u16E
 by_cases h:i<l.length
 ·simp [List.getD_eq_getElem?_getD,List.getElem?_eq_getElem h,SV.gI]
 ·simp [List.getD_eq_getElem?_getD,List.getElem?_eq_none (show l.length≤i by omega),SV.gI]
theorem grps_len:∀ (last:Bool) (l:List By) (r:List Nat),grps last l=some r→r.length≤2*l.length
 | last,[],r,h=>by simp only [grps,Option.some.injEq] at h;subst h;simp
 | last,x::l,r,h=>by
  simp only [grps] at h
  split at h
  ·cases hq:grps last l with
   | none=>simp [hq] at h
   | some q=>
    simp only [hq,Option.map_some,Option.some.injEq] at h
    subst h
    have:=grps_len last l q hq
    simp only [List.length_cons]
    omega
  ·split at h
   ·split at h
    ·simp only [Option.some.injEq] at h;subst h;simp
     omega
    ·cases h
   ·cases h
theorem v4B_lt {s:By} {v:Nat} (h:v4B s=some v):v<4294967296:=by
 unfold v4B at h
 split at h
 ·rename_i hc
  have:=octs_lt (pcs 46 s) 0 v 0 (by decide) h
  rw [hc] at this
  simpa using this
 ·cases h
theorem grps_lt:∀ (last:Bool) (l:List By) (r:List Nat),grps last l=some r→∀ x∈r,x<65536
 | last,[],r,h,x,hx=>by simp only [grps,Option.some.injEq] at h;subst h;simp at hx
 | last,y::l,r,h,x,hx=>by
  simp only [grps] at h
  split at h
  ·rename_i v hv
   cases hq:grps last l with
   | none=>simp [hq] at h
   | some q=>
    simp only [hq,Option.map_some,Option.some.injEq] at h
    subst h
    rcases List.mem_cons.1 hx with rfl | hx
    ·exact grp_lt hv
    ·exact grps_lt last l q hq x hx
  ·split at h
   ·rename_i v hv
    split at h
    ·simp only [Option.some.injEq] at h
     subst h
     have:=v4B_lt hv
     simp only [List.mem_cons,List.not_mem_nil,or_false] at hx
     rcases hx with rfl | rfl<;>omega
    ·cases h
   ·cases h
theorem grpsc_loop {R:Type} {k0:LL→Option R} {k1:LL→Option R} (last:Bool) (l:List By) (hL:l.length≤1000000001) (hl:∀ x∈l,x.length≤1000000000):∀ (r i n:Nat) (d:List Nat),i+r=l.length→r<n→d.length≤2*i→
  (∀ q,grps last (l.drop i)=some q→grpsc_l0 LF n last (strE l) (l.length:Int) (i:Int) (u16E d) k0 k1=k1 (u16E (d++q)))∧
  (grps last (l.drop i)=none→∃ d',grpsc_l0 LF n last (strE l) (l.length:Int) (i:Int) (u16E d) k0 k1=k0 d'):=by
 intro r
 induction r with
 | zero=>
  intro i n d hi hn hd
  obtain ⟨n,rfl⟩:∃ m,n=m+1:=⟨n-1,by omega⟩
  rw [grpsc_l0_s,List.drop_of_length_le (by omega)]
  unfold grpsc_l0f
  rw [ltI_f (by omega)]
  refine ⟨fun q hq=>?_,fun h=>(by cases h)⟩
  simp only [grps,Option.some.injEq] at hq
  subst hq
  simp
 | succ r ih=>
  intro i n d hi hn hd
  obtain ⟨n,rfl⟩:∃ m,n=m+1:=⟨n-1,by omega⟩
  rw [grpsc_l0_s,pn_get l i (by omega)]
  unfold grpsc_l0f
  have hx:=hl _ (okGet (show i<l.length by omega))
  have hn1:((i:Int)+1)=((i+1:Nat):Int):=by omega
  simp (disch:=omega) only [ltI_t,strE_len,inR_t,cond_true,Int.toNat_natCast,okE_strE,gX_strE,small_t,vl,u16E_len,roomy_of,wi64_id]
  rw [hn1]
  simp only [grps]
  cases hg:grp (l.getD i []) with
  | some v=>
   simp only [Option.isSome_some,cond_true,optN,Option.getD_some]
   have hrow:u16E d++[[SV.int .u16 (v:Int)]]=u16E (d++[v]):=by rw [u16E_app];rfl
   rw [hrow]
   have:=ih (i+1) n (d++[v]) (by omega) (by omega) (by simp<;>omega)
   refine ⟨fun q hq=>?_,fun h=>?_⟩
   ·cases hq':grps last (l.drop (i+1)) with
    | none=>simp [hq'] at hq
    | some q'=>
     simp only [hq',Option.map_some,Option.some.injEq] at hq
     subst hq
     rw [this.1 q' hq']
     simp
   ·cases hq':grps last (l.drop (i+1)) with
    | none=>exact this.2 hq'
    | some q'=>simp [hq'] at h
  | none=>
   simp only [Option.isSome_none,cond_false]
   cases hv:v4B (l.getD i []) with
   | none=>
    simp only [Option.isSome_none,Bool.not_false,cond_true]
    exact ⟨fun q hq=>(by cases hq),fun _=>⟨_,rfl⟩⟩
   | some v=>
    have hvl:=v4B_lt hv
    simp only [Option.isSome_some,Bool.not_true,cond_false,optN,Option.getD_some]
    cases last with
    | false=>
     simp only [Bool.not_false,cond_true,Bool.false_eq_true,false_and,if_false]
     exact ⟨fun q hq=>(by cases hq),fun _=>⟨_,rfl⟩⟩
    | true=>
     simp only [Bool.not_true,cond_false,true_and]
     by_cases hr:r=0
     ·have hd':l.drop (i+1)=[]:=List.drop_of_length_le (by omega)
      rw [ltI_f (by omega),hd',if_pos rfl,show (16:Int)=((16:Nat):Int) from rfl,shr_nat .u32 v 16 (by decide)]
      refine ⟨fun q hq=>?_,fun h=>(by cases h)⟩
      simp only [Option.some.injEq] at hq
      subst hq
      have e1:wu16 ((v / 2 ^ 16:Nat):Int)=((v / 65536:Nat):Int):=wu16_id (by omega) (by omega)
      have e2:wu16 (v:Int)=((v % 65536:Nat):Int):=wu16_nat v
      rw [e1,e2,u16E_app]
      rfl
     ·have hne:l.drop (i+1)≠[]:=by
       rw [pn_get l (i+1) (by omega)];simp
      rw [ltI_t (by omega),if_neg hne]
      exact ⟨fun q hq=>(by cases hq),fun _=>⟨_,rfl⟩⟩
theorem pcs_bound (c:UInt8) {s:By} (hs:s.length≤1000000000):(pcs c s).length≤1000000001:=by
 have:=pcs_len c s
 have:=count_le c s
 omega
theorem grpsc_spec (s:By) (last:Bool) (h0:small s.length=true):∃ r H,grpsc LF s last (fun l=>rv (.tup [.fl 0,.s (.bool true)]) [.arr true 24 1 l]) (fun l=>rv (.tup [.fl 1,.s (.bool false)]) [.arr true 24 1 l,.arr true 24 1 []])=rv r H∧
  r.stab [1,0] H = .tup [.s (.sl (gvs s last).isEmpty (gvs s last).isEmpty 1 (u16E (gvs s last))),.s (.bool (grpsB s last).isSome)]:=by
 have hs:=maxL h0
 have:=LF_big
 unfold grpsc gvs grpsB
 by_cases h1:s=[]
 ·subst h1
  exact ⟨_,_,rfl,rfl⟩
 ·rw [show (s==([]:By))=false from beq_eq_false_iff_ne.2 h1,h0,if_neg h1]
  simp only [cond_false,cond_true,vl,List.getD_cons_zero,strE_len,show ((1:Nat)==1)=true from rfl]
  obtain ⟨a,b⟩:=grpsc_loop (k0:=fun l=>rv (.tup [.fl 1,.s (.bool false)]) [.arr true 24 1 l,.arr true 24 1 []]) (k1:=fun l=>rv (.tup [.fl 0,.s (.bool true)]) [.arr true 24 1 l]) last (pcs 58 s) (pcs_bound 58 hs) (fun x hx=>Nat.le_trans (pcs_mem hx).2 hs) (pcs 58 s).length 0 LF [] (by omega) (by have:=pcs_bound 58 hs;omega) (by simp)
  rw [List.drop_zero] at a b
  cases hq:grps last (pcs 58 s) with
  | some q=>
   refine ⟨_,_,a q hq,?_⟩
   simp [PV.stab,fixC,fix1,PV.snap,snapL,u16E_isEmpty]
  | none=>
   obtain ⟨d',e⟩:=b hq
   refine ⟨_,_,e,?_⟩
   simp [PV.stab,fixC,fix1,PV.snap,snapL,u16E]
theorem len8 {α:Type} {W:List α} (h:W.length=8):∃ a b c d e f g i,W=[a,b,c,d,e,f,g,i]:=by
 match W,h with
 | [a,b,c,d,e,f,g,i],_=>exact ⟨a,b,c,d,e,f,g,i,rfl⟩
def r8 (n:Nat):LL:=List.replicate n [SV.int .u16 0]
theorem r8_u16 (n:Nat):r8 n=u16E (List.replicate n 0):=by simp [r8,u16E]
theorem gvs_of {s:By} {last:Bool} {q:List Nat} (h:grpsB s last=some q):gvs s last=q:=by unfold gvs;rw [h];rfl
theorem cut_len (s:By):(Lib.cut s [58,58]).1.length≤s.length∧(Lib.cut s [58,58]).2.1.length≤s.length:=by
 unfold Lib.cut
 split
 ·simp<;>omega
 ·simp
theorem v6p_arr {R:Type} {K:LL→LL→Option R} (X Y:List Nat) (h:X.length+Y.length≤8) :
  v6p_j0 (u16E X) (u16E Y) (r8 8) K=K (u16E (X++List.replicate (8-X.length-Y.length) 0++Y)) (u16E (X++List.replicate (8-X.length-Y.length) 0++Y)):=by
 unfold v6p_j0
 have l9:(List.take 0 (r8 8)++(List.take 8 (u16E X)++List.drop (0+min (u16E X).length 8) (r8 8)))=u16E (X++List.replicate (8-X.length) 0):=by
  rw [u16E_len,Nat.min_eq_left (show X.length≤8 by omega),List.take_of_length_le (l:=u16E X) (i:=8) (by rw [u16E_len];omega),u16E_app,Nat.zero_add,r8_u16,List.take_zero,List.nil_append]
  unfold u16E
  rw [←List.map_drop,List.drop_replicate]
 have en:wi64 (8-(Y.length:Int))=((8-Y.length:Nat):Int):=by rw [wi64_id (by omega) (by omega)];omega
 have ll:(u16E (X++List.replicate (8-X.length) 0)).length=8:=by simp [u16E_len]<;>omega
 have l11:(List.take (8-Y.length) (u16E (X++List.replicate (8-X.length) 0))++(List.take (8-(8-Y.length)) (u16E Y)++List.drop (8-Y.length+min Y.length (8-(8-Y.length))) (u16E (X++List.replicate (8-X.length) 0))))=u16E (X++List.replicate (8-X.length-Y.length) 0++Y):=by
  rw [List.drop_of_length_le (by rw [ll];omega),List.take_of_length_le (l:=u16E Y) (by rw [u16E_len];omega),u16E_app (X++_) Y,List.append_nil]
  congr 1
  unfold u16E
  rw [←List.map_take,List.take_append,List.take_of_length_le (by omega),List.take_replicate]
  congr 3
  omega
 have hW:(X++List.replicate (8-X.length-Y.length) 0++Y).length=8:=by simp<;>omega
 simp only [vl]
 rw [l9]
 simp only [u16E_len,en,Int.toNat_natCast]
 rw [l11]
 simp only [u16E_len]
 rw [show (r8 8).length=8 from rfl,show List.length (X++List.replicate (8-X.length) (0:Nat))=8 by simp<;>omega,sub3_t (by omega) (by omega) (by omega),decide_eq_true (show 8-Y.length+(8-(8-Y.length))≤8 by omega)]
 simp only [decide_true,cond_true,Nat.le_refl,hW]
 generalize (X++List.replicate (8-X.length-Y.length) 0++Y)=W at *
 obtain ⟨a,b,c,d,e,f,g,i,rfl⟩:=len8 hW
 rfl
theorem v6p_spec {R:Type} {k0:Int→Int→Int→Int→Int→Int→Int→Int→Bool→LL→LL→Option R} (s:By) (h0:small s.length=true) :
  ∃ l l',v6p LF s k0=k0 (v6c 0 s) (v6c 1 s) (v6c 2 s) (v6c 3 s) (v6c 4 s) (v6c 5 s) (v6c 6 s) (v6c 7 s) (v6B s).isSome l l':=by
 have hs:=maxL h0
 have hcl:=cut_len s
 unfold v6p v6c
 rw [h0]
 have bad:∀ (h:v6B s=none),k0 0 0 0 0 0 0 0 0 false (r8 8) (r8 8)=k0 ((((v6B s).getD z8).getD 0 0:Nat):Int) ((((v6B s).getD z8).getD 1 0:Nat):Int) ((((v6B s).getD z8).getD 2 0:Nat):Int) ((((v6B s).getD z8).getD 3 0:Nat):Int) ((((v6B s).getD z8).getD 4 0:Nat):Int) ((((v6B s).getD z8).getD 5 0:Nat):Int) ((((v6B s).getD z8).getD 6 0:Nat):Int) ((((v6B s).getD z8).getD 7 0:Nat):Int) (v6B s).isSome (r8 8) (r8 8):=by
  intro h;rw [h];rfl
 simp (disch:=omega) only [cond_true,vl,small_t]
 have e6:v6B s=match grpsB (Lib.cut s [58,58]).1 (!(Lib.cut s [58,58]).2.2),grpsB (Lib.cut s [58,58]).2.1 true with
  | some x,some y=>if (Lib.cut s [58,58]).2.2 then (if x.length+y.length≤7 then some (x++List.replicate (8-x.length-y.length) 0++y) else none)
   else if x.length+y.length=8 then some (x++y) else none
  | _,_=>none:=rfl
 generalize (Lib.cut s [58,58]).1=A at *
 generalize (Lib.cut s [58,58]).2.1=B at *
 generalize (Lib.cut s [58,58]).2.2=gap at *
 cases hx:grpsB A (!gap) with
 | none=>exact ⟨_,_,bad (by rw [e6,hx])⟩
 | some X=>
  cases hy:grpsB B true with
  | none=>exact ⟨_,_,bad (by rw [e6,hx,hy])⟩
  | some Y=>
   have hXl:X.length≤2000000002:=by
    unfold grpsB at hx
    split at hx
    ·cases hx;simp
    ·have:=grps_len _ _ _ hx;have:=pcs_bound 58 (s:=A) (by omega);omega
   have hYl:Y.length≤2000000002:=by
    unfold grpsB at hy
    split at hy
    ·cases hy;simp
    ·have:=grps_len _ _ _ hy;have:=pcs_bound 58 (s:=B) (by omega);omega
   rw [hx,hy] at e6
   simp only [gvs_of hx,gvs_of hy,u16E_len,Option.isSome_some,Bool.not_true,cond_false]
   rw [wi64_id (by omega) (by omega)]
   have fin:∀ (W:List Nat),W.length=8→v6B s=some W→∃ l l',(cond ((decide (8=(u16E W).length*1))&&(okS ⟨true,true,[.int .u16,.int .u16,.int .u16,.int .u16,.int .u16,.int .u16,.int .u16,.int .u16]⟩ (List.flatten (u16E W)) 0))
     (k0 (SV.gI (List.getD (List.flatten (u16E W)) 0 SV.nilp)) (SV.gI (List.getD (List.flatten (u16E W)) 1 SV.nilp)) (SV.gI (List.getD (List.flatten (u16E W)) 2 SV.nilp)) (SV.gI (List.getD (List.flatten (u16E W)) 3 SV.nilp)) (SV.gI (List.getD (List.flatten (u16E W)) 4 SV.nilp)) (SV.gI (List.getD (List.flatten (u16E W)) 5 SV.nilp)) (SV.gI (List.getD (List.flatten (u16E W)) 6 SV.nilp)) (SV.gI (List.getD (List.flatten (u16E W)) 7 SV.nilp)) true (u16E W) (u16E W)) none) =
     k0 ((((v6B s).getD z8).getD 0 0:Nat):Int) ((((v6B s).getD z8).getD 1 0:Nat):Int) ((((v6B s).getD z8).getD 2 0:Nat):Int) ((((v6B s).getD z8).getD 3 0:Nat):Int) ((((v6B s).getD z8).getD 4 0:Nat):Int) ((((v6B s).getD z8).getD 5 0:Nat):Int) ((((v6B s).getD z8).getD 6 0:Nat):Int) ((((v6B s).getD z8).getD 7 0:Nat):Int) (v6B s).isSome l l':=by
    intro W hW h
    rw [h]
    obtain ⟨a,b,c,d,e,f,g,i,rfl⟩:=len8 hW
    exact ⟨_,_,rfl⟩
   cases gap with
   | false=>
    simp only [Bool.not_false,cond_true,Bool.false_eq_true,if_false] at e6 ⊢
    by_cases h8:X.length+Y.length=8
    ·rw [if_pos h8] at e6
     rw [show ((X.length:Int)+(Y.length:Int) != 8)=false by simp;omega]
     simp only [cond_false]
     rw [show (List.replicate 8 [SV.int IntKind.u16 0])=r8 8 from rfl,v6p_arr X Y (by omega)]
     have hz:8-X.length-Y.length=0:=by omega
     rw [hz]
     simp only [List.replicate_zero,List.append_nil]
     exact fin (X++Y) (by simp<;>omega) e6
    ·rw [if_neg h8] at e6
     rw [show ((X.length:Int)+(Y.length:Int) != 8)=true by simp;omega]
     exact ⟨_,_,bad e6⟩
   | true=>
    simp only [Bool.not_true,cond_false,cond_true,if_true] at e6 ⊢
    by_cases h8:X.length+Y.length≤7
    ·rw [if_pos h8] at e6
     rw [ltI_f (by omega)]
     simp only [cond_false]
     rw [show (List.replicate 8 [SV.int IntKind.u16 0])=r8 8 from rfl,v6p_arr X Y (by omega)]
     exact fin _ (by simp<;>omega) e6
    ·rw [if_neg h8] at e6
     rw [ltI_t (by omega)]
     exact ⟨_,_,bad e6⟩
theorem run0_pos {x:Nat} {r:List Nat}:run0 (x::r)=if x=0 then run0 r+1 else 0:=by
 unfold run0
 by_cases h:x=0<;>simp [h]
theorem run0_le (l:List Nat):run0 l≤l.length:=by
 unfold run0
 exact (List.takeWhile_sublist _).length_le
theorem zeros_in {R:Type} {k0:Int→Int→Int→Int→LL→Option R} (W:List Nat) (hW:W.length=8) (at' most:Int) (i:Nat):∀ (r j n:Nat),i+j+r=8→r<n→
  zeros_l0 LF n at' most (i:Int) (j:Int) (u16E W) k0=k0 at' most (i:Int) ((j+run0 (W.drop (i+j)):Nat):Int) (u16E W):=by
 intro r
 induction r with
 | zero=>
  intro j n hj hn
  obtain ⟨n,rfl⟩:∃ m,n=m+1:=⟨n-1,by omega⟩
  rw [zeros_l0_s]
  unfold zeros_l0f
  rw [wi64_id (by omega) (by omega),ltI_f (by omega),List.drop_of_length_le (by omega)]
  rfl
 | succ r ih=>
  intro j n hj hn
  obtain ⟨n,rfl⟩:∃ m,n=m+1:=⟨n-1,by omega⟩
  rw [zeros_l0_s]
  unfold zeros_l0f
  have e1:wi64 ((i:Int)+(j:Int))=((i+j:Nat):Int):=by rw [wi64_id (by omega) (by omega)];rfl
  have e2:wi64 ((j:Int)+1)=((j+1:Nat):Int):=by rw [wi64_id (by omega) (by omega)];rfl
  have hd:W.drop (i+j)=W.getD (i+j) 0::W.drop (i+(j+1)):=by
   rw [List.getD_eq_getElem?_getD,List.getElem?_eq_getElem (by omega),Option.getD_some,←Nat.add_assoc,List.getElem_cons_drop]
  simp (disch:=first | omega | (simp [u16E_len];omega)) only [e1,e2,ltI_t,inR_t,cond_true,Int.toNat_natCast,okE_u16,gE_u16,vl]
  rw [hd,run0_pos]
  by_cases h:W.getD (i+j) 0=0
  ·rw [h,if_pos rfl,show (((0:Nat):Int)==0)=true from rfl,cond_true,ih (j+1) n (by omega) (by omega)]
   congr 2
   omega
  ·rw [if_neg h,show (((W.getD (i+j) 0:Nat):Int)==0)=false by rw [beq_eq_false_iff_ne];omega]
   rfl
theorem zeros_out {R:Type} {k0:Int→Int→LL→Option R} (W:List Nat) (hW:W.length=8):∀ (r i n z m:Nat),i+r=8→r<n→z≤8→m≤8→
  zeros_l1 LF n (z:Int) (m:Int) (i:Int) (u16E W) k0=k0 ((zGo (W.drop i) i z m).1:Nat) ((zGo (W.drop i) i z m).2:Nat) (u16E W):=by
 intro r
 induction r with
 | zero=>
  intro i n z m hi hn hz hm
  obtain ⟨n,rfl⟩:∃ m,n=m+1:=⟨n-1,by omega⟩
  rw [zeros_l1_s]
  unfold zeros_l1f
  rw [ltI_f (by omega),List.drop_of_length_le (by omega)]
  rfl
 | succ r ih=>
  intro i n z m hi hn hz hm
  obtain ⟨n,rfl⟩:∃ m,n=m+1:=⟨n-1,by omega⟩
  have hLF:=LF_big
  rw [zeros_l1_s]
  unfold zeros_l1f
  have hin:=fun K=>zeros_in (R:=R) (k0:=K) W hW (z:Int) (m:Int) i r.succ 0 LF (by omega) (by omega)
  rw [show ((0:Nat):Int)=0 from rfl] at hin
  simp only [Nat.zero_add,Nat.add_zero] at hin
  rw [ltI_t (by omega),cond_true,hin]
  have hd:W.drop i=W.getD i 0::W.drop (i+1):=by
   rw [List.getD_eq_getElem?_getD,List.getElem?_eq_getElem (by omega),Option.getD_some,List.getElem_cons_drop]
  have hl:=run0_le (W.drop i)
  rw [List.length_drop] at hl
  have hn1:wi64 ((i:Int)+1)=((i+1:Nat):Int):=by rw [wi64_id (by omega) (by omega)];rfl
  rw [hn1]
  have hz:zGo (W.drop i) i z m=if m<run0 (W.drop i) then zGo (W.drop (i+1)) (i+1) i (run0 (W.drop i)) else zGo (W.drop (i+1)) (i+1) z m:=by
   rw [hd];rfl
  rw [hz]
  by_cases h:m<run0 (W.drop i)
  ·rw [if_pos h,ltI_t (by omega),cond_true]
   exact ih (i+1) n i (run0 (W.drop i)) (by omega) (by omega) (by omega) (by omega)
  ·rw [if_neg h,ltI_f (by omega),cond_false]
   exact ih (i+1) n z m (by omega) (by omega) (by omega) (by omega)
theorem ok8_iff {a0 a1 a2 a3 a4 a5 a6 a7:Int} (h:ok8 a0 a1 a2 a3 a4 a5 a6 a7=true):∃ b0 b1 b2 b3 b4 b5 b6 b7:Nat,a0=b0∧a1=b1∧a2=b2∧a3=b3∧a4=b4∧a5=b5∧a6=b6∧a7=b7∧b0<65536∧b1<65536∧b2<65536∧b3<65536∧b4<65536∧b5<65536∧b6<65536∧b7<65536:=by
 simp only [ok8,List.all_cons,List.all_nil,Bool.and_true,Bool.and_eq_true,ltN_iff] at h
 exact ⟨a0.toNat,a1.toNat,a2.toNat,a3.toNat,a4.toNat,a5.toNat,a6.toNat,a7.toNat,by omega,by omega,by omega,by omega,by omega,by omega,by omega,by omega,by omega,by omega,by omega,by omega,by omega,by omega,by omega,by omega⟩
theorem zeros_spec {R:Type} {k0:Int→Int→LL→Option R} (a0 a1 a2 a3 a4 a5 a6 a7:Int) (h0:ok8 a0 a1 a2 a3 a4 a5 a6 a7=true):zeros LF a0 a1 a2 a3 a4 a5 a6 a7 k0=k0 ((zGo (n8 a0 a1 a2 a3 a4 a5 a6 a7) 0 0 0).1:Nat) ((zGo (n8 a0 a1 a2 a3 a4 a5 a6 a7) 0 0 0).2:Nat) (u16E (n8 a0 a1 a2 a3 a4 a5 a6 a7)):=by
 obtain ⟨b0,b1,b2,b3,b4,b5,b6,b7,rfl,rfl,rfl,rfl,rfl,rfl,rfl,rfl,h⟩:=ok8_iff h0
 have:=LF_big
 unfold zeros
 exact zeros_out [b0,b1,b2,b3,b4,b5,b6,b7] rfl 8 0 LF 0 0 rfl (by omega) (by omega) (by omega)
theorem hexN_one {n:Nat} (h:n<16):hexN n=[hexD n]:=by rw [hexN,dif_pos h]
theorem hexN_more {n:Nat} (h:¬ n<16):hexN n=hexN (n / 16)++[hexD (n % 16)]:=by rw [hexN,dif_neg h]
theorem hexN_len:∀ n:Nat,n<65536→1≤(hexN n).length∧(hexN n).length≤4:=by
 intro n hn
 by_cases h1:n<16
 ·rw [hexN_one h1];simp
 rw [hexN_more h1]
 by_cases h2:n / 16<16
 ·rw [hexN_one h2];simp
 rw [hexN_more h2]
 by_cases h3:n / 16 / 16<16
 ·rw [hexN_one h3];simp
 rw [hexN_more h3,hexN_one (show n / 16 / 16 / 16<16 by omega)]
 simp
theorem ptI_nat (n:Nat):ptI (n:Int)=isPt n:=rfl
theorem ppoint_spec {R:Type} {k0:Bool→Option R} (n:Int):ppoint LF n k0=k0 (ptI n):=by
 unfold ppoint
 by_cases h:n<0
 ·rw [ltI_t h]
  have:ptI n=false:=by
   cases n with
   | ofNat m=>exact absurd h (by simp)
   | negSucc m=>rfl
  rw [this];rfl
 ·obtain ⟨m,rfl⟩:=Int.eq_ofNat_of_zero_le (show 0≤n by omega)
  rw [ltI_f (by omega),ptI_nat]
  unfold isPt
  by_cases h1:1114111<m
  ·rw [ltI_t (by omega)]
   have:Nat.ble m 1114111=false:=by rw [Bool.eq_false_iff,ne_eq,Nat.ble_eq];omega
   rw [this];rfl
  ·rw [ltI_f (by omega)]
   have:Nat.ble m 1114111=true:=by rw [Nat.ble_eq];omega
   rw [this]
   by_cases h2:m<55296
   ·rw [ltI_t (by omega)]
    have:Nat.blt m 55296=true:=by rw [Nat.blt_eq];omega
    rw [this];rfl
   ·rw [ltI_f (by omega)]
    have e:Nat.blt m 55296=false:=by rw [Bool.eq_false_iff,ne_eq,Nat.blt_eq];omega
    rw [e]
    simp only [Bool.not_false,cond_true,cond_false,Bool.false_or,Bool.true_and]
    congr 1
theorem adGo_big {d k:Nat} (h:455<d):adGo d k=adGo (d / 35) (k+36):=by rw [adGo,dif_pos h]
theorem adGo_small {d k:Nat} (h:¬ 455<d):adGo d k=k+36*d / (d+38):=by rw [adGo,dif_neg h]
theorem padapt_loop {R:Type} {k0:Int→Int→Option R}:∀ (d n k:Nat),d<2305843009213693952→d<n→k+d≤4611686018427387904→
  ∃ d' k',d'≤455∧k'≤k+d∧adGo d k=k'+36*d' / (d'+38)∧padapt_l0 LF n (d:Int) (k:Int) k0=k0 (d':Int) (k':Int):=by
 intro d
 induction d using Nat.strongRecOn with
 | _ d ih=>
  intro n k hd hn hk
  obtain ⟨n,rfl⟩:∃ m,n=m+1:=⟨n-1,by omega⟩
  rw [padapt_l0_s]
  unfold padapt_l0f
  by_cases h:455<d
  ·obtain ⟨d',k',h1,h2,h3,h4⟩:=ih (d / 35) (by omega) n (k+36) (by omega) (by omega) (by omega)
   refine ⟨d',k',h1,by omega,by rw [adGo_big h];exact h3,?_⟩
   have e:Int.tdiv (d:Int) 35=((d / 35:Nat):Int):=tdiv_nat d 35
   have e1:wi64 ((d / 35:Nat):Int)=((d / 35:Nat):Int):=wi64_id (by omega) (by omega)
   have e2:wi64 ((k:Int)+36)=((k+36:Nat):Int):=by rw [wi64_id (by omega) (by omega)];rfl
   rw [ltI_t (by omega)]
   simp only [cond_true,vl,e,e1,e2]
   exact h4
  ·refine ⟨d,k,by omega,by omega,adGo_small h,?_⟩
   rw [ltI_f (by omega)]
   rfl
theorem padapt_spec {R:Type} {k0:Int→Option R} (d c:Int) (f:Bool) (h0:ltN d 1152921504606846976=true) (h1:ltN c 1000000=true) (h2:ltI 0 c=true):padapt LF d c f k0=k0 (adapt d.toNat c.toNat f:Nat):=by
 obtain ⟨hd0,hd1⟩:=ltN_iff.1 h0
 obtain ⟨hc0,hc1⟩:=ltN_iff.1 h1
 obtain ⟨d,rfl⟩:=Int.eq_ofNat_of_zero_le hd0
 obtain ⟨c,rfl⟩:=Int.eq_ofNat_of_zero_le hc0
 have hc:=ltI_iff.1 h2
 have hLF:=LF_big
 have key:∀ x:Nat,x<1152921504606846976→padapt_j0 LF (x:Int) (c:Int) k0=k0 ((adGo (x+x / c) 0:Nat):Int):=by
  intro x hx
  have hxc:x / c≤x:=Nat.div_le_self _ _
  unfold padapt_j0
  have e1:Int.tdiv (x:Int) (c:Int)=((x / c:Nat):Int):=tdiv_nat x c
  generalize x / c=q at *
  have e2:wi64 (q:Int)=(q:Int):=wi64_id (by omega) (by omega)
  have e3:wi64 ((x:Int)+(q:Int))=((x+q:Nat):Int):=by rw [wi64_id (by omega) (by omega)];rfl
  rw [show ((c:Int) != 0)=true by simp;omega]
  simp only [cond_true,vl,e1,e2,e3]
  obtain ⟨d',k',g1,g2,g3,g4⟩:=padapt_loop (R:=R) (k0:=fun delta'7 k'8=>vl (wi64 ((36)*delta'7)) fun n'9=>vl (wi64 (delta'7+(38))) fun n'10=>cond (n'10 != (0)) (vl (wi64 (Int.tdiv n'9 n'10)) fun n'11=>k0 (wi64 (k'8+n'11))) none) (x+q) LF 0 (by omega) (by omega) (by omega)
  refine Eq.trans g4 ?_
  have hq:36*d' / (d'+38)≤36*d':=Nat.div_le_self _ _
  have f1:wi64 (36*(d':Int))=((36*d':Nat):Int):=by rw [wi64_id (by omega) (by omega)];rfl
  have f2:wi64 ((d':Int)+38)=((d'+38:Nat):Int):=by rw [wi64_id (by omega) (by omega)];rfl
  have f3:Int.tdiv ((36*d':Nat):Int) ((d'+38:Nat):Int)=((36*d' / (d'+38):Nat):Int):=tdiv_nat _ _
  have f4:wi64 ((36*d' / (d'+38):Nat):Int)=((36*d' / (d'+38):Nat):Int):=wi64_id (by omega) (by omega)
  have f5:wi64 ((k':Int)+((36*d' / (d'+38):Nat):Int))=((k'+36*d' / (d'+38):Nat):Int):=by rw [wi64_id (by omega) (by omega)];rfl
  simp only [vl,f1,f2,f3,f4,f5]
  rw [show (((d'+38:Nat):Int) != 0)=true by simp;omega,g3]
  rfl
 unfold padapt adapt
 rw [Int.toNat_natCast,Int.toNat_natCast]
 cases f with
 | true=>
  have e1:Int.tdiv (d:Int) 700=((d / 700:Nat):Int):=tdiv_nat d 700
  have e2:wi64 ((d / 700:Nat):Int)=((d / 700:Nat):Int):=wi64_id (by omega) (by omega)
  simp only [cond_true,vl,e1,e2,if_true]
  exact key _ (by omega)
 | false=>
  have e1:Int.tdiv (d:Int) 2=((d / 2:Nat):Int):=tdiv_nat d 2
  have e2:wi64 ((d / 2:Nat):Int)=((d / 2:Nat):Int):=wi64_id (by omega) (by omega)
  simp only [cond_false,vl,e1,e2,Bool.false_eq_true,if_false]
  exact key _ (by omega)
theorem dig36_nat {d:Nat} (h:d<36):(dig36 d).toNat=if d<26 then 97+d else 22+d:=by
 unfold dig36
 split<;>simp<;>omega
theorem pdig_spec {R:Type} {k0:Int→Option R} (d:Int) (h0:ltN d 36=true):pdig LF d k0=k0 ((dig36 d.toNat).toNat:Nat):=by
 obtain ⟨hd0,hd1⟩:=ltN_iff.1 h0
 obtain ⟨d,rfl⟩:=Int.eq_ofNat_of_zero_le hd0
 unfold pdig
 rw [Int.toNat_natCast,dig36_nat (by omega)]
 by_cases h:d<26
 ·rw [ltI_t (by omega),if_pos h]
  simp only [cond_true,vl]
  congr 1
  rw [wi64_id (by omega) (by omega),wu8_id (by omega) (by omega)]
  rfl
 ·rw [ltI_f (by omega),if_neg h]
  simp only [cond_false,vl]
  congr 1
  rw [wi64_id (n:=48+(d:Int)) (by omega) (by omega),wi64_id (by omega) (by omega),wu8_id (by omega) (by omega)]
  omega
theorem val36_cases (b:UInt8):(97≤b.toNat∧b.toNat≤122∧val36 b=some (b.toNat-97))∨(65≤b.toNat∧b.toNat≤90∧val36 b=some (b.toNat-65))∨(48≤b.toNat∧b.toNat≤57∧val36 b=some (b.toNat-22))∨(¬(97≤b.toNat∧b.toNat≤122)∧¬(65≤b.toNat∧b.toNat≤90)∧¬(48≤b.toNat∧b.toNat≤57)∧val36 b=none):=by
 unfold val36
 split
 ·rename_i h;exact .inl ⟨h.1,h.2,rfl⟩
 ·split
  ·rename_i h;exact .inr (.inl ⟨h.1,h.2,rfl⟩)
  ·split
   ·rename_i h;exact .inr (.inr (.inl ⟨h.1,h.2,rfl⟩))
   ·exact .inr (.inr (.inr ⟨by assumption,by assumption,by assumption,rfl⟩))
theorem pval_spec {R:Type} {k0:Int→Option R} (b:Int) (h0:inR b 256=true):pval LF b k0=k0 (val36I (u8n b)):=by
 simp only [inR,Bool.and_eq_true,decide_eq_true_eq] at h0
 have hc:b=((u8n b).toNat:Int):=by
  unfold u8n
  simp
  omega
 generalize u8n b=c at *
 subst hc
 have hbt:=c.toNat_lt
 unfold pval val36I
 simp only [pval_j1,pval_j0,vl]
 rcases val36_cases c with ⟨h1,h2,e⟩ | ⟨h1,h2,e⟩ | ⟨h1,h2,e⟩ | ⟨h1,h2,h3,e⟩
 ·have e2:wi64 (wu8 ((c.toNat:Int)-97))=((c.toNat-97:Nat):Int):=by
   rw [wu8_id (by omega) (by omega),wi64_id (by omega) (by omega)];omega
  simp (disch:=omega) only [ltI_t,ltI_f,Bool.not_true,Bool.not_false,cond_false,cond_true,e2,e]
 ·have e2:wi64 (wu8 ((c.toNat:Int)-65))=((c.toNat-65:Nat):Int):=by
   rw [wu8_id (by omega) (by omega),wi64_id (by omega) (by omega)];omega
  simp (disch:=omega) only [ltI_t,ltI_f,Bool.not_true,Bool.not_false,cond_false,cond_true,e2,e]
 ·have e2:wi64 (wi64 (wu8 ((c.toNat:Int)-48))+26)=((c.toNat-22:Nat):Int):=by
   rw [wu8_id (by omega) (by omega),wi64_id (n:=(c.toNat:Int)-48) (by omega) (by omega),wi64_id (by omega) (by omega)];omega
  simp (disch:=omega) only [ltI_t,ltI_f,Bool.not_true,Bool.not_false,cond_false,cond_true,e2,e]
 ·rw [e]
  by_cases c1:c.toNat<48
  ·simp (disch:=omega) only [ltI_t,ltI_f,Bool.not_true,Bool.not_false,cond_false,cond_true]
  ·by_cases c2:c.toNat<65
   ·simp (disch:=omega) only [ltI_t,ltI_f,Bool.not_true,Bool.not_false,cond_false,cond_true]
   ·by_cases c3:c.toNat<97
    ·simp (disch:=omega) only [ltI_t,ltI_f,Bool.not_true,Bool.not_false,cond_false,cond_true]
    ·simp (disch:=omega) only [ltI_t,ltI_f,Bool.not_true,Bool.not_false,cond_false,cond_true]
theorem u16_row {l:LL} (h:l.all isU16=true):∃ W:List Nat,l=u16E W∧(∀ x∈W,x<65536):=by
 induction l with
 | nil=>exact ⟨[],rfl,by simp⟩
 | cons x r ih=>
  simp only [List.all_cons,Bool.and_eq_true] at h
  obtain ⟨W,rfl,hW⟩:=ih h.2
  have hx:=h.1
  unfold isU16 at hx
  split at hx
  ·rename_i n
   obtain ⟨h0,h1⟩:=ltN_iff.1 hx
   obtain ⟨m,rfl⟩:=Int.eq_ofNat_of_zero_le h0
   refine ⟨m::W,rfl,?_⟩
   intro y hy
   rcases List.mem_cons.1 hy with rfl | hy
   ·omega
   ·exact hW y hy
  ·cases hx
theorem u16_all {W:List Nat} (h:∀ x∈W,x<65536):(u16E W).all isU16=true:=by
 rw [List.all_eq_true]
 intro x hx
 simp only [u16E,List.mem_map] at hx
 obtain ⟨n,hn,rfl⟩:=hx
 have:=h n hn
 exact ltN_t (v:=(n:Int)) (n:=65536) (by omega) (by omega)
theorem elN_u16E (W:List Nat):(u16E W).map elN=W:=by
 unfold u16E
 rw [List.map_map]
 conv=>rhs;rw [←List.map_id W]
 apply List.map_congr_left
 intro x _
 simp [elN,SV.gI]
theorem elS_strE (l:List By):(strE l).map elS=l:=by
 unfold strE
 rw [List.map_map]
 conv=>rhs;rw [←List.map_id l]
 apply List.map_congr_left
 intro x _
 simp [elS,SV.gS]
theorem strE_all (l:List By):(strE l).all isS=true:=by
 rw [List.all_eq_true]
 intro x hx
 simp only [strE,List.mem_map] at hx
 obtain ⟨n,hn,rfl⟩:=hx
 rfl
theorem snoc_ind {P:List Nat→Prop} (h0:P []) (h1:∀ l x,P l→P (l++[x])) (l:List Nat):P l:=by
 have:∀ r:List Nat,P r.reverse:=by
  intro r
  induction r with
  | nil=>exact h0
  | cons x r ih=>rw [List.reverse_cons];exact h1 _ _ ih
 have:=this l.reverse
 rwa [List.reverse_reverse] at this
theorem join_snoc (l:List By) (x p:By) (h:l≠[]):Lib.join (l++[x]) p=Lib.join l p++p++x:=by
 cases l with
 | nil=>exact absurd rfl h
 | cons y r=>
  rw [List.cons_append,Lib.join_cons,Lib.join_cons]
  unfold Lib.joinTail
  simp
theorem joinH_nil:joinH []=[]:=rfl
theorem joinH_one (n:Nat):joinH [n]=hexN n:=by unfold joinH;exact Lib.join_one _ _
theorem joinH_snoc (l:List Nat) (n:Nat) (h:l≠[]):joinH (l++[n])=joinH l++[58]++hexN n:=by
 unfold joinH
 rw [List.map_append,List.map_singleton,join_snoc _ _ _ (by simpa using h)]
theorem joinH_len:∀ l:List Nat,(∀ x∈l,x<65536)→(joinH l).length≤5*l.length:=by
 refine snoc_ind ?_ ?_
 ·intro _;simp [joinH_nil]
 ·intro l n ih h
  have h1:=ih (fun x hx=>h x (by simp [hx]))
  have h2:=hexN_len n (h n (by simp))
  by_cases hl:l=[]
  ·subst hl;rw [List.nil_append,joinH_one];simp;omega
  ·rw [joinH_snoc l n hl];simp;omega
theorem v6j_loop {R:Type} {k0:LL→Option R} (z t:Bool) (W:List Nat) (hW:∀ x∈W,x<65536) (hl:W.length≤8):∀ (r i n:Nat) (d:List By),i+r=W.length→r<n→d.length=i→
  v6j_l0 LF n z t (u16E W) (W.length:Int) (i:Int) (strE d) k0=k0 (strE (d++(W.drop i).map hexN)):=by
 intro r
 induction r with
 | zero=>
  intro i n d hi hn hd
  obtain ⟨n,rfl⟩:∃ m,n=m+1:=⟨n-1,by omega⟩
  rw [v6j_l0_s]
  unfold v6j_l0f
  rw [ltI_f (by omega),List.drop_of_length_le (by omega)]
  simp
 | succ r ih=>
  intro i n d hi hn hd
  obtain ⟨n,rfl⟩:∃ m,n=m+1:=⟨n-1,by omega⟩
  rw [v6j_l0_s]
  unfold v6j_l0f
  have hdr:W.drop i=W.getD i 0::W.drop (i+1):=by
   rw [List.getD_eq_getElem?_getD,List.getElem?_eq_getElem (by omega),Option.getD_some,List.getElem_cons_drop]
  have hb:W.getD i 0<65536:=by
   rw [List.getD_eq_getElem?_getD,List.getElem?_eq_getElem (by omega),Option.getD_some]
   exact hW _ (List.getElem_mem _)
  have e2:wi64 ((i:Int)+1)=((i+1:Nat):Int):=by rw [wi64_id (by omega) (by omega)];rfl
  rw [hdr]
  generalize hg:W.getD i 0=x at *
  simp (disch:=omega) only [ltI_t,inR_t,cond_true,u16E_len,Int.toNat_natCast,okE_u16,gE_u16,vl,e2,hg,wu64_id,ltN_t,strE_len,roomy_of,show ((16:Int)==16)=true from rfl]
  have hrow:strE d++[[SV.str (hexN x)]]=strE (d++[hexN x]):=by rw [strE_app];rfl
  rw [hrow,ih (i+1) n _ (by omega) (by omega) (by simp;omega)]
  simp
theorem v6j_spec {R:Type} {k0:By→LL→Option R} (z t:Bool) (l:LL) (h0:l.all isU16=true) (h1:Nat.ble l.length 8=true):∃ l',v6j LF z t l k0=k0 (joinH (l.map elN)) l':=by
 obtain ⟨W,rfl,hW⟩:=u16_row h0
 have hl:W.length≤8:=by rw [u16E_len] at h1;exact Nat.le_of_ble_eq_true h1
 have hLF:=LF_big
 refine ⟨strE (W.map hexN),?_⟩
 unfold v6j
 rw [u16E_len]
 refine Eq.trans (v6j_loop z t W hW hl W.length 0 LF [] (by omega) (by omega) rfl) ?_
 have hj:=joinH_len W hW
 unfold joinH at hj
 rw [List.nil_append,List.drop_zero,strE_all,elS_strE,elN_u16E,strE_len,small_t (by omega),small_t (by simp;omega)]
 rfl
theorem zGo_bd:∀ (l:List Nat) (i z m:Nat),z+m≤i+l.length→(zGo l i z m).1+(zGo l i z m).2≤i+l.length
 | [],i,z,m,h=>by simpa [zGo] using h
 | x::r,i,z,m,h=>by
  have hr:=run0_le (x::r)
  simp only [zGo]
  simp only [List.length_cons] at h hr ⊢
  split
  ·have:=zGo_bd r (i+1) i (run0 (x::r)) (by omega);omega
  ·have:=zGo_bd r (i+1) z m (by omega);omega
theorem v6f_spec {R:Type} {k0:By→LL→Option R} (a0 a1 a2 a3 a4 a5 a6 a7:Int) (h0:ok8 a0 a1 a2 a3 a4 a5 a6 a7=true):∃ l,v6f LF a0 a1 a2 a3 a4 a5 a6 a7 k0=k0 (v6Fmt (n8 a0 a1 a2 a3 a4 a5 a6 a7)) l:=by
 obtain ⟨b0,b1,b2,b3,b4,b5,b6,b7,rfl,rfl,rfl,rfl,rfl,rfl,rfl,rfl,h⟩:=ok8_iff h0
 have hn8:n8 b0 b1 b2 b3 b4 b5 b6 b7=[b0,b1,b2,b3,b4,b5,b6,b7]:=rfl
 refine ⟨u16E [b0,b1,b2,b3,b4,b5,b6,b7],?_⟩
 unfold v6f
 rw [h0,hn8,cond_true]
 have hrow:([[SV.int .u16 (b0:Int)],[SV.int .u16 (b1:Int)],[SV.int .u16 (b2:Int)],[SV.int .u16 (b3:Int)],[SV.int .u16 (b4:Int)],[SV.int .u16 (b5:Int)],[SV.int .u16 (b6:Int)],[SV.int .u16 (b7:Int)]]:LL)=u16E [b0,b1,b2,b3,b4,b5,b6,b7]:=rfl
 rw [hrow]
 have hW:∀ x∈[b0,b1,b2,b3,b4,b5,b6,b7],x<65536:=by
  intro x hx
  simp only [List.mem_cons,List.not_mem_nil,or_false] at hx
  omega
 have hlen:[b0,b1,b2,b3,b4,b5,b6,b7].length=8:=rfl
 have hbd:=zGo_bd [b0,b1,b2,b3,b4,b5,b6,b7] 0 0 0 (by simp)
 unfold v6Fmt
 generalize [b0,b1,b2,b3,b4,b5,b6,b7]=W at *
 generalize zGo W 0 0 0=q at *
 obtain ⟨z,m⟩:=q
 rw [hlen] at hbd
 simp only [vl] at hbd ⊢
 have tk:∀ i,(u16E W).take i=u16E (W.take i):=fun i=>by unfold u16E;rw [List.map_take]
 have dr:∀ i,(u16E W).drop i=u16E (W.drop i):=fun i=>by unfold u16E;rw [List.map_drop]
 by_cases hm:m<2
 ·rw [if_pos hm,ltI_t (by omega),cond_true,u16_all hW,elN_u16E]
  rfl
 ·have e1:wi64 ((z:Int)+(m:Int))=((z+m:Nat):Int):=by rw [wi64_id (by omega) (by omega)];rfl
  have hA:∀ x∈W.take z,x<65536:=fun x hx=>hW x (List.mem_of_mem_take hx)
  have hB:∀ x∈W.drop (z+m),x<65536:=fun x hx=>hW x (List.mem_of_mem_drop hx)
  have la:=joinH_len _ hA
  have lb:=joinH_len _ hB
  have l1:(W.take z).length≤8:=by rw [List.length_take];omega
  have l2:(W.drop (z+m)).length≤8:=by rw [List.length_drop];omega
  rw [if_neg hm,ltI_f (by omega),cond_false,sub3_t (by omega) (by omega) (by omega),e1]
  simp only [Int.toNat_natCast,Nat.sub_zero]
  rw [tk,dr,u16_all hA,elN_u16E,u16E_len,Nat.ble_eq_true_of_le l1,catOk_t (by omega),sub3_t (by omega) (by omega) (by omega)]
  have tk2:(u16E (W.drop (z+m))).take (8-(z+m))=u16E (W.drop (z+m)):=List.take_of_length_le (by rw [u16E_len,List.length_drop];omega)
  rw [tk2,u16_all hB,elN_u16E,u16E_len,Nat.ble_eq_true_of_le l2,catOk_t (by simp;omega)]
  simp
end Go.Proofs.YtcfingekgbbclaaGreatDoor.E
namespace Go.Proofs.YtcfingekgbbclaaGreatDoor.E
open Go Go.Proofs 
set_option linter.unusedVariables false
set_option maxRecDepth 100000
section
variable {σ R : Type} (lf : Nat) (cl : CallT) (yh : Yh σ) (s : σ) (k : Out → St σ → Option R)
noncomputable def c_ispow (lf:Nat):Cfg:=mkCfg lf [161] (lookK []) [] (lookK [(1,[2]),(0,[0])]) [] (lookK []) (some [2]) [] [] []
noncomputable def ispow {R:Type} (lf:Nat) (k0:Unit→Option R):Option R:=k0 ()
theorem ispow_ev (d:Nat):evC (c_ispow lf) (d+1) σ yh 161 [.s (.int .i64 (16:Int))] [] s=ispow lf  (fun _=>some (.s (.bool true),[],s)):=by
 refine (evC_eq (fn:=Tryz.f161) (by kernel_rfl) (by kernel_rfl) (by kernel_rfl)).trans ?_
 generalize evC (c_ispow lf) d=cl
 unfold ispow;kernel_rfl
noncomputable abbrev b_fbits:Code:=bodyOf Tryz.f132
noncomputable def c_fbits (lf:Nat):Cfg:=mkCfg lf [132] (lookK [(11,[0,0,1,0,5,0,0,0,0,0,0]),(18,[0,0,1,0,5,0,0,0,3])]) [(161,X_ispow),(162,X_tz)] (lookK [(30,[10,0]),(29,[10,0]),(28,[0,9,0,0,0,80]),(27,[0,3,5,0,0,0]),(26,[0,3,5,0,0,0]),(25,[0,3,5,0,0,0,75]),(16,[0,2,0,5,0,0,0]),(15,[0,0,1,0,5,0,0,0]),(14,[0,0,1,0,5,0,0,0,0,0,0]),(13,[0,0,1,0,5,0,0,0,0,0,0]),(12,[0,0,1,0,5,0,0,0,0,0,0]),(11,[0,0,1,0,5,0,0,0,0,0,0,29]),(10,[0,0,1,0,5,0,0,0,0,0,0]),(9,[0,0,0,0,0,5,0,0,0,0,0]),(8,[0,0,0,0,0,5,0,0,0,0]),(24,[0,2,0,5,0,0,0]),(23,[0,0,1,0,5,0,0,0]),(22,[0,0,1,0,5,0,0,0,3]),(21,[0,2,0,5,0,0,0,3,0]),(20,[0,0,1,0,5,0,0,0,3,0]),(19,[0,0,1,0,5,0,0,0,3]),(18,[0,0,1,0,5,0,0,0,3,50]),(17,[0,0,1,0,5,0,0,0,3]),(7,[0,0,0,0,0,5,0,0,0,20]),(6,[0,0,0,0,0,5,0,0,0]),(5,[0,0,0,0,0,5,0,0,0,16]),(4,[0,0,0,0,0,5,0,0,0]),(3,[0,0,0,0,0,5,0,0]),(2,[0,0,0,0,0,5,0]),(1,[0,0,0,0,0,5,0,16]),(0,[0,0,0,0,0,5,0])]) [161,162] (lookK [(0,[0,0,1,0,5,0,0,0]),(1,[0,0,1,0,5,0,0,0,0,0,0]),(2,[0,0,1,0,5,0,0,0]),(3,[0,0,1,0,5,0,0,0,3])]) (some [10,0]) [] [] []
noncomputable def fbits_l0f {R:Type} (lf n:Nat) (self:Bool→Bool→LL→Int→Int→LL→Option R) (dst_z0 dst_t1:Bool) (dst2:LL) (u3 i4:Int) (l5:LL) (k0:Bool→Bool→LL→Int→Int→LL→Option R):Option R:=cond (not (ltI u3 (16:Int))) (vl (bAnd .u64 u3 (15:Int)) fun n'0=>cond (inR n'0 36) (vl (bAt (([48,49,50,51,52,53,54,55,56,57,97,98,99,100,101,102,103,104,105,106,107,108,109,110,111,112,113,114,115,116]:List UInt8)++([117,118,119,120,121,122]:List UInt8)) n'0) fun n'1=>cond (inR (wi64 (i4-(1:Int))) 65) (cond (decide ((Int.toNat (wi64 (i4-(1:Int))))<(List.length l5))) (vl (List.set l5 (Int.toNat (wi64 (i4-(1:Int)))) (putAt (List.getD l5 (Int.toNat (wi64 (i4-(1:Int)))) []) 0 [(SV.int .u8 n'1)])) fun l'2=>self dst_z0 dst_t1 dst2 (shrI .u64 u3 (4:Int)) (wi64 (i4-(1:Int))) l'2) (none)) (none)) (none)) (k0 dst_z0 dst_t1 dst2 u3 i4 l5)
noncomputable def fbits_l0 {R:Type} (lf n:Nat) (dst_z0 dst_t1:Bool) (dst2:LL) (u3 i4:Int) (l5:LL) (k0:Bool→Bool→LL→Int→Int→LL→Option R):Option R:=recN (α:=Bool→Bool→LL→Int→Int→LL→Option R) (fun _ _ _ _ _ _=>none) (fun n self dst_z0 dst_t1 dst2 u3 i4 l5=>fbits_l0f lf n self dst_z0 dst_t1 dst2 u3 i4 l5 k0) n dst_z0 dst_t1 dst2 u3 i4 l5
theorem fbits_l0_s {R:Type} (lf n:Nat) (dst_z0 dst_t1:Bool) (dst2:LL) (u3 i4:Int) (l5:LL) (k0:Bool→Bool→LL→Int→Int→LL→Option R):fbits_l0 lf (n+1) dst_z0 dst_t1 dst2 u3 i4 l5 k0=fbits_l0f lf n (fun dst_z0 dst_t1 dst2 u3 i4 l5=>fbits_l0 lf n dst_z0 dst_t1 dst2 u3 i4 l5 k0) dst_z0 dst_t1 dst2 u3 i4 l5 k0:=rfl
theorem fbits_l0_eq (n:Nat) (dst_z0 dst_t1:Bool) (dst2:LL) (u3 i4:Int) (l5:LL):loopK 2 ((c_fbits lf).keep 11) (bd (c_fbits lf) cl yh (cd [1,1,1,1,1,0,1,0,1,1,1,0,0,0] b_fbits)) n ⟨gp [(0,.s (.sl dst_z0 dst_t1 0 dst2)),(0,.s (.int .u64 u3)),(1,.s (.bool false)),(0,.s (.bool false)),(5,.fl 0),(0,.s (.str ([]:List UInt8))),(0,.ptr 1 0 0),(0,.s (.int .i64 i4)),(0,.s (.int .u64 (4:Int))),(0,.s (.int .u64 (16:Int))),(0,.s (.int .u64 (15:Int)))] 85,[.arr true 5 1 [],.arr false 138 1 l5],s⟩ k =
 fbits_l0 lf n dst_z0 dst_t1 dst2 u3 i4 l5 (fun dst_z0 dst_t1 dst2 u3 i4 l5=>k (.exit 0) ⟨gp [(0,.s (.sl dst_z0 dst_t1 0 dst2)),(0,.s (.int .u64 u3)),(1,.s (.bool false)),(0,.s (.bool false)),(5,.fl 0),(0,.s (.str ([]:List UInt8))),(0,.ptr 1 0 0),(0,.s (.int .i64 i4))] 88,[.arr true 5 1 [],.arr false 138 1 l5],s⟩):=by
 induction n generalizing dst_z0 dst_t1 dst2 u3 i4 l5 with
 | zero=>rfl
 | succ n ih=>rw [fbits_l0_s];unfold fbits_l0f;exact (Eq.trans (by kernel_rfl) (cond_congr (vl_congr fun n'0=>(cond_congr (vl_congr fun n'1=>(cond_congr (cond_congr (vl_congr fun l'2=>(ih dst_z0 dst_t1 dst2 (shrI .u64 u3 (4:Int)) (wi64 (i4-(1:Int))) l'2)) rfl) rfl)) rfl)) rfl))
noncomputable def fbits {R:Type} (lf:Nat) (ds_z ds_t:Bool) (ds:LL) (v:Int) (k0:By→LL→Option R):Option R:=cond ((16:Int)==(16:Int)) (cond ((16:Int)==(16:Int)) (fbits_l0 lf lf ds_z ds_t ds v 65 (List.replicate 65 [(SV.int .u8 (0:Int))]) (fun dst_z'3 dst_t'4 dst'5 u'6 i'7 l'8=>cond (inR u'6 36) (vl (bAt (([48,49,50,51,52,53,54,55,56,57,97,98,99,100,101,102,103,104,105,106,107,108,109,110,111,112,113,114,115,116]:List UInt8)++([117,118,119,120,121,122]:List UInt8)) u'6) fun n'9=>cond (inR (wi64 (i'7-(1:Int))) 65) (cond (decide ((Int.toNat (wi64 (i'7-(1:Int))))<(List.length l'8))) (vl (List.set l'8 (Int.toNat (wi64 (i'7-(1:Int)))) (putAt (List.getD l'8 (Int.toNat (wi64 (i'7-(1:Int)))) []) 0 [(SV.int .u8 n'9)])) fun l'10=>cond (decide ((List.length l'10)=65)) (cond (sub3 (wi64 (i'7-(1:Int))) (65:Int) 65) (cond (List.all (List.take (65-(Int.toNat (wi64 (i'7-(1:Int))))) (List.drop (Int.toNat (wi64 (i'7-(1:Int)))) l'10)) isU8) (vl (List.map elU8 (List.take (65-(Int.toNat (wi64 (i'7-(1:Int))))) (List.drop (Int.toNat (wi64 (i'7-(1:Int)))) l'10))) fun s'11=>k0 s'11 l'10) (none)) (none)) (none)) (none)) (none)) (none))) (none)) (none)
theorem fbits_ev (d:Nat) (ds_z ds_t:Bool) (ds:LL) (v:Int):evC (c_fbits lf) (d+1) σ yh 132 [.s (.sl ds_z ds_t 0 ds),.s (.int .u64 v),.s (.int .i64 (16:Int)),.s (.bool false),.s (.bool false)] [] s=fbits lf ds_z ds_t ds v (fun r0 l1=>some (.tup [.fl 0,.s (.str r0)],[.arr true 5 1 [],.arr false 138 1 l1],s)):=by
 refine (evC_eq (fn:=Tryz.f132) (by kernel_rfl) (by kernel_rfl) (by kernel_rfl)).trans ?_
 generalize evC (c_fbits lf) d=cl
 unfold fbits;exact (Eq.trans (by kernel_rfl) (cond_congr (cond_congr ((fbits_l0_eq lf cl yh s (blkK 0 (seqK (c_fbits lf) cl yh (cd [1,1,1,1,1,0,1,0,1,1,1,1] b_fbits) (seqK (c_fbits lf) cl yh (cd [1,1,1,1,1,1] b_fbits) (retK (c_fbits lf) Tryz.f132)))) lf ds_z ds_t ds v 65 (List.replicate 65 [(SV.int .u8 (0:Int))])).trans (by kernel_rfl)) rfl) rfl))
noncomputable def c_ifmtu (lf:Nat):Cfg:=mkCfg lf [157] (lookK []) [(132,X_fbits)] (lookK [(9,[4]),(8,[8]),(7,[4]),(6,[5,0]),(5,[0,4,0]),(4,[0,4]),(3,[4]),(2,[0,11]),(1,[0,0,8]),(0,[0,0])]) [] (lookK []) (some [4]) [] [] []
noncomputable def ifmtu {R:Type} (lf:Nat) (v:Int) (k0:By→Option R):Option R:=cond (ltN v 65536) (cond ((16:Int)==(16:Int)) (k0 (hexN (Int.toNat v))) (none)) (none)
theorem ifmtu_ev (d:Nat) (v:Int):evC (c_ifmtu lf) (d+1) σ yh 157 [.s (.int .u64 v),.s (.int .i64 (16:Int))] [] s=ifmtu lf v (fun r0=>some (.s (.str r0),[],s)):=by
 refine (evC_eq (fn:=Tryz.f157) (by kernel_rfl) (by kernel_rfl) (by kernel_rfl)).trans ?_
 generalize evC (c_ifmtu lf) d=cl
 unfold ifmtu;kernel_rfl
noncomputable def c_fmtu (lf:Nat):Cfg:=mkCfg lf [128] (lookK []) [(157,X_ifmtu)] (lookK [(1,[4]),(0,[0,0])]) [157] (lookK []) (some [4]) [] [] []
noncomputable def fmtu {R:Type} (lf:Nat) (v:Int) (k0:By→Option R):Option R:=cond (ltN v 65536) (cond ((16:Int)==(16:Int)) (k0 (hexN (Int.toNat v))) (none)) (none)
theorem fmtu_ev (d:Nat) (v:Int):evC (c_fmtu lf) (d+1) σ yh 128 [.s (.int .u64 v),.s (.int .i64 (16:Int))] [] s=fmtu lf v (fun r0=>some (.s (.str r0),[],s)):=by
 refine (evC_eq (fn:=Tryz.f128) (by kernel_rfl) (by kernel_rfl) (by kernel_rfl)).trans ?_
 generalize evC (c_fmtu lf) d=cl
 unfold fmtu;kernel_rfl
end
end Go.Proofs.YtcfingekgbbclaaGreatDoor.E
