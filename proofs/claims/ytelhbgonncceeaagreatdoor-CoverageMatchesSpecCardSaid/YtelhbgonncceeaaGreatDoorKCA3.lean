/-
  Parts of the proof, merged by a program of the prover's own; no condition.
-/
import Derived.Test.YtelhbgonncceeaaGreatDoorKCA2
import Derived.Deep.Draws
import Derived.KernelRfl
import Derived.LaidMore
import Derived.LaidSub
import Derived.Laws.RangeString
import Derived.Lay
import Derived.Lib.IndexMore
import Derived.Lib.ItoaNum
import Derived.Lib.Join
import Derived.Lib.JoinLaws
import Derived.Lib.LaidTab
import Derived.Lib.LaidU8
import Derived.Lib.LastIndexLaws
import Derived.Lib.RuneCount
import Derived.Lib.TrailingZeros
import Derived.Lib.TrimAscii
import Derived.Lib.ValidU
import Derived.OpenShut
import Derived.ProofKit
import Derived.Shelf.SlSortCmp.Insertion
import Derived.Shelf.Vars
import Derived.Sort.AssemblyPlain
import Derived.Sort.Grow
import Derived.Test.YtelhbgonncceeaaGreatDoorChecked
import Derived.Test.YtelhbgonncceeaaGreatDoorProg
import Derived.Test.YtelhbgonncceeaaGreatDoorRows
namespace Go.Proofs.YtelhbgonncceeaaGreatDoor.E
set_option linter.all false
section
open Go
def B1 (P:Program) (G:GT) (g:Nat) (pf:List PV->Tr):Prop:=
 ∀ args ret Hc,J1 (pf args)=some (ret,Hc)->∀ C:Cfg,C.P=P->C.G=G->∀ Γ w Vs,(∀ b,Γ.nm b=none)->HR Γ [] w->GOK C Γ.St w->CR Γ (A3 []) w args Vs->
  L2 P ((callFunc g Vs).run P w) (Ao C I0 Γ [] w noΦ ret Hc ())
theorem Jy {C₀:Cfg} {g:Nat} {pf:List PV->Tr} (hX:XOK C₀) (hO:Fq C₀) (hm:C₀.P.follows .mixedOrders=true)
  (h:∀ args ret Hc,J1 (pf args)=some (ret,Hc)->B7 args=[]/\∃ d,evC C₀ d Unit noY g args [] ()=some (ret,Hc,())):B1 C₀.P C₀.G g pf:=by
 intro args ret Hc hpf C hP hGe Γ w Vs hnm hH hG hc
 obtain ⟨hna,d,hev⟩:=h args ret Hc hpf
 have hG0:GOK C₀ Γ.St w:=hG.congr hGe.symm
 refine (Ga hX hO hm d Unit I0 noY Γ.yv Aq9 Ar0 g args [] () ret Hc () hev Γ noΦ w Vs rfl hH hG0 (λ_ h=>h) (λb g h=>by rw [hnm] at h;cases h) hc (by rw [hna];simp)).mono ?_
 rintro V w' ⟨Γ1,Φ1,hs,hH1,hv,hvn,hi1,hd1⟩
 exact ⟨Γ1,Φ1,⟨hs.os,hs.tape,hs.output,hs.size,hs.sub,hs.stnew,hs.own,hs.foot,hs.frame,hs.yv,hs.len,λb hb=>by simp at hb⟩,hH1,hv,hvn,hi1,hd1⟩
def Tr.snap:Tr->Tr
 | .ret v H=>cond (v.snap H).nms.isEmpty (.ret (v.snap H) []) .fail
 | .need c t=>.need c t.snap
 | .split c a b=>.split c a.snap b.snap
 | .fail=>.fail
theorem Tr.snap_res:∀ {t:Tr} {v:PV} {H:List Blk},J1 t.snap=some (v,H)->∃ v' H',J1 t=some (v',H')/\v=v'.snap H'/\H=[]/\v.nms=[]
 | .ret v' H',v,H,h=>by
  simp only [Tr.snap] at h
  cases he:(v'.snap H').nms.isEmpty with
  | false=>rw [he] at h;cases h
  | true=>
   rw [he] at h
   simp only [cond_true,J1,Dm,Option.some.injEq,Prod.mk.injEq] at h
   obtain ⟨rfl,rfl⟩:=h
   exact ⟨v',H',rfl,rfl,rfl,List.isEmpty_iff.1 he⟩
 | .need c t,v,H,h=>by
  cases c with
  | true=>exact Tr.snap_res (t:=t) h
  | false=>cases h
 | .split c a b,v,H,h=>by
  cases c with
  | true=>exact Tr.snap_res (t:=a) h
  | false=>exact Tr.snap_res (t:=b) h
 | .fail,_,_,h=>by cases h
theorem B1.snap {P:Program} {G:GT} {g:Nat} {pf:List PV->Tr} (h:B1 P G g pf):B1 P G g (λargs=>(pf args).snap):=by
 intro args ret Hc hpf C hP hGe Γ w Vs hnm hH hG hc
 obtain ⟨ret',Hc',hpf',rfl,rfl,hnr⟩:=Tr.snap_res hpf
 refine (h args ret' Hc' hpf' C hP hGe Γ w Vs hnm hH hG hc).mono ?_
 rintro V w' ⟨Γ1,Φ1,hs,hH1,hv,hvn,hi1,hd1⟩
 let Γ2:Ctx:={ Γ1.all with nm:=λ_=>none }
 have hlt:∀ g,Γ2.St g->g<w'.heap.size:=λg hg=>by
  rcases hg with hg | ⟨b,hb⟩
  ·exact hH1.stlt g hg
  ·exact (hH1.lt b g hb).2.1
 refine ⟨Γ2,Φ1,⟨hs.os,hs.tape,hs.output,hs.size,λg hg=>.inl (hs.sub g hg),λg hg=>?_,λb g h=>by simp [Γ2] at h,hs.foot,hs.frame,hs.yv,Nat.le_refl _,λb hb=>by simp at hb⟩,
  Gt (λ_=>rfl) hlt,?_,by rw [hnr];simp,hi1,λb g h=>by simp [Γ2] at h⟩
 ·rcases hg with hg | ⟨b,hb⟩
  ·exact hs.stnew g hg
  ·rcases hs.own b g hb with ⟨h',_⟩ | h'
   all_goals grind
 ·exact VP.mono (Γ:=Γ1.all) (Γ':=Γ2) (w:=w') (w':=w') (sh:=A3 Hc') (ok:=λ_=>False) ⟨λ_ _=>rfl,λ_ h=>h,λ_ h=>h.elim,λ_ h=>h.elim,λ_ _ h=>h.elim,rfl⟩ (hv.snap hH1) (by rw [hnr];simp)
def KX:List (Nat × (List PV->Tr))->Nat->Option (List PV->Tr)
 | [],_=>none
 | (g,pf)::r,n=>cond (Nat.beq n g) (some pf) (KX r n)
def K8 (P:Program) (G:GT):List (Nat × (List PV->Tr))->Prop
 | []=>True
 | (g,pf)::r=>B1 P G g pf/\K8 P G r
theorem K8.x1 {C:Cfg} {l:List (Nat × (List PV->Tr))} (hl:C.X=KX l) (h:K8 C.P C.G l):B37 C:=by
 intro g pf args ret Hc hg hpf Γ w Vs hnm hH hG hc
 rw [hl] at hg
 have key:∀ l:List (Nat × (List PV->Tr)),K8 C.P C.G l->KX l g=some pf->B1 C.P C.G g pf:=by
  intro l
  induction l with
  | nil=>intro _ h;cases h
  | cons e r ih=>
   intro h1 h2
   obtain ⟨n,q⟩:=e
   simp only [KX] at h2
   cases hb:Nat.beq g n with
   | true=>
    rw [hb] at h2
    simp only [cond_true,Option.some.injEq] at h2
    have:=Nat.eq_of_beq_eq_true hb
    subst this;subst h2
    exact h1.1
   | false=>
    rw [hb] at h2
    exact ih h1.2 h2
 exact key l h hg args ret Hc hpf C rfl rfl Γ w Vs hnm hH hG hc
theorem Ym {C C':Cfg} (h:C.P=C'.P):Fg C=Fg C':=by
 funext s
 unfold Fg
 split
 ·simp only [Ja,Cfg.sh,h]
 ·rfl
 ·rfl
theorem Stp.congr {C C':Cfg} (h:C.P=C'.P) {Γ Γ':Ctx} {H H':List Blk} {w w':World} {Φ Φ':Nat->Prop} (s:Stp C Γ H w Φ Γ' H' w' Φ'):Stp C' Γ H w Φ Γ' H' w' Φ':=
 ⟨s.os,s.tape,s.output,s.size,s.sub,s.stnew,s.own,s.foot,s.frame,s.yv,s.len,λb hb hf=>s.keep b hb (by rw [Ym h];exact hf)⟩
def Ti (P:Program) (G:GT) (g:Nat) (pf:List PV->List Blk->Tr):Prop:=
 ∀ C:Cfg,C.P=P->C.G=G->∀ (σ:Type) (I:σ->(Nat->Prop)->(Nat->Prop)->World->Prop) (yh:Yh σ) (yv:Value),HI I->RK P I yh yv->
  ∀ args H s ret Hc,J1 (pf args H)=some (ret,Hc)->∀ Γ Φ w Vs,Γ.yv=yv->HR Γ H w->GOK C Γ.St w->I s Γ.St Φ w->(∀ b g,Γ.nm b=some g->¬ Φ g)->CR Γ (A3 H) w args Vs->(∀ c∈B7 args,c<H.length)->
   L2 P ((callFunc g Vs).run P w) (Ao C I Γ H w Φ ret Hc s)
def LM (P:Program) (G:GT) (g:Nat) (pf:List PV->List Blk->Option (Bool × List (List PV))):Prop:=
 ∀ C:Cfg,C.P=P->C.G=G->∀ (σ:Type) (I:σ->(Nat->Prop)->(Nat->Prop)->World->Prop) (yh:Yh σ) (yv:Value),HI I->RK P I yh yv->
  ∀ args H L s s',pf args H=some (true,L)->H.all Lf=true->Q4 yh L s=some s'->∀ Γ Φ w Vs,Γ.yv=yv->HR Γ H w->GOK C Γ.St w->I s Γ.St Φ w->(∀ b g,Γ.nm b=some g->¬ Φ g)->CR Γ (A3 H) w args Vs->(∀ c∈B7 args,c<H.length)->
   L2 P ((callFunc g Vs).run P w) (Ao C I Γ H w Φ (.tup []) (H.map Fs) s')
theorem Av6 {C C₀:Cfg} {σ:Type} {I:σ->(Nat->Prop)->(Nat->Prop)->World->Prop} {Γ:Ctx} {H Hc:List Blk} {w w':World} {Φ:Nat->Prop} {s':σ} {V:Value} (hP:C₀.P=C.P) (hb:H.all Lf=true) (hH:HR Γ H w) (h:Ao C₀ I Γ H w Φ (.tup []) Hc s' V w'):Ao C I Γ H w Φ (.tup []) (H.map Fs) s' V w':=by
 obtain ⟨Γ1,Φ1,hs,k1,k2,k3,k4,k5⟩:=h
 have hn:∀ b g,(if b<H.length then Γ1.nm b else none)=some g->b<H.length/\Γ1.nm b=some g:=λb g h=>by grind
 have hlen:(H.map Fs).length=H.length:=List.length_map _
 refine ⟨{ Γ1 with nm:=λb=>if b<H.length then Γ1.nm b else none },Φ1,⟨hs.os,hs.tape,hs.output,hs.size,hs.sub,hs.stnew,λb g hg=>hs.own b g (hn b g hg).2,hs.foot,hs.frame,hs.yv,by rw [hlen];exact Nat.le_refl _,λb hbl hf=>?_⟩,
  ⟨λb b' g h1 h2=>k1.inj b b' g (hn b g h1).2 (hn b' g h2).2,λb g hg=>?_,k1.stlt,λb hbl c hc=>?_,λb hbl=>?_⟩,?_,by simp [PV.nms,B7],k4,λb g hg=>k5 b g (hn b g hg).2⟩
 ·obtain ⟨m1,m2,m3⟩:=hs.keep b hbl (by rw [Ym hP];exact hf)
  refine ⟨by simp only;rw [if_pos hbl];exact m1,?_,m3⟩
  simp only [A3,List.getElem?_map]
  cases H[b]? with
  | none=>rfl
  | some x=>exact congrArg some (BQ x)
 ·obtain ⟨q1,q2⟩:=hn b g hg
  have:=k1.lt b g q2
  grind
 ·rw [List.getElem_map,BP] at hc
  simp at hc
 ·rw [hlen] at hbl
  rw [List.getElem_map]
  have hbx:=List.all_eq_true.1 hb _ (List.getElem_mem hbl)
  have hB:=hH.blk b hbl
  cases hx:H[b] with
  | box cells=>
   rw [hx] at hB
   obtain ⟨g,cur,e,h1,h2,h3,_⟩:=hB
   obtain ⟨m1,m2,m3⟩:=hs.keep b hbl (by simp only [A3,List.getElem?_eq_getElem hbl,hx];exact trivial)
   have hl2:b<Hc.length:=Nat.lt_of_lt_of_le hbl hs.len
   have hB2:=k1.blk b hl2
   have hshp:(Hc[b]).shp = .box:=by
    simp only [A3,List.getElem?_eq_getElem hbl,List.getElem?_eq_getElem hl2,Option.map_some,Option.some.injEq] at m2
    rw [m2,hx];rfl
   cases hy:Hc[b] with
   | box cells'=>
    rw [hy] at hB2
    obtain ⟨g',cur',e',h1',h2',h3',h4'⟩:=hB2
    have hgg:g'=g:=by grind
    subst hgg
    have hsz:=m3 g' h1
    simp only [World.shape?,h2,h2',Option.some.injEq,Prod.mk.injEq] at hsz
    refine ⟨g',cur',e',by simp only;rw [if_pos hbl];exact h1',h2',by rw [hsz.2,h3];simp,λj hj=>?_⟩
    have hj':j<cur'.size:=by rw [hsz.2,h3];simpa using hj
    exact ⟨cur'[j],Array.getElem?_eq_getElem hj',by rw [List.getElem_map];exact .bad _⟩
   | arr a b c d=>rw [hy] at hshp;cases hshp
   | iter a b=>rw [hy] at hshp;cases hshp
   | dead=>rw [hy] at hshp;cases hshp
  | arr a b c d=>rw [hx] at hbx;cases hbx
  | iter a b=>rw [hx] at hbx;cases hbx
  | dead=>rw [hx] at hbx;cases hbx
 ·obtain ⟨A,rfl,hA,hcA⟩:=k2.inv_tup
  exact VP.mk_tup hA λj hj=>by simp at hj
theorem Uo {C₀:Cfg} {g:Nat} {pf:List PV->List Blk->Option (Bool × List (List PV))} (hX:XOK C₀) (hO:Fq C₀) (hm:C₀.P.follows .mixedOrders=true)
  (h:∀ args H L,pf args H=some (true,L)->∀ (σ:Type) (yh:Yh σ) (s s':σ),Q4 yh L s=some s'->∃ d Hc,evC C₀ d σ yh g args H s=some (.tup [],Hc,s')):LM C₀.P C₀.G g pf:=by
 intro C hP hG σ I yh yv hI hy args H L s s' hpf hb hrun Γ Φ w Vs hyv hH hg hi hdis hc hn
 obtain ⟨d,Hc,hev⟩:=h args H L hpf σ yh s s' hrun
 exact (Ga hX hO hm d σ I yh yv hI hy g args H s _ Hc s' hev Γ Φ w Vs hyv hH (hg.congr hG.symm) hi hdis hc hn).mono λV w' hr=>Av6 hP.symm hb hH hr
def Gl {α:Type}:List (Nat × α)->Nat->Option α
 | [],_=>none
 | (g,pf)::r,n=>cond (Nat.beq n g) (some pf) (Gl r n)
theorem Qd {α:Type}:∀ {l:List (Nat × α)} {g:Nat} {pf:α},Gl l g=some pf->(g,pf)∈l
 | [],_,_,h=>by cases h
 | (n,q)::r,g,pf,h=>by
  simp only [Gl] at h
  cases hb:Nat.beq g n with
  | true=>
   simp_all
  | false=>
   rw [hb] at h
   exact List.mem_cons_of_mem _ (Qd h)
def Ey (P:Program) (G:GT):List (Nat × (List PV->List Blk->Tr))->Prop
 | []=>True
 | (g,pf)::r=>Ti P G g pf/\Ey P G r
def Ev (P:Program) (G:GT):List (Nat × (List PV->List Blk->Option (Bool × List (List PV))))->Prop
 | []=>True
 | (g,pf)::r=>LM P G g pf/\Ev P G r
theorem Ey.mem {P:Program} {G:GT}:∀ {l:List (Nat × (List PV->List Blk->Tr))} {g:Nat} {pf:List PV->List Blk->Tr},Ey P G l->(g,pf)∈l->Ti P G g pf
 | [],_,_,_,hm=>by simp at hm
 | (n,q)::r,g,pf,h,hm=>by
  rcases List.mem_cons.1 hm with e | hm
  ·cases e;exact h.1
  ·exact Ey.mem h.2 hm
theorem Ev.mem {P:Program} {G:GT}:∀ {l:List (Nat × (List PV->List Blk->Option (Bool × List (List PV))))} {g:Nat} {pf:List PV->List Blk->Option (Bool × List (List PV))},Ev P G l->(g,pf)∈l->LM P G g pf
 | [],_,_,_,hm=>by simp at hm
 | (n,q)::r,g,pf,h,hm=>by
  rcases List.mem_cons.1 hm with e | hm
  ·cases e;exact h.1
  ·exact Ev.mem h.2 hm
theorem Ey.ok {C:Cfg} {l:List (Nat × (List PV->List Blk->Tr))} (hl:C.Y=Gl l) (h:Ey C.P C.G l):W7 C (clY C):=by
 intro σ I yh yv hI hy g args H s ret Hc s' hcl Γ Φ w Vs hyv hH hg hi hd hc hn
 simp only [clY,hl] at hcl
 split at hcl
 ·rename_i pf hpf
  split at hcl
  ·rename_i r' h' hr
   simp only [Option.some.injEq,Prod.mk.injEq] at hcl
   obtain ⟨rfl,rfl,rfl⟩:=hcl
   exact h.mem (Qd hpf) C rfl rfl σ I yh yv hI hy args H s _ _ hr Γ Φ w Vs hyv hH hg hi hd hc hn
  grind
 ·cases hcl
theorem Ev.ok {C:Cfg} {l:List (Nat × (List PV->List Blk->Option (Bool × List (List PV))))} (hl:C.S=Gl l) (h:Ev C.P C.G l):W7 C (clS C):=by
 intro σ I yh yv hI hy g args H s ret Hc s' hcl Γ Φ w Vs hyv hH hg hi hd hc hn
 simp only [clS,hl] at hcl
 split at hcl
 ·rename_i pf hpf
  split at hcl
  ·rename_i hb
   split at hcl
   ·rename_i L hL
    split at hcl
    ·rename_i s2 hr
     simp only [Option.some.injEq,Prod.mk.injEq] at hcl
     obtain ⟨rfl,rfl,rfl⟩:=hcl
     exact h.mem (Qd hpf) C rfl rfl σ I yh yv hI hy args H L s _ hL hb hr Γ Φ w Vs hyv hH hg hi hd hc hn
    grind
   grind
  grind
 ·cases hcl
theorem Dx {C:Cfg} {lx:List (Nat × (List PV->Tr))} {ly:List (Nat × (List PV->List Blk->Tr))} {ls:List (Nat × (List PV->List Blk->Option (Bool × List (List PV))))} (h1:C.X=KX lx) (h2:C.Y=Gl ly) (h3:C.S=Gl ls) (x:K8 C.P C.G lx) (y:Ey C.P C.G ly) (s:Ev C.P C.G ls) (h4:C.Z=Gl []:=by rfl):XOK C:=
 ⟨K8.x1 h1 x,Ey.ok h2 y,Ev.ok h3 s,λg pf h=>by rw [h4] at h;cases h⟩
theorem K8.ok {C:Cfg} {l:List (Nat × (List PV->Tr))} (hl:C.X=KX l) (h:K8 C.P C.G l) (h2:C.Y=Gl []:=by rfl) (h3:C.S=Gl []:=by rfl) (h4:C.Z=Gl []:=by rfl):XOK C:=
 Dx hl h2 h3 h trivial trivial h4
def okL:List Nat->Nat->Bool
 | [],_=>false
 | a::r,n=>Nat.beq n a || okL r n
def VW (C:Cfg) (l:List Nat):Bool:=l.all λf=>match C.P.funcs[f]? with
 | some fn=>match fn.body with
  | some c=>Ay4 C c && !(fn.name == "runtime.NumGoroutine")
  | none=>true
 | none=>true
theorem F2 {C:Cfg} {l:List Nat} (hl:C.okf=okL l) (h:VW C l=true):Fq C:=by
 intro f fn c hok hf hb
 have key:∀ l:List Nat,okL l f=true->f∈l:=by
  intro l
  induction l with
  | nil=>intro h;cases h
  | cons a r ih=>
   intro h
   simp only [okL,Bool.or_eq_true] at h
   rcases h with h | h
   all_goals simp_all
 have hm:f∈l:=key l (by rw [<-hl];exact hok)
 simp only [VW,List.all_eq_true] at h
 grind
def cd:List Nat->Code->Code
 | [],c=>c
 | 0::p,.seq a _=>cd p a
 | 1::p,.seq _ b=>cd p b
 | 0::p,.cond _ a _=>cd p a
 | 1::p,.cond _ _ b=>cd p b
 | 0::p,.block _ a=>cd p a
 | 0::p,.loop a=>cd p a
 | 0::p,.scope a=>cd p a
 | 0::p,.rangeFunc _ _ a _=>cd p a
 | 1::p,.rangeFunc _ _ _ b=>cd p b
 | _,_=>.skip
def R1:List Nat->Code->Code->Code
 | [],b,_=>b
 | 0::p,b,.seq x y=>.seq (R1 p b x) y
 | 1::p,b,.seq x y=>.seq x (R1 p b y)
 | 0::p,b,.cond c x y=>.cond c (R1 p b x) y
 | 1::p,b,.cond c x y=>.cond c x (R1 p b y)
 | 0::p,b,.block id x=>.block id (R1 p b x)
 | 0::p,b,.loop x=>.loop (R1 p b x)
 | 0::p,b,.scope x=>.scope (R1 p b x)
 | 0::p,b,.rangeFunc g ps x y=>.rangeFunc g ps (R1 p b x) y
 | 1::p,b,.rangeFunc g ps x y=>.rangeFunc g ps x (R1 p b y)
 | _,_,c=>c
def D3 (f:Func):Code:=f.body.getD .skip
section
variable {σ R : Type}
def bd (C:Cfg) (cl:D7) (yh:Yh σ) (c:Code):St σ->(Out->St σ->Option R)->Option R:=λst k=>B2 C cl yh c st k
def I4 (C:Cfg) (cl:D7) (yh:Yh σ) (b:Code) (k:Out->St σ->Option R):Out->St σ->Option R:=λo st'=>match o with
 | .normal=>B2 C cl yh b st' k
 | o=>k o st'
def G8 (id:Nat) (k:Out->St σ->Option R):Out->St σ->Option R:=λo st'=>match o with
 | .exit j=>if j=id then k .normal st' else k (.exit j) st'
 | o=>k o st'
def H4 (C:Cfg) (fn:Func):Out->St σ->Option (PV × List Blk × σ):=λo st=>match o with
 | .normal=>Ux C st.sl st.hp fn.results.toList λvs=>some (X9 vs,st.hp,st.s)
 | .ret=>Ux C st.sl st.hp fn.results.toList λvs=>some (X9 vs,st.hp,st.s)
 | _=>none
def lpK (L:Nat) (ds:Option (List Nat)) (body:St σ->(Out->St σ->Option R)->Option R) (n:Nat) (k:Out->St σ->Option R):Out->St σ->Option R:=λo st'=>match o with
 | .normal=>E6 L ds body n (Ha ds (S6 L st')) k
 | o=>k o (Ha ds st')
end
theorem Bw3 {C:Cfg} {d f:Nat} {fn:Func} {σ:Type} {yh:Yh σ} {args:List PV} {H:List Blk} {s:σ} (h2:C.P.funcs[f]? = some fn) (h1:C.okf f=true) (h3:fn.body=some (D3 fn)) :
  evC C (d+1) σ yh f args H s=B2 C (evC C d) yh (D3 fn) { sl:=args++List.replicate (fn.ntmps-args.length) (.tup []),hp:=H,s:=s } (H4 C fn):=by
 simp only [evC,h1,h2]
 split
 ·rename_i c hc
  rw [hc] at h3
  simp only [Option.some.injEq] at h3
  rw [<-h3]
  rfl
 ·rename_i hc
  rw [hc] at h3
  cases h3
theorem evE {C:Cfg} {d f:Nat} {fn:Func} {σ:Type} {yh:Yh σ} {args:List PV} {H:List Blk} {s:σ} (h:(C.P.funcs[f]?,C.okf f,fn.body)=(some fn,true,some (D3 fn))) :
  evC C (d+1) σ yh f args H s=B2 C (evC C d) yh (D3 fn) { sl:=args++List.replicate (fn.ntmps-args.length) (.tup []),hp:=H,s:=s } (H4 C fn):=by
 simp only [Prod.mk.injEq] at h
 exact Bw3 h.1 h.2.1 h.2.2
def Fe:List Nat->List Blk->List Blk
 | [],H=>H
 | i::r,H=>Fe r (H.set i .dead)
def TY (idx:List Nat) (ret:PV) (H:List Blk):Bool:=idx.all λi=>!(ret.nms.contains i)&&(Fe idx H).all λb=>!(b.nms.contains i)
theorem Tq:∀ (idx:List Nat) (H:List Blk),(Fe idx H).length=H.length/\∀ i (h:i<(Fe idx H).length) (h':i<H.length),(i∈idx/\(Fe idx H)[i] = .dead)\/(i∉idx/\(Fe idx H)[i]=H[i])
 | [],H=>⟨rfl,λi h h'=>.inr ⟨by simp,rfl⟩⟩
 | a::r,H=>by
  obtain ⟨h1,h2⟩:=Tq r (H.set a .dead)
  simp only [Fe]
  grind
theorem Ao.dead {C:Cfg} {Γ:Ctx} {w w':World} {ret:PV} {Hc:List Blk} {V:Value} {idx:List Nat} (h:Ao C I0 Γ [] w noΦ ret Hc () V w') (hok:TY idx ret Hc=true):Ao C I0 Γ [] w noΦ ret (Fe idx Hc) () V w':=by
 obtain ⟨Γ1,Φ1,hs,hH1,hv,hvn,hi1,hd1⟩:=h
 obtain ⟨hl,hsp⟩:=Tq idx Hc
 simp only [TY,List.all_eq_true,Bool.and_eq_true,Bool.not_eq_true',List.contains_iff_mem,<-Bool.not_eq_true] at hok
 let Γ2:Ctx:={ Γ1 with nm:=λb=>if b∈idx then none else Γ1.nm b }
 have hnm:∀ b g,Γ2.nm b=some g->b∉idx/\Γ1.nm b=some g:=λb g h=>by
  simp only [Γ2] at h
  split at h
  ·cases h
  ·exact ⟨‹_›,h⟩
 have M:T8 Γ1 (A3 Hc) w' Γ2 (A3 (Fe idx Hc)) w' (·∉idx):=⟨λ_ _=>rfl,λ_ h=>h,λb hb=>by simp only [Γ2];rw [if_neg hb],λb hb=>by
  simp only [A3]
  by_cases hlt:b<Hc.length
  ·rcases hsp b (by omega) hlt with ⟨q,_⟩ | ⟨_,q⟩
   ·exact absurd q hb
   ·rw [List.getElem?_eq_getElem (by omega),List.getElem?_eq_getElem hlt,q]
  ·rw [List.getElem?_eq_none (by omega),List.getElem?_eq_none (by omega)],λ_ _ _ _=>rfl,rfl⟩
 refine ⟨Γ2,Φ1,⟨hs.os,hs.tape,hs.output,hs.size,hs.sub,hs.stnew,λb g h=>hs.own b g (hnm b g h).2,hs.foot,hs.frame,hs.yv,Nat.zero_le _,λb hb=>by simp at hb⟩,
  ⟨λb b' g h1 h2=>hH1.inj b b' g (hnm b g h1).2 (hnm b' g h2).2,λb g h=>by have:=hH1.lt b g (hnm b g h).2;rw [hl];exact this,hH1.stlt,λb hb c hc=>?_,λb hb=>?_⟩,
  hv.mono M (λb hb hi=>by have:=(hok b hi).1;exact this hb),λc hc=>by rw [hl];exact hvn c hc,hi1,λb g h=>hd1 b g (hnm b g h).2⟩
 ·have hlt:b<Hc.length:=by omega
  rcases hsp b hb hlt with ⟨_,q⟩ | ⟨_,q⟩
  ·rw [q] at hc;simp [Blk.nms] at hc
  ·rw [q] at hc;rw [hl];exact hH1.nms b hlt c hc
 ·have hlt:b<Hc.length:=by omega
  rcases hsp b hb hlt with ⟨_,q⟩ | ⟨q0,q⟩
  ·rw [q];trivial
  ·rw [q]
   refine (hH1.blk b hlt).mono M (M.nm b q0) (λ_ _=>rfl) (λc hc hi=>?_)
   have:=(hok c hi).2 _ (List.getElem_mem hb)
   rw [q] at this
   exact this hc
theorem P4 {C₀:Cfg} {g:Nat} {pf:List PV->Tr} (hX:XOK C₀) (hO:Fq C₀) (hm:C₀.P.follows .mixedOrders=true)
  (h:∀ args ret Hc,J1 (pf args)=some (ret,Hc)->B7 args=[]/\∃ d H0 idx,evC C₀ d Unit noY g args [] ()=some (ret,H0,())/\TY idx ret H0=true/\Fe idx H0=Hc):B1 C₀.P C₀.G g pf:=by
 intro args ret Hc hpf C hP hGe Γ w Vs hnm hH hG hc
 obtain ⟨hna,d,H0,idx,hev,hd,rfl⟩:=h args ret Hc hpf
 have h0:=Jy (C₀:=C₀) (g:=g) (pf:=λa=>match J1 (pf a) with | some _=>(match evC C₀ d Unit noY g a [] () with | some (r,H,_)=>cond (B7 a).isEmpty (.ret r H) .fail | none=>.fail) | none=>.fail) hX hO hm (λa r H hr=>by
  split at hr
  ·split at hr
   ·rename_i r' H' _ he
    cases hn:(B7 a).isEmpty with
    | true=>
     rw [hn] at hr
     simp only [cond_true,J1,Dm,Option.some.injEq,Prod.mk.injEq] at hr
     grind
    | false=>rw [hn] at hr;cases hr
   ·cases hr
  ·cases hr)
 refine (h0 args ret H0 ?_ C hP hGe Γ w Vs hnm hH hG hc).mono λV w' hR=>hR.dead hd
 dsimp only
 rw [hpf]
 dsimp only
 rw [hev]
 dsimp only
 rw [hna]
 rfl
theorem LD {C₀:Cfg} {g:Nat} {pf:List PV->Tr} (hX:XOK C₀) (hO:Fq C₀) (hm:C₀.P.follows .mixedOrders=true)
  (h:∀ args ret Hc,J1 (pf args)=some (ret,Hc)->B7 args=[]/\Hc=[]/\ret.nms=[]/\∃ d ret' H0,evC C₀ d Unit noY g args [] ()=some (ret',H0,())/\ret'.snap H0=ret):B1 C₀.P C₀.G g pf:=by
 intro args ret Hc hpf C hP hGe Γ w Vs hnm hH hG hc
 obtain ⟨hna,rfl,hnr,d,ret',H0,hev,rfl⟩:=h args ret Hc hpf
 have h0:=Jy (C₀:=C₀) (g:=g) (pf:=λa=>match evC C₀ d Unit noY g a [] () with | some (r,H,_)=>cond (B7 a).isEmpty (.ret r H) .fail | none=>.fail) hX hO hm (λa r H hr=>by
  split at hr
  ·rename_i r' H' _ he
   cases hn:(B7 a).isEmpty with
   | true=>
    rw [hn] at hr
    simp only [cond_true,J1,Dm,Option.some.injEq,Prod.mk.injEq] at hr
    grind
   | false=>rw [hn] at hr;cases hr
  ·cases hr)
 refine h0.snap args (ret'.snap H0) [] ?_ C hP hGe Γ w Vs hnm hH hG hc
 dsimp only
 rw [hev]
 dsimp only
 rw [hna]
 simp only [List.isEmpty_nil,cond_true,Tr.snap,hnr]
 rfl
section
variable {σ R : Type} {C : Cfg} {cl : D7} {yh : Yh σ} {c a b : Code} {st : St σ} {k : Out -> St σ -> Option R} {id : Nat}
theorem A0 {b:Bool} {x y x' y':Option R} (hx:x=x') (hy:y=y'):cond b x y=cond b x' y':=by rw [hx,hy]
end
def A4 {α:Type}:List (Nat × α)->Nat->Option α
 | [],_=>none
 | (a,l)::r,n=>cond (Nat.beq n a) (some l) (A4 r n)
def bds (n:Nat):List PV:=List.replicate n .bad
def tps (n:Nat):List PV:=List.replicate n (.tup [])
def gp:List (Nat × PV)->Nat->List PV
 | [],n=>bds n
 | (m,v)::r,n=>bds m++v::gp r n
abbrev LL:=List (List SV)
abbrev By:=List UInt8
def A2 (n:Int):Int:=IntKind.wrap .i64 n
def Aq0 (n:Int):Int:=IntKind.wrap .u64 n
def B62 (n:Int):Int:=IntKind.wrap .u32 n
def A90 (n:Int):Int:=IntKind.wrap .u16 n
def wu8 (n:Int):Int:=IntKind.wrap .u8 n
def bOr (k:IntKind) (a b:Int):Int:=k.wrap (BitVec.ofInt k.bits a ||| BitVec.ofInt k.bits b).toNat
def YU (k:IntKind) (a b:Int):Int:=k.wrap (a*2 ^ min b.toNat k.bits)
def Ao5 (k:IntKind) (a b:Int):Int:=a.fdiv (2 ^ min b.toNat k.bits)
def inR (n:Int) (m:Nat):Bool:=decide (0<=n)&&decide (n<m)
def Gk:TI:=⟨true,false,[.int .i64]⟩
def Dy:TI:=⟨true,false,[.str]⟩
def okE (t:TI) (l:LL) (i o:Nat):Bool:=decide (i<l.length)&&okS t (l.getD i []) o
def gC (l:LL) (i j:Nat):SV:=(l.getD i []).getD j .nilp
def gE (l:LL) (i j:Nat):Int:=(gC l i j).gI
def gX (l:LL) (i j:Nat):By:=(gC l i j).gS
def gY (l:LL) (i j:Nat):Bool:=(gC l i j).gB
def bAt (s:By) (n:Int):Int:=((s.getD n.toNat 0).toNat:Int)
def P2 (l h:Int) (n:Nat):Bool:=decide (0<=l)&&decide (l<=h)&&decide (h<=n)
def cut {α:Type} (s:List α) (l h:Int):List α:=(s.take h.toNat).drop l.toNat
def B76:Code->Bool | .rangeFunc _ _ _ _=>true | _=>false
def rgX:Code->Operand | .rangeFunc x _ _ _=>x | _=>.tmp 0
def rgP:Code->Array Tmp | .rangeFunc _ p _ _=>p | _=>#[]
theorem IY:∀ (p:List Nat),cd p .skip = .skip
 | []=>rfl
 | 0::_=>rfl
 | 1::_=>rfl
 | (_+2)::_=>rfl
theorem Ct:∀ (p q:List Nat) (c:Code),cd (p++q) c=cd q (cd p c)
 | [],q,c=>rfl
 | i::p,q,c=>by
  rw [List.cons_append]
  match i,c with
  | 0,.seq a b=>exact Ct p q a
  | 1,.seq a b=>exact Ct p q b
  | 0,.cond _ a b=>exact Ct p q a
  | 1,.cond _ a b=>exact Ct p q b
  | 0,.block _ a=>exact Ct p q a
  | 0,.loop a=>exact Ct p q a
  | 0,.scope a=>exact Ct p q a
  | 0,.rangeFunc _ _ a b=>exact Ct p q a
  | 1,.rangeFunc _ _ a b=>exact Ct p q b
  | 0,.skip | 0,.region _ _ _ | 0,.exit _ | 0,.label _ | 0,.goto _ | 0,.ret | 0,.refuse _=>exact (IY q).symm
  | 1,.skip | 1,.region _ _ _ | 1,.exit _ | 1,.scope _ | 1,.label _ | 1,.goto _ | 1,.ret | 1,.refuse _ | 1,.block _ _ | 1,.loop _=>exact (IY q).symm
  | _+2,.skip | _+2,.region _ _ _ | _+2,.exit _ | _+2,.scope _ | _+2,.label _ | _+2,.goto _ | _+2,.ret | _+2,.refuse _ | _+2,.block _ _ | _+2,.loop _ | _+2,.seq _ _ | _+2,.cond _ _ _ | _+2,.rangeFunc _ _ _ _=>exact (IY q).symm
section
variable {σ R : Type} {C : Cfg} {cl : D7} {yh : Yh σ} {B : Code} {st : St σ} {k : Out -> St σ -> Option R}
theorem MU (p:List Nat) (h:B76 (cd p B)=true):B2 C cl yh (cd p B) st k=Mw C cl (opnd C st.sl (rgX (cd p B))) st (λsl0=>Fh (rgP (cd p B)) sl0 (bd C cl yh (cd (p++[0]) B)) (bd C cl yh (cd (p++[1]) B))) (λsl0=>N9 (rgP (cd p B)) sl0 (bd C cl yh (cd (p++[0]) B)) (bd C cl yh (cd (p++[1]) B))) k:=by
 rw [Ct,Ct]
 cases hc:cd p B<;>rw [hc] at h<;>first | rfl | cases h
theorem Df {c:Bool} {x y:Option R} (h:x=y):need c x=cond c y none:=by rw [h];rfl
end
abbrev pS (l:List UInt8):PV:=.s (.str l)
abbrev pB (b:Bool):PV:=.s (.bool b)
abbrev pI (n:Int):PV:=.s (.int .i64 n)
abbrev p8 (n:Int):PV:=.s (.int .u8 n)
abbrev p16 (n:Int):PV:=.s (.int .u16 n)
abbrev p32 (n:Int):PV:=.s (.int .u32 n)
abbrev vl {α β:Type} (e:α) (f:α->β):β:=f e
theorem A8 {α R:Type} {e:α} {f g:α->Option R} (h:∀ x,f x=g x):vl e f=vl e g:=h e
def Ax0 (m n:Nat):Bool:=decide (m+n<4611686018427387904)
theorem fx1 {A R:Type} {f g:A->R} (h0:∀ a,f a=g a):f=g:=funext h0
theorem fx2 {A B R:Type} {f g:A->B->R} (h0:∀ a b,f a b=g a b):f=g:=funext λa=>fx1 (h0 a)
theorem fx3 {A B C R:Type} {f g:A->B->C->R} (h0:∀ a b c,f a b c=g a b c):f=g:=funext λa=>fx2 (h0 a)
theorem fx4 {A B C D R:Type} {f g:A->B->C->D->R} (h0:∀ a b c d,f a b c d=g a b c d):f=g:=funext λa=>fx3 (h0 a)
theorem fx5 {A B C D E R:Type} {f g:A->B->C->D->E->R} (h0:∀ a b c d e,f a b c d e=g a b c d e):f=g:=funext λa=>fx4 (h0 a)
theorem fx6 {A B C D E H R:Type} {f g:A->B->C->D->E->H->R} (h0:∀ a b c d e h,f a b c d e h=g a b c d e h):f=g:=funext λa=>fx5 (h0 a)
theorem fx7 {A B C D E H I R:Type} {f g:A->B->C->D->E->H->I->R} (h0:∀ a b c d e h i,f a b c d e h i=g a b c d e h i):f=g:=funext λa=>fx6 (h0 a)
theorem fx8 {A B C D E H I J R:Type} {f g:A->B->C->D->E->H->I->J->R} (h0:∀ a b c d e h i j,f a b c d e h i j=g a b c d e h i j):f=g:=funext λa=>fx7 (h0 a)
theorem fx9 {A B C D E H I J K R:Type} {f g:A->B->C->D->E->H->I->J->K->R} (h0:∀ a b c d e h i j k,f a b c d e h i j k=g a b c d e h i j k):f=g:=funext λa=>fx8 (h0 a)
theorem Bg3 {A B C D E H I J K L R:Type} {f g:A->B->C->D->E->H->I->J->K->L->R} (h0:∀ a b c d e h i j k l,f a b c d e h i j k l=g a b c d e h i j k l):f=g:=funext λa=>fx9 (h0 a)
def XC {α β:Type} (z:α) (f:β->List β->α->α):List β->α
 | []=>z
 | x::xs=>f x xs (XC z f xs)
def Se (n:Nat):PV->PV
 | .s (.sl z t k els)=>if n=0 then .s (.sl z t k els) else if k=n then .s (.sl z t k els) else .s (.sl z t (cond z n k) els)
 | v=>v
def Iy:List Nat->List PV->List PV
 | n::r,v::l=>Se n v::Iy r l
 | _,l=>l
def Bw4 (szs:List Nat):PV->PV
 | .agg l=>.agg (Iy szs l)
 | v=>Se (szs.headD 0) v
def C7:List (List Nat)->List PV->List PV
 | s::r,v::l=>Bw4 s v::C7 r l
 | _,l=>l
section
variable {Γ : Ctx} {sh : Nat -> Option Shp} {w : World}
theorem Gy {n:Nat} {v:PV} {V:Value} (h:VP Γ sh w v V):VP Γ sh w (Se n v) V:=by
 unfold Se
 split
 ·rename_i z t k els
  split
  ·exact h
  ·split
   ·exact h
   ·cases z with
    | false=>exact h
    | true=>
     have hs:=h.inv_s
     cases hs with
     | nil=>exact .s _ _ (.nil _ _)
 ·exact h
theorem Gc:∀ (szs:List Nat) (l:List PV),(Iy szs l).length=l.length
 | [],_=>rfl
 | _::_,[]=>rfl
 | n::r,v::l=>by simp [Iy,Gc r l]
theorem Iz:∀ (szs:List Nat) (l:List PV) (j:Nat) (h:j<l.length) (h':j<(Iy szs l).length),∃ n,(Iy szs l)[j]=Se n l[j]
 | [],l,j,h,h'=>⟨0,by
  have e:Iy [] l=l:=by cases l<;>rfl
  simp only [e]
  unfold Se
  split
  ·rename_i he;rw [he];simp
  ·rfl⟩
 | n::r,v::l,0,h,h'=>⟨n,rfl⟩
 | n::r,v::l,j+1,h,h'=>by
  obtain ⟨m,e⟩:=Iz r l j (by simpa using h) (by simpa [Iy] using h')
  exact ⟨m,by simpa [Iy] using e⟩
theorem Bg1 {szs:List Nat} {v:PV} {V:Value} (h:VP Γ sh w v V):VP Γ sh w (Bw4 szs v) V:=by
 unfold Bw4
 split
 ·rename_i l
  obtain ⟨A,rfl,hA,hc⟩:=h.inv_agg
  refine VP.mk_agg (by rw [Gc];exact hA) λj hj=>?_
  have hj':j<l.length:=by rw [Gc] at hj;exact hj
  obtain ⟨U,e,k⟩:=hc j hj'
  obtain ⟨m,e2⟩:=Iz szs l j hj' hj
  exact ⟨U,e,by rw [e2];exact Gy k⟩
 ·exact Gy h
theorem NA:∀ (szs:List (List Nat)) (l:List PV),(C7 szs l).length=l.length
 | [],_=>rfl
 | _::_,[]=>rfl
 | n::r,v::l=>by simp [C7,NA r l]
theorem Bg2:∀ (szs:List (List Nat)) (l:List PV) (V:Array Value),CR Γ sh w l V->CR Γ sh w (C7 szs l) V:=by
 intro szs l V h
 refine ⟨by rw [NA];exact h.1,?_⟩
 have key:∀ (szs:List (List Nat)) (l:List PV) (As:Nat->Option Value),(∀ j (h:j<l.length),∃ U,As j=some U/\VP Γ sh w (l[j]) U)->∀ j (h:j<(C7 szs l).length),∃ U,As j=some U/\VP Γ sh w ((C7 szs l)[j]) U:=by
  intro szs
  induction szs with
  | nil=>intro l As hl j hj;exact hl j (by cases l<;>exact hj)
  | cons s r ih=>
   intro l As hl j hj
   cases l with
   | nil=>simp [C7] at hj
   | cons v l=>
    cases j with
    | zero=>
     obtain ⟨U,e,k⟩:=hl 0 (by simp)
     exact ⟨U,e,Bg1 k⟩
    | succ j=>
     have:=ih l (λj=>As (j+1)) (λj h=>hl (j+1) (by simpa using h)) j (by simpa [C7] using hj)
     simpa [C7] using this
 exact key szs l (λj=>V[j]?) h.2
end
theorem B1.fix {P:Program} {G:GT} {g:Nat} {pf:List PV->Tr} (szs:List (List Nat)) (h:B1 P G g pf):B1 P G g (λargs=>pf (C7 szs args)):=
 λargs ret Hc hpf C hP hGe Γ w Vs hnm hH hG hc=>h (C7 szs args) ret Hc hpf C hP hGe Γ w Vs hnm hH hG (Bg2 szs args Vs hc)
theorem H5 {v:PV} {H:List Blk} {ret:PV} {Hc:List Blk} (h:J1 (.ret v H)=some (ret,Hc)):ret=v/\Hc=H:=by
 simp only [J1,Dm,Option.some.injEq,Prod.mk.injEq] at h
 grind
theorem B4 {c:Bool} {t:Tr} {ret:PV} {Hc:List Blk} (h:J1 (.need c t)=some (ret,Hc)):c=true/\J1 t=some (ret,Hc):=by
 cases c with
 | true=>exact ⟨rfl,h⟩
 | false=>cases h
theorem Gn {c:Bool} {a b:Tr} {ret:PV} {Hc:List Blk} (h:J1 (.split c a b)=some (ret,Hc)):(c=true/\J1 a=some (ret,Hc))\/(c=false/\J1 b=some (ret,Hc)):=by
 cases c with
 | true=>exact .inl ⟨rfl,h⟩
 | false=>exact .inr ⟨rfl,h⟩
theorem Bt1:∃ n:Nat,100000000000000000000<=n:=⟨_,Nat.le_refl _⟩
noncomputable def LF:Nat:=Classical.choose Bt1
theorem E5:100000000000000000000<=LF:=Classical.choose_spec Bt1
attribute [irreducible] LF
theorem Ah4 (b:UInt8):AP (F7 b)=b:=by
 simp [AP,F7,SV.gI]
theorem Ot (l:List UInt8):(l.map F7).map AP=l:=by
 rw [List.map_map]
 have:AP ∘ F7=id:=by funext b;exact Ah4 b
 rw [this,List.map_id]
theorem Ai9 (b:UInt8):JM (F7 b)=true:=by
 have:=b.toNat_lt
 simp only [JM,F7,Bool.and_eq_true,decide_eq_true_eq]
 omega
theorem Nf (l:List UInt8):(l.map F7).all JM=true:=by
 rw [List.all_map]
 simp [Function.comp_def,Ai9]
theorem Bz6 (n:Nat):IntKind.wrap .u8 (n:Int)=((n % 256:Nat):Int):=by simp [IntKind.wrap,IntKind.bits,IntKind.signed]
theorem Bq7 (n:Nat):IntKind.wrap .u16 (n:Int)=((n % 65536:Nat):Int):=by simp [IntKind.wrap,IntKind.bits,IntKind.signed]
theorem Bq8 (n:Nat):IntKind.wrap .u32 (n:Int)=((n % 4294967296:Nat):Int):=by simp [IntKind.wrap,IntKind.bits,IntKind.signed]
theorem Bq9 (n:Nat):IntKind.wrap .u64 (n:Int)=((n % 18446744073709551616:Nat):Int):=by simp [IntKind.wrap,IntKind.bits,IntKind.signed]
theorem Bq6 (n:Int) (h0:-9223372036854775808<=n) (h1:n<9223372036854775808):IntKind.wrap .i64 n=n:=by
 simp [IntKind.wrap,IntKind.bits,IntKind.signed]
 split<;>omega
theorem Az7 (n m:Nat):Int.fdiv (n:Int) (m:Int)=((n / m:Nat):Int):=by
 rw [Int.fdiv_eq_ediv_of_nonneg _ (by omega)]
 rfl
theorem K3 (n m:Nat):Int.tdiv (n:Int) (m:Int)=((n / m:Nat):Int):=by
 rw [Int.tdiv_eq_ediv_of_nonneg (by omega)]
 rfl
theorem Gm (n m:Nat):Int.tmod (n:Int) (m:Int)=((n % m:Nat):Int):=by
 rw [Int.tmod_eq_emod_of_nonneg (by omega)]
 rfl
end
section
open Go Go.ChangeShapes Go.RowKit Go.Sort Go.WideShapes
theorem An {P:Program} {f:Nat} {fn:Func} {Vs:Array Value} {w:World} {R:Value->World->Prop} (hf:P.funcs[f]? = some fn) (hb:fn.body.isSome=true) (hn:(fn.name == "runtime.NumGoroutine")=false)
  (h:Calls P f Vs w λe w'=>∃ V,e = .returned V/\R V w'):L2 P ((callFunc f Vs).run P w) R:=by
 obtain ⟨c,hb⟩:=Option.isSome_iff_exists.1 hb
 intro ro n o a next Q hnext
 have hrun:(callFunc f Vs).run P w = .ok (.enter f Vs) w:=by
  have hn':¬ fn.name = "runtime.NumGoroutine":=by simpa using hn
  simp [callFunc,hf,hb,hn',Result.andThen]
 rw [hrun]
 simp only [Oper.uponIn_enter]
 refine ⟨λh=>(by simp [E1,Fence.wide] at h),?_⟩
 have key:CallsIn Fence.wide (n-1) P f Vs w λe w'=>∃ V,e = .returned V/\R V w':=callsIn_wide.2 h
 have key':CallsIn (E1 ro) (n-1) P f Vs w λe w'=>∃ V,e = .returned V/\R V w':=key
 refine key'.mono ?_
 rintro e w' ⟨V,rfl,hR⟩
 exact hnext V w' hR
theorem Ay6 {C:Cfg} {Γ:Ctx} {w w':World} {ret:PV} {V:Value} (hnm:∀ b,Γ.nm b=none) (hH:HR Γ [] w) (hb:Below w.heap.size w w') (hv:VP Γ (A3 []) w' ret V) (hr:ret.nms=[]):Ao C I0 Γ [] w noΦ ret [] () V w':=by
 refine ⟨Γ,noΦ,⟨hb.os,hb.tape,hb.output,hb.size,λ_ h=>h,λ_ h=>.inl h,λb g h=>(by rw [hnm] at h;cases h),λ_ h=>h.elim,λg hg _ _=>hb.block g hg,rfl,Nat.le_refl _,λb h=>(by simp at h)⟩,
  ⟨λb b' g h=>(by rw [hnm] at h;cases h),λb g h=>(by rw [hnm] at h;cases h),λg hg=>Nat.lt_of_lt_of_le (hH.stlt g hg) hb.size,λb h=>(by simp at h),λb h=>(by simp at h)⟩,hv,by rw [hr];simp,λ_ h=>h,λb g h=>(by rw [hnm] at h;cases h)⟩
theorem MC (w:World) (n:Nat):Below w.heap.size w (w.drewN n):=⟨rfl,rfl,rfl,Nat.le_refl _,λ_ _=>rfl⟩
section
variable {Γ : Ctx} {sh : Nat -> Option Shp} {w : World}
theorem CR.arr1 {a:PV} {A:Array Value} (h:CR Γ sh w [a] A):∃ U,A = #[U]/\VP Γ sh w a U:=by
 obtain ⟨U,e,k⟩:=h.2 0 (by simp)
 refine ⟨U,?_,k⟩
 have hs:A.size=1:=h.1
 grind
theorem CR.arr2 {a b:PV} {A:Array Value} (h:CR Γ sh w [a,b] A):∃ U V,A = #[U,V]/\VP Γ sh w a U/\VP Γ sh w b V:=by
 obtain ⟨U,e,k⟩:=h.2 0 (by simp)
 obtain ⟨V,e',k'⟩:=h.2 1 (by simp)
 refine ⟨U,V,?_,k,k'⟩
 have hs:A.size=2:=h.1
 grind
theorem CR.arr3 {a b c:PV} {A:Array Value} (h:CR Γ sh w [a,b,c] A):∃ U V W,A = #[U,V,W]/\VP Γ sh w a U/\VP Γ sh w b V/\VP Γ sh w c W:=by
 obtain ⟨U,e,k⟩:=h.2 0 (by simp)
 obtain ⟨V,e',k'⟩:=h.2 1 (by simp)
 obtain ⟨W,e'',k''⟩:=h.2 2 (by simp)
 refine ⟨U,V,W,?_,k,k',k''⟩
 have hs:A.size=3:=h.1
 grind
theorem VP.mk_str (l:List UInt8):VP Γ sh w (.s (.str l)) (.string ⟨l.toArray⟩):=by
 have:=VP.s (Γ:=Γ) (sh:=sh) (w:=w) _ _ (VS.str (St:=Γ.St) (w:=w) ⟨l.toArray⟩)
 omega
theorem VP.mk_int (k:IntKind) (n:Int):VP Γ sh w (.s (.int k n)) (.int k n):=.s _ _ (.int k n)
theorem VP.mk_bool (b:Bool):VP Γ sh w (.s (.bool b)) (.bool b):=.s _ _ (.bool b)
theorem VP.mk_tup3 {a b c:PV} {U V W:Value} (h:VP Γ sh w a U) (k:VP Γ sh w b V) (l:VP Γ sh w c W):VP Γ sh w (.tup [a,b,c]) (.tuple #[U,V,W]):=
 VP.mk_tup rfl λj hj=>by grind
end
theorem Dv {P:Program} {G:GT} {g:Nat} {fn:Func} {pf:List PV->Tr} (hf:P.funcs[g]? = some fn) (hb:fn.body.isSome=true) (hn:(fn.name == "runtime.NumGoroutine")=false)
  (h:∀ args ret Hc,J1 (pf args)=some (ret,Hc)->Hc=[]/\ret.nms=[]/\∀ C:Cfg,C.P=P->C.G=G->∀ Γ w Vs,GOK C Γ.St w->(∀ g,Γ.St g->g<w.heap.size)->CR Γ (A3 []) w args Vs->
   Calls P g Vs w λe w'=>∃ V,e = .returned V/\Below w.heap.size w w'/\VP Γ (A3 []) w' ret V):B1 P G g pf:=by
 intro args ret Hc hpf C hP hG Γ w Vs hnm hH hg hc
 obtain ⟨rfl,hr,h1⟩:=h args ret Hc hpf
 exact An hf hb hn ((h1 C hP hG Γ w Vs hg hH.stlt hc).mono λe w' ⟨V,he,hb,hv⟩=>⟨V,he,Ay6 hnm hH hb hv hr⟩)
def PV.stab (szs:List Nat) (H:List Blk):PV->PV
 | .tup l=>.tup (Iy szs (I9 H l))
 | v=>Se (szs.headD 0) (v.snap H)
theorem VP.stab {Γ:Ctx} {H:List Blk} {w:World} (szs:List Nat) (hH:HR Γ H w) {v:PV} {V:Value} (h:VP Γ (A3 H) w v V):VP Γ.all (A3 H) w (v.stab szs H) V:=by
 by_cases ht:∃ l,v = .tup l
 ·obtain ⟨l,rfl⟩:=ht
  obtain ⟨A,rfl,hA,hc⟩:=h.inv_tup
  simp only [PV.stab]
  have hl:(Iy szs (I9 H l)).length=l.length:=by rw [Gc,U1,List.length_map]
  refine VP.mk_tup (by rw [hl];exact hA) λj hj=>?_
  obtain ⟨U,e,k⟩:=hc j (by omega)
  refine ⟨U,e,?_⟩
  have hj':j<(I9 H l).length:=by rw [U1,List.length_map];omega
  obtain ⟨n,en⟩:=Iz szs (I9 H l) j hj' hj
  rw [en]
  have e2:(I9 H l)[j]=(l[j]'(by omega)).snap H:=by
   simp only [U1,List.getElem_map]
  rw [e2]
  exact Gy (k.snap hH)
 ·have e:v.stab szs H=Se (szs.headD 0) (v.snap H):=by
   cases v with
   | tup l=>exact absurd ⟨l,rfl⟩ ht
   | _=>rfl
  rw [e]
  exact Gy (h.snap hH)
theorem AL (f:List Blk->PV->PV) (hf:∀ {Γ:Ctx} {H:List Blk} {w:World},HR Γ H w->∀ {v:PV} {V:Value},VP Γ (A3 H) w v V->VP Γ.all (A3 H) w (f H v) V) {C₀:Cfg} {g:Nat} {pf:List PV->Tr} (hX:XOK C₀) (hO:Fq C₀) (hm:C₀.P.follows .mixedOrders=true)
  (h:∀ args ret Hc,J1 (pf args)=some (ret,Hc)->B7 args=[]/\Hc=[]/\ret.nms=[]/\∃ d ret' H0,evC C₀ d Unit noY g args [] ()=some (ret',H0,())/\f H0 ret'=ret):B1 C₀.P C₀.G g pf:=by
 intro args ret Hc hpf C hP hGe Γ w Vs hnm hH hG hc
 obtain ⟨hna,rfl,hnr,d,ret',H0,hev,rfl⟩:=h args ret Hc hpf
 have h0:=Jy (C₀:=C₀) (g:=g) (pf:=λa=>match evC C₀ d Unit noY g a [] () with | some (r,H,_)=>cond (B7 a).isEmpty (.ret r H) .fail | none=>.fail) hX hO hm (λa r H hr=>by
  split at hr
  ·rename_i r' H' _ he
   cases hn:(B7 a).isEmpty with
   | true=>
    rw [hn] at hr
    simp only [cond_true,J1,Dm,Option.some.injEq,Prod.mk.injEq] at hr
    grind
   | false=>rw [hn] at hr;cases hr
  ·cases hr)
 refine (h0 args ret' H0 (by dsimp only;rw [hev];dsimp only;rw [hna];rfl) C hP hGe Γ w Vs hnm hH hG hc).mono ?_
 rintro V w' ⟨Γ1,Φ1,hs,hH1,hv,hvn,hi1,hd1⟩
 let Γ2:Ctx:={ Γ1.all with nm:=λ_=>none }
 have hlt:∀ g,Γ2.St g->g<w'.heap.size:=λg hg=>by
  rcases hg with hg | ⟨b,hb⟩
  ·exact hH1.stlt g hg
  ·exact (hH1.lt b g hb).2.1
 refine ⟨Γ2,Φ1,⟨hs.os,hs.tape,hs.output,hs.size,λg hg=>.inl (hs.sub g hg),λg hg=>?_,λb g h=>by simp [Γ2] at h,hs.foot,hs.frame,hs.yv,Nat.le_refl _,λb hb=>by simp at hb⟩,
  Gt (λ_=>rfl) hlt,?_,by rw [hnr];simp,hi1,λb g h=>by simp [Γ2] at h⟩
 ·rcases hg with hg | ⟨b,hb⟩
  ·exact hs.stnew g hg
  ·rcases hs.own b g hb with ⟨h',_⟩ | h'
   ·simp at h'
   ·exact .inr h'
 ·exact VP.mono (Γ:=Γ1.all) (Γ':=Γ2) (w:=w') (w':=w') (sh:=A3 H0) (ok:=λ_=>False) ⟨λ_ _=>rfl,λ_ h=>h,λ_ h=>h.elim,λ_ h=>h.elim,λ_ _ h=>h.elim,rfl⟩ (hf hH1 hv) (by rw [hnr];simp)
theorem L8 (szs:List Nat) {C₀:Cfg} {g:Nat} {pf:List PV->Tr} (hX:XOK C₀) (hO:Fq C₀) (hm:C₀.P.follows .mixedOrders=true)
  (h:∀ args ret Hc,J1 (pf args)=some (ret,Hc)->B7 args=[]/\Hc=[]/\ret.nms=[]/\∃ d ret' H0,evC C₀ d Unit noY g args [] ()=some (ret',H0,())/\ret'.stab szs H0=ret):B1 C₀.P C₀.G g pf:=
 AL (λH v=>v.stab szs H) (λhH _ _ h=>h.stab szs hH) hX hO hm h
def Tr.Good (szs:List Nat) (args:List PV) (e:Option (PV × List Blk × Unit)):Tr->Prop
 | .ret v H=>B7 args=[]/\H=[]/\v.nms=[]/\∃ r H0,e=some (r,H0,())/\r.stab szs H0=v
 | .need c t=>c=true->Good szs args e t
 | .split c a b=>(c=true->Good szs args e a)/\(c=false->Good szs args e b)
 | .fail=>True
theorem Tr.Good.res {szs:List Nat} {args:List PV} {e:Option (PV × List Blk × Unit)} {ret:PV} {Hc:List Blk}:∀ {t:Tr},t.Good szs args e->J1 t=some (ret,Hc)->B7 args=[]/\Hc=[]/\ret.nms=[]/\∃ r H0,e=some (r,H0,())/\r.stab szs H0=ret
 | .ret v H,h,hr=>by
  obtain ⟨rfl,rfl⟩:=H5 hr
  exact h
 | .need c t,h,hr=>by
  obtain ⟨h0,hr⟩:=B4 hr
  exact res (h h0) hr
 | .split c a b,h,hr=>by
  rcases Gn hr with ⟨h0,hr⟩ | ⟨h0,hr⟩
  ·exact res (h.1 h0) hr
  ·exact res (h.2 h0) hr
theorem xf (szs:List Nat) (C₀:Cfg) {g:Nat} (pf:List PV->Tr) {ss:List (List Nat)} {l:List (Nat × (List PV->Tr))} {lo:List Nat} (hl:C₀.X=KX l) (hx:K8 C₀.P C₀.G l) (ho:C₀.okf=okL lo) (hb:VW C₀ lo=true) (hm:C₀.P.follows .mixedOrders=true)
  (h:∀ args,(pf args).Good szs args (evC C₀ 1 Unit noY g args [] ())) (h2:C₀.Y=Gl []:=by rfl) (h3:C₀.S=Gl []:=by rfl) (h4:C₀.Z=Gl []:=by rfl):B1 C₀.P C₀.G g (λargs=>pf (C7 ss args)):=
 B1.fix ss (L8 szs (K8.ok hl hx h2 h3 h4) (F2 ho hb) hm λargs ret Hc hr=>by
  obtain ⟨q1,q2,q3,r,H0,q4,q5⟩:=(h args).res hr
  exact ⟨q1,q2,q3,1,r,H0,q4,q5⟩)
end
section
open Go
def UP (n:Nat) (ret:PV) (H:List Blk):Bool:=ret.nms.all (Nat.blt · n)&&H.all λb=>b.nms.all (Nat.blt · n)
theorem Ao.head {C:Cfg} {σ:Type} {I:σ->(Nat->Prop)->(Nat->Prop)->World->Prop} {Γ:Ctx} {H Hc T:List Blk} {w w':World} {Φ:Nat->Prop} {s':σ} {ret:PV} {V:Value}
  (h:Ao C I Γ H w Φ ret (Hc++T) s' V w') (hl:H.length<=Hc.length) (hok:UP Hc.length ret Hc=true):Ao C I Γ H w Φ ret Hc s' V w':=by
 obtain ⟨Γ1,Φ1,hs,hH1,hv,hvn,hi1,hd1⟩:=h
 simp only [UP,Bool.and_eq_true,List.all_eq_true,Nat.blt_eq] at hok
 let Γ2:Ctx:={ Γ1 with nm:=λb=>if b<Hc.length then Γ1.nm b else none }
 have hnm:∀ b g,Γ2.nm b=some g->b<Hc.length/\Γ1.nm b=some g:=λb g h=>by grind
 have get:∀ b (h:b<Hc.length) (h':b<(Hc++T).length),(Hc++T)[b]=Hc[b]:=λb h h'=>List.getElem_append_left h
 have shp:∀ b,b<Hc.length->A3 Hc b=A3 (Hc++T) b:=λb hb=>by
  simp only [A3]
  grind
 have M:T8 Γ1 (A3 (Hc++T)) w' Γ2 (A3 Hc) w' (· < Hc.length):=⟨λ_ _=>rfl,λ_ h=>h,λb hb=>by simp only [Γ2];rw [if_pos hb],λb hb=>shp b hb,λ_ _ _ _=>rfl,rfl⟩
 refine ⟨Γ2,Φ1,⟨hs.os,hs.tape,hs.output,hs.size,hs.sub,hs.stnew,λb g h=>hs.own b g (hnm b g h).2,hs.foot,hs.frame,hs.yv,hl,λb hb hf=>?_⟩,
  ⟨λb b' g h1 h2=>hH1.inj b b' g (hnm b g h1).2 (hnm b' g h2).2,λb g h=>by have:=hH1.lt b g (hnm b g h).2;exact ⟨(hnm b g h).1,this.2⟩,hH1.stlt,λb hb c hc=>hok.2 _ (List.getElem_mem hb) c hc,λb hb=>?_⟩,
  hv.mono M (λb hb=>hok.1 b hb),λc hc=>hok.1 c hc,hi1,λb g h=>hd1 b g (hnm b g h).2⟩
 ·obtain ⟨m1,m2,m3⟩:=hs.keep b hb hf
  have hb2:b<Hc.length:=Nat.lt_of_lt_of_le hb hl
  exact ⟨by simp only [Γ2];rw [if_pos hb2];exact m1,by rw [shp b hb2];exact m2,m3⟩
 ·have hb':b<(Hc++T).length:=by rw [List.length_append];omega
  have:=hH1.blk b hb'
  rw [get b hb hb'] at this
  exact this.mono M (M.nm b hb) (λ_ _=>rfl) (λc hc=>hok.2 _ (List.getElem_mem hb) c hc)
theorem Ca {C₀:Cfg} {g:Nat} {pf:List PV->List Blk->Tr} (hX:XOK C₀) (hO:Fq C₀) (hm:C₀.P.follows .mixedOrders=true)
  (h:∀ args H ret Hc,J1 (pf args H)=some (ret,Hc)->Nat.ble H.length Hc.length=true/\UP Hc.length ret Hc=true/\∀ (σ:Type) (yh:Yh σ) (s:σ),∃ d H0,evC C₀ d σ yh g args H s=some (ret,H0,s)/\H0.take Hc.length=Hc):Ti C₀.P C₀.G g pf:=by
 intro C hP hG σ I yh yv hI hy args H s ret Hc hpf Γ Φ w Vs hyv hH hg hi hd hc hn
 obtain ⟨hl,hok,h1⟩:=h args H ret Hc hpf
 obtain ⟨d,H0,hev,ht⟩:=h1 σ yh s
 rw [<-List.take_append_drop Hc.length H0,ht] at hev
 refine (Ga hX hO hm d σ I yh yv hI hy g args H s ret (Hc++H0.drop Hc.length) s hev Γ Φ w Vs hyv hH (hg.congr hG.symm) hi hd hc hn).mono ?_
 rintro V w' hr
 obtain ⟨Γ1,Φ1,hs,k1,k2,k3,k4,k5⟩:=hr.head (Nat.le_of_ble_eq_true hl) hok
 exact ⟨Γ1,Φ1,hs.congr hP.symm,k1,k2,k3,k4,k5⟩
def PV.snapQ (szc:List Nat) (H:List Blk):PV->PV
 | .ptr b 0 0=>match H[b]? with
  | some (.box cells)=>match Jv (Iy szc (I9 H cells)) with
   | some vs=>.s (.sp [vs] 0 0)
   | none=>.bad
  | _=>.bad
 | v=>v.snap H
def PV.stabQ (szs szc:List Nat) (H:List Blk):PV->PV
 | .tup l=>.tup (Iy szs (l.map (PV.snapQ szc H)))
 | v=>Se (szs.headD 0) (v.snapQ szc H)
theorem VP.snapQ {Γ:Ctx} {H:List Blk} {w:World} (szc:List Nat) (hH:HR Γ H w) {v:PV} {V:Value} (h:VP Γ (A3 H) w v V):VP Γ.all (A3 H) w (v.snapQ szc H) V:=by
 unfold PV.snapQ
 split
 ·rename_i b
  split
  ·rename_i cells hb
   split
   ·rename_i vs hvs
    obtain ⟨g,cur,e,hg,hh,hcur,hcells,_⟩:=hH.box' hb
    have hV:V = .pointer (some ⟨g,0,none⟩):=by
     cases h with
     | ptrA _ _ _ g' v e sz n h' hg'=>simp [A3,hb,Blk.shp] at h'
     | ptrB _ _ g' h' hg'=>rw [hg] at hg';cases hg';rfl
    subst hV
    have hl:(Iy szc (I9 H cells)).length=cells.length:=by rw [Gc,U1,List.length_map]
    obtain ⟨f1,f2⟩:=T4 (Γ:=Γ.all) (w:=w) (sh:=A3 H) (As:=cur.toList) hvs (by rw [hl];simpa using hcur.symm) (λj hj=>by
     obtain ⟨U,e1,k⟩:=hcells j (by omega)
     have hj':j<(I9 H cells).length:=by rw [U1,List.length_map];omega
     obtain ⟨n,en⟩:=Iz szc (I9 H cells) j hj' hj
     refine ⟨U,by simpa using e1,?_⟩
     rw [en]
     have e2:(I9 H cells)[j]=(cells[j]'(by omega)).snap H:=by simp only [U1,List.getElem_map]
     rw [e2]
     exact Gy (k.snap hH))
    refine .s _ _ ?_
    have hvl:vs.length=cells.length:=by rw [f1];simpa using hcur
    have:=VS.sp (St:=Γ.all.St) (w:=w) [vs] 0 0 g 0 vs.length (λ_ j=>cur.getD j undef) (.inr ⟨b,hg⟩) (λi hi=>by
      have:i=0:=by simpa using hi
      subst this;rfl) (λi hi j hj=>?_) (λi hi j hj=>?_)
    ·simpa using this
    ·have:i=0:=by simpa using hi
     subst this
     have hj':j<cur.size:=by rw [hcur,<-hvl];exact hj
     simp [World.cell?,hh,hj']
    ·have:i=0:=by simpa using hi
     subst this
     have hj1:j<vs.length:=hj
     obtain ⟨U,e1,k⟩:=f2 j hj1
     have e3:cur.getD j undef=U:=by rw [Array.getD_eq_getD_getElem?,<-Array.getElem?_toList,e1];rfl
     rw [e3]
     exact k
   ·exact .bad _
  ·exact .bad _
 ·exact h.snap hH
theorem VP.stabQ {Γ:Ctx} {H:List Blk} {w:World} (szs szc:List Nat) (hH:HR Γ H w) {v:PV} {V:Value} (h:VP Γ (A3 H) w v V):VP Γ.all (A3 H) w (v.stabQ szs szc H) V:=by
 unfold PV.stabQ
 split
 ·rename_i l
  obtain ⟨A,rfl,hA,hc⟩:=h.inv_tup
  have hl:(Iy szs (l.map (PV.snapQ szc H))).length=l.length:=by rw [Gc,List.length_map]
  refine VP.mk_tup (by rw [hl];exact hA) λj hj=>?_
  obtain ⟨U,e,k⟩:=hc j (by omega)
  refine ⟨U,e,?_⟩
  obtain ⟨n,en⟩:=Iz szs (l.map (PV.snapQ szc H)) j (by rw [List.length_map];omega) hj
  rw [en,List.getElem_map]
  exact Gy (k.snapQ szc hH)
 ·exact Gy (h.snapQ szc hH)
theorem Dw (szs szc:List Nat) {C₀:Cfg} {g:Nat} {pf:List PV->Tr} (hX:XOK C₀) (hO:Fq C₀) (hm:C₀.P.follows .mixedOrders=true)
  (h:∀ args ret Hc,J1 (pf args)=some (ret,Hc)->B7 args=[]/\Hc=[]/\ret.nms=[]/\∃ d ret' H0,evC C₀ d Unit noY g args [] ()=some (ret',H0,())/\ret'.stabQ szs szc H0=ret):B1 C₀.P C₀.G g pf:=
 AL (λH v=>v.stabQ szs szc H) (λhH _ _ h=>h.stabQ szs szc hH) hX hO hm h
def orT:Tr->Tr->Tr
 | .fail,t=>t
 | t,_=>t
theorem Uz {P:Program} {G:GT} {g:Nat} {p q:List PV->Tr} (h:B1 P G g p) (k:B1 P G g q):B1 P G g λa=>orT (p a) (q a):=by
 intro args ret Hc hr
 dsimp only at hr
 cases e:p args with
 | fail=>rw [e] at hr;exact k args ret Hc hr
 | _=>rw [e] at hr;exact h args ret Hc (by rw [e];exact hr)
def Xj (P:Program):List (Nat × (SV->List (List SV)->Bool × List (List SV)))->Prop
 | []=>True
 | (g,pf)::r=>LU P g pf/\Xj P r
theorem Xj.mem {P:Program}:∀ {l:List (Nat × (SV->List (List SV)->Bool × List (List SV)))} {g:Nat} {pf:SV->List (List SV)->Bool × List (List SV)},Xj P l->(g,pf)∈l->LU P g pf
 | [],_,_,_,hm=>by simp at hm
 | (n,q)::r,g,pf,h,hm=>by
  rcases List.mem_cons.1 hm with e | hm
  ·cases e;exact h.1
  ·exact Xj.mem h.2 hm
theorem Bu5 {C:Cfg} {lx:List (Nat × (List PV->Tr))} {ly:List (Nat × (List PV->List Blk->Tr))} {ls:List (Nat × (List PV->List Blk->Option (Bool × List (List PV))))} {lz:List (Nat × (SV->List (List SV)->Bool × List (List SV)))} (h1:C.X=KX lx) (h2:C.Y=Gl ly) (h3:C.S=Gl ls) (h4:C.Z=Gl lz) (x:K8 C.P C.G lx) (y:Ey C.P C.G ly) (s:Ev C.P C.G ls) (z:Xj C.P lz):XOK C:=
 ⟨K8.x1 h1 x,Ey.ok h2 y,Ev.ok h3 s,λg pf h=>by rw [h4] at h;exact z.mem (Qd h)⟩
def Rc:List Int:=(List.range 32).map λi=>((if i % 2=0 then Lib.accLo (i / 2) else Lib.accHi (i / 2):Nat):Int)
def GX:GT:=⟨λg=>cond (Nat.beq g 1) (some (.u8,Lib.firstTab)) (cond (Nat.beq g 2) (some (.u8,Rc)) none),λg=>Nat.beq g 0⟩
def B53:List (Nat × Nat × Nat × Nat)->Nat->Nat->Nat × Nat
 | [],_,_=>(0,0)
 | (t,j,e,k)::r,t',j'=>cond (Nat.beq t t'&&Nat.beq j j') (e,k) (B53 r t' j')
def Bu0:List (Nat × Nat)->Nat->Option Nat
 | [],_=>none
 | (a,b)::r,i=>cond (Nat.beq a i) (some b) (Bu0 r i)
noncomputable def B8 (lf:Nat) (okf:List Nat) (keep:Nat->Option (List Nat)) (X:List (Nat × (List PV->Tr))) (keepR:Nat->Option (List Nat):=λ_=>none) (xp:List Nat:=[]) (keepE:Nat->Option (List Nat):=λ_=>none) (keepT:Option (List Nat):=none) (Y:List (Nat × (List PV->List Blk->Tr)):=[]) (S:List (Nat × (List PV->List Blk->Option (Bool × List (List PV)))):=[]) (lend:List Nat:=[]) (nt:List (Nat × Nat × Nat × Nat):=[]) (rw:List (Nat × Nat):=[]) (Z:List (Nat × (SV->List (List SV)->Bool × List (List SV))):=[]) (fr:List (Nat × List Nat × List Nat):=[]):Cfg:=
 { P:=Tryz.prog,G:=GX,X:=KX X,lend:=okL lend,okf:=okL okf,lf:=lf,keep:=keep,keepR:=keepR,xp:=okL xp,keepE:=keepE,keepT:=keepT,Y:=Gl Y,S:=Gl S,nilT:=B53 nt,rowR:=Bu0 rw,Z:=Gl Z,farR:=A4 fr }
theorem follows:Tryz.prog.follows .mixedOrders=true:=by kernel_rfl
theorem An3 {n:Nat}:G0 n=true↔n<=68719476736:=by simp [G0]
theorem G2 {n:Nat} (h:n<=68719476736):G0 n=true:=An3.2 h
theorem C6 {a b:Int} (h:a<b):ltI a b=true:=by rw [R5];simpa using h
theorem E9 {a b:Int} (h:b<=a):ltI a b=false:=by rw [R5];simpa using h
theorem Ad0 {a b:Int}:ltI a b=true↔a<b:=by rw [R5];simp
theorem E7 {n:Int} (h0:-9223372036854775808<=n) (h1:n<9223372036854775808):A2 n=n:=Bq6 n h0 h1
theorem Af4 {n:Int} (h0:0<=n) (h1:n<18446744073709551616):Aq0 n=n:=by
 obtain ⟨m,rfl⟩:=Int.eq_ofNat_of_zero_le h0
 unfold Aq0;rw [Bq9,Nat.mod_eq_of_lt (by omega)]
theorem Br1 {n:Int} (h0:0<=n) (h1:n<4294967296):B62 n=n:=by
 obtain ⟨m,rfl⟩:=Int.eq_ofNat_of_zero_le h0
 unfold B62;rw [Bq8,Nat.mod_eq_of_lt (by omega)]
theorem Br0 {n:Int} (h0:0<=n) (h1:n<65536):A90 n=n:=by
 obtain ⟨m,rfl⟩:=Int.eq_ofNat_of_zero_le h0
 unfold A90;rw [Bq7,Nat.mod_eq_of_lt (by omega)]
theorem A91 {n:Int} (h0:0<=n) (h1:n<256):wu8 n=n:=by
 obtain ⟨m,rfl⟩:=Int.eq_ofNat_of_zero_le h0
 unfold wu8;rw [Bz6,Nat.mod_eq_of_lt (by omega)]
theorem A9 {a b:Int} (h:a<b:=by omega):ltI a b=true:=C6 h
theorem A7 {a b:Int} (h:b<=a:=by omega):ltI a b=false:=E9 h
theorem A5 {n:Int} (h:-9223372036854775808<=n:=by omega) (g:n<9223372036854775808:=by omega):A2 n=n:=E7 h g
theorem Z3 {n:Int} (h:0<=n:=by omega) (g:n<256:=by omega):wu8 n=n:=A91 h g
theorem Ge {α:Sort _} {c:Prop} [Decidable c] {a b:α} (h:c:=by omega):(if c then a else b)=a:=if_pos h
theorem G7 {α:Sort _} {c:Prop} [Decidable c] {a b:α} (h:¬c:=by omega):(if c then a else b)=b:=if_neg h
theorem Bp4 (k:IntKind) (a m:Nat) (h:m<=k.bits):Ao5 k (a:Int) (m:Int)=((a / 2 ^ m:Nat):Int):=by
 unfold Ao5
 rw [Int.toNat_natCast,Nat.min_eq_left h]
 have:(2:Int) ^ m=((2 ^ m:Nat):Int):=by simp
 rw [this,Az7]
theorem V2 {l h:Int} {n:Nat} (h0:0<=l) (h1:l<=h) (h2:h<=n):P2 l h n=true:=by simp [P2,h0,h1,h2]
theorem K5 {i:Int} {n:Nat} (h0:0<=i) (h1:i<n):inR i n=true:=by simp [inR,h0,h1]
theorem Q5 {l h:Int} {n:Nat} (h0:0<=l:=by omega) (h1:l<=h:=by omega) (h2:h<=n:=by omega):P2 l h n=true:=V2 h0 h1 h2
theorem L5 {i:Int} {n:Nat} (h0:0<=i:=by omega) (h1:i<n:=by omega):inR i n=true:=K5 h0 h1
end
section
open Go Go.Proofs
def Vz (r:Option (PV × List Blk × Unit)):Bool:=match r with
 | some (.s (.bool true),_,_)=>true
 | _=>false
theorem KK {r:Option (PV × List Blk × Unit)} (h:Vz r=true):∃ H,r=some (.s (.bool true),H,()):=by
 unfold Vz at h
 split at h
 ·exact ⟨_,rfl⟩
 ·cases h
theorem ZL {C₀:Cfg} {g d:Nat} (hX:XOK C₀) (hO:Fq C₀) (hm:C₀.P.follows .mixedOrders=true) (h:Vz (evC C₀ d Unit noY g [] [] ())=true):B1 C₀.P C₀.G g (λargs=>match args with | []=>.ret (.s (.bool true)) [] | _=>.fail):=
 LD hX hO hm λargs ret Hc hr=>by
  cases args with
  | nil=>
   obtain ⟨rfl,rfl⟩:=H5 hr
   obtain ⟨H,e⟩:=KK h
   exact ⟨rfl,rfl,rfl,d,_,H,e,rfl⟩
  | cons a r=>cases hr
theorem IA {P:Program} {t:Nat} {v:PV} {ty:Ty} (h:Na P t v) (e:Bi P 20 t=some [ty]) (ha:Io P t=false):∃ x,v = .s x/\ty.of x:=by
 obtain ⟨tys,l,h1,h2,h3⟩:=h
 rw [e] at h1
 simp only [Option.some.injEq] at h1
 subst h1
 rcases h3 with ⟨h3,_⟩ | ⟨_,x,rfl,rfl⟩
 ·rw [ha] at h3;cases h3
 ·simp only [Ty.ofL] at h2
  obtain ⟨v,q,h4,h5,rfl⟩:=h2
  simp only [List.cons.injEq,and_true] at h4
  subst h4
  exact ⟨_,rfl,h5⟩
theorem Bb9 {P:Program} {t:Nat} {v:PV} {k:IntKind} (h:Na P t v) (e:Bi P 20 t=some [.int k]) (ha:Io P t=false):∃ n,v = .s (.int k n)/\k.min<=n/\n<=k.max:=by
 obtain ⟨x,rfl,n,rfl,h1,h2⟩:=IA h e ha
 exact ⟨n,rfl,h1,h2⟩
end
section
open Go
def J0 (l:List By):LL:=l.map λs=>[SV.str s]
def B78 (l:List Nat):LL:=l.map λn=>[SV.int .u16 (Int.ofNat n)]
def G1 (c:UInt8):By->By->List By
 | acc,[]=>[acc]
 | acc,b::r=>if b=c then acc::G1 c [] r else G1 c (acc++[b]) r
def pcs (c:UInt8) (s:By):List By:=G1 c [] s
theorem Es (c:UInt8):∀ (s acc:By),(G1 c acc s).length=s.count c+1
 | [],acc=>rfl
 | b::r,acc=>by
  simp only [G1,List.count_cons]
  by_cases h:b=c
  ·simp [h,Es c r]
  ·simp [h,Es c r]
theorem Bv (c:UInt8):∀ (s acc:By),c∉s->G1 c acc s=[acc++s]
 | [],acc,_=>by simp [G1]
 | b::r,acc,h=>by
  simp only [List.mem_cons,not_or] at h
  simp only [G1]
  rw [if_neg (λe=>h.1 e.symm),Bv c r _ h.2]
  simp
theorem Up (c:UInt8):∀ (p acc s:By),c∉p->G1 c acc (p++c::s)=(acc++p)::G1 c [] s
 | [],acc,s,_=>by simp [G1]
 | b::r,acc,s,h=>by
  simp only [List.mem_cons,not_or] at h
  simp only [List.cons_append,G1]
  rw [if_neg (λe=>h.1 e.symm),Up c r _ s h.2]
  simp
theorem YW (c:UInt8) (s acc:By):G1 c acc s≠[]:=by
 intro h
 have:=Es c s acc
 rw [h] at this
 simp at this
theorem Ju (c:UInt8):∀ (s acc:By),c∉acc->∀ x∈G1 c acc s,c∉x/\x.length<=acc.length+s.length
 | [],acc,h,x,hx=>by
  simp only [G1,List.mem_singleton] at hx
  subst hx
  exact ⟨h,by simp⟩
 | b::r,acc,h,x,hx=>by
  simp only [G1] at hx
  split at hx
  ·rcases List.mem_cons.1 hx with rfl | hx
   ·exact ⟨h,by simp⟩
   ·have:=Ju c r [] (by simp) x hx
    refine ⟨this.1,?_⟩
    have:=this.2
    simp at this ⊢
    omega
  ·rename_i hb
   have:=Ju c r (acc++[b]) (by simp [h,Ne.symm hb]) x hx
   refine ⟨this.1,?_⟩
   have:=this.2
   simp at this ⊢
   omega
def VH (b:UInt8):UInt8:=if 65<=b/\b<=90 then b+32 else b
def Z1 (s:By):By:=s.map VH
def dig (b:UInt8):Nat:=
 if 48<=b.toNat/\b.toNat<=57 then b.toNat-48 else if 97<=b.toNat/\b.toNat<=102 then b.toNat-87 else if 65<=b.toNat/\b.toNat<=70 then b.toNat-55 else 99
def Fj:Nat:=1099511627776
def D9 (base:Nat):Nat->By->Option Nat
 | n,[]=>some n
 | n,b::r=>if dig b<base then D9 base (min (n*base+dig b) Fj) r else none
def X6 (s:By):Bool:=s.getD 0 0==48&&(s.getD 1 0==120 || s.getD 1 0==88)
def Z0 (s:By):Option Nat:=
 if s=[] then none else if X6 s then D9 16 0 (s.drop 2) else if 1<s.length/\s.getD 0 0=48 then D9 8 0 (s.drop 1) else D9 10 0 s
def D8 (s:By):List By:=if 1<(pcs 46 s).length/\(pcs 46 s).getLastD []=[] then (pcs 46 s).dropLast else pcs 46 s
def Bf (s:By):By:=(D8 s).getLastD []
def O2 (s:By):Bool:=if X6 (Bf s) then (D9 16 0 ((Bf s).drop 2)).isSome else !(Bf s).isEmpty&&(D9 10 0 (Bf s)).isSome
def By1 (free:Nat):Nat->List By->Option Nat
 | _,[]=>none
 | v,p::r=>match Z0 p with
  | none=>none
  | some n=>match r with
   | []=>if n<2 ^ free then some (v*2 ^ free+n) else none
   | r=>if n<=255 then By1 free (v*256+n) r else none
def oct (s:By):Option Nat:=match D9 10 0 s with
 | some n=>if n<=255/\Lib.decDigits n=s then some n else none
 | none=>none
def B54:Nat->List By->Option Nat
 | v,[]=>some v
 | v,p::r=>match oct p with
  | some n=>B54 (v*256+n) r
  | none=>none
def v4B (s:By):Option Nat:=if (pcs 46 s).length=4 then B54 0 (pcs 46 s) else none
def B59 (v:Nat):By:=Lib.decDigits (v / 16777216)++46::(Lib.decDigits (v / 65536 % 256)++46::(Lib.decDigits (v / 256 % 256)++46::Lib.decDigits (v % 256)))
def Bt8:Nat->By->Option Nat
 | n,[]=>some n
 | n,b::r=>if dig b<16 then Bt8 (n*16+dig b) r else none
def grp (s:By):Option Nat:=if s=[]\/4<s.length then none else Bt8 0 s
def B46 (last:Bool):List By->Option (List Nat)
 | []=>some []
 | x::r=>match grp x with
  | some v=>(B46 last r).map (v::·)
  | none=>match v4B x with
   | some v=>if last=true/\r=[] then some [v / 65536,v % 65536] else none
   | none=>none
def Bt9 (s:By) (last:Bool):Option (List Nat):=if s=[] then some [] else B46 last (pcs 58 s)
def B56 (l:List Nat):Nat:=(l.takeWhile (· == 0)).length
def zGo:List Nat->Nat->Nat->Nat->Nat × Nat
 | [],_,z,m=>(z,m)
 | x::r,i,z,m=>if m<B56 (x::r) then zGo r (i+1) i (B56 (x::r)) else zGo r (i+1) z m
def B48 (n:Nat):UInt8:=if n<10 then UInt8.ofNat (48+n) else UInt8.ofNat (87+n)
def Bw5 (v:Nat):By:=if h:v<16 then [B48 v] else Bw5 (v / 16)++[B48 (v % 16)]
 termination_by v
 decreasing_by omega
def B50 (l:List Nat):By:=Lib.join (l.map Bw5) [58]
def R0 (n:Nat):Bool:=Nat.ble n 1114111&&(Nat.blt n 55296 || Nat.blt 57343 n)
def Rd (d k:Nat):Nat:=if h:455<d then Rd (d / 35) (k+36) else k+36*d / (d+38)
 termination_by d
 decreasing_by omega
def M0 (delta count:Nat) (first:Bool):Nat:=
 let d:=if first then delta / 700 else delta / 2
 Rd (d+d / count) 0
def thr (k bias:Nat):Nat:=max 1 (min 26 (36*(k+1)-bias))
theorem Q1 (k bias:Nat):1<=thr k bias/\thr k bias<=26:=by unfold thr;omega
def U0 (d:Nat):UInt8:=if d<26 then UInt8.ofNat (97+d) else UInt8.ofNat (22+d)
def Ic (b:UInt8):Option Nat:=
 if 97<=b.toNat/\b.toNat<=122 then some (b.toNat-97) else if 65<=b.toNat/\b.toNat<=90 then some (b.toNat-65) else if 48<=b.toNat/\b.toNat<=57 then some (b.toNat-22) else none
def L4 (q k bias:Nat):By:=
 if h:q<thr k bias then [U0 q] else U0 (thr k bias+(q-thr k bias) % (36-thr k bias))::L4 ((q-thr k bias) / (36-thr k bias)) (k+1) bias
 termination_by q
 decreasing_by
  have:=Q1 k bias
  exact Nat.lt_of_le_of_lt (Nat.div_le_self _ _) (by omega)
structure LH where
 delta:Nat
 bias:Nat
 done:Nat
 out:By
def F8 (n basic:Nat):List Nat->LH->LH
 | [],s=>s
 | p::r,s=>if p<n then F8 n basic r { s with delta:=s.delta+1 }
  else if p=n then F8 n basic r { delta:=0,bias:=M0 s.delta (s.done+1) (s.done==basic),done:=s.done+1,out:=s.out++L4 s.delta 0 s.bias }
  else F8 n basic r s
def G9 (n:Nat):List Nat->Nat->Nat
 | [],m=>m
 | p::r,m=>G9 n r (if n<=p then min m p else m)
def T6 (pts:List Nat) (basic:Nat):Nat->Nat->LH->LH
 | 0,_,s=>s
 | f+1,n,s=>if s.done<pts.length then
   let m:=G9 n pts 1114112
   let s':=F8 m basic pts { s with delta:=s.delta+(m-n)*(s.done+1) }
   T6 pts basic f (m+1) { s' with delta:=s'.delta+1 }
  else s
def F6 (pts:List Nat):By:=(pts.filter (· < 128)).map UInt8.ofNat
def Gx (pts:List Nat):By × Nat:=
 if 256<pts.length then ([],3) else if !(pts.all R0) then ([],2)
 else ((T6 pts (F6 pts).length 256 128 { delta:=0,bias:=72,done:=(F6 pts).length,out:=if (F6 pts).isEmpty then [] else F6 pts++[45] }).out,0)
def C2 (bias:Nat):By->Nat->Nat->Nat->Nat × By × Nat
 | [],i,w,k=>(0,[],4)
 | b::r,i,w,k=>match Ic b with
  | none=>(0,[],4)
  | some x=>if Fj<i+x*w then (0,[],19) else if x<thr k bias then (i+x*w,r,0)
   else if Fj<w*(36-thr k bias) then (0,[],19) else C2 bias r (i+x*w) (w*(36-thr k bias)) (k+1)
theorem Kg (bias:Nat):∀ (s:By) (i w k:Nat),(C2 bias s i w k).2.2=0->(C2 bias s i w k).2.1.length<s.length
 | [],i,w,k,h=>by simp [C2] at h
 | b::r,i,w,k,h=>by
  unfold C2 at h ⊢
  cases hv:Ic b with
  | none=>simp [hv] at h
  | some x=>
   simp only [hv] at h ⊢
   split at h
   ·simp at h
   ·rename_i h1
    rw [if_neg h1]
    split at h
    ·rename_i h2
     rw [if_pos h2]
     simp
    ·rename_i h2
     rw [if_neg h2]
     split at h
     ·simp at h
     ·rename_i h3
      rw [if_neg h3]
      have:=Kg bias r _ _ _ h
      simp only [List.length_cons]
      omega
def P6 (l:List Nat) (i n:Nat):List Nat:=l.take i++n::l.drop i
def F0 (s:By) (pts:List Nat) (n i bias:Nat) (first:Bool):List Nat × Nat:=
 if hs:s=[] then (pts,0) else
  let q:=C2 bias s i 1 0
  if hq:q.2.2=0 then
   let count:=pts.length+1
   let n':=n+q.1 / count
   if R0 n' then (if 256<count then ([],3) else F0 q.2.1 (P6 pts (q.1 % count) n') n' (q.1 % count+1) (M0 (q.1-i) count first) false)
   else ([],2)
  else ([],q.2.2)
 termination_by s.length
 decreasing_by exact Kg bias s i 1 0 hq
def E3:By->Nat
 | []=>0
 | b::r=>if 45∈r then E3 r+1 else 0
def J8 (s:By):List Nat × Nat:=
 if 1024<s.length then ([],3) else if s.any (λb=>Nat.ble 128 b.toNat) then ([],4)
 else if 256<E3 s then ([],3)
 else F0 (if E3 s=0 then s else s.drop (E3 s+1)) ((s.take (E3 s)).map (·.toNat)) 128 0 72 true
def Ui:Nat->By->Option (List Nat)
 | 0,_=>some []
 | f+1,l=>if l=[] then some [] else if (Lib.decodeL l).1=65533/\(Lib.decodeL l).2=1 then none else (Ui f (l.drop (Lib.decodeL l).2)).map ((Lib.decodeL l).1::·)
def Sv (s:By):Option (List Nat):=Ui s.length s
def Al (s:By):Bool:=
 (J8 s).2==0 && !((J8 s).1.any λp=>Nat.ble 65 p&&Nat.ble p 90)&&((J8 s).1.any λp=>Nat.ble 128 p)&&(Gx (J8 s).1).2==0&&(Gx (J8 s).1).1==s
def Q9 (b:UInt8):Bool:=(Nat.ble 97 b.toNat&&Nat.ble b.toNat 122) || (Nat.ble 48 b.toNat&&Nat.ble b.toNat 57) || b==45 || b==95
def xnB:By:=[120,110,45,45]
def P3 (s:By):Bool:=
 !s.isEmpty&&Nat.ble s.length 63&&s.getD 0 0 != 45&&s.getD (s.length-1) 0 != 45&&s.all Q9&&(!(xnB.isPrefixOf s) || Al (s.drop 4))
def Bu3 (s:By):By × Nat:=match Sv s with
 | none=>([],4)
 | some p=>if 256<p.length then ([],3)
  else if p.length<s.length then (match Sv (Z1 s) with
   | none=>([],14)
   | some q=>if (Gx q).2=0 then (if P3 (xnB++(Gx q).1) then (xnB++(Gx q).1,0) else ([],14)) else ([],14))
  else if P3 (Z1 s) then (Z1 s,0) else ([],14)
structure LI where
 kind:Nat
 name:By
 v4:Nat
 v6:List Nat
 deriving DecidableEq
def z8:List Nat:=[0,0,0,0,0,0,0,0]
def C5 (s:By):Bool:=Nat.ble s.length 253 && !(O2 s)&&(pcs 46 s).all P3
def M8 (h:LI):Bool:=
 if h.kind=1 then C5 h.name&&h.v4==0&&h.v6==z8 else if h.kind=2 then h.name.isEmpty&&h.v6==z8 else if h.kind=3 then h.name.isEmpty&&h.v4==0 else false
def Y6:List By->List By
 | []=>[]
 | [_]=>[]
 | _::r=>Lib.join r [46]::Y6 r
def E2 (s:By):List By:=if C5 s then Y6 (pcs 46 s) else []
def D2 (a b:By):Bool:=C5 a&&C5 b&&(a==b || (46::a).isSuffixOf b)
def A1 (n:Nat):Bool:=decide (n<=1000000000)
theorem EO {n:Nat}:A1 n=true↔n<=1000000000:=by simp [A1]
def isS:List SV->Bool | [.str _]=>true | _=>false
def elS (el:List SV):By:=(el.getD 0 .nilp).gS
def Jm (o:Option Nat):Nat:=o.getD 0
def u8n (c:Int):UInt8:=UInt8.ofNat c.toNat
def Ye (s p:By):By:=if p.isPrefixOf s then s.drop p.length else s
def ltN (v:Int) (n:Nat):Bool:=match v with
 | .ofNat m=>Nat.ble (m+1) n
 | .negSucc _=>false
theorem H7 {v:Int} {n:Nat}:ltN v n=true↔0<=v/\v<(n:Int):=by
 cases v with
 | ofNat m=>
  simp only [ltN,Nat.ble_eq,Int.ofNat_eq_natCast]
  omega
 | negSucc m=>
  refine ⟨λh=>(by cases h),λh=>?_⟩
  have:=Int.negSucc_lt_zero m
  omega
def Bx0 (n:Int):Bool:=ltN (n+9223372036854775808) 18446744073709551616
theorem A05 {n:Int}:Bx0 n=true↔-9223372036854775808<=n/\n<9223372036854775808:=by
 unfold Bx0
 rw [H7]
 constructor<;>rintro ⟨h1,h2⟩<;>constructor<;>omega
def Bt4 (b:Nat):List PV->Tr
 | [.s (.int .i64 n)]=>.need (ltN n b) (.ret (.s (.str (Lib.decDigits (Int.toNat n)))) [])
 | _=>.fail
def gvs (s:By) (last:Bool):List Nat:=(Bt9 s last).getD []
def n8 (a b c d e f g h:Int):List Nat:=[a.toNat,b.toNat,c.toNat,d.toNat,e.toNat,f.toNat,g.toNat,h.toNat]
def ok8 (a b c d e f g h:Int):Bool:=[a,b,c,d,e,f,g,h].all λx=>ltN x 65536
def B49:List SV->Bool | [.int .u16 n]=>ltN n 65536 | _=>false
def elN (el:List SV):Nat:=(el.getD 0 .nilp).gI.toNat
def ptI (n:Int):Bool:=match n with | .ofNat m=>R0 m | .negSucc _=>false
def C3 (b:UInt8):Int:=match Ic b with | some n=>n | none=>-1
def I5 (k b:Int):Int:=max 1 (min 26 (k+36-b))
def Ok:List SV->Bool | [.int .i64 _]=>true | _=>false
def elI (el:List SV):Int:=(el.getD 0 .nilp).gI
def Y9 (l:List Int):By × Nat:=if 256<l.length then ([],3) else if l.all ptI then Gx (l.map Int.toNat) else ([],2)
def O5 (b:Int):By->Int->Int->Int->Int × By × Int
 | [],i,w,k=>(4,[],i)
 | c::r,i,w,k=>if C3 c<0 then (4,c::r,i) else if 1099511627776<i+C3 c*w then (19,r,i+C3 c*w)
  else if C3 c<I5 k b then (0,r,i+C3 c*w) else if 1099511627776<w*(36-I5 k b) then (19,r,i+C3 c*w)
  else O5 b r (i+C3 c*w) (w*(36-I5 k b)) (k+36)
def Zd (b:Int) (s:By) (i:Int):Int:=(O5 b s i 1 0).1
def Ze (b:Int) (s:By) (i:Int):By:=(O5 b s i 1 0).2.1
def Ms (b:Int) (s:By) (i:Int):Int:=(O5 b s i 1 0).2.2
def Hb (l:List (List SV)) (i:Nat) (n:Int):List (List SV):=l.take i++[SV.int .i64 n]::l.drop i
structure DS where
 rest:By
 n:Int
 i:Int
 b:Int
 st:Bool
 l:List (List SV)
def D0 (s:DS):Int × DS:=
 if Zd s.b s.rest s.i=0 then
  let c:Int:=s.l.length+1
  let x:=Ms s.b s.rest s.i
  let d:DS:={ rest:=Ze s.b s.rest s.i,n:=s.n+Int.tdiv x c,i:=Int.tmod x c,b:=M0 (x-s.i).toNat c.toNat (!s.st),st:=true,l:=s.l }
  if ptI d.n then (if 256<c then (3,d) else (0,{ d with i:=d.i+1,l:=Hb s.l d.i.toNat d.n })) else (2,d)
 else (Zd s.b s.rest s.i,{ s with rest:=Ze s.b s.rest s.i,i:=Ms s.b s.rest s.i })
def G4 (c:UInt8):By->Int
 | []=>-1
 | b::r=>if G4 c r<0 then (if b=c then 0 else -1) else G4 c r+1
def Ss (l:List Nat):List (List SV):=l.map λx:Nat=>[SV.int .i64 (x:Int)]
def Bm0 (s:By):List Nat:=(Sv s).getD []
def Bf4 (b:UInt8):Int:=if dig b<16 then dig b else -1
def mkH (kd:Int) (nm:By) (v4:Int) (a:List Nat):LI:=⟨if ltN kd 4 then kd.toNat else 0,nm,v4.toNat,a⟩
attribute [simp] C6 E9 E7 Af4 Br1 Br0 A91 V2 K5 G2
attribute [simp] vl
@[simp] theorem K7 {n:Nat} (h:n<=1000000000):A1 n=true:=EO.2 h
@[simp] theorem Ad1 {v:Int} {n:Nat} (h:0<=v) (h1:v<n):ltN v n=true:=H7.2 ⟨h,h1⟩
theorem Ae9 {n:Nat} (h:n<=1000000000:=by omega):A1 n=true:=K7 h
theorem L6 {v:Int} {n:Nat} (h:0<=v:=by omega) (g:v<n:=by omega):ltN v n=true:=Ad1 h g
@[simp] theorem Bd4 {m n:Nat} (h:m+n<4611686018427387904):Ax0 m n=true:=by simp [Ax0,h]
abbrev rv (v:PV) (H:List Blk):Option (PV × List Blk × Unit):=some (v,H,())
theorem O0 {n:Nat} (h:A1 n=true):n<=1000000000:=EO.1 h
theorem L9 (s:By) (i:Nat) (h:i<s.length):s.drop i=s.getD i 0::s.drop (i+1):=by
 rw [List.getD_eq_getElem?_getD,List.getElem?_eq_getElem h,Option.getD_some,List.getElem_cons_drop]
theorem Ap2 (s:By) (i:Nat) (h:i<s.length):s.take (i+1)=s.take i++[s.getD i 0]:=by
 rw [List.take_add_one,List.getD_eq_getElem?_getD,List.getElem?_eq_getElem h]
 rfl
theorem VI (b:UInt8):(b.toNat<65/\VH b=b)\/(90<b.toNat/\VH b=b)\/(65<=b.toNat/\b.toNat<=90/\((VH b).toNat=b.toNat+32)):=by
 unfold VH
 by_cases h1:b.toNat<65
 ·refine .inl ⟨h1,if_neg ?_⟩
  intro h
  have:=UInt8.le_iff_toNat_le.1 h.1
  simp at this
  omega
 ·by_cases h2:90<b.toNat
  ·refine .inr (.inl ⟨h2,if_neg ?_⟩)
   intro h
   have:=UInt8.le_iff_toNat_le.1 h.2
   simp at this
   omega
  ·refine .inr (.inr ⟨by omega,by omega,?_⟩)
   rw [if_pos (by constructor<;>(rw [UInt8.le_iff_toNat_le];simp;omega)),UInt8.toNat_add]
   simp
   omega
@[simp] theorem M6 (s:By) (i:Nat):bAt s (i:Int)=((s.getD i 0).toNat:Int):=by simp [bAt]
@[simp] theorem Ip (s:By):bAt s 0=((s.getD 0 0).toNat:Int):=by simp [bAt]
@[simp] theorem Aa4 (s:By):bAt s 1=((s.getD 1 0).toNat:Int):=by simp [bAt]
theorem Nx {α:Type} (s:List α) (a b:Nat):cut s (a:Int) (b:Int)=(s.take b).drop a:=by simp [cut]
@[simp] theorem N1 {α:Type} (s:List α) (a:Int):cut s a (s.length:Int)=s.drop a.toNat:=by simp [cut]
@[simp] theorem Aq {α:Type} (s:List α) (b:Int):cut s 0 b=s.take b.toNat:=by simp [cut]
@[simp] theorem U2 (l:List By):(J0 l).length=l.length:=by simp [J0]
@[simp] theorem Kk (l:List By) (i:Nat):gX (J0 l) i 0=l.getD i []:=by
 unfold gX gC J0
 by_cases h:i<l.length
 ·simp [List.getD_eq_getElem?_getD,List.getElem?_eq_getElem h,SV.gS]
 ·simp [List.getD_eq_getElem?_getD,List.getElem?_eq_none (show l.length<=i by omega),SV.gS]
@[simp] theorem Gg {l:List By} {i:Nat} (h:i<l.length):okE Dy (J0 l) i 0=true:=by
 unfold okE J0
 simp [List.getD_eq_getElem?_getD,List.getElem?_eq_getElem h,h,Dy,okS,SV.has]
theorem AF (a b:List By):J0 (a++b)=J0 a++J0 b:=by simp [J0]
theorem We (b:UInt8):u8n (b.toNat:Int)=b:=by simp [u8n]
theorem A85 (b:UInt8):inR (b.toNat:Int) 256=true:=by
 have:=b.toNat_lt
 exact L5
theorem Bu4 {a b:UInt8}:((a.toNat:Int)==(b.toNat:Int))=(a==b):=by
 rw [Bool.eq_iff_iff]
 simp only [beq_iff_eq]
 constructor
 ·intro h;exact UInt8.toNat_inj.1 (by omega)
 ·intro h;rw [h]
theorem V3 (a:UInt8) (n:Nat) (h:n<256):((a.toNat:Int)==(n:Int))=(a==UInt8.ofNat n):=by
 rw [<-Bu4]
 simp [Nat.mod_eq_of_lt h]
theorem Hy (p s:By):p.isPrefixOf s=(decide (p.length<=s.length)&&(s.take p.length==p)):=by
 rw [Bool.eq_iff_iff]
 simp only [List.isPrefixOf_iff_prefix,Bool.and_eq_true,decide_eq_true_eq,beq_iff_eq]
 constructor
 ·intro h;exact ⟨h.length_le,(List.prefix_iff_eq_take.1 h).symm⟩
 ·rintro ⟨_,h⟩;exact List.prefix_iff_eq_take.2 h.symm
end
section
open Go Go.ChangeAt Go.ChangeShapes Go.Proofs Go.RowKit Go.WideShapes
set_option maxRecDepth 100000
theorem own:ownKnob Tryz.prog.godebug=none:=by kernel_rfl
theorem Bh4:laidOutB Tryz.prog=true:=by kernel_rfl
noncomputable def gTy (g:Nat):Nat:=match Tryz.prog.globals[g]? with | some x=>x.type | none=>0
noncomputable def HV:Nat:=gTy 2
noncomputable def Bg0:Nat:=gTy 1
noncomputable def HU:Nat:=match Tryz.prog.underlying HV with | some (.array _ e)=>e | _=>0
noncomputable def Rb:Array Field:=match Tryz.prog.underlying HU with | some (.struct fs)=>fs | _=>#[]
noncomputable def BJ:Field:=match Rb.toList with | a::_=>a | _=>default
noncomputable def BK:Field:=match Rb.toList with | _::a::_=>a | _=>default
theorem Bu9:Rb[0]? = some BJ:=by unfold BJ Rb HU HV gTy;kernel_rfl
theorem Bv0:Rb[1]? = some BK:=by unfold BK Rb HU HV gTy;kernel_rfl
def Eg:List (String × DataW Unit):=[("unicode/utf8.acceptRanges", Rows.laid_unicode_utf8_acceptRanges), ("unicode/utf8.first", Rows.laid_unicode_utf8_first)]
theorem EU {W:World} {n:String} {g:Nat} {cs:Array Value} (hg:Tryz.prog.globalNamed n=some g) (h:W.var? Tryz.prog n=some cs):∃ e x,W.heap[g]? = some (.cells cs e x):=by
 unfold World.var? at h
 rw [hg,Option.bind_some] at h
 split at h
 ·rename_i c e x hh
  simp only [Option.some.injEq] at h
  subst h
  exact ⟨e,x,hh⟩
 ·cases h
theorem Ap1 {W:World} {n:String} {g t e m:Nat} {k:IntKind} {zs:List Int} (hg:Tryz.prog.globalNamed n=some g) (hty:(Tryz.prog.globals[g]?).map (·.type)=some t) (ht:Tryz.prog.underlying t=some (.array m e)) (he:Tryz.prog.underlying e=some (.int k)) (hce:Tryz.prog.cellsOf e=1) (hct:Tryz.prog.cellsOf t=m)
  (h:Lib.VarReads Tryz.prog W n (Lib.tabData k zs)):∃ e x,W.heap[g]? = some (.cells (zs.map λz=>Value.int k z).toArray e x):=by
 obtain ⟨g',t',cs,fuel,p,h1,h2,h3,h4⟩:=h
 obtain rfl:=Option.some.inj (hg.symm.trans h1)
 obtain rfl:=Option.some.inj (hty.symm.trans h2)
 have hcs:=Lib.cells_of_tab ht he hce hct h4
 have:cs=(zs.map λz=>Value.int k z).toArray:=by rw [<-hcs]
 rw [this] at h3
 exact EU hg h3
theorem AH {H:Type} {enc:TypeId × Value->H} {P:Program} {w:World} {base:Nat} {sp:Nat->Bool} {held:Bool} {fuel:Nat} {t e:TypeId} {n:Nat} {cs:List Value} {d:DataW H} {p:List MemPlace} (ht:P.underlying t=some (.array n e))
  (h:DataW.trod enc P w base sp held fuel t cs=some (d,p)):cs.length=P.cellsOf t:=by
 cases fuel with
 | zero=>simp [DataW.trod] at h
 | succ fuel=>
  simp only [DataW.trod,ht] at h
  split at h
  ·rename_i hl
   simpa using hl
  ·cases h
theorem Ag1 {W:World} (hg : Tryz.prog.globalNamed "unicode/utf8.acceptRanges" = some 2) (h:Lib.VarReads Tryz.prog W "unicode/utf8.acceptRanges" Lib.acceptData) :
  ∃ e x,W.heap[2]? = some (.cells (Rc.map λz=>Value.int .u8 z).toArray e x):=by
 obtain ⟨g',t,cs,fuel,p,h1,h2,h3,h4⟩:=h
 obtain rfl:=Option.some.inj (hg.symm.trans h1)
 have hty:(Tryz.prog.globals[2]?).map (·.type)=some HV:=by unfold HV;kernel_rfl
 obtain rfl:=Option.some.inj (hty.symm.trans h2)
 have ht:Tryz.prog.underlying HV=some (.array 16 HU):=by unfold HV HU;kernel_rfl
 have hl:=AH ht h4
 have hct:Tryz.prog.cellsOf HV=32:=by unfold HV;kernel_rfl
 have hce:Tryz.prog.cellsOf HU=2:=by unfold HU;kernel_rfl
 have hu:∃ fs,Tryz.prog.underlying HU=some (.struct fs)/\fs.size=2/\∀ (i:Nat) (f:Field),fs[i]? = some f->Tryz.prog.underlying f.type=some (.int .u8)/\f.offset=i/\Tryz.prog.cellsOf f.type=1:=by
  refine ⟨Rb,by unfold HU Rb;kernel_rfl,by unfold Rb;kernel_rfl,λi f hf=>?_⟩
  have:i<2:=by
   have:=(Array.getElem?_eq_some_iff.1 hf).1
   rwa [show Rb.size=2 by unfold Rb;kernel_rfl] at this
  match i,this with
  | 0,_=>
   obtain rfl:=Option.some.inj (hf.symm.trans (show Rb[0]? = some BJ from Bu9))
   exact ⟨by unfold BJ;kernel_rfl,by unfold BJ;kernel_rfl,by unfold BJ;kernel_rfl⟩
  | 1,_=>
   obtain rfl:=Option.some.inj (hf.symm.trans (show Rb[1]? = some BK from Bv0))
   exact ⟨by unfold BK;kernel_rfl,by unfold BK;kernel_rfl,by unfold BK;kernel_rfl⟩
 obtain ⟨fs,hu1,hu2,hu3⟩:=hu
 have hcs:cs.toList=Rc.map λz=>Value.int .u8 z:=by
  have hlen:(Rc.map λz=>Value.int .u8 z).length=32:=by rw [List.length_map];rfl
  apply List.ext_getElem?
  intro q
  by_cases hq:q<32
  ·obtain ⟨fuel',d,q',hdi,he⟩:=Lib.array_elem ht h4 (q / 2) (by omega)
   simp only [List.getElem?_map,List.getElem?_range (show q / 2<16 by omega),Option.map_some,Option.some.injEq] at hdi
   subst hdi
   rw [hce] at he
   have hz:=Lib.ints_of_struct hu1 hu3 (by rw [hce,hu2]) he
   have e0:=congrArg (·[q % 2]?) hz
   simp only [List.getElem?_take,List.getElem?_drop] at e0
   rw [Ge,show q / 2*2+q % 2=q by omega] at e0
   rw [e0]
   unfold Rc
   have er:∀ g:Nat->Value,(List.map g (List.range 32))[q]? = some (g q):=λg=>by
    rw [List.getElem?_map,List.getElem?_range hq]
    rfl
   rw [List.map_map,er]
   rcases Nat.mod_two_eq_zero_or_one q with h2 | h2
   ·simp [h2]
   ·simp [h2]
  ·rw [List.getElem?_eq_none (by omega),List.getElem?_eq_none (by omega)]
 have:cs=(Rc.map λz=>Value.int .u8 z).toArray:=by rw [<-hcs]
 rw [this] at h3
 exact EU hg h3
theorem UO {C:Cfg} (hC:C.G=GX) {W:World} (hL:laidMet Tryz.prog Eg W) (hsh:W.ShapedOpen Tryz.prog):GOK C (· < W.heap.size) W:=by
 have lt:∀ {g:Nat} {o:Obj},W.heap[g]? = some o->g<W.heap.size:=λh=>(Array.getElem?_eq_some_iff.1 h).1
 have r3:Lib.VarReads Tryz.prog W "unicode/utf8.acceptRanges" Lib.acceptData:=Lib.laidMet.reads hL (by rw [show Lib.acceptData=Rows.laid_unicode_utf8_acceptRanges by kernel_rfl];simp [Eg])
 have r4:Lib.VarReads Tryz.prog W "unicode/utf8.first" (Lib.tabData .u8 Lib.firstTab):=Lib.laidMet.reads hL (by rw [show (Lib.tabData .u8 Lib.firstTab:DataW Unit)=Rows.laid_unicode_utf8_first by kernel_rfl];simp [Eg])
 have c3:=Ag1 (by kernel_rfl) r3
 have c4:=Ap1 (g:=1) (t:=Bg0) (e:=5) (m:=256) (by kernel_rfl) (by unfold Bg0;kernel_rfl) (by unfold Bg0;kernel_rfl) (by kernel_rfl) (by kernel_rfl) (by unfold Bg0;kernel_rfl) r4
 have c5:=cell_of_shapedOpen_int (k:=.i64) (g:=0) (t:=3) (zero:=#[.int .i64 0]) hsh (of_decide_eq_true (by kernel_rfl)) (by kernel_rfl) rfl (by kernel_rfl) (by kernel_rfl) (by kernel_rfl)
 refine ⟨λg k zs h=>?_,λg h=>?_⟩
 ·rw [hC] at h
  simp only [GX] at h
  have key:∀ {g0:Nat} {k0:IntKind} {zs0:List Int},(∃ e x,W.heap[g0]? = some (.cells (zs0.map λz=>Value.int k0 z).toArray e x))->g=g0->(k0,zs0)=(k,zs)->g<W.heap.size/\∃ e x,W.heap[g]? = some (.cells (zs.map λz=>Value.int k z).toArray e x):=λhx e1 e2=>by
   subst e1
   cases e2
   obtain ⟨e,x,hx⟩:=hx
   exact ⟨lt hx,e,x,hx⟩
  cases b1:Nat.beq g 1 with
  | true=>rw [b1,cond_true] at h;exact key c4 (Nat.eq_of_beq_eq_true b1) (Option.some.inj h)
  | false=>
   rw [b1,cond_false] at h
   cases b2:Nat.beq g 2 with
   | true=>rw [b2,cond_true] at h;exact key c3 (Nat.eq_of_beq_eq_true b2) (Option.some.inj h)
   | false=>
    rw [b2,cond_false] at h;cases h
 ·rw [hC] at h
  have e:=Nat.eq_of_beq_eq_true h
  subst e
  obtain ⟨m,hm⟩:=c5
  refine ⟨?_,m,hm⟩
  apply Classical.byContradiction
  intro hge
  simp [World.cell?,Array.getElem?_eq_none (Nat.le_of_not_lt hge)] at hm
theorem Sn (os:Os) (args:Array Value):((World.laidAll Tryz.prog os Eg).forCall (λ_ _=>0) ⟨#[],args,[]⟩).Shaped Tryz.prog:=
 World.shaped_of_ZipB (by kernel_rfl) (by kernel_rfl)
theorem AS (os:Os) (args:Array Value):laidMetH Tryz.prog Eg ((World.laidAll Tryz.prog os Eg).forCall (λ_ _=>0) ⟨#[],args,[]⟩).memory:=by
 rw [MakeChecks.laidMetH_plain _ _ _ (by kernel_rfl)]
 exact laidMet_laidAll _ (by kernel_rfl) (by kernel_rfl)
theorem UX {H:Type} {enc:TypeId × Value->H} {os:Os} (started:os.Started) {C:Cfg} (hCP:C.P=Tryz.prog) (hCG:C.G=GX) (hX:XOK C) (hO:Fq C) {f tb:Nat} {fn:Func} {c:Code} {s:ChangeSpec} {conds:List PathCond} {apart fresh handsOn again:Bool} (noInit:Tryz.prog.inits.idxOf? f=none) (hfn:Tryz.prog.funcs[f]? = some fn) (hb:fn.body=some c) (hname:(fn.name == "runtime.NumGoroutine")=false)
  (hp:∀ t∈fn.params.toList,(Tryz.prog.readableRec t=true/\t<Tryz.prog.types.size)/\(Bi Tryz.prog 20 t).isSome=true) (hres:fn.resultTypes = #[tb]) (hbool:Tryz.prog.underlying tb=some .bool) (hvars:s.vars=[])
  (hspec:∀ ds:List (DataW H),ds.length=fn.params.toList.length->s.fn H ds = { results:=[.lit (.bool true)],args:=ds })
  (wit:Array Value) (fuel:Nat) (hok:Input.okWideB Tryz.prog ((World.laidAll Tryz.prog os Eg).forCall (λ_ _=>0) ⟨#[],wit,[]⟩) f ⟨#[],wit,[]⟩=true)
  (NI:s.preB enc Tryz.prog fn conds apart ((World.laidAll Tryz.prog os Eg).forCall (λ_ _=>0) ⟨#[],wit,[]⟩).memory wit fuel=true)
  (hsz:s.sizedB enc Tryz.prog fn apart ((World.laidAll Tryz.prog os Eg).forCall (λ_ _=>0) ⟨#[],wit,[]⟩).memory wit fuel=true)
  (hev:∀ args,Gp Tryz.prog fn.params.toList args->∃ d Hc,evC C d Unit noY f args [] ()=some (.s (.bool true),Hc,())) :
  ReturnsInHanded {} Tryz.checked os f .any (λw args=>(s.pre enc Tryz.prog fn conds apart w args/\laidMetH Tryz.prog Eg w)/\sizedMet enc Tryz.prog fn (OpenSpec.ofChange s) apart w args) (s.post enc Tryz.prog fn apart fresh handsOn again):=by
 obtain ⟨P,G,X,lend,okf,lf,keep,keepR,xp,keepE,keepT,Y,S,nt,rw0⟩:=C
 simp only at hCP hCG
 subst hCP
 refine returnsInHanded_of_calls (C:=Tryz.checked) own started noInit
  (ChangeSpec.witness_shaped (enc:=enc) (C:=Tryz.checked) (os:=os) (X:=λw _=>laidMetH Tryz.prog Eg w) false (World.laidAll Tryz.prog os Eg) wit fuel (World.laidAll_os _ _ _) (Sn os wit) hok NI hsz (AS os wit)) ?_
 intro w tape i _ hsh _ hok NI hholds
 obtain ⟨_,_,_,fn',hfn',_,_,_,_,Ih⟩:=hok
 have e:fn'=fn:=Option.some.inj (hfn'.symm.trans hfn)
 subst e
 obtain ⟨⟨⟨ds,gs,before,hw,hc⟩,hx⟩,hz⟩:=NI
 have hw':=DataW.Whole.of_heap (w':=w.forCall tape i) (by rfl) hw
 have hL:laidMet Tryz.prog Eg (w.forCall tape i):=by
  rw [MakeChecks.laidMetH_plain _ _ _ (by kernel_rfl)] at hx
  exact laidMet.of_heap (w':=w.forCall tape i) (by rfl) hx
 refine (Ay5 (apart:=apart) (fresh:=fresh) (handsOn:=handsOn) (again:=again) hX hO follows Bh4 hfn hb hname hp hres hbool hvars hspec hev (w.forCall tape i) (UO hCG hL hsh) w.heap.size i.args ds gs before Ih hw').mono λe W' ⟨v,he,hp⟩=>?_
 subst he
 exact ChangeSpec.post_blind hp
end
section
open Go Go.Proofs
set_option maxRecDepth 100000
section
def Bu7:List PV->Tr
 | [.s (.str s),.s (.str p),.s (.int .i64 v),.s (.int .i64 n)]=>.need (A1 (List.length s)) (.need ((List.length p)==1) (.need (v==(0:Int)) (.need (n==((-1):Int)) (.ret (.vw 0 0 (List.length (pcs (List.getD p 0 0) s))) [.arr false 9 1 (J0 (pcs (List.getD p 0 0) s))]))))
 | _=>.fail
def Bu8:List PV->Tr
 | [.s (.str s),.s (.str p)]=>.need (A1 (List.length s)) (.need ((List.length p)==1) (.ret (.vw 0 0 (List.length (pcs (List.getD p 0 0) s))) [.arr false 9 1 (J0 (pcs (List.getD p 0 0) s))]))
 | _=>.fail
def FY:List PV->Tr
 | [.s (.str s),.s (.str p)]=>.need (A1 (List.length s)) (.ret (.s (.bool (List.isPrefixOf p s))) [])
 | _=>.fail
def QU (args:List PV):Tr:=FY (C7 [[0],[0]] args)
def FK:List PV->Tr
 | [.s (.str s),.s (.str p)]=>.need (A1 (List.length s)) (.ret (.s (.bool (List.isPrefixOf p s))) [])
 | _=>.fail
def As0 (args:List PV):Tr:=FK (C7 [[0],[0]] args)
def Wj:List PV->Tr
 | [.s (.str s),.s (.str p)]=>.need (A1 (List.length s)) (.ret (.tup [.s (.str (Ye s p)),.s (.bool (List.isPrefixOf p s))]) [])
 | _=>.fail
def ZO (args:List PV):Tr:=Wj (C7 [[0],[0]] args)
def FG:List PV->Tr
 | [.s (.str s),.s (.str p)]=>.need (A1 (List.length s)) (.ret (.tup [.s (.str (Ye s p)),.s (.bool (List.isPrefixOf p s))]) [])
 | _=>.fail
def Ar9 (args:List PV):Tr:=FG (C7 [[0],[0]] args)
def HM:List PV->Tr
 | [.s (.str s),.s (.str p)]=>.need (A1 (List.length s)) (.ret (.s (.int .i64 (Lib.index s p))) [])
 | _=>.fail
def HJ (args:List PV):Tr:=HM (C7 [[0],[0]] args)
def HB:List PV->Tr
 | [.s (.str s),.s (.str p)]=>.need ((List.length p)==1) (.ret (.s (.int .i64 (↑(List.count (List.getD p 0 0) s):Int))) [])
 | _=>.fail
def At4 (args:List PV):Tr:=HB (C7 [[0],[0]] args)
def Wh:List PV->Tr
 | [.s (.str s),.s (.int .i64 n)]=>.fail
 | _=>.fail
def Ka (args:List PV):Tr:=Wh (C7 [[0],[0]] args)
def Qo:List PV->Tr
 | [.s (.str s),.s (.str p),.s (.int .i64 v),.s (.int .i64 n)]=>.need (A1 (List.length s)) (.need ((List.length p)==1) (.need (v==(0:Int)) (.need (n==((-1):Int)) (.ret (.s (.sl false false 1 (J0 (pcs (List.getD p 0 0) s)))) []))))
 | _=>.fail
def LP (args:List PV):Tr:=Qo (C7 [[0],[0],[0],[0]] args)
def Ra:List PV->Tr
 | [.s (.str s),.s (.str p)]=>.need (A1 (List.length s)) (.need ((List.length p)==1) (.ret (.s (.sl false false 1 (J0 (pcs (List.getD p 0 0) s)))) []))
 | _=>.fail
def LT (args:List PV):Tr:=Ra (C7 [[0],[0]] args)
def B68:List PV->Tr
 | [.s (.int .i64 n)]=>.need (ltN n 4294967296) (.ret (.s (.str (Lib.decDigits (Int.toNat n)))) [])
 | _=>.fail
def B69:List PV->Tr
 | [.s (.str s)]=>.need (A1 (List.length s)) (.ret (.s (.str (Z1 s))) [])
 | _=>.fail
def FJ:List PV->Tr
 | [.s (.str s)]=>.need (A1 (List.length s)) (.ret (.s (.bool (X6 s))) [])
 | _=>.fail
def QN (args:List PV):Tr:=FJ (C7 [[0]] args)
def FH:List PV->Tr
 | [.s (.str s),.s (.int .i64 base)]=>.need (A1 (List.length s)) (.need (ltN base 17) (.ret (.tup [.s (.int .i64 (↑(Jm (D9 (Int.toNat base) 0 s)):Int)),.s (.bool (Option.isSome (D9 (Int.toNat base) 0 s)))]) []))
 | _=>.fail
def QM (args:List PV):Tr:=FH (C7 [[0],[0]] args)
def QY:List PV->Tr
 | [.s (.str s)]=>.need (A1 (List.length s)) (.ret (.tup [.s (.int .i64 (↑(Jm (Z0 s)):Int)),.s (.bool (Option.isSome (Z0 s)))]) [])
 | _=>.fail
def Bt6 (args:List PV):Tr:=QY (C7 [[0]] args)
def Wp:List PV->Tr
 | [.s (.str s)]=>.need (A1 (List.length s)) (.ret (.s (.sl false false 1 (J0 (D8 s)))) [])
 | _=>.fail
def ZS (args:List PV):Tr:=Wp (C7 [[0]] args)
def Lq:List PV->Tr
 | [.s (.str s)]=>.need (A1 (List.length s)) (.ret (.s (.bool (O2 s))) [])
 | _=>.fail
def Qr (args:List PV):Tr:=Lq (C7 [[0]] args)
def B71:List PV->Tr
 | [.s (.int .u32 v)]=>.need (ltN v 4294967296) (.ret (.s (.str (B59 (Int.toNat v)))) [])
 | _=>.fail
def Lr:List PV->Tr
 | [.s (.str s)]=>.need (A1 (List.length s)) (.ret (.s (.bool ((not (List.isEmpty s))&&(Option.isSome (D9 10 0 s))))) [])
 | _=>.fail
def BI (args:List PV):Tr:=Lr (C7 [[0]] args)
def Qz:List PV->Tr
 | [.s (.str s),.s (.int .u8 c)]=>.need (A1 (List.length s)) (.need (inR c 256) (.ret (.s (.sl false false 1 (J0 (pcs (u8n c) s)))) []))
 | _=>.fail
def Xd (args:List PV):Tr:=Qz (C7 [[0],[0]] args)
def GQ:List PV->Tr
 | [.s (.int .u8 b)]=>.need (inR b 256) (.ret (.s (.int .i64 (↑(dig (u8n b)):Int))) [])
 | _=>.fail
def As8 (args:List PV):Tr:=GQ (C7 [[0]] args)
def GY:List PV->Tr
 | [.s (.str s)]=>.need (A1 (List.length s)) (.ret (.tup [.s (.int .i64 (↑(Jm (Z0 s)):Int)),.s (.bool (Option.isSome (Z0 s)))]) [])
 | _=>.fail
def At2 (args:List PV):Tr:=GY (C7 [[0]] args)
def Qx:List PV->Tr
 | [.s (.str s)]=>.need (A1 (List.length s)) (.ret (.s (.sl false false 1 (J0 (D8 s)))) [])
 | _=>.fail
def LS (args:List PV):Tr:=Qx (C7 [[0]] args)
def Il:List PV->Tr
 | [.s (.str s)]=>.need (A1 (List.length s)) (.ret (.s (.bool (O2 s))) [])
 | _=>.fail
def Wz (args:List PV):Tr:=Il (C7 [[0]] args)
def B39:List PV->Tr
 | [.s (.str s),.s (.bool last)]=>.need (A1 (List.length s)) (.ret (.tup [.s (.sl (List.isEmpty (gvs s last)) (List.isEmpty (gvs s last)) 1 (B78 (gvs s last))),.s (.bool (Option.isSome (Bt9 s last)))]) [])
 | _=>.fail
def B40:List PV->Tr
 | [.agg [.s (.int .u16 a0),.s (.int .u16 a1),.s (.int .u16 a2),.s (.int .u16 a3),.s (.int .u16 a4),.s (.int .u16 a5),.s (.int .u16 a6),.s (.int .u16 a7)]]=>.need (ok8 a0 a1 a2 a3 a4 a5 a6 a7) (.ret (.tup [.s (.int .i64 (↑((zGo (n8 a0 a1 a2 a3 a4 a5 a6 a7) 0 0 0)).1:Int)),.s (.int .i64 (↑((zGo (n8 a0 a1 a2 a3 a4 a5 a6 a7) 0 0 0)).2:Int))]) [])
 | _=>.fail
def B38:List PV->Tr
 | [.s (.sl ds_z ds_t 0 ds),.s (.int .u64 v),.s (.int .i64 b),.s (.bool neg),.s (.bool app)]=>.need (ltN v 65536) (.need (b==(16:Int)) (.need (not neg) (.need (not app) (.ret (.tup [.s (.sl true true 1 List.nil),.s (.str (Bw5 (Int.toNat v)))]) []))))
 | _=>.fail
def HD:List PV->Tr
 | [.s (.str s),.s (.str p)]=>.need (A1 (List.length s)) (.ret (.tup [.s (.str ((Lib.cut s p)).1),.s (.str (((Lib.cut s p)).2).1),.s (.bool (((Lib.cut s p)).2).2)]) [])
 | _=>.fail
def RE (args:List PV):Tr:=HD (C7 [[0],[0]] args)
def B72:List PV->Tr
 | [.s (.sl l_z l_t 1 l)]=>.need (List.all l B49) (.need (Nat.ble (List.length l) 8) (.ret (.s (.str (B50 (List.map elN l)))) []))
 | _=>.fail
def Qu:List PV->Tr
 | [.s (.int .i64 n)]=>.ret (.s (.bool (ptI n))) []
 | _=>.fail
def Ik (args:List PV):Tr:=Qu (C7 [[0]] args)
def Qs:List PV->Tr
 | [.s (.int .i64 d),.s (.int .i64 c),.s (.bool f)]=>.need (ltN d 1152921504606846976) (.need (ltN c 1000000) (.need (ltI (0:Int) c) (.ret (.s (.int .i64 (↑(M0 (Int.toNat d) (Int.toNat c) f):Int))) [])))
 | _=>.fail
def Ij (args:List PV):Tr:=Qs (C7 [[0],[0],[0]] args)
def GH:List PV->Tr
 | [.s (.int .i64 d)]=>.need (ltN d 36) (.ret (.s (.int .u8 (↑(UInt8.toNat (U0 (Int.toNat d))):Int))) [])
 | _=>.fail
def QZ (args:List PV):Tr:=GH (C7 [[0]] args)
def GN:List PV->Tr
 | [.s (.int .u8 b)]=>.need (inR b 256) (.ret (.s (.int .i64 (C3 (u8n b)))) [])
 | _=>.fail
def RA (args:List PV):Tr:=GN (C7 [[0]] args)
def GL:List PV->Tr
 | [.s (.int .i64 b)]=>.ret (.fnr (Fn.func 201) [] [.ptr 1 0 0,.ptr 0 0 0]) [.box [.s (.int .i64 b)],.box [.s (.int .i64 (0:Int))]]
 | _=>.fail
def Wq (args:List PV):Tr:=GL (C7 [[0]] args)
def Kb:List PV->List Blk->Tr
 | [.ptr 0 0 0,.ptr 1 0 0],[.box [.s (.int .i64 k)],.box [.s (.int .i64 b)]]=>.need (ltN k 1000000000000) (.need (ltN b 1000000) (.ret (.s (.int .i64 (I5 k b))) [.box [.s (.int .i64 (Int.add k (36:Int)))],.box [.s (.int .i64 b)]]))
 | _,_=>.fail
def GE:List PV->List Blk->Tr
 | [.fl 0,.s (.int .i64 q),.s (.int .i64 b)],[.arr z 5 1 l]=>.need (ltN q 1152921504606846976) (.need (ltN b 1000000) (.need (Nat.ble (List.length l) 100000) (.ret (.fl 0) [.arr z 5 1 (List.append l (List.map F7 (L4 (Int.toNat q) 0 (Int.toNat b))))])))
 | _,_=>.fail
def GI:List PV->Tr
 | [.s (.sl p_z p_t 1 p)]=>.need (List.all p Ok) (.ret (.tup [.s (.str ((Y9 (List.map elI p))).1),.s (.int .i64 (↑((Y9 (List.map elI p))).2:Int))]) [])
 | _=>.fail
def As6 (args:List PV):Tr:=GI (C7 [[1]] args)
def HN:List PV->List Blk->Tr
 | [.fl 0,.s (.int .i64 i),.fl 1],[.arr z 3 1 l,.arr false 3 1 [[.int .i64 n]]]=>.need (ltN i (Nat.add (List.length l) 1)) (.need (Nat.ble (List.length l) 100000) (.ret (.fl 0) [.arr z 3 1 (Hb l (Int.toNat i) n),.arr false 3 1 [[.int .i64 n]]]))
 | _,_=>.fail
def FI:List PV->List Blk->Tr
 | [.ptr 0 0 0],[.box [.s (.str rest),.fl 1,.s (.int .i64 n),.s (.int .i64 i),.s (.int .i64 b),.s (.bool st)],.arr z 3 1 l]=>.need (A1 (List.length rest)) (.need (ltN b 1000000) (.need (ltN i 1099511627777) (.ret (.s (.int .i64 (Zd b rest i))) [.box [.s (.str (Ze b rest i)),.fl 1,.s (.int .i64 n),.s (.int .i64 (Ms b rest i)),.s (.int .i64 b),.s (.bool st)],.arr z 3 1 l])))
 | _,_=>.fail
def Va:List PV->List Blk->Tr
 | [.ptr 0 0 0],[.box [.s (.str rest),.fl 1,.s (.int .i64 n),.s (.int .i64 i),.s (.int .i64 b),.s (.bool st)],.arr z 3 1 l]=>.need (A1 (List.length rest)) (.need (ltN b 1000000) (.need (ltN i 1099511627777) (.need (ltN n 1152921504606846976) (.need (Nat.ble (List.length l) 100000) (.ret (.s (.int .i64 ((D0 (DS.mk rest n i b st l))).1)) [.box [.s (.str (DS.rest ((D0 (DS.mk rest n i b st l))).2)),.fl 1,.s (.int .i64 (DS.n ((D0 (DS.mk rest n i b st l))).2)),.s (.int .i64 (DS.i ((D0 (DS.mk rest n i b st l))).2)),.s (.int .i64 (DS.b ((D0 (DS.mk rest n i b st l))).2)),.s (.bool (DS.st ((D0 (DS.mk rest n i b st l))).2))],.arr z 3 1 (DS.l ((D0 (DS.mk rest n i b st l))).2)])))))
 | _,_=>.fail
def Qp:List PV->Tr
 | [.s (.str s),.s (.int .u8 c)]=>.need (A1 (List.length s)) (.need (inR c 256) (.ret (.s (.int .i64 (G4 (u8n c) s))) []))
 | _=>.fail
def LQ (args:List PV):Tr:=Qp (C7 [[0],[0]] args)
def Wi:List PV->Tr
 | [.s (.str s),.s (.int .u8 c)]=>.need (A1 (List.length s)) (.need (inR c 256) (.ret (.s (.int .i64 (G4 (u8n c) s))) []))
 | _=>.fail
def Vb (args:List PV):Tr:=Wi (C7 [[0],[0]] args)
def GG:List PV->Tr
 | [.s (.str s)]=>.need (A1 (List.length s)) (.ret (.tup [.s (.sl (List.isEmpty ((J8 s)).1) (List.isEmpty ((J8 s)).1) 1 (Ss ((J8 s)).1)),.s (.int .i64 (↑((J8 s)).2:Int))]) [])
 | _=>.fail
def As5 (args:List PV):Tr:=GG (C7 [[0]] args)
def LN:List PV->Tr
 | [.s (.str t)]=>.fail
 | _=>.fail
def Nd (args:List PV):Tr:=LN (C7 [[0]] args)
def Wo:List PV->Tr
 | [.s (.str t),.s (.str p),.s (.int .i64 n)]=>.ret (.fnr (Fn.func 106) [] [.ptr 1 0 0,.ptr 0 0 0,.ptr 2 0 0]) [.box [.s (.str t)],.box [.s (.str p)],.box [.s (.int .i64 n)]]
 | _=>.fail
def FZ (args:List PV):Tr:=Wo (C7 [[0],[0],[0]] args)
def HO:List PV->Tr
 | [.s (.str t),.s (.str p)]=>.ret (.fnr (Fn.func 106) [] [.ptr 1 0 0,.ptr 0 0 0,.ptr 2 0 0]) [.box [.s (.str t)],.box [.s (.str p)],.box [.s (.int .i64 (0:Int))]]
 | _=>.fail
def RF (args:List PV):Tr:=HO (C7 [[0],[0]] args)
def Vc:List PV->List Blk->Option (Bool × List (List PV))
 | [.yd,.ptr 0 0 0,.ptr 1 0 0,.ptr 2 0 0],[.box [.s (.str p)],.box [.s (.str t)],.box [.s (.int .i64 n)]]=>some (((A1 (List.length t))&&(((List.length p)==1)&&(n==(0:Int)))),List.map (λ(x:By)=>([.s (.str x)]:List PV)) (pcs (List.getD p 0 0) t))
 | _,_=>none
def FL:List PV->Tr
 | [.s (.str t)]=>.ret (.fnr (Fn.func 76) [] [.ptr 0 0 0]) [.box [.s (.str t)]]
 | _=>.fail
def Ew (args:List PV):Tr:=FL (C7 [[0]] args)
def W8:List PV->List Blk->Option (Bool × List (List PV))
 | [.yd,.ptr 0 0 0],[.box [.s (.str t)]]=>some ((A1 (List.length t)),List.map (λ(x:By)=>([.s (.str x)]:List PV)) (E2 t))
 | _,_=>none
def Qy:List PV->Tr
 | [.s (.int .i64 n)]=>.ret (.s (.bool (ptI n))) []
 | _=>.fail
def Xb (args:List PV):Tr:=Qy (C7 [[0]] args)
def Qw:List PV->Tr
 | [.s (.int .i64 d),.s (.int .i64 c),.s (.bool f)]=>.need (ltN d 1152921504606846976) (.need (ltN c 1000000) (.need (ltI (0:Int) c) (.ret (.s (.int .i64 (↑(M0 (Int.toNat d) (Int.toNat c) f):Int))) [])))
 | _=>.fail
def Wt (args:List PV):Tr:=Qw (C7 [[0],[0],[0]] args)
def GZ:List PV->Tr
 | [.s (.int .i64 k),.s (.int .i64 b)]=>.need (ltN k 10000000000) (.need (ltN b 1000000) (.ret (.s (.int .i64 (I5 (Int.mul (36:Int) k) b))) []))
 | _=>.fail
def RD (args:List PV):Tr:=GZ (C7 [[0],[0]] args)
def Wu:List PV->Tr
 | [.s (.int .i64 d)]=>.need (ltN d 36) (.ret (.s (.int .u8 (↑(UInt8.toNat (U0 (Int.toNat d))):Int))) [])
 | _=>.fail
def ZT (args:List PV):Tr:=Wu (C7 [[0]] args)
def HA:List PV->Tr
 | [.s (.int .u8 b)]=>.need (inR b 256) (.ret (.s (.int .i64 (C3 (u8n b)))) [])
 | _=>.fail
def At3 (args:List PV):Tr:=HA (C7 [[0]] args)
def GR:List PV->Tr
 | [.s (.sl p_z p_t 1 p)]=>.need (List.all p Ok) (.ret (.tup [.s (.str ((Y9 (List.map elI p))).1),.s (.int .i64 (↑((Y9 (List.map elI p))).2:Int))]) [])
 | _=>.fail
def As9 (args:List PV):Tr:=GR (C7 [[1]] args)
def Xa:List PV->Tr
 | [.s (.str s)]=>.need (A1 (List.length s)) (.ret (.tup [.s (.sl (List.isEmpty ((J8 s)).1) (List.isEmpty ((J8 s)).1) 1 (Ss ((J8 s)).1)),.s (.int .i64 (↑((J8 s)).2:Int))]) [])
 | _=>.fail
def ZW (args:List PV):Tr:=Xa (C7 [[0]] args)
def Wn:List PV->Tr
 | [.s (.str s)]=>.need (A1 (List.length s)) (.ret (.s (.bool (Al s))) [])
 | _=>.fail
def ZR (args:List PV):Tr:=Wn (C7 [[0]] args)
def GB:List PV->Tr
 | [.s (.str s)]=>.need (A1 (List.length s)) (.ret (.s (.bool (P3 s))) [])
 | _=>.fail
def QX (args:List PV):Tr:=GB (C7 [[0]] args)
def Xc:List PV->Tr
 | [.s (.str s)]=>.need (A1 (List.length s)) (.ret (.s (.bool (Al s))) [])
 | _=>.fail
def ZX (args:List PV):Tr:=Xc (C7 [[0]] args)
def Wy:List PV->Tr
 | [.s (.str s)]=>.need (A1 (List.length s)) (.ret (.s (.bool (P3 s))) [])
 | _=>.fail
def ZV (args:List PV):Tr:=Wy (C7 [[0]] args)
def QO:List PV->Tr
 | [.s (.str s)]=>.need (A1 (List.length s)) (.ret (.s (.bool (C5 s))) [])
 | _=>.fail
def BH (args:List PV):Tr:=QO (C7 [[0]] args)
def FM:List PV->Tr
 | [.agg [.s (.int .i64 kd),.s (.str nm),.s (.int .u32 v4),.s (.int .u16 a0),.s (.int .u16 a1),.s (.int .u16 a2),.s (.int .u16 a3),.s (.int .u16 a4),.s (.int .u16 a5),.s (.int .u16 a6),.s (.int .u16 a7)]]=>.need (A1 (List.length nm)) (.need (ltN v4 4294967296) (.need (ok8 a0 a1 a2 a3 a4 a5 a6 a7) (.ret (.s (.bool (M8 (mkH kd nm v4 (n8 a0 a1 a2 a3 a4 a5 a6 a7))))) [])))
 | _=>.fail
def Ex (args:List PV):Tr:=FM (C7 [[0,0,0,0,0,0,0,0,0,0,0]] args)
def GU:List PV->Tr
 | [.s (.str s)]=>.need (A1 (List.length s)) (.ret (.s (.bool (C5 s))) [])
 | _=>.fail
def Wx (args:List PV):Tr:=GU (C7 [[0]] args)
def Ww:List PV->Tr
 | [.agg [.s (.int .i64 kd),.s (.str nm),.s (.int .u32 v4),.s (.int .u16 a0),.s (.int .u16 a1),.s (.int .u16 a2),.s (.int .u16 a3),.s (.int .u16 a4),.s (.int .u16 a5),.s (.int .u16 a6),.s (.int .u16 a7)]]=>.need (A1 (List.length nm)) (.need (ltN v4 4294967296) (.need (ok8 a0 a1 a2 a3 a4 a5 a6 a7) (.ret (.s (.bool (M8 (mkH kd nm v4 (n8 a0 a1 a2 a3 a4 a5 a6 a7))))) [])))
 | _=>.fail
def ZU (args:List PV):Tr:=Ww (C7 [[0,0,0,0,0,0,0,0,0,0,0]] args)
def Wv:List PV->Tr
 | [.s (.str p),.s (.str s)]=>.need (A1 (List.length p)) (.need (A1 (List.length s)) (.ret (.s (.bool (D2 p s))) []))
 | _=>.fail
def GS (args:List PV):Tr:=Wv (C7 [[0],[0]] args)
end
section
variable {σ R : Type} (lf : Nat) (cl : D7) (yh : Yh σ) (s : σ) (k : Out -> St σ -> Option R)
noncomputable def Ab3 {R:Type} (s0:By) (v1 b2 n3 n4:Int) (b5:Bool) (k0:By->Int->Int->Int->Option R) (k1:Unit->Option R):Option R:=cond b5 (vl (wu8 ((wu8 (b2-65))+10)) λn'4=>vl (bOr .u16 (YU .u16 v1 (4:Int)) (A90 n'4)) λn'5=>k0 s0 n'5 n3 n4) (k1 ())
noncomputable def Ab4 {R:Type} (s0:By) (v1 b2 n3 n4:Int) (b5:Bool) (k0:By->Int->Int->Int->Option R) (k1:Unit->Option R):Option R:=cond b5 (vl (wu8 ((wu8 (b2-97))+10)) λn'2=>vl (bOr .u16 (YU .u16 v1 (4:Int)) (A90 n'2)) λn'3=>k0 s0 n'3 n3 n4) (cond (not (ltI b2 65)) (Ab3 s0 v1 b2 n3 n4 (not (ltI 70 b2)) (λs'6 v'7 n'8 n'9=>k0 s'6 v'7 n'8 n'9) (λ_=>k1 ())) (Ab3 s0 v1 b2 n3 n4 false (λs'10 v'11 n'12 n'13=>k0 s'10 v'11 n'12 n'13) (λ_=>k1 ())))
noncomputable def Ab5 {R:Type} (s0:By) (v1 b2 n3 n4:Int) (b5:Bool) (k0:By->Int->Int->Int->Option R) (k1:Unit->Option R):Option R:=cond b5 (vl (A90 (wu8 (b2-48))) λn'0=>vl (bOr .u16 (YU .u16 v1 (4:Int)) n'0) λn'1=>k0 s0 n'1 n3 n4) (cond (not (ltI b2 97)) (Ab4 s0 v1 b2 n3 n4 (not (ltI 102 b2)) (λs'14 v'15 n'16 n'17=>k0 s'14 v'15 n'16 n'17) (λ_=>k1 ())) (Ab4 s0 v1 b2 n3 n4 false (λs'18 v'19 n'20 n'21=>k0 s'18 v'19 n'20 n'21) (λ_=>k1 ())))
noncomputable def Ab6 {R:Type} (lf n:Nat) (s0:By) (v1 n2 n3:Int) (k0:Unit->Option R) (k1:Int->Option R):Option R:=match n with | 0=>none | n+1=>cond (ltI n3 n2) (cond (inR n3 s0.length) (cond (not (ltI (bAt s0 n3) (48:Int))) (Ab5 s0 v1 (bAt s0 n3) n2 n3 (not (ltI 57 (bAt s0 n3))) (λs'22 v'23 n'24 n'25=>vl (A2 (n'25+1)) λn'26=>Ab6 lf n s'22 v'23 n'24 n'26 k0 k1) (λ_=>k0 ())) (Ab5 s0 v1 (bAt s0 n3) n2 n3 false (λs'27 v'28 n'29 n'30=>vl (A2 (n'30+1)) λn'31=>Ab6 lf n s'27 v'28 n'29 n'31 k0 k1) (λ_=>k0 ()))) none) (k1 v1)
noncomputable def Xu (lf:Nat):Cfg:=B8 lf [184] (A4 []) [] (A4 [(1,[2]),(0,[0])]) [] (A4 []) (some [2]) [] [] []
noncomputable def KC {R:Type} (lf:Nat) (n0:Int) (k0:Bool->Option R):Option R:=cond (not (ltI n0 0)) (cond (not (ltI 1114111 n0)) (cond (ltI n0 55296) (k0 true) (k0 (ltI 57343 n0))) (k0 false)) (k0 false)
theorem Am0 (d:Nat) (n0):evC (Xu lf) (d+1) σ yh 184 [pI n0] [] s=KC lf n0 (λr0=>some (pB r0,[],s)):=by
 refine (evE (fn:=Tryz.f184) (by kernel_rfl)).trans ?_
 generalize evC (Xu lf) d=cl
 unfold KC;kernel_rfl
noncomputable abbrev Iq:Code:=D3 Tryz.f186
noncomputable def R2 (lf:Nat):Cfg:=B8 lf [186] (A4 [(6,[0,5,0])]) [] (A4 [(9,[6]),(8,[0,6]),(7,[0,6]),(6,[0,6,11]),(5,[0,6]),(4,[0]),(2,[0,0]),(3,[0,0]),(1,[0,0,6]),(0,[0,0,0])]) [] (A4 [(0,[0,6]),(1,[0,6])]) (some [6]) [] [] []
noncomputable def Cg {R:Type} (lf n:Nat) (delta0 kk1:Int) (k0:Int->Int->Option R):Option R:=match n with | 0=>none | n+1=>cond (ltI 455 delta0) (vl (A2 (Int.tdiv delta0 (35:Int))) λn'6=>vl (A2 (kk1+36)) λn'7=>Cg lf n n'6 n'7 k0) (k0 delta0 kk1)
theorem JZ (n delta0 kk1):E6 0 ((R2 lf).keep 6) (bd (R2 lf) cl yh (cd [1,1,1,1,0,0,0] Iq)) n ⟨gp [(0,pI delta0),(6,pI kk1)] 23,[],s⟩ k =
 Cg lf n delta0 kk1 (λdelta0 kk1=>k (.exit 0) ⟨gp [(0,pI delta0),(6,pI kk1)] 23,[],s⟩):=by
 induction n generalizing delta0 kk1 with
 | zero=>rfl
 | succ n ih=>rw [Cg];simp only [<-ih];kernel_rfl
noncomputable def Cf {R:Type} (lf:Nat) (delta0 count1:Int) (k0:Int->Option R):Option R:=cond (count1 != 0) (vl (A2 (Int.tdiv delta0 count1)) λn'5=>Cg lf lf (A2 (delta0+n'5)) 0 (λdelta'8 kk'9=>vl (A2 ((36:Int)*delta'8)) λn'10=>vl (A2 (delta'8+38)) λn'11=>cond (n'11 != 0) (vl (A2 (Int.tdiv n'10 n'11)) λn'12=>k0 (A2 (kk'9+n'12))) none)) none
abbrev Ue (b:Code):Prop:=∀ (k:Out->St σ->Option R) delta0 count1,B2 (R2 lf) cl yh b ⟨gp [(0,pI delta0),(0,pI count1)] 29,[],s⟩ k=Cf lf delta0 count1 (λn0=>k .ret ⟨gp [(6,pI n0)] 24,[],s⟩)
theorem JY:Ue (R:=R) lf cl yh s (cd [1,1] Iq):=by
 intro k delta0 count1;unfold Cf;exact (Eq.trans (by kernel_rfl) (A0 (A8 λn'5=>((JZ lf cl yh s (G8 0 (I4 (R2 lf) cl yh (cd [1,1,1,1,1] Iq) k)) lf (A2 (delta0+n'5)) 0).trans (by kernel_rfl))) rfl))
noncomputable def Zj {R:Type} (lf:Nat) (delta0 count1:Int) (first2:Bool) (k0:Int->Option R):Option R:=cond first2 (vl (A2 (Int.tdiv delta0 (700:Int))) λn'2=>Cf lf n'2 count1 (λn'13=>k0 n'13)) (vl (A2 (Int.tdiv delta0 (2:Int))) λn'3=>Cf lf n'3 count1 (λn'14=>k0 n'14))
theorem Al0 (b_11:Code) (h_padapt_j0:Ue (R:=PV × List Blk × σ) lf cl yh s b_11) (delta0 count1:Int) (first2:Bool):B2 (R2 lf) cl yh (cd [] (R1 [1,1] b_11 Iq)) ⟨[pI delta0,pI count1,pB first2]++tps 28,[],s⟩ (H4 (R2 lf) Tryz.f186)=Zj lf delta0 count1 first2 (λr0=>some (pI r0,[],s)):=by
 unfold Zj;exact let K0:=(H4 (R2 lf) Tryz.f186);(Eq.trans (by kernel_rfl) (A0 (A8 λn'2=>((h_padapt_j0 K0 n'2 count1).trans (by kernel_rfl))) (A8 λn'3=>((h_padapt_j0 K0 n'3 count1).trans (by kernel_rfl)))))
theorem Al1 (d:Nat) (delta0 count1 first2):evC (R2 lf) (d+1) σ yh 186 [pI delta0,pI count1,pB first2] [] s=Zj lf delta0 count1 first2 (λr0=>some (pI r0,[],s)):=
 (evE (fn:=Tryz.f186) (by kernel_rfl)).trans (Eq.trans (by kernel_rfl) (Al0 lf (evC (R2 lf) d) yh s (cd [1,1] Iq) (JY lf (evC (R2 lf) d) yh s) delta0 count1 first2))
noncomputable def SM (lf:Nat):Cfg:=B8 lf [195] (A4 []) [] (A4 [(3,[2]),(2,[2]),(1,[0,3]),(0,[0])]) [] (A4 []) (some [2]) [] [] []
noncomputable def Bl0 {R:Type} (lf:Nat) (d0:Int) (k0:Int->Option R):Option R:=cond (ltI d0 26) (vl (wu8 (A2 ((97:Int)+d0))) λn'0=>k0 n'0) (vl (A2 ((A2 ((48:Int)+d0))-26)) λn'1=>k0 (wu8 n'1))
theorem Bl1 (d:Nat) (d0):evC (SM lf) (d+1) σ yh 195 [pI d0] [] s=Bl0 lf d0 (λr0=>some (p8 r0,[],s)):=by
 refine (evE (fn:=Tryz.f195) (by kernel_rfl)).trans ?_
 generalize evC (SM lf) d=cl
 unfold Bl0;kernel_rfl
noncomputable abbrev Lv:Code:=D3 Tryz.f202
noncomputable def Fb (lf:Nat):Cfg:=B8 lf [202] (A4 []) [] (A4 [(7,[2]),(2,[2]),(4,[2]),(6,[2]),(5,[0,22]),(3,[0,12]),(1,[0,2]),(0,[0])]) [] (A4 [(0,[])]) (some [2]) [] [] []
noncomputable def Ph {R:Type} (b0:Int) (b1:Bool) (k0:Int->Option R) (k1:Int->Bool->Option R):Option R:=cond b1 (vl (A2 (wu8 (b0-65))) λn'1=>k0 n'1) (cond (not (ltI b0 48)) (cond (not (ltI 57 b0)) (vl (A2 (wu8 (b0-48))) λn'2=>vl (A2 (n'2+26)) λn'3=>k0 n'3) (k1 b0 (not (ltI 57 b0)))) (k1 b0 false))
abbrev DY (b:Code):Prop:=∀ (k:Out->St σ->Option R) b0 b1,B2 (Fb lf) cl yh b ⟨gp [(0,p8 b0),(12,pB b1)] 20,[],s⟩ k=Ph b0 b1 (λn0=>k .ret ⟨gp [(2,pI n0)] 31,[],s⟩) (λb0 b1=>k .normal ⟨gp [(0,p8 b0),(22,pB b1)] 10,[],s⟩)
theorem WR:DY (R:=R) lf cl yh s (cd [1,0,0,1,1,1] Lv):=by
 intro k b0 b1;unfold Ph;kernel_rfl
noncomputable def Pi {R:Type} (b0:Int) (b1:Bool) (k0:Int->Option R) (k1:Int->Bool->Option R):Option R:=cond b1 (vl (A2 (wu8 (b0-97))) λn'0=>k0 n'0) (cond (not (ltI b0 65)) (Ph b0 (not (ltI 90 b0)) (λn'4=>k0 n'4) (λb'5 b'6=>k1 b'5 b'6)) (Ph b0 false (λn'7=>k0 n'7) (λb'8 b'9=>k1 b'8 b'9)))
abbrev Sw (b:Code):Prop:=∀ (k:Out->St σ->Option R) b0 b1,B2 (Fb lf) cl yh b ⟨gp [(0,p8 b0),(2,pB b1)] 30,[],s⟩ k=Pi b0 b1 (λn0=>k .ret ⟨gp [(2,pI n0)] 31,[],s⟩) (λb0 b1=>k .normal ⟨gp [(0,p8 b0),(22,pB b1)] 10,[],s⟩)
theorem WS (b_100111:Code) (h_pval_j0:DY (R:=R) lf cl yh s b_100111):Sw (R:=R) lf cl yh s (cd [1,0,0,1] (R1 [1,0,0,1,1,1] b_100111 Lv)):=by
 intro k b0 b1;unfold Pi;simp only [<-h_pval_j0 k];kernel_rfl
theorem WT:Sw (R:=R) lf cl yh s (cd [1,0,0,1] Lv):=by
 intro k b0 b1;exact Eq.trans (by kernel_rfl) (WS lf cl yh s (cd [1,0,0,1,1,1] Lv) (WR lf cl yh s) k b0 b1)
noncomputable def A42 {R:Type} (lf:Nat) (b0:Int) (k0:Int->Option R):Option R:=cond (not (ltI b0 97)) (Pi b0 (not (ltI 122 b0)) (λn'10=>k0 n'10) (λb'11 b'12=>k0 (-1))) (Pi b0 false (λn'13=>k0 n'13) (λb'14 b'15=>k0 (-1)))
theorem Bm3 (b_1001:Code) (h_pval_j1:Sw (R:=PV × List Blk × σ) lf cl yh s b_1001) (b0:Int):B2 (Fb lf) cl yh (cd [] (R1 [1,0,0,1] b_1001 Lv)) ⟨[p8 b0]++tps 33,[],s⟩ (H4 (Fb lf) Tryz.f202)=A42 lf b0 (λr0=>some (pI r0,[],s)):=by
 unfold A42;exact let K0:=(G8 0 (I4 (Fb lf) cl yh (cd [1,1] Lv) (H4 (Fb lf) Tryz.f202)));(Eq.trans (by kernel_rfl) (A0 ((h_pval_j1 K0 b0 (not (ltI 122 b0))).trans (by kernel_rfl)) ((h_pval_j1 K0 b0 false).trans (by kernel_rfl))))
theorem Bm4 (d:Nat) (b0):evC (Fb lf) (d+1) σ yh 202 [p8 b0] [] s=A42 lf b0 (λr0=>some (pI r0,[],s)):=
 (evE (fn:=Tryz.f202) (by kernel_rfl)).trans (Eq.trans (by kernel_rfl) (Bm3 lf (evC (Fb lf) d) yh s (cd [1,0,0,1] Lv) (WT lf (evC (Fb lf) d) yh s) b0))
end
section
variable {σ R : Type} (lf : Nat) (cl : D7) (yh : Yh σ) (s : σ) (k : Out -> St σ -> Option R)
noncomputable def SH (lf:Nat):Cfg:=B8 lf [154] (A4 []) [] (A4 [(1,[4]),(0,[0,0])]) [] (A4 []) (some [4]) [] [] []
noncomputable def Bj0 {R:Type} (lf:Nat) (s0 prefix1:By) (k0:Bool->Option R):Option R:=cond (not (ltI (s0.length:Int) (prefix1.length:Int))) (cond (P2 0 (prefix1.length:Int) s0.length) (vl (cut s0 0 (prefix1.length:Int)) λs'0=>k0 (s'0==prefix1)) none) (k0 false)
theorem Bj1 (d:Nat) (s0 prefix1):evC (SH lf) (d+1) σ yh 154 [pS s0,pS prefix1] [] s=Bj0 lf s0 prefix1 (λr0=>some (pB r0,[],s)):=by
 refine (evE (fn:=Tryz.f154) (by kernel_rfl)).trans ?_
 generalize evC (SH lf) d=cl
 unfold Bj0;kernel_rfl
noncomputable def RY (lf:Nat):Cfg:=B8 lf [112] (A4 []) [(154,QU)] (A4 [(1,[4]),(0,[0,0])]) [154] (A4 []) (some [4]) [] [] []
noncomputable def NI {R:Type} (lf:Nat) (s0 prefix1:By) (k0:Bool->Option R):Option R:=cond (A1 s0.length) (k0 (List.isPrefixOf prefix1 s0)) none
theorem Bg7 (d:Nat) (s0 prefix1):evC (RY lf) (d+1) σ yh 112 [pS s0,pS prefix1] [] s=NI lf s0 prefix1 (λr0=>some (pB r0,[],s)):=by
 refine (evE (fn:=Tryz.f112) (by kernel_rfl)).trans ?_
 generalize evC (RY lf) d=cl
 unfold NI;kernel_rfl
noncomputable def IJ (lf:Nat):Cfg:=B8 lf [169] (A4 []) [(154,QU)] (A4 [(3,[4,0]),(2,[4,0]),(1,[0,0,7]),(0,[0,0])]) [154] (A4 []) (some [4,0]) [] [] []
noncomputable def Ac1 {R:Type} (lf:Nat) (s0 prefix1:By) (k0:By->Bool->Option R):Option R:=cond (A1 s0.length) (cond (not (List.isPrefixOf prefix1 s0)) (k0 s0 false) (cond (P2 (prefix1.length:Int) (s0.length:Int) s0.length) (vl (cut s0 (prefix1.length:Int) (s0.length:Int)) λs'0=>k0 s'0 true) none)) none
theorem A12 (d:Nat) (s0 prefix1):evC (IJ lf) (d+1) σ yh 169 [pS s0,pS prefix1] [] s=Ac1 lf s0 prefix1 (λr0 r1=>some (.tup [pS r0,pB r1],[],s)):=by
 refine (evE (fn:=Tryz.f169) (by kernel_rfl)).trans ?_
 generalize evC (IJ lf) d=cl
 unfold Ac1;kernel_rfl
noncomputable def RW (lf:Nat):Cfg:=B8 lf [130] (A4 []) [(169,ZO)] (A4 [(1,[4,0]),(0,[0,0])]) [169] (A4 []) (some [4,0]) [] [] []
noncomputable def Be9 {R:Type} (lf:Nat) (s0 prefix1:By) (k0:By->Bool->Option R):Option R:=cond (A1 s0.length) (k0 (Ye s0 prefix1) (List.isPrefixOf prefix1 s0)) none
theorem Bf0 (d:Nat) (s0 prefix1):evC (RW lf) (d+1) σ yh 130 [pS s0,pS prefix1] [] s=Be9 lf s0 prefix1 (λr0 r1=>some (.tup [pS r0,pB r1],[],s)):=by
 refine (evE (fn:=Tryz.f130) (by kernel_rfl)).trans ?_
 generalize evC (RW lf) d=cl
 unfold Be9;kernel_rfl
noncomputable abbrev LX:Code:=D3 Tryz.f158
noncomputable def Cp (lf:Nat):Cfg:=B8 lf [158] (A4 [(11,[0,0,0,0,4,0,0])]) [(181,Ka),(182,At4),(108,HJ)] (A4 [(18,[8]),(17,[9,0]),(16,[0,0,0,0,5,0]),(15,[0,0,0,0,5,0]),(14,[0,0,0,0,5,0,0]),(13,[0,0,0,0,5,0,0,29]),(12,[0,0,0,0,5,0,0]),(11,[0,0,0,0,5,0,25]),(10,[0,0,0,0,5,0]),(9,[0,0,0,0,5]),(8,[0,0,0,0,5]),(7,[0,0,0,0]),(6,[0,0,0,0]),(5,[0,0,0,0,16]),(4,[8]),(3,[0,0,0,0,11]),(2,[8]),(1,[0,0,0,0,9]),(0,[0,0,0,0])]) [182,108] (A4 [(0,[0,8,0]),(1,[0,0,0,0,5,0])]) (some [8]) [] [] []
noncomputable def V8 {R:Type} (lf n:Nat) (s0 sep1:By) (sepSave2 n3 i4:Int) (l5:LL) (k0:By->Int->LL->Option R):Option R:=match n with | 0=>none | n+1=>cond (ltI i4 n3) (cond (A1 s0.length) (cond (ltI (Lib.index s0 sep1) (0:Int)) (k0 s0 i4 l5) (vl (A2 ((Lib.index s0 sep1)+sepSave2)) λn'12=>cond (P2 0 n'12 s0.length) (cond (inR i4 l5.length) (cond (decide ((Int.toNat i4)<l5.length)) (vl (List.set l5 (Int.toNat i4) (F3 (List.getD l5 (Int.toNat i4) []) 0 [(SV.str (cut s0 0 n'12))])) λl'13=>vl (A2 ((Lib.index s0 sep1)+(sep1.length:Int))) λn'14=>cond (P2 n'14 (s0.length:Int) s0.length) (vl (cut s0 n'14 (s0.length:Int)) λs'15=>V8 lf n s'15 sep1 sepSave2 n3 (A2 (i4+1)) l'13 k0) none) none) none) none)) none) (k0 s0 i4 l5)
theorem Oi (n s0 sep1 sepSave2 n3 i4 l5):E6 1 ((Cp lf).keep 11) (bd (Cp lf) cl yh (cd [1,1,1,1,1,1,1,1,0,0,0] LX)) n ⟨gp [(0,pS s0),(0,pS sep1),(0,pI sepSave2),(0,pI n3),(5,.fl 0),(0,pI i4)] 55,[.arr false 9 1 l5],s⟩ k =
 V8 lf n s0 sep1 sepSave2 n3 i4 l5 (λs0 i1 l2=>k (.exit 0) ⟨gp [(0,pS s0),(8,.fl 0),(0,pI i1)] 55,[.arr false 9 1 l2],s⟩):=by
 induction n generalizing s0 sep1 sepSave2 n3 i4 l5 with
 | zero=>rfl
 | succ n ih=>rw [V8];simp only [<-ih];kernel_rfl
noncomputable def Yn {R:Type} (lf:Nat) (s0 sep1:By) (sepSave2 n3:Int) (k0:Unit->Option R) (k1:Nat->LL->Option R):Option R:=cond (n3==0) (k0 ()) (cond (sep1==[]) none (cond (ltI n3 0) (cond (sep1.length==1) (vl (↑(List.count (List.getD sep1 0 0) s0):Int) λn'1=>vl (A2 ((s0.length:Int)+1)) λn'4=>vl (if (n'4<(A2 (n'1+1))) then n'4 else (A2 (n'1+1))) λn'5=>cond (((decide ((0:Int)<=n'5))&&(decide (n'5<=n'5)))&&(G0 (Int.toNat n'5))) (V8 lf lf s0 sep1 sepSave2 (A2 (n'5-1)) 0 (List.replicate (Int.toNat n'5) [(SV.str ([]:List UInt8))]) (λs'16 i'17 l'18=>cond (inR i'17 l'18.length) (cond (decide ((Int.toNat i'17)<l'18.length)) (vl (List.set l'18 (Int.toNat i'17) (F3 (List.getD l'18 (Int.toNat i'17) []) 0 [(SV.str s'16)])) λl'19=>vl (A2 (i'17+1)) λn'20=>cond (P2 0 n'20 l'19.length) (k1 ((Int.toNat n'20)-0) l'19) none) none) none)) none) none) (vl (A2 ((s0.length:Int)+1)) λn'8=>vl (if (n'8<n3) then n'8 else n3) λn'9=>cond (((decide ((0:Int)<=n'9))&&(decide (n'9<=n'9)))&&(G0 (Int.toNat n'9))) (V8 lf lf s0 sep1 sepSave2 (A2 (n'9-1)) 0 (List.replicate (Int.toNat n'9) [(SV.str ([]:List UInt8))]) (λs'21 i'22 l'23=>cond (inR i'22 l'23.length) (cond (decide ((Int.toNat i'22)<l'23.length)) (vl (List.set l'23 (Int.toNat i'22) (F3 (List.getD l'23 (Int.toNat i'22) []) 0 [(SV.str s'21)])) λl'24=>vl (A2 (i'22+1)) λn'25=>cond (P2 0 n'25 l'24.length) (k1 ((Int.toNat n'25)-0) l'24) none) none) none)) none)))
theorem Ah9 (d:Nat) (s0 sep1 sepSave2 n3):evC (Cp lf) (d+1) σ yh 158 [pS s0,pS sep1,pI sepSave2,pI n3] [] s=Yn lf s0 sep1 sepSave2 n3 (λ_=>some (.fl 0,[.arr true 9 1 []],s)) (λr_m0 l1=>some (.vw 0 0 r_m0,[.arr false 9 1 l1],s)):=by
 refine (evE (fn:=Tryz.f158) (by kernel_rfl)).trans ?_
 generalize evC (Cp lf) d=cl
 unfold Yn;exact let K0:=(G8 0 (I4 (Cp lf) cl yh (cd [1,1,1,1,1,1,1,1,1] LX) (H4 (Cp lf) Tryz.f158)));(Eq.trans (by kernel_rfl) (A0 rfl (A0 rfl (A0 (A0 (A8 λn'1=>(A8 λn'4=>(A8 λn'5=>(A0 ((Oi lf cl yh s K0 lf s0 sep1 sepSave2 (A2 (n'5-1)) 0 (List.replicate (Int.toNat n'5) [(SV.str ([]:List UInt8))])).trans (by kernel_rfl)) rfl)))) rfl) (A8 λn'8=>(A8 λn'9=>(A0 ((Oi lf cl yh s K0 lf s0 sep1 sepSave2 (A2 (n'9-1)) 0 (List.replicate (Int.toNat n'9) [(SV.str ([]:List UInt8))])).trans (by kernel_rfl)) rfl)))))))
noncomputable def Xx (lf:Nat):Cfg:=B8 lf [117] (A4 []) [(158,LP)] (A4 [(1,[4]),(0,[0,0])]) [] (A4 []) (some [4]) [] [] []
noncomputable def KU {R:Type} (lf:Nat) (s0 sep1:By) (k0:LL->Option R):Option R:=cond (A1 s0.length) (cond (sep1.length==1) (cond ((0:Int)==0) (cond (((-1):Int)==((-1):Int)) (vl (J0 (pcs (List.getD sep1 0 0) s0)) λl'0=>k0 l'0) none) none) none) none
theorem Ao9 (d:Nat) (s0 sep1):evC (Xx lf) (d+1) σ yh 117 [pS s0,pS sep1] [] s=KU lf s0 sep1 (λr0=>some (.s (.sl false false 1 r0),[],s)):=by
 refine (evE (fn:=Tryz.f117) (by kernel_rfl)).trans ?_
 generalize evC (Xx lf) d=cl
 unfold KU;kernel_rfl
noncomputable def RX (lf:Nat):Cfg:=B8 lf [127] (A4 []) [(112,As0)] (A4 [(1,[2]),(0,[0])]) [112] (A4 []) (some [2]) [] [] []
noncomputable def Bg5 {R:Type} (lf:Nat) (s0:By) (k0:Bool->Option R):Option R:=cond (A1 s0.length) (cond (List.isPrefixOf ([48,120]:List UInt8) s0) (k0 true) (cond (A1 s0.length) (k0 (List.isPrefixOf ([48,88]:List UInt8) s0)) none)) none
theorem Bg6 (d:Nat) (s0):evC (RX lf) (d+1) σ yh 127 [pS s0] [] s=Bg5 lf s0 (λr0=>some (pB r0,[],s)):=by
 refine (evE (fn:=Tryz.f127) (by kernel_rfl)).trans ?_
 generalize evC (RX lf) d=cl
 unfold Bg5;kernel_rfl
noncomputable abbrev Ba:Code:=D3 Tryz.f129
noncomputable def Q3 (lf:Nat):Cfg:=B8 lf [129] (A4 [(3,[0,0,2,0,0,4,0])]) [] (A4 [(18,[4,0]),(17,[0,0,4,4,0]),(16,[0,0,4,4,0]),(15,[4,0]),(14,[0,0,4,1,2,0,39]),(9,[0,0,4,1,2,0]),(11,[0,0,4,1,2,0]),(13,[0,0,4,1,2,0]),(7,[4,0]),(12,[0,0,4,2,1,0,26]),(10,[0,0,4,2,1,0,15]),(8,[0,0,4,2,1,0,5]),(6,[0,0,4,2,1,0]),(5,[0,0,4,0,3,0]),(4,[0,0,4,0,3,0]),(3,[0,0,4,4,0,0]),(2,[0,0,4,4,0]),(1,[0,0,4]),(0,[0,0])]) [] (A4 [(0,[6]),(1,[0,0,4,4,0]),(2,[0,0,4,1,2,0])]) (some [4,0]) [] [] []
noncomputable def Ny {R:Type} (s0:By) (base1 n2 b3 n4 n5:Int) (b6:Bool) (k0:By->Int->Int->Int->Int->Int->Option R) (k1:Unit->Option R):Option R:=cond b6 (vl (A2 (wu8 (b3-97))) λn'1=>vl (A2 (n'1+10)) λn'2=>k0 s0 base1 n2 n'2 n4 n5) (cond (not (ltI b3 65)) (cond (not (ltI 70 b3)) (vl (A2 (wu8 (b3-65))) λn'3=>vl (A2 (n'3+10)) λn'4=>k0 s0 base1 n2 n'4 n4 n5) (k1 ())) (k1 ()))
abbrev CX (b:Code):Prop:=∀ (k:Out->St σ->Option R) s0 base1 n2 b3 n4 n5 b6,B2 (Q3 lf) cl yh b ⟨gp [(0,pS s0),(0,pI base1),(4,pI n2),(2,p8 b3),(1,pI n4),(0,pI n5),(15,pB b6)] 32,[],s⟩ k=Ny s0 base1 n2 b3 n4 n5 b6 (λs0 base1 n2 d3 n4 n5=>k .normal ⟨gp [(0,pS s0),(0,pI base1),(4,pI n2),(1,pI d3),(2,pI n4),(0,pI n5)] 48,[],s⟩) (λ_=>k .ret ⟨gp [(4,pI (0:Int)),(0,pB false)] 55,[],s⟩)
theorem UA:CX (R:=R) lf cl yh s (cd [1,1,0,1,0,0,1,1,0,0,1,1,0,1,0,1,1,1] Ba):=by
 intro k s0 base1 n2 b3 n4 n5 b6;unfold Ny;kernel_rfl
noncomputable def Nz {R:Type} (s0:By) (base1 n2 b3 n4 n5:Int) (b6:Bool) (k0:By->Int->Int->Int->Int->Int->Option R) (k1:Unit->Option R):Option R:=cond b6 (vl (A2 (wu8 (b3-48))) λn'0=>k0 s0 base1 n2 n'0 n4 n5) (cond (not (ltI b3 97)) (Ny s0 base1 n2 b3 n4 n5 (not (ltI 102 b3)) (λs'5 base'6 n'7 d'8 n'9 n'10=>k0 s'5 base'6 n'7 d'8 n'9 n'10) (λ_=>k1 ())) (Ny s0 base1 n2 b3 n4 n5 false (λs'11 base'12 n'13 d'14 n'15 n'16=>k0 s'11 base'12 n'13 d'14 n'15 n'16) (λ_=>k1 ())))
abbrev Kh (b:Code):Prop:=∀ (k:Out->St σ->Option R) s0 base1 n2 b3 n4 n5 b6,B2 (Q3 lf) cl yh b ⟨gp [(0,pS s0),(0,pI base1),(4,pI n2),(2,p8 b3),(1,pI n4),(0,pI n5),(5,pB b6)] 42,[],s⟩ k=Nz s0 base1 n2 b3 n4 n5 b6 (λs0 base1 n2 d3 n4 n5=>k .normal ⟨gp [(0,pS s0),(0,pI base1),(4,pI n2),(1,pI d3),(2,pI n4),(0,pI n5)] 48,[],s⟩) (λ_=>k .ret ⟨gp [(4,pI (0:Int)),(0,pB false)] 55,[],s⟩)
theorem UB (b_110100110011010111:Code) (h_digs_j0:CX (R:=R) lf cl yh s b_110100110011010111):Kh (R:=R) lf cl yh s (cd [1,1,0,1,0,0,1,1,0,0,1,1,0,1,0,1] (R1 [1,1,0,1,0,0,1,1,0,0,1,1,0,1,0,1,1,1] b_110100110011010111 Ba)):=by
 intro k s0 base1 n2 b3 n4 n5 b6;unfold Nz;simp only [<-h_digs_j0 k];kernel_rfl
theorem UC:Kh (R:=R) lf cl yh s (cd [1,1,0,1,0,0,1,1,0,0,1,1,0,1,0,1] Ba):=by
 intro k s0 base1 n2 b3 n4 n5 b6;exact Eq.trans (by kernel_rfl) (UB lf cl yh s (cd [1,1,0,1,0,0,1,1,0,0,1,1,0,1,0,1,1,1] Ba) (UA lf cl yh s) k s0 base1 n2 b3 n4 n5 b6)
noncomputable def Oa {R:Type} (s0:By) (base1 n2 d3 n4 n5:Int) (k0:Unit->Option R) (k1:By->Int->Int->Int->Int->Option R):Option R:=cond (not (ltI d3 base1)) (k0 ()) (vl (A2 ((A2 (n2*base1))+d3)) λn'23=>vl (if ((1099511627776:Int)<n'23) then (1099511627776:Int) else n'23) λn'24=>k1 s0 base1 n'24 n4 n5)
abbrev Rz (b:Code):Prop:=∀ (k:Out->St σ->Option R) s0 base1 n2 d3 n4 n5,B2 (Q3 lf) cl yh b ⟨gp [(0,pS s0),(0,pI base1),(4,pI n2),(1,pI d3),(2,pI n4),(0,pI n5)] 48,[],s⟩ k=Oa s0 base1 n2 d3 n4 n5 (λ_=>k .ret ⟨gp [(4,pI (0:Int)),(0,pB false)] 55,[],s⟩) (λs0 base1 n2 n3 n4=>k .normal ⟨gp [(0,pS s0),(0,pI base1),(4,pI n2),(4,pI n3),(0,pI n4)] 48,[],s⟩)
theorem UD:Rz (R:=R) lf cl yh s (cd [1,1,0,1,0,0,1,1,0,0,1,1,1] Ba):=by
 intro k s0 base1 n2 d3 n4 n5;unfold Oa;kernel_rfl
noncomputable def Eb {R:Type} (lf n:Nat) (s0:By) (base1 n2 n3 n4:Int) (k0:Unit->Option R) (k1:Int->Option R):Option R:=match n with | 0=>none | n+1=>cond (ltI n4 n3) (cond (inR n4 s0.length) (cond (not (ltI (bAt s0 n4) (48:Int))) (Nz s0 base1 n2 (bAt s0 n4) n3 n4 (not (ltI 57 (bAt s0 n4))) (λs'17 base'18 n'19 d'20 n'21 n'22=>Oa s'17 base'18 n'19 d'20 n'21 n'22 (λ_=>k0 ()) (λs'25 base'26 n'27 n'28 n'29=>vl (A2 (n'29+1)) λn'30=>Eb lf n s'25 base'26 n'27 n'28 n'30 k0 k1)) (λ_=>k0 ())) (Nz s0 base1 n2 (bAt s0 n4) n3 n4 false (λs'31 base'32 n'33 d'34 n'35 n'36=>Oa s'31 base'32 n'33 d'34 n'35 n'36 (λ_=>k0 ()) (λs'37 base'38 n'39 n'40 n'41=>vl (A2 (n'41+1)) λn'42=>Eb lf n s'37 base'38 n'39 n'40 n'42 k0 k1)) (λ_=>k0 ()))) none) (k1 n2)
theorem UE (b_1101001100110101:Code) (h_digs_j1:Kh (R:=R) lf cl yh s b_1101001100110101) (b_1101001100111:Code) (h_digs_j2:Rz (R:=R) lf cl yh s b_1101001100111) (n:Nat) (s0:By) (base1 n2 n3 n4:Int):E6 0 ((Q3 lf).keep 3) (bd (Q3 lf) cl yh (cd [1,1,0,1,0,0] (R1 [1,1,0,1,0,0,1,1,0,0,1,1,1] b_1101001100111 (R1 [1,1,0,1,0,0,1,1,0,0,1,1,0,1,0,1] b_1101001100110101 Ba)))) n ⟨gp [(0,pS s0),(0,pI base1),(4,pI n2),(4,pI n3),(0,pI n4)] 48,[],s⟩ k =
 Eb lf n s0 base1 n2 n3 n4 (λ_=>k .ret ⟨gp [(4,pI (0:Int)),(0,pB false)] 55,[],s⟩) (λn0=>k (.exit 0) ⟨gp [(6,pI n0)] 54,[],s⟩):=by
 induction n generalizing s0 base1 n2 n3 n4 with
 | zero=>rfl
 | succ n ih=>rw [Eb];exact let K0:=(G8 1 (I4 (Q3 lf) cl yh (cd [1,1,0,1,0,0,1,1,1] Ba) (lpK 0 ((Q3 lf).keep 3) (bd (Q3 lf) cl yh (cd [1,1,0,1,0,0] (R1 [1,1,0,1,0,0,1,1,0,0,1,1,1] b_1101001100111 (R1 [1,1,0,1,0,0,1,1,0,0,1,1,0,1,0,1] b_1101001100110101 Ba)))) n k)));let K1:=(G8 2 (I4 (Q3 lf) cl yh b_1101001100111 K0));(Eq.trans (by kernel_rfl) (A0 (A0 (A0 ((h_digs_j1 K1 s0 base1 n2 (bAt s0 n4) n3 n4 (not (ltI 57 (bAt s0 n4)))).trans (congr (congr rfl (fx6 λs'17 base'18 n'19 d'20 n'21 n'22=>(Eq.trans (by kernel_rfl) ((h_digs_j2 K0 s'17 base'18 n'19 d'20 n'21 n'22).trans (congr (congr rfl (by kernel_rfl)) (fx5 λs'25 base'26 n'27 n'28 n'29=>(Eq.trans (by kernel_rfl) (A8 λn'30=>(ih s'25 base'26 n'27 n'28 n'30))))))))) (by kernel_rfl))) ((h_digs_j1 K1 s0 base1 n2 (bAt s0 n4) n3 n4 false).trans (congr (congr rfl (fx6 λs'31 base'32 n'33 d'34 n'35 n'36=>(Eq.trans (by kernel_rfl) ((h_digs_j2 K0 s'31 base'32 n'33 d'34 n'35 n'36).trans (congr (congr rfl (by kernel_rfl)) (fx5 λs'37 base'38 n'39 n'40 n'41=>(Eq.trans (by kernel_rfl) (A8 λn'42=>(ih s'37 base'38 n'39 n'40 n'42))))))))) (by kernel_rfl)))) rfl) rfl))
noncomputable def Az0 {R:Type} (lf:Nat) (s0:By) (base1:Int) (k0:Int->Bool->Option R):Option R:=Eb lf lf s0 base1 0 (s0.length:Int) 0 (λ_=>k0 0 false) (λn'43=>k0 n'43 true)
theorem Bf5 (b_1101001100110101:Code) (h_digs_j1:Kh (R:=PV × List Blk × σ) lf cl yh s b_1101001100110101) (b_1101001100111:Code) (h_digs_j2:Rz (R:=PV × List Blk × σ) lf cl yh s b_1101001100111) (s0:By) (base1:Int):B2 (Q3 lf) cl yh (cd [] (R1 [1,1,0,1,0,0,1,1,0,0,1,1,1] b_1101001100111 (R1 [1,1,0,1,0,0,1,1,0,0,1,1,0,1,0,1] b_1101001100110101 Ba))) ⟨[pS s0,pI base1]++tps 59,[],s⟩ (H4 (Q3 lf) Tryz.f129)=Az0 lf s0 base1 (λr0 r1=>some (.tup [pI r0,pB r1],[],s)):=by
 unfold Az0;exact (Eq.trans (by kernel_rfl) ((UE lf cl yh s (G8 0 (I4 (Q3 lf) cl yh (cd [1,1,1] Ba) (H4 (Q3 lf) Tryz.f129))) b_1101001100110101 h_digs_j1 b_1101001100111 h_digs_j2 lf s0 base1 0 (s0.length:Int) 0).trans (by kernel_rfl)))
theorem Bf6 (d:Nat) (s0 base1):evC (Q3 lf) (d+1) σ yh 129 [pS s0,pI base1] [] s=Az0 lf s0 base1 (λr0 r1=>some (.tup [pI r0,pB r1],[],s)):=
 (evE (fn:=Tryz.f129) (by kernel_rfl)).trans (Eq.trans (by kernel_rfl) (Bf5 lf (evC (Q3 lf) d) yh s (cd [1,1,0,1,0,0,1,1,0,0,1,1,0,1,0,1] Ba) (UC lf (evC (Q3 lf) d) yh s) (cd [1,1,0,1,0,0,1,1,0,0,1,1,1] Ba) (UD lf (evC (Q3 lf) d) yh s) s0 base1))
noncomputable def Aw1 (lf:Nat):Cfg:=B8 lf [128] (A4 []) [(127,QN),(129,QM)] (A4 [(7,[2,0]),(2,[2,0]),(4,[2,0]),(6,[2,0]),(5,[0,14]),(3,[0,6]),(1,[0,3]),(0,[0])]) [127,129] (A4 [(0,[0])]) (some [2,0]) [] [] []
noncomputable def num {R:Type} (lf:Nat) (s0:By) (k0:Int->Bool->Option R):Option R:=cond (s0==[]) (k0 0 false) (cond (A1 s0.length) (cond (X6 s0) (cond (P2 2 (s0.length:Int) s0.length) (vl (cut s0 2 (s0.length:Int)) λs'0=>cond (A1 s'0.length) (cond (ltN 16 17) (vl (↑(Jm (D9 16 0 s'0)):Int) λn'1=>k0 n'1 (Option.isSome (D9 16 0 s'0))) none) none) none) (cond (ltI 1 (s0.length:Int)) (cond (inR 0 s0.length) (cond ((bAt s0 (0:Int))==48) (cond (P2 1 (s0.length:Int) s0.length) (vl (cut s0 1 (s0.length:Int)) λs'2=>cond (A1 s'2.length) (cond (ltN 8 17) (vl (↑(Jm (D9 8 0 s'2)):Int) λn'3=>k0 n'3 (Option.isSome (D9 8 0 s'2))) none) none) none) (cond (A1 s0.length) (cond (ltN 10 17) (vl (↑(Jm (D9 10 0 s0)):Int) λn'4=>k0 n'4 (Option.isSome (D9 10 0 s0))) none) none)) none) (cond (A1 s0.length) (cond (ltN 10 17) (vl (↑(Jm (D9 10 0 s0)):Int) λn'5=>k0 n'5 (Option.isSome (D9 10 0 s0))) none) none))) none)
theorem Bx7 (d:Nat) (s0):evC (Aw1 lf) (d+1) σ yh 128 [pS s0] [] s=num lf s0 (λr0 r1=>some (.tup [pI r0,pB r1],[],s)):=by
 refine (evE (fn:=Tryz.f128) (by kernel_rfl)).trans ?_
 generalize evC (Aw1 lf) d=cl
 unfold num;kernel_rfl
noncomputable def IN (lf:Nat):Cfg:=B8 lf [126] (A4 []) [(117,LT)] (A4 [(5,[2]),(4,[3]),(3,[3,0,13]),(2,[3,0]),(1,[3]),(0,[0])]) [] (A4 []) (some [2]) [] [] []
noncomputable def parts {R:Type} (lf:Nat) (s0:By) (k0:LL->Option R):Option R:=cond (A1 s0.length) (cond (1==1) (vl (J0 (pcs (List.getD ([46]:List UInt8) 0 0) s0)) λl'1=>vl (A2 ((l'1.length:Int)-1)) λn'3=>cond (ltI 0 n'3) (cond (inR n'3 l'1.length) (cond (okE Dy l'1 (Int.toNat n'3) 0) (vl (gX l'1 (Int.toNat n'3) 0) λs'4=>cond (s'4==[]) (cond (P2 0 n'3 l'1.length) (k0 (cut l'1 0 n'3)) none) (k0 l'1)) none) none) (k0 l'1)) none) none
theorem A33 (d:Nat) (s0):evC (IN lf) (d+1) σ yh 126 [pS s0] [] s=parts lf s0 (λr0=>some (.s (.sl false false 1 r0),[],s)):=by
 refine (evE (fn:=Tryz.f126) (by kernel_rfl)).trans ?_
 generalize evC (IN lf) d=cl
 unfold parts;kernel_rfl
noncomputable def Ru (lf:Nat):Cfg:=B8 lf [93] (A4 []) [(126,ZS),(127,QN),(128,Bt6),(129,QM)] (A4 [(7,[2]),(6,[4,3]),(5,[2]),(4,[6]),(3,[4,13]),(2,[4]),(1,[3]),(0,[0])]) [127,128,129] (A4 []) (some [2]) [] [] []
noncomputable def Vu {R:Type} (lf:Nat) (s0:By) (k0:Bool->Option R):Option R:=cond (A1 s0.length) (vl (A2 ((↑(List.length (J0 (D8 s0))):Int)-1)) λn'2=>cond (inR n'2 (List.length (J0 (D8 s0)))) (cond (okE Dy (J0 (D8 s0)) (Int.toNat n'2) 0) (vl (gX (J0 (D8 s0)) (Int.toNat n'2) 0) λs'3=>cond (A1 s'3.length) (cond (X6 s'3) (cond (A1 s'3.length) (vl (↑(Jm (Z0 s'3)):Int) λn'5=>k0 (Option.isSome (Z0 s'3))) none) (cond (A1 s'3.length) (cond (ltN 10 17) (vl (↑(Jm (D9 10 0 s'3)):Int) λn'6=>cond (Option.isSome (D9 10 0 s'3)) (k0 (not (s'3==[]))) (k0 false)) none) none)) none) none) none) none
theorem VV (d:Nat) (s0):evC (Ru lf) (d+1) σ yh 93 [pS s0] [] s=Vu lf s0 (λr0=>some (pB r0,[],s)):=by
 refine (evE (fn:=Tryz.f93) (by kernel_rfl)).trans ?_
 generalize evC (Ru lf) d=cl
 unfold Vu;kernel_rfl
noncomputable abbrev BO:Code:=D3 Tryz.f101
noncomputable def Z5 (lf:Nat):Cfg:=B8 lf [101] (A4 [(2,[0,1,0])]) [] (A4 [(6,[2]),(3,[0,2]),(5,[2]),(4,[0,2,15]),(2,[0,2,3]),(1,[0,2]),(0,[0])]) [] (A4 [(0,[0]),(1,[0,2])]) (some [2]) [] [] []
noncomputable def U9 {R:Type} (lf n:Nat) (s0:By) (i1:Int) (k0:Unit->Option R) (k1:By->Option R):Option R:=match n with | 0=>none | n+1=>cond (ltI i1 (s0.length:Int)) (cond (inR i1 s0.length) (cond (ltI (bAt s0 i1) (48:Int)) (k0 ()) (cond (inR i1 s0.length) (cond (ltI 57 (bAt s0 i1)) (k0 ()) (U9 lf n s0 (A2 (i1+1)) k0 k1)) none)) none) (k1 s0)
theorem AX (n s0 i1):E6 0 ((Z5 lf).keep 2) (bd (Z5 lf) cl yh (cd [1,0,1,0,0] BO)) n ⟨gp [(0,pS s0),(2,pI i1)] 18,[],s⟩ k =
 U9 lf n s0 i1 (λ_=>k .ret ⟨gp [(2,pB false)] 19,[],s⟩) (λs0=>k (.exit 0) ⟨gp [(0,pS s0)] 21,[],s⟩):=by
 induction n generalizing s0 i1 with
 | zero=>rfl
 | succ n ih=>rw [U9];simp only [<-ih];kernel_rfl
noncomputable def Vx {R:Type} (lf:Nat) (s0:By) (k0:Bool->Option R):Option R:=U9 lf lf s0 0 (λ_=>k0 false) (λs'0=>k0 (not (s'0==[])))
theorem XB (d:Nat) (s0):evC (Z5 lf) (d+1) σ yh 101 [pS s0] [] s=Vx lf s0 (λr0=>some (pB r0,[],s)):=by
 refine (evE (fn:=Tryz.f101) (by kernel_rfl)).trans ?_
 generalize evC (Z5 lf) d=cl
 unfold Vx;exact (Eq.trans (by kernel_rfl) ((AX lf cl yh s (G8 0 (I4 (Z5 lf) cl yh (cd [1,1] BO) (H4 (Z5 lf) Tryz.f101))) lf s0 0).trans (by kernel_rfl)))
noncomputable abbrev MA:Code:=D3 Tryz.f53
noncomputable def Cs (lf:Nat):Cfg:=B8 lf [53] (A4 [(4,[0,0,2,0,0,0])]) [] (A4 [(9,[4]),(5,[0,0,3,0,0]),(8,[0,0,3,0,0]),(7,[0,0,3,1]),(6,[0,0,3,0,0,16]),(4,[0,0,3,0,0,3]),(3,[0,0,3,0,0]),(2,[0,0,3,0]),(1,[0,0,3]),(0,[0,0])]) [] (A4 [(0,[5]),(1,[0,0,3,0,0])]) (some [4]) [] [] []
noncomputable def P9 {R:Type} (lf n:Nat) (s0:By) (at1 from2 i3:Int) (l4:LL) (k0:LL->Option R):Option R:=match n with | 0=>none | n+1=>cond (not (ltI (s0.length:Int) i3)) (cond (i3==(s0.length:Int)) (cond (P2 from2 i3 s0.length) (cond (G0 (l4.length+1)) (P9 lf n s0 at1 (A2 (i3+1)) (A2 (i3+1)) (l4++[[(SV.str (cut s0 from2 i3))]]) k0) none) none) (cond (inR i3 s0.length) (cond ((bAt s0 i3)==at1) (cond (P2 from2 i3 s0.length) (cond (G0 (l4.length+1)) (P9 lf n s0 at1 (A2 (i3+1)) (A2 (i3+1)) (l4++[[(SV.str (cut s0 from2 i3))]]) k0) none) none) (P9 lf n s0 at1 from2 (A2 (i3+1)) l4 k0)) none)) (k0 l4)
theorem KQ (n s0 at1 from2 i3 l4):E6 1 ((Cs lf).keep 4) (bd (Cs lf) cl yh (cd [1,1,1,0,1,0,0] MA)) n ⟨gp [(0,pS s0),(0,p8 at1),(3,.fl 0),(0,pI from2),(0,pI i3)] 27,[.arr true 9 1 l4],s⟩ k =
 P9 lf n s0 at1 from2 i3 l4 (λl0=>k (.exit 0) ⟨gp [(5,.fl 0)] 29,[.arr true 9 1 l0],s⟩):=by
 induction n generalizing s0 at1 from2 i3 l4 with
 | zero=>rfl
 | succ n ih=>rw [P9];simp only [<-ih];kernel_rfl
noncomputable def Zx {R:Type} (lf:Nat) (s0:By) (at1:Int) (k0:LL->Option R):Option R:=P9 lf lf s0 at1 0 0 [] (λl'0=>k0 l'0)
theorem Ao1 (d:Nat) (s0 at1):evC (Cs lf) (d+1) σ yh 53 [pS s0,p8 at1] [] s=Zx lf s0 at1 (λl0=>some (.fl 0,[.arr true 9 1 l0],s)):=by
 refine (evE (fn:=Tryz.f53) (by kernel_rfl)).trans ?_
 generalize evC (Cs lf) d=cl
 unfold Zx;exact (Eq.trans (by kernel_rfl) ((KQ lf cl yh s (G8 0 (I4 (Cs lf) cl yh (cd [1,1,1,1] MA) (H4 (Cs lf) Tryz.f53))) lf s0 at1 0 0 []).trans (by kernel_rfl)))
noncomputable abbrev Lx:Code:=D3 Tryz.f145
noncomputable def Fc (lf:Nat):Cfg:=B8 lf [145] (A4 []) [] (A4 [(7,[2]),(2,[2]),(4,[2]),(6,[2]),(5,[0,23]),(3,[0,12]),(1,[0,2]),(0,[0])]) [] (A4 [(0,[])]) (some [2]) [] [] []
noncomputable def Pl {R:Type} (b0:Int) (b1:Bool) (k0:Int->Option R) (k1:Int->Bool->Option R):Option R:=cond b1 (vl (A2 (wu8 (b0-97))) λn'1=>vl (A2 (n'1+10)) λn'2=>k0 n'2) (cond (not (ltI b0 65)) (cond (not (ltI 70 b0)) (vl (A2 (wu8 (b0-65))) λn'3=>vl (A2 (n'3+10)) λn'4=>k0 n'4) (k1 b0 (not (ltI 70 b0)))) (k1 b0 false))
abbrev EA (b:Code):Prop:=∀ (k:Out->St σ->Option R) b0 b1,B2 (Fc lf) cl yh b ⟨gp [(0,p8 b0),(12,pB b1)] 21,[],s⟩ k=Pl b0 b1 (λn0=>k .ret ⟨gp [(2,pI n0)] 32,[],s⟩) (λb0 b1=>k .normal ⟨gp [(0,p8 b0),(23,pB b1)] 10,[],s⟩)
theorem WY:EA (R:=R) lf cl yh s (cd [1,0,0,1,1,1] Lx):=by
 intro k b0 b1;unfold Pl;kernel_rfl
noncomputable def Pm {R:Type} (b0:Int) (b1:Bool) (k0:Int->Option R) (k1:Int->Bool->Option R):Option R:=cond b1 (vl (A2 (wu8 (b0-48))) λn'0=>k0 n'0) (cond (not (ltI b0 97)) (Pl b0 (not (ltI 102 b0)) (λn'5=>k0 n'5) (λb'6 b'7=>k1 b'6 b'7)) (Pl b0 false (λn'8=>k0 n'8) (λb'9 b'10=>k1 b'9 b'10)))
abbrev Sy (b:Code):Prop:=∀ (k:Out->St σ->Option R) b0 b1,B2 (Fc lf) cl yh b ⟨gp [(0,p8 b0),(2,pB b1)] 31,[],s⟩ k=Pm b0 b1 (λn0=>k .ret ⟨gp [(2,pI n0)] 32,[],s⟩) (λb0 b1=>k .normal ⟨gp [(0,p8 b0),(23,pB b1)] 10,[],s⟩)
theorem WZ (b_100111:Code) (h_rdig_j0:EA (R:=R) lf cl yh s b_100111):Sy (R:=R) lf cl yh s (cd [1,0,0,1] (R1 [1,0,0,1,1,1] b_100111 Lx)):=by
 intro k b0 b1;unfold Pm;simp only [<-h_rdig_j0 k];kernel_rfl
theorem XA:Sy (R:=R) lf cl yh s (cd [1,0,0,1] Lx):=by
 intro k b0 b1;exact Eq.trans (by kernel_rfl) (WZ lf cl yh s (cd [1,0,0,1,1,1] Lx) (WY lf cl yh s) k b0 b1)
noncomputable def A48 {R:Type} (lf:Nat) (b0:Int) (k0:Int->Option R):Option R:=cond (not (ltI b0 48)) (Pm b0 (not (ltI 57 b0)) (λn'11=>k0 n'11) (λb'12 b'13=>k0 99)) (Pm b0 false (λn'14=>k0 n'14) (λb'15 b'16=>k0 99))
theorem Bn1 (b_1001:Code) (h_rdig_j1:Sy (R:=PV × List Blk × σ) lf cl yh s b_1001) (b0:Int):B2 (Fc lf) cl yh (cd [] (R1 [1,0,0,1] b_1001 Lx)) ⟨[p8 b0]++tps 34,[],s⟩ (H4 (Fc lf) Tryz.f145)=A48 lf b0 (λr0=>some (pI r0,[],s)):=by
 unfold A48;exact let K0:=(G8 0 (I4 (Fc lf) cl yh (cd [1,1] Lx) (H4 (Fc lf) Tryz.f145)));(Eq.trans (by kernel_rfl) (A0 ((h_rdig_j1 K0 b0 (not (ltI 57 b0))).trans (by kernel_rfl)) ((h_rdig_j1 K0 b0 false).trans (by kernel_rfl))))
theorem Bn2 (d:Nat) (b0):evC (Fc lf) (d+1) σ yh 145 [p8 b0] [] s=A48 lf b0 (λr0=>some (pI r0,[],s)):=
 (evE (fn:=Tryz.f145) (by kernel_rfl)).trans (Eq.trans (by kernel_rfl) (Bn1 lf (evC (Fc lf) d) yh s (cd [1,0,0,1] Lx) (XA lf (evC (Fc lf) d) yh s) b0))
noncomputable abbrev Z4:Code:=D3 Tryz.f102
noncomputable def L3 (lf:Nat):Cfg:=B8 lf [102] (A4 [(10,[0,1,0,0,0,0])]) [(145,As8)] (A4 [(16,[2,0]),(11,[0,3,0,0]),(15,[0,3,0,0]),(14,[2,0]),(13,[0,3,0,0,0,44]),(12,[0,3,0,0,0]),(10,[0,3,0,0,36]),(9,[0,3,0,0]),(8,[0,3,0]),(5,[0,3]),(7,[0,3]),(6,[0,3,32]),(4,[0,3,22]),(3,[0,3]),(2,[2,0]),(1,[0,8]),(0,[0])]) [145] (A4 [(0,[5]),(1,[0,3,0,0])]) (some [2,0]) [] [] []
noncomputable def Wa {R:Type} (s0:By) (k0:By->Option R):Option R:=cond (P2 2 (s0.length:Int) s0.length) (vl (cut s0 2 (s0.length:Int)) λs'0=>k0 s'0) none
abbrev EF (b:Code):Prop:=∀ (k:Out->St σ->Option R) s0,B2 (L3 lf) cl yh b ⟨gp [(0,pS s0),(3,pI (10:Int)),(22,pB true)] 32,[],s⟩ k=Wa s0 (λs0=>k .normal ⟨gp [(0,pS s0),(3,pI (16:Int))] 55,[],s⟩)
theorem XT:EF (R:=R) lf cl yh s (cd [1,1,1,0,1] Z4):=by
 intro k s0;unfold Wa;kernel_rfl
noncomputable def Eo {R:Type} (lf n:Nat) (s0:By) (n1 i2:Int) (k0:Unit->Option R) (k1:Int->Option R):Option R:=match n with | 0=>none | n+1=>cond (ltI i2 (s0.length:Int)) (cond (inR i2 s0.length) (cond (inR (bAt s0 i2) 256) (vl (↑(dig (u8n (bAt s0 i2))):Int) λn'3=>cond (not (ltI n'3 16)) (k0 ()) (vl (A2 ((A2 (n1*16))+n'3)) λn'4=>vl (if ((1099511627776:Int)<n'4) then (1099511627776:Int) else n'4) λn'5=>Eo lf n s0 n'5 (A2 (i2+1)) k0 k1)) none) none) (k1 n1)
theorem XY (n s0 n1 i2):E6 0 ((L3 lf).keep 10) (bd (L3 lf) cl yh (cd [1,1,1,1,1,0,1,0,0] Z4)) n ⟨gp [(0,pS s0),(3,pI (16:Int)),(0,pI n1),(0,pI i2)] 53,[],s⟩ k =
 Eo lf n s0 n1 i2 (λ_=>k .ret ⟨gp [(2,pI (0:Int)),(0,pB false)] 56,[],s⟩) (λn0=>k (.exit 0) ⟨gp [(5,pI n0)] 54,[],s⟩):=by
 induction n generalizing s0 n1 i2 with
 | zero=>rfl
 | succ n ih=>rw [Eo];simp only [<-ih];kernel_rfl
noncomputable def Wb {R:Type} (lf:Nat) (s0:By) (k0:Int->Bool->Option R):Option R:=Eo lf lf s0 0 0 (λ_=>k0 0 false) (λn'6=>k0 n'6 true)
abbrev EG (b:Code):Prop:=∀ (k:Out->St σ->Option R) s0,B2 (L3 lf) cl yh b ⟨gp [(0,pS s0),(3,pI (16:Int))] 55,[],s⟩ k=Wb lf s0 (λn0 b1=>k .ret ⟨gp [(2,pI n0),(0,pB b1)] 56,[],s⟩)
theorem XU:EG (R:=R) lf cl yh s (cd [1,1,1,1] Z4):=by
 intro k s0;unfold Wb;exact (Eq.trans (by kernel_rfl) ((XY lf cl yh s (G8 0 (I4 (L3 lf) cl yh (cd [1,1,1,1,1,1] Z4) k)) lf s0 0 0).trans (by kernel_rfl)))
noncomputable def Kw {R:Type} (s0:By) (b1:Bool) (k0:By->Int->Option R) (k1:By->Bool->Option R):Option R:=cond b1 (cond (P2 2 (s0.length:Int) s0.length) (vl (cut s0 2 (s0.length:Int)) λs'9=>k0 s'9 16) none) (cond (not (ltI (s0.length:Int) (2:Int))) (cond (inR 0 s0.length) (cond ((bAt s0 (0:Int))==48) (cond (P2 1 (s0.length:Int) s0.length) (vl (cut s0 1 (s0.length:Int)) λs'10=>k0 s'10 8) none) (k1 s0 ((bAt s0 (0:Int))==48))) none) (k1 s0 false))
abbrev EH (b:Code):Prop:=∀ (k:Out->St σ->Option R) s0 b1,B2 (L3 lf) cl yh b ⟨gp [(0,pS s0),(3,pI (10:Int)),(22,pB b1)] 32,[],s⟩ k=Kw s0 b1 (λs0 base1=>k .normal ⟨gp [(0,pS s0),(3,pI base1)] 55,[],s⟩) (λs0 b1=>k .normal ⟨gp [(0,pS s0),(3,pI (10:Int)),(32,pB b1)] 22,[],s⟩)
theorem XV:EH (R:=R) lf cl yh s (cd [1,1,1,0,1] Z4):=by
 intro k s0 b1;unfold Kw;kernel_rfl
noncomputable def Bq {R:Type} (lf n:Nat) (s0:By) (base1 n2 i3:Int) (k0:Unit->Option R) (k1:Int->Option R):Option R:=match n with | 0=>none | n+1=>cond (ltI i3 (s0.length:Int)) (cond (inR i3 s0.length) (cond (inR (bAt s0 i3) 256) (vl (↑(dig (u8n (bAt s0 i3))):Int) λn'16=>cond (not (ltI n'16 base1)) (k0 ()) (vl (A2 ((A2 (n2*base1))+n'16)) λn'17=>vl (if ((1099511627776:Int)<n'17) then (1099511627776:Int) else n'17) λn'18=>Bq lf n s0 base1 n'18 (A2 (i3+1)) k0 k1)) none) none) (k1 n2)
theorem Zw (n s0 base1 n2 i3):E6 0 ((L3 lf).keep 10) (bd (L3 lf) cl yh (cd [1,1,1,1,1,0,1,0,0] Z4)) n ⟨gp [(0,pS s0),(3,pI base1),(0,pI n2),(0,pI i3)] 53,[],s⟩ k =
 Bq lf n s0 base1 n2 i3 (λ_=>k .ret ⟨gp [(2,pI (0:Int)),(0,pB false)] 56,[],s⟩) (λn0=>k (.exit 0) ⟨gp [(5,pI n0)] 54,[],s⟩):=by
 induction n generalizing s0 base1 n2 i3 with
 | zero=>rfl
 | succ n ih=>rw [Bq];simp only [<-ih];kernel_rfl
noncomputable def Kx {R:Type} (lf:Nat) (s0:By) (base1:Int) (k0:Int->Bool->Option R):Option R:=Bq lf lf s0 base1 0 0 (λ_=>k0 0 false) (λn'19=>k0 n'19 true)
abbrev EI (b:Code):Prop:=∀ (k:Out->St σ->Option R) s0 base1,B2 (L3 lf) cl yh b ⟨gp [(0,pS s0),(3,pI base1)] 55,[],s⟩ k=Kx lf s0 base1 (λn0 b1=>k .ret ⟨gp [(2,pI n0),(0,pB b1)] 56,[],s⟩)
theorem XW:EI (R:=R) lf cl yh s (cd [1,1,1,1] Z4):=by
 intro k s0 base1;unfold Kx;exact (Eq.trans (by kernel_rfl) ((Zw lf cl yh s (G8 0 (I4 (L3 lf) cl yh (cd [1,1,1,1,1,1] Z4) k)) lf s0 base1 0 0).trans (by kernel_rfl)))
noncomputable def Ky {R:Type} (lf:Nat) (s0:By) (k0:Int->Bool->Option R):Option R:=Bq lf lf s0 10 0 0 (λ_=>k0 0 false) (λn'22=>k0 n'22 true)
abbrev EJ (b:Code):Prop:=∀ (k:Out->St σ->Option R) s0 b1,B2 (L3 lf) cl yh b ⟨gp [(0,pS s0),(3,pI (10:Int)),(32,pB b1)] 22,[],s⟩ k=Ky lf s0 (λn0 b1=>k .ret ⟨gp [(2,pI n0),(0,pB b1)] 56,[],s⟩)
theorem XX:EJ (R:=R) lf cl yh s (cd [1,1,1,1] Z4):=by
 intro k s0 b1;unfold Ky;exact (Eq.trans (by kernel_rfl) ((Zw lf cl yh s (G8 0 (I4 (L3 lf) cl yh (cd [1,1,1,1,1,1] Z4) k)) lf s0 10 0 0).trans (by kernel_rfl)))
noncomputable def A60 {R:Type} (lf:Nat) (s0:By) (k0:Int->Bool->Option R):Option R:=cond (s0==[]) (k0 0 false) (cond (not (ltI (s0.length:Int) (2:Int))) (cond (inR 0 s0.length) (cond ((bAt s0 (0:Int))==48) (cond (inR 1 s0.length) (cond ((bAt s0 (1:Int))==120) (Wa s0 (λs'1=>Wb lf s'1 (λn'7 b'8=>k0 n'7 b'8))) (cond (inR 1 s0.length) (Kw s0 ((bAt s0 (1:Int))==88) (λs'11 base'12=>Kx lf s'11 base'12 (λn'20 b'21=>k0 n'20 b'21)) (λs'13 b'14=>Ky lf s'13 (λn'23 b'24=>k0 n'23 b'24))) none)) none) (Kw s0 false (λs'25 base'26=>Kx lf s'25 base'26 (λn'29 b'30=>k0 n'29 b'30)) (λs'27 b'28=>Ky lf s'27 (λn'31 b'32=>k0 n'31 b'32)))) none) (Kw s0 false (λs'33 base'34=>Kx lf s'33 base'34 (λn'37 b'38=>k0 n'37 b'38)) (λs'35 b'36=>Ky lf s'35 (λn'39 b'40=>k0 n'39 b'40))))
theorem Bo5 (b_11101:Code) (h_rnum_j0:EF (R:=PV × List Blk × σ) lf cl yh s b_11101) (h_rnum_j2:EH (R:=PV × List Blk × σ) lf cl yh s b_11101) (b_1111:Code) (h_rnum_j1:EG (R:=PV × List Blk × σ) lf cl yh s b_1111) (h_rnum_j3:EI (R:=PV × List Blk × σ) lf cl yh s b_1111) (h_rnum_j4:EJ (R:=PV × List Blk × σ) lf cl yh s b_1111) (s0:By):B2 (L3 lf) cl yh (cd [] (R1 [1,1,1,1] b_1111 (R1 [1,1,1,0,1] b_11101 Z4))) ⟨[pS s0]++tps 59,[],s⟩ (H4 (L3 lf) Tryz.f102)=A60 lf s0 (λr0 r1=>some (.tup [pI r0,pB r1],[],s)):=by
 unfold A60;exact let K0:=(H4 (L3 lf) Tryz.f102);let K1:=(I4 (L3 lf) cl yh b_1111 K0);(Eq.trans (by kernel_rfl) (A0 rfl (A0 (A0 (A0 (A0 (A0 ((h_rnum_j0 K1 s0).trans (congr rfl (fx1 λs'1=>(Eq.trans (by kernel_rfl) ((h_rnum_j1 K0 s'1).trans (by kernel_rfl)))))) (A0 ((h_rnum_j2 K1 s0 ((bAt s0 (1:Int))==88)).trans (congr (congr rfl (fx2 λs'11 base'12=>(Eq.trans (by kernel_rfl) ((h_rnum_j3 K0 s'11 base'12).trans (by kernel_rfl))))) (fx2 λs'13 b'14=>(Eq.trans (by kernel_rfl) ((h_rnum_j4 K0 s'13 b'14).trans (by kernel_rfl)))))) rfl)) rfl) ((h_rnum_j2 K1 s0 false).trans (congr (congr rfl (fx2 λs'25 base'26=>(Eq.trans (by kernel_rfl) ((h_rnum_j3 K0 s'25 base'26).trans (by kernel_rfl))))) (fx2 λs'27 b'28=>(Eq.trans (by kernel_rfl) ((h_rnum_j4 K0 s'27 b'28).trans (by kernel_rfl))))))) rfl) ((h_rnum_j2 K1 s0 false).trans (congr (congr rfl (fx2 λs'33 base'34=>(Eq.trans (by kernel_rfl) ((h_rnum_j3 K0 s'33 base'34).trans (by kernel_rfl))))) (fx2 λs'35 b'36=>(Eq.trans (by kernel_rfl) ((h_rnum_j4 K0 s'35 b'36).trans (by kernel_rfl)))))))))
theorem Bo6 (d:Nat) (s0):evC (L3 lf) (d+1) σ yh 102 [pS s0] [] s=A60 lf s0 (λr0 r1=>some (.tup [pI r0,pB r1],[],s)):=
 (evE (fn:=Tryz.f102) (by kernel_rfl)).trans (Eq.trans (by kernel_rfl) (Bo5 lf (evC (L3 lf) d) yh s (cd [1,1,1,0,1] Z4) (XT lf (evC (L3 lf) d) yh s) (XV lf (evC (L3 lf) d) yh s) (cd [1,1,1,1] Z4) (XU lf (evC (L3 lf) d) yh s) (XW lf (evC (L3 lf) d) yh s) (XX lf (evC (L3 lf) d) yh s) s0))
noncomputable def Xv (lf:Nat):Cfg:=B8 lf [100] (A4 []) [(53,Xd)] (A4 [(4,[2]),(3,[3]),(2,[3,13]),(1,[3]),(0,[0])]) [] (A4 []) (some [2]) [] [] []
noncomputable def KM {R:Type} (lf:Nat) (s0:By) (k0:LL->Option R):Option R:=cond (A1 s0.length) (vl (J0 (pcs (u8n (46:Int)) s0)) λl'1=>cond (ltI 1 (l'1.length:Int)) (vl (A2 ((l'1.length:Int)-1)) λn'2=>cond (inR n'2 l'1.length) (cond (okE Dy l'1 (Int.toNat n'2) 0) (vl (gX l'1 (Int.toNat n'2) 0) λs'3=>cond (s'3==[]) (vl (A2 ((l'1.length:Int)-1)) λn'4=>cond (P2 0 n'4 l'1.length) (k0 (cut l'1 0 n'4)) none) (k0 l'1)) none) none) (k0 l'1)) none
theorem An5 (d:Nat) (s0):evC (Xv lf) (d+1) σ yh 100 [pS s0] [] s=KM lf s0 (λr0=>some (.s (.sl false false 1 r0),[],s)):=by
 refine (evE (fn:=Tryz.f100) (by kernel_rfl)).trans ?_
 generalize evC (Xv lf) d=cl
 unfold KM;kernel_rfl
noncomputable def Mj (lf:Nat):Cfg:=B8 lf [68] (A4 []) [(100,LS),(101,BI),(102,At2)] (A4 [(6,[2]),(5,[4,1]),(4,[2]),(3,[4,11]),(2,[4]),(1,[3]),(0,[0])]) [101,102] (A4 []) (some [2]) [] [] []
noncomputable def Pn {R:Type} (lf:Nat) (s0:By) (k0:Bool->Option R):Option R:=cond (A1 s0.length) (vl (A2 ((↑(List.length (J0 (D8 s0))):Int)-1)) λn'2=>cond (inR n'2 (List.length (J0 (D8 s0)))) (cond (okE Dy (J0 (D8 s0)) (Int.toNat n'2) 0) (vl (gX (J0 (D8 s0)) (Int.toNat n'2) 0) λs'3=>cond (A1 s'3.length) (cond ((not (List.isEmpty s'3))&&(Option.isSome (D9 10 0 s'3))) (k0 true) (cond (A1 s'3.length) (vl (↑(Jm (Z0 s'3)):Int) λn'5=>cond (Option.isSome (Z0 s'3)) (cond (not (ltI (s'3.length:Int) (2:Int))) (cond (inR 1 s'3.length) (cond ((bAt s'3 (1:Int))==120) (k0 true) (cond (inR 1 s'3.length) (k0 ((bAt s'3 (1:Int))==88)) none)) none) (k0 false)) (k0 false)) none)) none) none) none) none
theorem OT (d:Nat) (s0):evC (Mj lf) (d+1) σ yh 68 [pS s0] [] s=Pn lf s0 (λr0=>some (pB r0,[],s)):=by
 refine (evE (fn:=Tryz.f68) (by kernel_rfl)).trans ?_
 generalize evC (Mj lf) d=cl
 unfold Pn;kernel_rfl
noncomputable def Jr {R:Type} (lf n:Nat) (p0:LL) (v1 i2:Int) (k0:Unit->Option R) (k1:Int->Option R):Option R:=match n with | 0=>none | n+1=>cond (ltI i2 (p0.length:Int)) (cond (inR i2 p0.length) (cond (okE Dy p0 (Int.toNat i2) 0) (cond (A1 (List.length (gX p0 (Int.toNat i2) 0))) (vl (↑(Jm (Z0 (gX p0 (Int.toNat i2) 0))):Int) λn'1=>cond (not (Option.isSome (Z0 (gX p0 (Int.toNat i2) 0)))) (k0 ()) (vl (A2 ((p0.length:Int)-1)) λn'7=>cond (i2==n'7) (vl (A2 ((5:Int)-(p0.length:Int))) λn'8=>cond (decide ((0:Int)<=(A2 ((8:Int)*n'8)))) (vl (YU .i64 (1:Int) (A2 ((8:Int)*n'8))) λn'9=>cond (not (ltI n'1 n'9)) (k0 ()) (Jr lf n p0 (A2 (v1+n'1)) (A2 (i2+1)) k0 k1)) none) (cond (ltI 255 n'1) (k0 ()) (vl (A2 ((24:Int)-(A2 ((8:Int)*i2)))) λn'10=>cond (decide ((0:Int)<=n'10)) (vl (A2 (v1+(YU .i64 n'1 n'10))) λn'11=>Jr lf n p0 n'11 (A2 (i2+1)) k0 k1) none)))) none) none) none) (k1 v1)
end
end
section
open Go
theorem Ry (b:UInt8):(48<=b.toNat/\b.toNat<=57/\dig b=b.toNat-48)\/(97<=b.toNat/\b.toNat<=102/\dig b=b.toNat-87)\/(65<=b.toNat/\b.toNat<=70/\dig b=b.toNat-55)\/(¬(48<=b.toNat/\b.toNat<=57)/\¬(97<=b.toNat/\b.toNat<=102)/\¬(65<=b.toNat/\b.toNat<=70)/\dig b=99):=by
 unfold dig
 split
 ·rename_i h;exact .inl ⟨h.1,h.2,rfl⟩
 ·split
  ·rename_i h;exact .inr (.inl ⟨h.1,h.2,rfl⟩)
  ·split
   ·rename_i h;exact .inr (.inr (.inl ⟨h.1,h.2,rfl⟩))
   ·exact .inr (.inr (.inr ⟨by assumption,by assumption,by assumption,rfl⟩))
theorem A66 (m:Nat):(if (1099511627776:Int)<(m:Int) then (1099511627776:Int) else (m:Int))=((min m Fj:Nat):Int):=by
 unfold Fj
 split<;>omega
theorem MP {base:Nat}:∀ {s:By} {n v:Nat},n<=Fj->D9 base n s=some v->v<=Fj
 | [],n,v,h,e=>by simp only [D9,Option.some.injEq] at e;omega
 | b::r,n,v,h,e=>by
  simp only [D9] at e
  split at e
  ·exact MP (by omega) e
  ·cases e
theorem Bk2 {s:By} {v:Nat} (h:Z0 s=some v):v<=Fj:=by
 unfold Z0 at h
 repeat' split at h
 all_goals first | (cases h;done) | exact MP (by unfold Fj;omega) h
theorem Bu1 (a m:Nat) (h:a*2 ^ m<9223372036854775808) (hm:m<=64):YU .i64 (a:Int) (m:Int)=((a*2 ^ m:Nat):Int):=by
 unfold YU
 rw [Int.toNat_natCast,show IntKind.bits .i64=64 from rfl,Nat.min_eq_left hm]
 have:(a:Int)*2 ^ m=((a*2 ^ m:Nat):Int):=by simp
 rw [this]
 exact A5
theorem Jo {c:UInt8} {s:By} (h:c∉s):pcs c s=[s]:=by
 unfold pcs;rw [Bv c s [] h];rfl
theorem Vw {c:UInt8} {p r:By} (h:c∉p):pcs c (p++c::r)=p::pcs c r:=by
 unfold pcs;rw [Up c p [] r h];rfl
theorem Hk (c:UInt8) (s:By):(pcs c s).length=s.count c+1:=Es c s []
theorem Jn (c:UInt8) (s:By):pcs c s≠[]:=YW c s []
theorem Ks {c:UInt8} {s x:By} (h:x∈pcs c s):c∉x/\x.length<=s.length:=by
 have:=Ju c s [] (by simp) x h
 simpa using this
theorem Fw (c:UInt8) (s:By):s.count c<=s.length:=List.count_le_length
theorem Et (c:UInt8):∀ s:By,c∉s\/∃ p r,s=p++c::r/\c∉p
 | []=>.inl (by simp)
 | b::s=>by
  by_cases h:b=c
  ·subst h;exact .inr ⟨[],s,rfl,by simp⟩
  ·rcases Et c s with h1 | ⟨p,r,rfl,h2⟩
   ·exact .inl (by simp [h1,Ne.symm h])
   ·exact .inr ⟨b::p,r,rfl,by simp [h2,Ne.symm h]⟩
theorem Mp {c:UInt8} {s:By} (h:c∉s):Lib.index s [c] = -1:=by
 rcases Lib.index_spec s [c] with h1 | ⟨i,h1,h2,h3,h4⟩
 ·exact h1.1
 ·exfalso
  simp only [Lib.occAt,List.isPrefixOf_iff_prefix] at h3
  obtain ⟨t,ht⟩:=h3
  have:c∈s.drop i:=by rw [<-ht];simp
  exact h (List.mem_of_mem_drop this)
theorem Sk {c:UInt8} {p r:By} (h:c∉p):Lib.index (p++c::r) [c]=(p.length:Int):=by
 rcases Lib.index_spec (p++c::r) [c] with h1 | ⟨i,h1,h2,h3,h4⟩
 ·exfalso
  have:=h1.2 p.length (by simp)
  simp [Lib.occAt] at this
 ·rw [h1]
  have hi:¬ p.length<i:=by
   intro hlt
   have:=h4 p.length hlt
   simp [Lib.occAt] at this
  have hi2:¬ i<p.length:=by
   intro hlt
   simp only [Lib.occAt,List.isPrefixOf_iff_prefix] at h3
   obtain ⟨t,ht⟩:=h3
   have h5:(p++c::r).drop i=p.drop i++c::r:=by rw [List.drop_append_of_le_length (by omega)]
   rw [h5] at ht
   cases hd:p.drop i with
   | nil=>have:=List.length_drop (i:=i) (l:=p);rw [hd] at this;simp at this;omega
   | cons x y=>
    rw [hd] at ht
    simp at ht
    have:x∈p:=List.mem_of_mem_drop (i:=i) (by rw [hd];simp)
    rw [<-ht.1] at this
    exact h this
  omega
theorem Al4 (s:By):D8 s≠[]:=by
 unfold D8
 split
 ·rename_i h
  intro e
  have:=congrArg List.length e
  simp at this
  omega
 ·exact Jn _ _
theorem Zk {s x:By} (h:x∈D8 s):x.length<=s.length:=by
 unfold D8 at h
 split at h
 ·exact (Ks ((List.dropLast_sublist _).subset h)).2
 ·exact (Ks h).2
theorem Mt (s:By):1<=(D8 s).length/\(D8 s).length<=s.length+1:=by
 have h1:=List.length_pos_iff.2 (Al4 s)
 have h2:=Hk 46 s
 have h3:=Fw 46 s
 refine ⟨h1,?_⟩
 unfold D8
 split
 ·rw [List.length_dropLast];omega
 ·omega
theorem So (s:By):(D8 s).getD ((D8 s).length-1) []=Bf s:=by
 unfold Bf
 rw [List.getLastD_eq_getLast?,List.getLast?_eq_getElem?,List.getD_eq_getElem?_getD]
theorem DK (s:By):Bf s∈D8 s:=by
 have h:=(Mt s).1
 rw [<-So,List.getD_eq_getElem?_getD,List.getElem?_eq_getElem (by omega)]
 exact List.getElem_mem _
theorem Ff {base:Nat}:∀ {s:By} {n i:Nat},i<s.length->base<=dig (s.getD i 0)->D9 base n s=none
 | [],n,i,h,_=>by simp at h
 | b::r,n,0,h,h2=>by
  simp only [List.getD_cons_zero] at h2
  simp only [D9]
  rw [G7]
 | b::r,n,i+1,h,h2=>by
  simp only [List.getD_cons_succ] at h2
  simp only [D9]
  split
  ·exact Ff (i:=i) (by simpa using h) h2
  ·rfl
theorem Sm (s:By):X6 s=true↔s.getD 0 0=48/\(s.getD 1 0=120\/s.getD 1 0=88):=by
 simp [X6]
theorem Kl {s:By} (h:X6 s=true):2<=s.length:=by
 rw [Sm] at h
 match s with
 | []=>simp at h
 | [a]=>simp at h
 | a::b::r=>simp
theorem A31 (l:By):(if X6 l then (D9 16 0 (l.drop 2)).isSome else !l.isEmpty&&(D9 10 0 l).isSome) =
  (if (!l.isEmpty&&(D9 10 0 l).isSome)=true then true else (if (Z0 l).isSome=true then decide (2<=l.length)&&(l.getD 1 0==120 || l.getD 1 0==88) else false)):=by
 by_cases hx:X6 l=true
 ·have hl:=Kl hx
  have h1:=(Sm l).1 hx
  have hd:D9 10 0 l=none:=Ff (i:=1) (by omega) (by rcases h1.2 with h | h<;>rw [h]<;>decide)
  have hn:Z0 l=D9 16 0 (l.drop 2):=by
   unfold Z0
   rw [if_neg (by intro e;rw [e] at hl;simp at hl),if_pos hx]
  rw [if_pos hx,hd,hn]
  have h2:(l.getD 1 0==120 || l.getD 1 0==88)=true:=by simpa using h1.2
  rw [h2]
  simp [hl]
 ·rw [if_neg hx]
  cases hc:(!l.isEmpty&&(D9 10 0 l).isSome) with
  | true=>rfl
  | false=>
   rw [if_neg (by simp)]
   cases hn:Z0 l with
   | none=>rfl
   | some v=>
    rw [show (some v).isSome=true from rfl,if_pos rfl]
    symm
    rw [Bool.and_eq_false_iff]
    by_cases h2:2<=l.length
    ·right
     apply Classical.byContradiction
     intro hxx
     have hxx:l.getD 1 0=120\/l.getD 1 0=88:=by
      cases hq:(l.getD 1 0==120 || l.getD 1 0==88) with
      | false=>exact absurd hq hxx
      | true=>simpa using hq
     have h0:¬ l.getD 0 0=48:=λh=>hx ((Sm l).2 ⟨h,hxx⟩)
     have hd:D9 10 0 l=none:=Ff (i:=1) (by omega) (by rcases hxx with h | h<;>rw [h]<;>decide)
     unfold Z0 at hn
     rw [if_neg (by intro e;rw [e] at h2;simp at h2),if_neg hx,if_neg (by intro h;exact h0 h.2),hd] at hn
     cases hn
    ·left;simpa using h2
end
section
open Go Go.Proofs
theorem Ak4 {R:Type} {k0:Bool->Option R} (s p:By) (h0:A1 s.length=true):Bj0 LF s p k0=k0 (p.isPrefixOf s):=by
 have:=O0 h0
 unfold Bj0
 rw [Hy]
 by_cases h:p.length<=s.length
 ·simp_all
 ·simp (disch:=omega) [h]
theorem Ai2 {R:Type} {k0:Bool->Option R} (s p:By) (h0:A1 s.length=true):NI LF s p k0=k0 (p.isPrefixOf s):=by
 unfold NI;rw [h0];rfl
theorem VA {R:Type} {k0:By->Bool->Option R} (s p:By) (h0:A1 s.length=true):Ac1 LF s p k0=k0 (Ye s p) (p.isPrefixOf s):=by
 have:=O0 h0
 unfold Ac1 Ye
 rw [h0]
 cases h:p.isPrefixOf s with
 | false=>simp
 | true=>
  have:p.length<=s.length:=by rw [Hy] at h;simp at h;exact h.1
  simp_all
theorem Ag7 {R:Type} {k0:By->Bool->Option R} (s p:By) (h0:A1 s.length=true):Be9 LF s p k0=k0 (Ye s p) (p.isPrefixOf s):=by
 unfold Be9;rw [h0];rfl
theorem PO {R:Type} {k0:LL->Option R} (s p:By) (h0:A1 s.length=true) (h1:(p.length==1)=true):KU LF s p k0=k0 (J0 (pcs (p.getD 0 0) s)):=by
 unfold KU;rw [h0,h1];rfl
theorem Ai0 {R:Type} {k0:Bool->Option R} (s:By) (h0:A1 s.length=true):Bg5 LF s k0=k0 (X6 s):=by
 unfold Bg5
 have key:X6 s=(([48,120]:By).isPrefixOf s || ([48,88]:By).isPrefixOf s):=by
  match s with
  | []=>rfl
  | [a]=>simp [X6,List.isPrefixOf]
  | a::b::r=>
   simp only [X6,List.isPrefixOf,List.getD_cons_zero,List.getD_cons_succ,Bool.and_true]
   rw [BEq.comm (a:=(48:UInt8)),BEq.comm (a:=(120:UInt8)),BEq.comm (a:=(88:UInt8))]
   cases (a==48)<;>simp
 grind
theorem Ah0 {R:Type} {k0:Unit->Option R} {k1:Int->Option R} (s:By) (hs:s.length<=1000000000) (base:Nat) (hb:base<=16):∀ (r i acc n:Nat),i+r=s.length->r<n->acc<=Fj->
  Eb LF n s (base:Int) (acc:Int) (s.length:Int) (i:Int) k0 k1=match D9 base acc (s.drop i) with | some v=>k1 (v:Int) | none=>k0 ():=by
 intro r
 induction r with
 | zero=>
  intro i acc n hi hn ha
  obtain ⟨n,rfl⟩:∃ m,n=m+1:=⟨n-1,by omega⟩
  rw [Eb]
  rw [A7,List.drop_of_length_le (by omega)]
  rfl
 | succ r ih=>
  intro i acc n hi hn ha
  obtain ⟨n,rfl⟩:∃ m,n=m+1:=⟨n-1,by omega⟩
  rw [Eb,L9 s i (by omega)]
  rw [M6]
  have hbt:=(s.getD i 0).toNat_lt
  generalize s.getD i 0=b at *
  have hn1:((i:Int)+1)=((i+1:Nat):Int):=by omega
  have hsat:Fj=1099511627776:=rfl
  have step:∀ d:Nat,d<base->(acc*base+d<100000000000000/\A2 (A2 ((acc:Int)*(base:Int))+(d:Int))=((acc*base+d:Nat):Int)):=by
   intro d hd
   have h1:acc*base<=1099511627776*16:=Nat.mul_le_mul (by omega) (by omega)
   refine ⟨by omega,?_⟩
   have e1:A2 ((acc*base:Nat):Int)=((acc*base:Nat):Int):=A5
   rw [<-Int.natCast_mul,e1,A5]
   rfl
  simp (disch:=omega) only [C6,K5,cond_true,vl,E7,Oa,Nz,Ny]
  rw [hn1]
  simp only [D9]
  rcases Ry b with ⟨h1,h2,e⟩ | ⟨h1,h2,e⟩ | ⟨h1,h2,e⟩ | ⟨h1,h2,h3,e⟩
  ·have e2:wu8 ((b.toNat:Int)-48)=((dig b:Nat):Int):=by rw [Z3];omega
   simp (disch:=omega) only [C6,E9,Bool.not_true,Bool.not_false,cond_false,cond_true,e2,E7]
   by_cases hd:dig b<base
   ·rw [if_pos hd,A9,(step _ hd).2,A66]
    exact ih (i+1) _ n (by omega) (by omega) (by omega)
   ·rw [if_neg hd,A7];rfl
  ·have e2:wu8 ((b.toNat:Int)-97)+10=((dig b:Nat):Int):=by rw [Z3];omega
   have e3:wu8 ((b.toNat:Int)-97)=((b.toNat:Int)-97):=Z3
   rw [e3] at e2
   simp (disch:=omega) only [C6,E9,Bool.not_true,Bool.not_false,cond_false,cond_true,e3,E7,e2]
   by_cases hd:dig b<base
   ·rw [if_pos hd,A9,(step _ hd).2,A66]
    exact ih (i+1) _ n (by omega) (by omega) (by omega)
   ·rw [if_neg hd,A7];rfl
  ·have e2:wu8 ((b.toNat:Int)-65)+10=((dig b:Nat):Int):=by rw [Z3];omega
   have e3:wu8 ((b.toNat:Int)-65)=((b.toNat:Int)-65):=Z3
   rw [e3] at e2
   simp (disch:=omega) only [C6,E9,Bool.not_true,Bool.not_false,cond_false,cond_true,e3,E7,e2]
   by_cases hd:dig b<base
   ·rw [if_pos hd,A9,(step _ hd).2,A66]
    exact ih (i+1) _ n (by omega) (by omega) (by omega)
   ·rw [if_neg hd,A7];rfl
  ·rw [if_neg (show ¬ dig b<base by omega)]
   by_cases c1:b.toNat<48
   ·simp (disch:=omega) only [C6,E9,Bool.not_true,Bool.not_false,cond_false,cond_true]
   ·by_cases c2:b.toNat<65
    ·simp (disch:=omega) only [C6,E9,Bool.not_true,Bool.not_false,cond_false,cond_true]
    ·by_cases c3:b.toNat<97
     ·simp (disch:=omega) only [C6,E9,Bool.not_true,Bool.not_false,cond_false,cond_true]
     ·simp (disch:=omega) only [C6,E9,Bool.not_true,Bool.not_false,cond_false,cond_true]
theorem Ah1 {R:Type} {k0:Int->Bool->Option R} (s:By) (base:Int) (h0:A1 s.length=true) (h1:ltN base 17=true):Az0 LF s base k0=k0 (Jm (D9 base.toNat 0 s):Int) (D9 base.toNat 0 s).isSome:=by
 have hs:=O0 h0
 have:=E5
 obtain ⟨hb0,hb1⟩:=H7.1 h1
 obtain ⟨bn,rfl⟩:=Int.eq_ofNat_of_zero_le hb0
 unfold Az0
 have:=Ah0 (k0:=λ_=>k0 0 false) (k1:=λn=>k0 n true) s hs bn (by omega) s.length 0 0 LF (by omega) (by omega) (by unfold Fj;omega)
 refine Eq.trans this ?_
 rw [List.drop_zero,Int.toNat_natCast]
 cases D9 bn 0 s<;>rfl
theorem A30 {R:Type} {k0:Int->Bool->Option R} (s:By) (h0:A1 s.length=true):num LF s k0=k0 (Jm (Z0 s):Int) (Z0 s).isSome:=by
 have hs:=O0 h0
 unfold num Z0
 rw [h0]
 by_cases h1:s=[]
 ·subst h1;rfl
 have h1':(s==([]:By))=false:=by simpa using h1
 have hl:0<s.length:=List.length_pos_iff.2 h1
 rw [if_neg h1,h1']
 simp only [cond_true,cond_false,vl]
 cases hx:X6 s with
 | true=>
  have:=Kl hx
  simp (disch:=first | omega | (simp;omega)) only [cond_true,if_true,V2,N1,K7,Ad1]
  rfl
 | false=>
  simp only [cond_false,Bool.false_eq_true,if_false]
  have hd:(D9 10 0 s)=D9 10 0 s:=rfl
  by_cases h2:1<s.length
  ·simp (disch:=omega) only [C6,K5,cond_true,Ip,h2,true_and]
   have e:=V3 (s.getD 0 0) 48 (by omega)
   rw [show ((48:Nat):Int)=48 from rfl] at e
   rw [e]
   by_cases h3:s.getD 0 0=48
   ·rw [if_pos h3,h3,show ((48:UInt8)==UInt8.ofNat 48)=true from rfl]
    simp (disch:=first | omega | (simp;omega)) only [V2,N1,K7,Ad1,cond_true]
    rfl
   ·rw [if_neg h3,show (s.getD 0 0==UInt8.ofNat 48)=false from beq_eq_false_iff_ne.2 h3]
    rfl
  ·rw [A7,G7]
   rfl
theorem JU {R:Type} {k0:Bool->Option R} (s:By) (h0:A1 s.length=true):Vu LF s k0=k0 (O2 s):=by
 have hs:=O0 h0
 have hp:=Mt s
 have hm:=Zk (DK s)
 have hg:=So s
 have e1:((D8 s).length:Int)-1=(((D8 s).length-1:Nat):Int):=by omega
 unfold Vu O2
 rw [h0]
 simp (disch:=omega) only [cond_true,vl,U2,e1,E7,K5,Int.toNat_natCast,Gg,Kk,hg,K7]
 cases hx:X6 (Bf s) with
 | true=>
  have:=Kl hx
  have hn:Z0 (Bf s)=D9 16 0 ((Bf s).drop 2):=by
   unfold Z0
   grind
  simp [hn]
 | false=>
  simp only [cond_false,Bool.false_eq_true,if_false]
  cases D9 10 0 (Bf s) with
  | none=>simp
  | some v=>cases Bf s<;>rfl
theorem AY {R:Type} {k0:Bool->Option R} (s:By) (h0:A1 s.length=true):Pn LF s k0=k0 (O2 s):=by
 have hs:=O0 h0
 have hp:=Mt s
 have hm:=Zk (DK s)
 have hg:=So s
 have e1:((D8 s).length:Int)-1=(((D8 s).length-1:Nat):Int):=by omega
 unfold Pn O2
 rw [h0,A31]
 simp (disch:=omega) only [cond_true,vl,U2,e1,E7,K5,Int.toNat_natCast,Gg,Kk,hg,K7]
 generalize Bf s=l at *
 cases (!l.isEmpty&&(D9 10 0 l).isSome) with
 | true=>rfl
 | false=>
  simp only [cond_false,Bool.false_eq_true,if_false]
  cases Z0 l with
  | none=>rfl
  | some v=>
   simp only [Option.isSome_some,cond_true,if_true,Aa4]
   by_cases h2:2<=l.length
   ·simp (disch:=omega) only [E9,K5,Bool.not_false,cond_true,h2,decide_true,Bool.true_and]
    have ea:=V3 (l.getD 1 0) 120 (by omega)
    have eb:=V3 (l.getD 1 0) 88 (by omega)
    grind
   ·rw [A9]
    simp [h2]
theorem B44 (s:By) (a b:Nat) (h:a<=b) (hb:b<s.length):cut s (a:Int) ((b+1:Nat):Int)=cut s (a:Int) (b:Int)++[s.getD b 0]:=by
 rw [Nx,Nx,Ap2 s b hb,List.drop_append_of_le_length (by rw [List.length_take];omega)]
theorem Ay8 (s:By) (a:Nat):cut s (a:Int) (a:Int)=[]:=by
 rw [Nx]
 grind
theorem PD {R:Type} {k0:LL->Option R} (s:By) (hs:s.length<=1000000000) (c:UInt8):∀ (r i fr n:Nat) (l:List By),i+r=s.length->r+1<n->fr<=i->l.length<=i->
  P9 LF n s (c.toNat:Int) (fr:Int) (i:Int) (J0 l) k0=k0 (J0 (l++G1 c (cut s (fr:Int) (i:Int)) (s.drop i))):=by
 intro r
 induction r with
 | zero=>
  intro i fr n l hi hn hf hl
  obtain ⟨n,rfl⟩:∃ m,n=m+1:=⟨n-1,by omega⟩
  obtain ⟨n,rfl⟩:∃ m,n=m+1:=⟨n-1,by omega⟩
  have hi':i=s.length:=by omega
  subst hi'
  rw [P9]
  simp (disch:=omega) only [E9,Bool.not_false,cond_true,beq_self_eq_true,V2,U2,G2,E7]
  rw [P9]
  rw [A9,List.drop_length]
  simp only [Bool.not_true,cond_false,G1,AF]
  rfl
 | succ r ih=>
  intro i fr n l hi hn hf hl
  obtain ⟨n,rfl⟩:∃ m,n=m+1:=⟨n-1,by omega⟩
  rw [P9]
  have hn1:((i:Int)+1)=((i+1:Nat):Int):=by omega
  have hne:((i:Int)==(s.length:Int))=false:=by rw [beq_eq_false_iff_ne];omega
  simp (disch:=omega) only [E9,Bool.not_false,cond_true,cond_false,hne,K5,M6,Bu4,V2,U2,G2,E7]
  rw [hn1,L9 s i (by omega)]
  simp only [G1]
  by_cases h:s.getD i 0=c
  ·rw [show (s.getD i 0==c)=true by simpa using h,if_pos h,cond_true]
   have:=ih (i+1) (i+1) n (l++[cut s (fr:Int) (i:Int)]) (by omega) (by omega) (by omega) (by simp<;>omega)
   rw [AF] at this
   refine Eq.trans this ?_
   rw [Ay8]
   simp
  ·rw [show (s.getD i 0==c)=false from beq_eq_false_iff_ne.2 h,if_neg h,cond_false]
   rw [ih (i+1) fr n l (by omega) (by omega) (by omega) (by omega),B44 s fr i hf (by omega)]
theorem YN {R:Type} {k0:LL->Option R} (s:By) (c:Int) (h0:A1 s.length=true) (h1:inR c 256=true):Zx LF s c k0=k0 (J0 (pcs (u8n c) s)):=by
 have hs:=O0 h0
 have:=E5
 simp only [inR,Bool.and_eq_true,decide_eq_true_eq] at h1
 have hc:c=((u8n c).toNat:Int):=by
  unfold u8n
  simp
  omega
 unfold Zx
 generalize u8n c=b at *
 subst hc
 have:=PD (k0:=k0) s hs b s.length 0 0 LF [] (by omega) (by omega) (by omega) (by simp)
 refine Eq.trans this ?_
 rw [Ay8]
 rfl
theorem PQ (c:UInt8) (s:By):(J0 (pcs c s)).isEmpty=false:=by
 cases h:pcs c s with
 | nil=>exact absurd h (Jn c s)
 | cons a r=>rfl
theorem PE (s:By) (c:Int) (h0:A1 s.length=true) (h1:inR c 256=true):∃ r H,Zx LF s c (λl=>rv (.fl 0) [.arr true 9 1 l])=rv r H/\r.stab [1] H = .s (.sl false false 1 (J0 (pcs (u8n c) s))):=by
 refine ⟨_,_,YN s c h0 h1,?_⟩
 simp [PV.stab,Se,PV.snap,PQ]
theorem A67 (d:List By) (x:By) (m:Nat):List.set (J0 (d++List.replicate (m+1) [])) d.length (F3 (List.getD (J0 (d++List.replicate (m+1) [])) d.length []) 0 [SV.str x])=J0 ((d++[x])++List.replicate m []):=by
 have hg:List.getD (J0 (d++List.replicate (m+1) [])) d.length []=[SV.str []]:=by
  unfold J0
  grind
 rw [hg]
 simp only [F3,List.set_cons_zero,AF]
 rw [show d.length=(J0 d).length by simp,List.set_append_right _ _ (by omega),Nat.sub_self,List.replicate_succ]
 simp [J0]
theorem NG {R:Type} {k0:By->Int->LL->Option R} (c:UInt8):∀ (m n:Nat) (s:By) (d:List By),s.length<=1000000000->m=s.count c->d.length+m<=1000000000->m<n->
  ∃ (d':List By) (s':By),pcs c s=d'++[s']/\s'.length<=s.length/\V8 LF n s [c] 0 ((d.length+m:Nat):Int) (d.length:Int) (J0 (d++List.replicate (m+1) [])) k0=k0 s' ((d.length+m:Nat):Int) (J0 ((d++d')++[[]])):=by
 intro m
 induction m with
 | zero=>
  intro n s d hs hm hd hn
  obtain ⟨n,rfl⟩:∃ m,n=m+1:=⟨n-1,by omega⟩
  have hc:c∉s:=List.count_eq_zero.1 hm.symm
  refine ⟨[],s,Jo hc,Nat.le_refl _,?_⟩
  rw [V8]
  rw [A7]
  simp
 | succ m ih=>
  intro n s d hs hm hd hn
  obtain ⟨n,rfl⟩:∃ m,n=m+1:=⟨n-1,by omega⟩
  rcases Et c s with hc | ⟨p,r,rfl,hc⟩
  ·rw [List.count_eq_zero.2 hc] at hm;omega
  ·have hm':m=r.count c:=by
    rw [List.count_append,List.count_cons,List.count_eq_zero.2 hc] at hm
    simp at hm
    omega
   simp only [List.length_append,List.length_cons] at hs
   obtain ⟨d',s',h1,h2,h3⟩:=ih n r (d++[p]) (by omega) hm' (by simp<;>omega) (by omega)
   refine ⟨p::d',s',by rw [Vw hc,h1];rfl,by simp<;>omega,?_⟩
   rw [V8]
   have e1:((p.length:Int)+1)=((p.length+1:Nat):Int):=by omega
   have e2:(d.length:Int)+1=((d.length+1:Nat):Int):=by omega
   have e3:((p.length+1:Nat):Int).toNat=p.length+1:=by omega
   have e4:(((p++c::r).length:Nat):Int)=((p.length+(r.length+1):Nat):Int):=by simp
   have e5:(p++c::r).take p.length=p:=List.take_left' rfl
   have e6:(p++c::r).drop (p.length+1)=r:=by
    rw [show p++c::r=(p++[c])++r by simp,List.drop_left' (by simp)]
   rw [Sk hc]
   have el:(J0 (d++List.replicate (m+1+1) [])).length=d.length+(m+2):=by simp<;>omega
   simp (disch:=first | omega | (simp;omega)) only [C6,E9,K7,cond_true,cond_false,vl,Int.add_zero,E7,V2,K5,el,Int.toNat_natCast,List.length_singleton,N1,Aq,e5,A67]
   rw [decide_eq_true (show d.length<d.length+(m+2) by omega),cond_true,show ((1:Nat):Int)=1 from rfl,e1]
   simp (disch:=first | omega | (simp;omega)) only [E7,V2,cond_true,N1,e3,e6,e2]
   have h3':((((d++[p]).length+m:Nat):Int))=((d.length+(m+1):Nat):Int):=by simp<;>omega
   have h4':(((d++[p]).length:Nat):Int)=((d.length+1:Nat):Int):=by simp
   rw [h3',h4'] at h3
   rw [h3]
   simp
theorem UN {R:Type} {k0:Unit->Option R} {k1:Nat->LL->Option R} (s p:By) (v n:Int) (h0:A1 s.length=true) (h1:(p.length==1)=true) (h2:(v==0)=true) (h3:(n==(-1))=true) :
  Yn LF s p v n k0 k1=k1 (pcs (p.getD 0 0) s).length (J0 (pcs (p.getD 0 0) s)):=by
 have hs:=O0 h0
 have:=E5
 obtain ⟨c,rfl⟩:∃ c,p=[c]:=by
  match p,h1 with
  | [c],_=>exact ⟨c,rfl⟩
 have:v=0:=by simpa using h2
 subst this
 have:n = -1:=by simpa using h3
 subst this
 have hc:=Fw c s
 have hpl:=Hk c s
 obtain ⟨d',s',g1,g2,g3⟩:=NG (R:=R) (k0:=λs'14 i'15 l'16=>cond (inR i'15 (List.length l'16))
     (cond (decide ((Int.toNat i'15)<(List.length l'16)))
      (vl (A2 (i'15+(1))) λn'17=>
      cond (P2 (0) n'17 (List.length (List.set l'16 (Int.toNat i'15) (F3 (List.getD l'16 (Int.toNat i'15) []) 0 [(SV.str s'14)]))))
       (k1 ((Int.toNat n'17)-0) (List.set l'16 (Int.toNat i'15) (F3 (List.getD l'16 (Int.toNat i'15) []) 0 [(SV.str s'14)])))
       (none))
      (none))
     (none)) c (s.count c) LF s [] hs rfl (by simp<;>omega) (by omega)
 unfold Yn
 have e1:A2 ((s.count c:Int)+1)=((s.count c+1:Nat):Int):=A5
 have e2:A2 ((s.length:Int)+1)=((s.length+1:Nat):Int):=A5
 have e3:(if ((s.length+1:Nat):Int)<((s.count c+1:Nat):Int) then ((s.length+1:Nat):Int) else ((s.count c+1:Nat):Int))=((s.count c+1:Nat):Int):=G7
 have e4:((s.count c+1:Nat):Int)-1=(s.count c:Int):=by omega
 have e5:(List.replicate (s.count c+1) [SV.str ([]:By)])=J0 ([]++List.replicate (s.count c+1) []):=by simp [J0]
 simp only [List.getD_cons_zero,vl,List.length_singleton,e1,e2,e3,Int.toNat_natCast,e5]
 rw [show ((-1:Int)==0)=false from rfl,show ([c]==([]:By))=false from rfl,show ltI (-1) 0=true from rfl,decide_eq_true (show (0:Int)<=((s.count c+1:Nat):Int) by omega),decide_eq_true (show ((s.count c+1:Nat):Int)<=((s.count c+1:Nat):Int) by omega),G2 (by omega),e4,A5]
 simp only [cond_true,cond_false,beq_self_eq_true,Bool.and_self]
 simp only [List.length_nil,Nat.zero_add] at g3
 refine Eq.trans g3 ?_
 have e6:(J0 ((([]:List By)++d')++[[]]))=J0 (d'++List.replicate (0+1) []):=by simp
 have hd:d'.length=s.count c:=by grind
 have e7:=A67 d' s' 0
 rw [<-hd,e6]
 have el:(J0 (d'++List.replicate (0+1) ([]:By))).length=d'.length+1:=by simp
 have e8:A2 ((d'.length:Int)+1)=((d'.length+1:Nat):Int):=A5
 simp only [Int.toNat_natCast,e7,el,vl,e8]
 rw [L5,decide_eq_true (show d'.length<d'.length+1 by omega),V2 (by omega) (by omega) (by simp),g1]
 simp
theorem NH (s p:By) (v n:Int) (h0:A1 s.length=true) (h1:(p.length==1)=true) (h2:(v==0)=true) (h3:(n==(-1))=true) :
  ∃ r H,Yn LF s p v n (λ_=>rv (.fl 0) [.arr true 9 1 []]) (λi l=>rv (.vw 0 0 i) [.arr false 9 1 l])=rv r H/\r.stab [1] H = .s (.sl false false 1 (J0 (pcs (p.getD 0 0) s))):=by
 refine ⟨_,_,UN s p v n h0 h1 h2 h3,?_⟩
 simp [PV.stab,Se,PV.snap,List.take_of_length_le]
theorem B55 {l:List By} {i:Nat} (h:i<l.length):l.getD i []∈l:=by grind
theorem WC {R:Type} {k0:LL->Option R} (s:By) (h0:A1 s.length=true):parts LF s k0=k0 (J0 (D8 s)):=by
 have hs:=O0 h0
 have hpl:=Hk 46 s
 have hc:=Fw 46 s
 unfold parts
 rw [h0]
 have e1:A2 (((pcs 46 s).length:Int)-1)=(((pcs 46 s).length-1:Nat):Int):=by rw [A5];omega
 simp only [cond_true,vl,List.getD_cons_zero,show ((1:Nat)==1)=true from rfl,U2,e1,Int.toNat_natCast]
 by_cases h1:1<(pcs 46 s).length
 ·rw [A9,L5,Gg (by omega),Kk]
  have hg:(pcs 46 s).getD ((pcs 46 s).length-1) []=(pcs 46 s).getLastD []:=by grind
  rw [hg]
  by_cases h2:(pcs 46 s).getLastD []=[]
  ·rw [h2,show (([]:By)==[])=true from rfl,Q5]
   have:D8 s=(pcs 46 s).dropLast:=by unfold D8;rw [if_pos ⟨h1,h2⟩]
   rw [this,List.dropLast_eq_take,Aq,Int.toNat_natCast]
   simp [J0]
  ·rw [show ((pcs 46 s).getLastD []==[])=false from beq_eq_false_iff_ne.2 h2]
   have:D8 s=pcs 46 s:=by unfold D8;rw [if_neg (λh=>h2 h.2)]
   grind
 ·rw [A7]
  have:D8 s=pcs 46 s:=by unfold D8;rw [if_neg (λh=>h1 h.1)]
  grind
theorem OU {R:Type} {k0:LL->Option R} (s:By) (h0:A1 s.length=true):KM LF s k0=k0 (J0 (D8 s)):=by
 have hs:=O0 h0
 have hpl:=Hk 46 s
 have hc:=Fw 46 s
 unfold KM
 rw [h0]
 have e1:A2 (((pcs 46 s).length:Int)-1)=(((pcs 46 s).length-1:Nat):Int):=by rw [A5];omega
 simp only [cond_true,vl,show u8n 46=46 from rfl,U2,e1,Int.toNat_natCast]
 by_cases h1:1<(pcs 46 s).length
 ·rw [A9,L5,Gg (by omega),Kk]
  have hg:(pcs 46 s).getD ((pcs 46 s).length-1) []=(pcs 46 s).getLastD []:=by grind
  rw [hg]
  by_cases h2:(pcs 46 s).getLastD []=[]
  ·rw [h2,show (([]:By)==[])=true from rfl,Q5]
   have:D8 s=(pcs 46 s).dropLast:=by unfold D8;rw [if_pos ⟨h1,h2⟩]
   rw [this,List.dropLast_eq_take,Aq,Int.toNat_natCast]
   simp [J0]
  ·rw [show ((pcs 46 s).getLastD []==[])=false from beq_eq_false_iff_ne.2 h2]
   have:D8 s=pcs 46 s:=by unfold D8;rw [if_neg (λh=>h2 h.2)]
   grind
 ·rw [A7]
  have:D8 s=pcs 46 s:=by unfold D8;rw [if_neg (λh=>h1 h.1)]
  grind
theorem A38 (l:List By) (i:Nat) (h:i<l.length):l.drop i=l.getD i []::l.drop (i+1):=by simp_all
theorem By4 {R:Type} {k0:Unit->Option R} {k1:Int->Option R} (l:List By) (hm1:1<=l.length) (hm:l.length<=4) (hl:∀ x∈l,x.length<=1000000000):∀ (r i v n:Nat),i+r=l.length->0<r->r<n->v<256 ^ i->
  Jr LF n (J0 l) ((v*2 ^ (32-8*i):Nat):Int) (i:Int) k0 k1=match By1 (8*(5-l.length)) v (l.drop i) with | some w=>k1 (w:Int) | none=>k0 ():=by
 intro r
 induction r with
 | zero=>intro i v n _ h;omega
 | succ r ih=>
  intro i v n hi _ hn hv
  obtain ⟨n,rfl⟩:∃ m,n=m+1:=⟨n-1,by omega⟩
  rw [Jr,A38 l i (by omega)]
  have hx:=hl _ (B55 (show i<l.length by omega))
  have hsat:Fj=1099511627776:=rfl
  have hvb:v*2 ^ (32-8*i)<4294967296:=by
   have:i=0\/i=1\/i=2\/i=3:=by omega
   rcases this with rfl | rfl | rfl | rfl
   all_goals omega
  simp (disch:=omega) only [C6,U2,K5,cond_true,Int.toNat_natCast,Gg,Kk,K7,vl]
  simp only [By1]
  have hn1:((i:Int)+1)=((i+1:Nat):Int):=by omega
  cases hq:Z0 (l.getD i []) with
  | none=>rfl
  | some q=>
   have hql:=Bk2 hq
   have ep:A2 ((l.length:Int)-1)=((l.length-1:Nat):Int):=by rw [A5];omega
   simp only [Option.isSome_some,Bool.not_true,cond_false,Jm,Option.getD_some,ep]
   by_cases hr:r=0
   ·subst hr
    have hd:l.drop (i+1)=[]:=List.drop_of_length_le (by omega)
    have ef:A2 (8*A2 (5-(l.length:Int)))=((8*(5-l.length):Nat):Int):=by
     rw [E7 (n:=5-(l.length:Int)) (by omega) (by omega),A5];omega
    have hfp:2 ^ (8*(5-l.length))*256 ^ i=4294967296:=by
     have:l.length=1\/l.length=2\/l.length=3\/l.length=4:=by omega
     grind
    have hf1:1*2 ^ (8*(5-l.length))<=4294967296:=by
     rw [<-hfp,Nat.one_mul]
     exact Nat.le_mul_of_pos_right _ (Nat.pow_pos (by omega))
    have he:((i:Int)==((l.length-1:Nat):Int))=true:=by rw [beq_iff_eq];omega
    rw [hd,he,ef,decide_eq_true (show (0:Int)<=((8*(5-l.length):Nat):Int) by omega)]
    simp only [cond_true]
    have s1:=Bu1 1 (8*(5-l.length)) (by omega) (by omega)
    rw [show ((1:Nat):Int)=1 from rfl] at s1
    rw [s1,Nat.one_mul]
    by_cases hc:q<2 ^ (8*(5-l.length))
    ·rw [A9,if_pos hc]
     simp only [Bool.not_true,cond_false]
     obtain ⟨n,rfl⟩:∃ m,n=m+1:=⟨n-1,by omega⟩
     rw [Jr]
     rw [hn1,E7 (n:=((i+1:Nat):Int)) (by omega) (by omega),U2,A7]
     have:32-8*i=8*(5-l.length):=by omega
     rw [this] at hvb ⊢
     rw [cond_false,A5]
     rfl
    ·rw [A7,if_neg hc];rfl
   ·obtain ⟨y,z,hyz⟩:∃ y z,l.drop (i+1)=y::z:=⟨_,_,A38 l (i+1) (by omega)⟩
    have he:((i:Int)==((l.length-1:Nat):Int))=false:=by rw [beq_eq_false_iff_ne];omega
    rw [hyz,he]
    simp only [cond_false]
    by_cases hc:q<=255
    ·have e1:A2 (24-A2 (8*(i:Int)))=((24-8*i:Nat):Int):=by
      rw [E7 (n:=8*(i:Int)) (by omega) (by omega),A5];omega
     have hqb:q*2 ^ (24-8*i)<4294967296:=by
      have:i=0\/i=1\/i=2:=by omega
      clear hvb
      rcases this with rfl | rfl | rfl
      ·show q*16777216<_;omega
      ·show q*65536<_;omega
      ·show q*256<_;omega
     have s2:=Bu1 q (24-8*i) (by omega) (by omega)
     rw [A7,if_pos hc,e1,decide_eq_true (show (0:Int)<=((24-8*i:Nat):Int) by omega),s2,hn1,E7 (n:=((i+1:Nat):Int)) (by omega) (by omega)]
     have e2:A2 (((v*2 ^ (32-8*i):Nat):Int)+((q*2 ^ (24-8*i):Nat):Int))=(((v*256+q)*2 ^ (32-8*(i+1)):Nat):Int):=by
      rw [A5]
      have:i=0\/i=1\/i=2:=by omega
      clear hvb hqb s2 e1
      rcases this with rfl | rfl | rfl
      ·show ((v*4294967296:Nat):Int)+((q*16777216:Nat):Int)=(((v*256+q)*16777216:Nat):Int);omega
      ·show ((v*16777216:Nat):Int)+((q*65536:Nat):Int)=(((v*256+q)*65536:Nat):Int);omega
      ·show ((v*65536:Nat):Int)+((q*256:Nat):Int)=(((v*256+q)*256:Nat):Int);omega
     rw [e2,<-hyz]
     exact ih (i+1) _ n (by omega) (by omega) (by omega) (by rw [Nat.pow_succ];omega)
    ·rw [A9,if_neg hc];rfl
theorem KG {R:Type} {k0:Unit->Option R} {k1:By->Option R} (s:By) (hs:s.length<=1000000000):∀ (r i n v:Nat),i+r=s.length->r<n->U9 LF n s (i:Int) k0 k1=if (D9 10 v (s.drop i)).isSome then k1 s else k0 ():=by
 intro r
 induction r with
 | zero=>
  intro i n v hi hn
  obtain ⟨n,rfl⟩:∃ m,n=m+1:=⟨n-1,by omega⟩
  rw [U9]
  rw [A7,List.drop_of_length_le (by omega)]
  rfl
 | succ r ih=>
  intro i n v hi hn
  obtain ⟨n,rfl⟩:∃ m,n=m+1:=⟨n-1,by omega⟩
  rw [U9,L9 s i (by omega)]
  rw [M6]
  have hbt:=(s.getD i 0).toNat_lt
  generalize s.getD i 0=b at *
  have hn1:((i:Int)+1)=((i+1:Nat):Int):=by omega
  simp (disch:=omega) only [C6,K5,cond_true,E7]
  simp only [D9]
  rw [hn1,ih (i+1) n (min (v*10+dig b) Fj) (by omega) (by omega)]
  rcases Ry b with ⟨h1,h2,e⟩ | ⟨h1,h2,e⟩ | ⟨h1,h2,e⟩ | ⟨h1,h2,h3,e⟩
  ·simp only [if_pos (show dig b<10 by omega)];rw [A7,A7];rfl
  ·simp only [if_neg (show ¬ dig b<10 by omega)];rw [A7,A9];rfl
  ·simp only [if_neg (show ¬ dig b<10 by omega)];rw [A7,A9];rfl
  ·simp only [if_neg (show ¬ dig b<10 by omega)]
   by_cases c:b.toNat<48
   ·rw [A9];rfl
   ·rw [A7,A9];rfl
theorem KH {R:Type} {k0:Bool->Option R} (s:By) (h0:A1 s.length=true):Vx LF s k0=k0 (!s.isEmpty&&(D9 10 0 s).isSome):=by
 have hs:=O0 h0
 have:=E5
 unfold Vx
 refine Eq.trans (KG s hs s.length 0 LF 0 (by omega) (by omega)) ?_
 rw [List.drop_zero]
 cases hd:D9 10 0 s with
 | none=>simp
 | some v=>cases s<;>rfl
theorem Am7 {R:Type} {k0:Int->Option R} (b:Int) (h0:inR b 256=true):A48 LF b k0=k0 (dig (u8n b):Int):=by
 simp only [inR,Bool.and_eq_true,decide_eq_true_eq] at h0
 have hc:b=((u8n b).toNat:Int):=by
  unfold u8n
  simp
  omega
 generalize u8n b=c at *
 subst hc
 have hbt:=c.toNat_lt
 unfold A48
 simp only [Pm,Pl,vl]
 rcases Ry c with ⟨h1,h2,e⟩ | ⟨h1,h2,e⟩ | ⟨h1,h2,e⟩ | ⟨h1,h2,h3,e⟩
 ·have e2:A2 (wu8 ((c.toNat:Int)-48))=((dig c:Nat):Int):=by
   rw [Z3,A5];omega
  simp (disch:=omega) only [C6,E9,Bool.not_true,Bool.not_false,cond_false,cond_true,e2]
 ·have e2:A2 (A2 (wu8 ((c.toNat:Int)-97))+10)=((dig c:Nat):Int):=by
   rw [Z3,E7 (n:=(c.toNat:Int)-97) (by omega) (by omega),A5];omega
  simp (disch:=omega) only [C6,E9,Bool.not_true,Bool.not_false,cond_false,cond_true,e2]
 ·have e2:A2 (A2 (wu8 ((c.toNat:Int)-65))+10)=((dig c:Nat):Int):=by
   rw [Z3,E7 (n:=(c.toNat:Int)-65) (by omega) (by omega),A5];omega
  simp (disch:=omega) only [C6,E9,Bool.not_true,Bool.not_false,cond_false,cond_true,e2]
 ·rw [e]
  by_cases c1:c.toNat<48
  ·simp (disch:=omega) only [C6,E9,Bool.not_true,Bool.not_false,cond_false,cond_true]
   rfl
  ·by_cases c2:c.toNat<65
   ·simp (disch:=omega) only [C6,E9,Bool.not_true,Bool.not_false,cond_false,cond_true]
    rfl
   ·by_cases c3:c.toNat<97
    ·simp (disch:=omega) only [C6,E9,Bool.not_true,Bool.not_false,cond_false,cond_true]
     rfl
    ·simp (disch:=omega) only [C6,E9,Bool.not_true,Bool.not_false,cond_false,cond_true]
     rfl
theorem OS {R:Type} {k0:Unit->Option R} {k1:Int->Option R} (s:By) (hs:s.length<=1000000000):∀ (r i acc n:Nat),i+r=s.length->r<n->acc<=Fj->
  Eo LF n s (acc:Int) (i:Int) k0 k1=match D9 16 acc (s.drop i) with | some v=>k1 (v:Int) | none=>k0 ():=by
 intro r
 induction r with
 | zero=>
  intro i acc n hi hn ha
  obtain ⟨n,rfl⟩:∃ m,n=m+1:=⟨n-1,by omega⟩
  rw [Eo]
  rw [A7,List.drop_of_length_le (by omega)]
  rfl
 | succ r ih=>
  intro i acc n hi hn ha
  obtain ⟨n,rfl⟩:∃ m,n=m+1:=⟨n-1,by omega⟩
  rw [Eo,L9 s i (by omega)]
  rw [M6,We,A85]
  generalize s.getD i 0=b at *
  have hn1:((i:Int)+1)=((i+1:Nat):Int):=by omega
  have hsat:Fj=1099511627776:=rfl
  simp (disch:=omega) only [C6,K5,cond_true,vl,E7]
  simp only [D9]
  rw [hn1]
  by_cases hd:dig b<16
  ·have e1:A2 (A2 ((acc:Int)*16)+(dig b:Int))=((acc*16+dig b:Nat):Int):=by
    rw [E7 (n:=(acc:Int)*16) (by omega) (by omega),A5];simp
   rw [if_pos hd,A9]
   simp (disch:=omega) only [E7,Bool.not_true,cond_false] at e1 ⊢
   rw [e1,A66]
   exact ih (i+1) _ n (by omega) (by omega) (by omega)
  ·rw [if_neg hd,A7];rfl
theorem XZ {R:Type} {k0:Unit->Option R} {k1:Int->Option R} (s:By) (hs:s.length<=1000000000) (base:Nat) (hb:base<=16):∀ (r i acc n:Nat),i+r=s.length->r<n->acc<=Fj->
  Bq LF n s (base:Int) (acc:Int) (i:Int) k0 k1=match D9 base acc (s.drop i) with | some v=>k1 (v:Int) | none=>k0 ():=by
 intro r
 induction r with
 | zero=>
  intro i acc n hi hn ha
  obtain ⟨n,rfl⟩:∃ m,n=m+1:=⟨n-1,by omega⟩
  rw [Bq]
  rw [A7,List.drop_of_length_le (by omega)]
  rfl
 | succ r ih=>
  intro i acc n hi hn ha
  obtain ⟨n,rfl⟩:∃ m,n=m+1:=⟨n-1,by omega⟩
  rw [Bq,L9 s i (by omega)]
  rw [M6,We,A85]
  generalize s.getD i 0=b at *
  have hn1:((i:Int)+1)=((i+1:Nat):Int):=by omega
  have hsat:Fj=1099511627776:=rfl
  simp only [D9,vl]
  rw [A9,L5,hn1,E7 (n:=((i+1:Nat):Int)) (by omega) (by omega)]
  simp only [cond_true]
  by_cases hd:dig b<base
  ·have h1:acc*base<=1099511627776*16:=Nat.mul_le_mul (by omega) (by omega)
   have e0:A2 ((acc:Int)*(base:Int))=((acc*base:Nat):Int):=by
    rw [<-Int.natCast_mul];exact A5
   have e1:A2 (((acc*base:Nat):Int)+(dig b:Int))=((acc*base+dig b:Nat):Int):=by
    rw [A5];rfl
   rw [if_pos hd,A9,e0,e1,A66]
   exact ih (i+1) _ n (by omega) (by omega) (by omega)
  ·rw [if_neg hd,A7];rfl
theorem An2 {R:Type} {k0:Int->Bool->Option R} (s:By) (h0:A1 s.length=true):A60 LF s k0=k0 (Jm (Z0 s):Int) (Z0 s).isSome:=by
 have hs:=O0 h0
 have:=E5
 have go16:∀ x:By,x.length<=1000000000->Eo LF LF x 0 0 (λ_=>k0 0 false) (λn=>k0 n true)=k0 (Jm (D9 16 0 x):Int) (D9 16 0 x).isSome:=by
  intro x hx
  refine Eq.trans (OS x hx x.length 0 0 LF (by omega) (by omega) (by unfold Fj;omega)) ?_
  rw [List.drop_zero]
  cases D9 16 0 x<;>rfl
 have goB:∀ (x:By) (b:Nat),b<=16->x.length<=1000000000->Bq LF LF x (b:Int) 0 0 (λ_=>k0 0 false) (λn=>k0 n true)=k0 (Jm (D9 b 0 x):Int) (D9 b 0 x).isSome:=by
  intro x b hb hx
  refine Eq.trans (XZ x hx b hb x.length 0 0 LF (by omega) (by omega) (by unfold Fj;omega)) ?_
  rw [List.drop_zero]
  cases D9 b 0 x<;>rfl
 have go10:=λx=>goB x 10 (by omega)
 have go8:=λx=>goB x 8 (by omega)
 have gox:=λx=>goB x 16 (by omega)
 rw [show ((10:Nat):Int)=10 from rfl] at go10
 rw [show ((8:Nat):Int)=8 from rfl] at go8
 rw [show ((16:Nat):Int)=16 from rfl] at gox
 unfold A60 Z0
 by_cases h1:s=[]
 ·subst h1;rfl
 have h1':(s==([]:By))=false:=by simpa using h1
 have hl:0<s.length:=List.length_pos_iff.2 h1
 rw [if_neg h1,h1']
 simp only [cond_false,Wa,Wb,Kw,Kx,Ky,vl]
 have ea:=V3 (s.getD 0 0) 48 (by omega)
 have eb:=V3 (s.getD 1 0) 120 (by omega)
 have ec:=V3 (s.getD 1 0) 88 (by omega)
 rw [show ((48:Nat):Int)=48 from rfl] at ea
 rw [show ((120:Nat):Int)=120 from rfl] at eb
 rw [show ((88:Nat):Int)=88 from rfl] at ec
 simp only [Ip,Aa4,ea,eb,ec,show UInt8.ofNat 48=(48:UInt8) from rfl,show UInt8.ofNat 120=(120:UInt8) from rfl,show UInt8.ofNat 88=(88:UInt8) from rfl]
 by_cases h2:2<=s.length
 ·simp (disch:=omega) only [E9,K5,V2,Bool.not_false,cond_true,N1,show 1<s.length by omega,true_and]
  unfold X6
  grind
 ·rw [A9]
  have hx:X6 s=false:=by
   cases h:X6 s with
   | false=>rfl
   | true=>have:=Kl h;omega
  grind
def r8 (n:Nat):LL:=List.replicate n [SV.int .u16 0]
theorem Bk3 {a0 a1 a2 a3 a4 a5 a6 a7:Int} (h:ok8 a0 a1 a2 a3 a4 a5 a6 a7=true):∃ b0 b1 b2 b3 b4 b5 b6 b7:Nat,a0=b0/\a1=b1/\a2=b2/\a3=b3/\a4=b4/\a5=b5/\a6=b6/\a7=b7/\b0<65536/\b1<65536/\b2<65536/\b3<65536/\b4<65536/\b5<65536/\b6<65536/\b7<65536:=by
 simp only [ok8,List.all_cons,List.all_nil,Bool.and_true,Bool.and_eq_true,H7] at h
 exact ⟨a0.toNat,a1.toNat,a2.toNat,a3.toNat,a4.toNat,a5.toNat,a6.toNat,a7.toNat,by omega,by omega,by omega,by omega,by omega,by omega,by omega,by omega,by omega,by omega,by omega,by omega,by omega,by omega,by omega,by omega⟩
theorem Hm (n:Nat):ptI (n:Int)=R0 n:=rfl
theorem OH {R:Type} {k0:Bool->Option R} (n:Int):KC LF n k0=k0 (ptI n):=by
 unfold KC
 by_cases h:n<0
 ·rw [C6 h]
  have:ptI n=false:=by
   cases n with
   | ofNat m=>exact absurd h (by simp)
   | negSucc m=>rfl
  grind
 ·obtain ⟨m,rfl⟩:=Int.eq_ofNat_of_zero_le (show 0<=n by omega)
  rw [A7,Hm]
  unfold R0
  by_cases h1:1114111<m
  ·rw [A9]
   have:Nat.ble m 1114111=false:=by rw [Bool.eq_false_iff,ne_eq,Nat.ble_eq];omega
   grind
  ·rw [A7]
   have:Nat.ble m 1114111=true:=by rw [Nat.ble_eq];omega
   rw [this]
   by_cases h2:m<55296
   ·rw [A9]
    have:Nat.blt m 55296=true:=by rw [Nat.blt_eq];omega
    grind
   ·rw [A7]
    have e:Nat.blt m 55296=false:=by rw [Bool.eq_false_iff,ne_eq,Nat.blt_eq];omega
    rw [e]
    simp only [Bool.not_false,cond_true,cond_false,Bool.false_or,Bool.true_and]
    congr 1
theorem Xk {d k:Nat} (h:455<d):Rd d k=Rd (d / 35) (k+36):=by rw [Rd,dif_pos h]
theorem Ls {d k:Nat} (h:¬ 455<d):Rd d k=k+36*d / (d+38):=by rw [Rd,dif_neg h]
theorem OD {R:Type} {k0:Int->Int->Option R}:∀ (d n k:Nat),d<2305843009213693952->d<n->k+d<=4611686018427387904->
  ∃ d' k',d'<=455/\k'<=k+d/\Rd d k=k'+36*d' / (d'+38)/\Cg LF n (d:Int) (k:Int) k0=k0 (d':Int) (k':Int):=by
 intro d
 induction d using Nat.strongRecOn with
 | _ d ih=>
  intro n k hd hn hk
  obtain ⟨n,rfl⟩:∃ m,n=m+1:=⟨n-1,by omega⟩
  rw [Cg]
  by_cases h:455<d
  ·obtain ⟨d',k',h1,h2,h3,h4⟩:=ih (d / 35) (by omega) n (k+36) (by omega) (by omega) (by omega)
   refine ⟨d',k',h1,by omega,by rw [Xk h];exact h3,?_⟩
   have e:Int.tdiv (d:Int) 35=((d / 35:Nat):Int):=K3 d 35
   have e1:A2 ((d / 35:Nat):Int)=((d / 35:Nat):Int):=A5
   have e2:A2 ((k:Int)+36)=((k+36:Nat):Int):=by rw [A5];rfl
   rw [A9]
   simp only [cond_true,vl,e,e1,e2]
   exact h4
  ·refine ⟨d,k,by omega,by omega,Ls h,?_⟩
   rw [A7]
   rfl
theorem OE {R:Type} {k0:Int->Option R} (d c:Int) (f:Bool) (h0:ltN d 1152921504606846976=true) (h1:ltN c 1000000=true) (h2:ltI 0 c=true):Zj LF d c f k0=k0 (M0 d.toNat c.toNat f:Nat):=by
 obtain ⟨hd0,hd1⟩:=H7.1 h0
 obtain ⟨hc0,hc1⟩:=H7.1 h1
 obtain ⟨d,rfl⟩:=Int.eq_ofNat_of_zero_le hd0
 obtain ⟨c,rfl⟩:=Int.eq_ofNat_of_zero_le hc0
 have hc:=Ad0.1 h2
 have hLF:=E5
 have key:∀ x:Nat,x<1152921504606846976->Cf LF (x:Int) (c:Int) k0=k0 ((Rd (x+x / c) 0:Nat):Int):=by
  intro x hx
  have hxc:x / c<=x:=Nat.div_le_self _ _
  unfold Cf
  have e1:Int.tdiv (x:Int) (c:Int)=((x / c:Nat):Int):=K3 x c
  generalize x / c=q at *
  have e2:A2 (q:Int)=(q:Int):=A5
  have e3:A2 ((x:Int)+(q:Int))=((x+q:Nat):Int):=by rw [A5];rfl
  rw [show ((c:Int) != 0)=true by simp;omega]
  simp only [cond_true,vl,e1,e2,e3]
  obtain ⟨d',k',g1,g2,g3,g4⟩:=OD (R:=R) (k0:=λdelta'7 k'8=>vl (A2 ((36)*delta'7)) λn'9=>vl (A2 (delta'7+(38))) λn'10=>cond (n'10 != (0)) (vl (A2 (Int.tdiv n'9 n'10)) λn'11=>k0 (A2 (k'8+n'11))) none) (x+q) LF 0 (by omega) (by omega) (by omega)
  refine Eq.trans g4 ?_
  have hq:36*d' / (d'+38)<=36*d':=Nat.div_le_self _ _
  have f1:A2 (36*(d':Int))=((36*d':Nat):Int):=by rw [A5];rfl
  have f2:A2 ((d':Int)+38)=((d'+38:Nat):Int):=by rw [A5];rfl
  have f3:Int.tdiv ((36*d':Nat):Int) ((d'+38:Nat):Int)=((36*d' / (d'+38):Nat):Int):=K3 _ _
  have f4:A2 ((36*d' / (d'+38):Nat):Int)=((36*d' / (d'+38):Nat):Int):=A5
  have f5:A2 ((k':Int)+((36*d' / (d'+38):Nat):Int))=((k'+36*d' / (d'+38):Nat):Int):=by rw [A5];rfl
  simp only [vl,f1,f2,f3,f4,f5]
  rw [show (((d'+38:Nat):Int) != 0)=true by simp;omega,g3]
  rfl
 unfold Zj M0
 rw [Int.toNat_natCast,Int.toNat_natCast]
 cases f with
 | true=>
  have e1:Int.tdiv (d:Int) 700=((d / 700:Nat):Int):=K3 d 700
  have e2:A2 ((d / 700:Nat):Int)=((d / 700:Nat):Int):=A5
  simp only [cond_true,vl,e1,e2,if_true]
  exact key _ (by omega)
 | false=>
  have e1:Int.tdiv (d:Int) 2=((d / 2:Nat):Int):=K3 d 2
  have e2:A2 ((d / 2:Nat):Int)=((d / 2:Nat):Int):=A5
  simp only [cond_false,vl,e1,e2,Bool.false_eq_true,if_false]
  exact key _ (by omega)
theorem CW {d:Nat} (h:d<36):(U0 d).toNat=if d<26 then 97+d else 22+d:=by
 unfold U0
 split<;>simp<;>omega
theorem Al9 {R:Type} {k0:Int->Option R} (d:Int) (h0:ltN d 36=true):Bl0 LF d k0=k0 ((U0 d.toNat).toNat:Nat):=by
 obtain ⟨hd0,hd1⟩:=H7.1 h0
 obtain ⟨d,rfl⟩:=Int.eq_ofNat_of_zero_le hd0
 unfold Bl0
 rw [Int.toNat_natCast,CW (by omega)]
 by_cases h:d<26
 ·rw [A9,if_pos h]
  simp only [cond_true,vl]
  congr 1
  rw [A5,Z3]
  rfl
 ·rw [A7,if_neg h]
  simp only [cond_false,vl]
  congr 1
  rw [E7 (n:=48+(d:Int)) (by omega) (by omega),A5,Z3]
  omega
theorem Ut (b:UInt8):(97<=b.toNat/\b.toNat<=122/\Ic b=some (b.toNat-97))\/(65<=b.toNat/\b.toNat<=90/\Ic b=some (b.toNat-65))\/(48<=b.toNat/\b.toNat<=57/\Ic b=some (b.toNat-22))\/(¬(97<=b.toNat/\b.toNat<=122)/\¬(65<=b.toNat/\b.toNat<=90)/\¬(48<=b.toNat/\b.toNat<=57)/\Ic b=none):=by
 unfold Ic
 grind
theorem Am3 {R:Type} {k0:Int->Option R} (b:Int) (h0:inR b 256=true):A42 LF b k0=k0 (C3 (u8n b)):=by
 simp only [inR,Bool.and_eq_true,decide_eq_true_eq] at h0
 have hc:b=((u8n b).toNat:Int):=by
  unfold u8n
  simp
  omega
 generalize u8n b=c at *
 subst hc
 have hbt:=c.toNat_lt
 unfold A42 C3
 simp only [Pi,Ph,vl]
 rcases Ut c with ⟨h1,h2,e⟩ | ⟨h1,h2,e⟩ | ⟨h1,h2,e⟩ | ⟨h1,h2,h3,e⟩
 ·have e2:A2 (wu8 ((c.toNat:Int)-97))=((c.toNat-97:Nat):Int):=by
   rw [Z3,A5];omega
  simp (disch:=omega) only [C6,E9,Bool.not_true,Bool.not_false,cond_false,cond_true,e2,e]
 ·have e2:A2 (wu8 ((c.toNat:Int)-65))=((c.toNat-65:Nat):Int):=by
   rw [Z3,A5];omega
  simp (disch:=omega) only [C6,E9,Bool.not_true,Bool.not_false,cond_false,cond_true,e2,e]
 ·have e2:A2 (A2 (wu8 ((c.toNat:Int)-48))+26)=((c.toNat-22:Nat):Int):=by
   rw [Z3,E7 (n:=(c.toNat:Int)-48) (by omega) (by omega),A5];omega
  simp (disch:=omega) only [C6,E9,Bool.not_true,Bool.not_false,cond_false,cond_true,e2,e]
 ·rw [e]
  by_cases c1:c.toNat<48
  ·simp (disch:=omega) only [C6,E9,Bool.not_true,Bool.not_false,cond_false,cond_true]
  ·by_cases c2:c.toNat<65
   ·simp (disch:=omega) only [C6,E9,Bool.not_true,Bool.not_false,cond_false,cond_true]
   ·by_cases c3:c.toNat<97
    ·simp (disch:=omega) only [C6,E9,Bool.not_true,Bool.not_false,cond_false,cond_true]
    ·simp (disch:=omega) only [C6,E9,Bool.not_true,Bool.not_false,cond_false,cond_true]
end
section
open Go
theorem Mq (x y:By) (r:List By) (p:By):Lib.join (x::y::r) p=x++(p++Lib.join (y::r) p):=by
 simp [Lib.join,List.intercalate]
theorem OF (c:UInt8):∀ l:List By,l≠[]->(∀ x∈l,c∉x)->pcs c (Lib.join l [c])=l
 | [],h,_=>absurd rfl h
 | [x],_,h=>by rw [Lib.join_one,Jo (h x (by simp))]
 | x::y::r,_,h=>by
  rw [Mq,List.singleton_append,Vw (h x (by simp)),OF c (y::r) (by simp) (λz hz=>h z (by simp [hz]))]
theorem NR (c:UInt8):∀ (n:Nat) (s:By),s.length<=n->Lib.join (pcs c s) [c]=s
 | n,s,hn=>by
  rcases Et c s with h | ⟨p,r,rfl,h⟩
  ·rw [Jo h,Lib.join_one]
  ·rw [Vw h]
   cases n with
   | zero=>simp at hn
   | succ n=>
    have ih:=NR c n r (by simp at hn;omega)
    cases hp:pcs c r with
    | nil=>exact absurd hp (Jn c r)
    | cons y q=>
     rw [Mq,<-hp,ih]
     rfl
theorem Km (c:UInt8) (s:By):Lib.join (pcs c s) [c]=s:=NR c _ s (Nat.le_refl _)
theorem Ac8 (b:UInt8):VH b=46↔b=46:=by
 rcases VI b with ⟨h,e⟩ | ⟨h,e⟩ | ⟨h,h2,e⟩
 ·rw [e]
 ·rw [e]
 ·constructor
  ·intro h3;rw [h3] at e;simp at e;omega
  ·intro h3;subst h3;simp at h
theorem Ak2 (a b:By):Z1 (a++b)=Z1 a++Z1 b:=List.map_append
theorem Fm:∀ (s acc:By),G1 46 (Z1 acc) (Z1 s)=(G1 46 acc s).map Z1
 | [],acc=>rfl
 | b::r,acc=>by
  show (if VH b=46 then _ else _)=_
  simp only [G1]
  by_cases h:b=46
  ·rw [if_pos ((Ac8 b).2 h),if_pos h,List.map_cons]
   have:=Fm r []
   rw [<-this]
   rfl
  ·rw [if_neg (λe=>h ((Ac8 b).1 e)),if_neg h,<-Fm r (acc++[b]),Ak2]
   rfl
theorem Al6 (s:By):pcs 46 (Z1 s)=(pcs 46 s).map Z1:=Fm s []
theorem Ak3 {s:By}:Z1 s=[]↔s=[]:=by unfold Z1;simp
theorem JE (l:List By):(l.map Z1).getLastD []=Z1 (l.getLastD []):=by
 rw [List.getLastD_eq_getLast?,List.getLastD_eq_getLast?,List.getLast?_map]
 cases l.getLast?<;>rfl
theorem By0 (s:By):D8 (Z1 s)=(D8 s).map Z1:=by
 unfold D8
 rw [Al6,JE]
 simp only [List.length_map,Ak3]
 grind
theorem Tz (b:UInt8):Q9 b=true↔(97<=b.toNat/\b.toNat<=122)\/(48<=b.toNat/\b.toNat<=57)\/b=45\/b=95:=by
 simp [Q9,or_assoc]
structure VL (s:By):Prop where
 ne:s≠[]
 le:s.length<=63
 byt:∀ b∈s,Q9 b=true
theorem Tf {s:By} (h:P3 s=true):VL s:=by
 unfold P3 at h
 simp only [Bool.and_eq_true,Bool.not_eq_true',List.all_eq_true] at h
 obtain ⟨⟨⟨⟨⟨h1,h2⟩,h3⟩,h4⟩,h5⟩,h6⟩:=h
 refine ⟨by intro e;subst e;simp at h1,Nat.le_of_ble_eq_true h2,λb hb=>h5 b hb⟩
structure VN (s:By):Prop where
 le:s.length<=253
 num:O2 s=false
 all:∀ x∈pcs 46 s,P3 x=true
theorem Dt {s:By}:C5 s=true↔VN s:=by
 unfold C5
 simp only [Bool.and_eq_true,Bool.not_eq_true',List.all_eq_true]
 exact ⟨λh=>⟨Nat.le_of_ble_eq_true h.1.1,h.1.2,h.2⟩,λh=>⟨⟨Nat.ble_eq_true_of_le h.le,h.num⟩,h.all⟩⟩
theorem VN.ne {s:By} (h:VN s):s≠[]:=by
 intro e
 subst e
 exact (Tf (h.all [] (by simp [pcs,G1]))).ne rfl
theorem I1 {a b:By}:D2 a b=true↔VN a/\VN b/\(a=b\/∃ p,b=p++46::a):=by
 unfold D2
 simp only [Bool.and_eq_true,Bool.or_eq_true,Dt,and_assoc,beq_iff_eq,List.isSuffixOf_iff_suffix]
 constructor
 ·rintro ⟨h1,h2,h3 | ⟨p,h3⟩⟩
  all_goals grind
 grind
theorem Ea (a:By):D2 a a=C5 a:=by
 unfold D2
 simp
theorem Nw {a b c:By} (h1:D2 a b=true) (h2:D2 b c=true):D2 a c=true:=by
 obtain ⟨v1,v2,h1⟩:=I1.1 h1
 obtain ⟨_,v3,h2⟩:=I1.1 h2
 refine I1.2 ⟨v1,v3,?_⟩
 grind
theorem ML {a b c:By} (h1:D2 a c=true) (h2:D2 b c=true):D2 a b=true\/D2 b a=true:=by
 obtain ⟨v1,v3,h1⟩:=I1.1 h1
 obtain ⟨v2,_,h2⟩:=I1.1 h2
 have key:∀ a b p q:By,VN a->VN b->p++46::a=q++46::b->p.length<=q.length->D2 b a=true:=by
  intro a b p q va vb e hl
  refine I1.2 ⟨vb,va,?_⟩
  rcases Nat.eq_or_lt_of_le hl with h | h
  ·have:=List.append_inj e h
   grind
  ·right
   have e1:(p++46::a).drop (p.length+1)=a:=by
    rw [List.drop_append];simp
   grind
 grind
theorem Uf {s:By} (h:∀ x∈pcs 46 s,x≠[]):D8 s=pcs 46 s:=by
 unfold D8
 grind
theorem VN.pne {s:By} (h:VN s):∀ x∈pcs 46 s,x≠[]:=λx hx=>(Tf (h.all x hx)).ne
theorem VN.super {s x y:By} {r:List By} (h:VN s) (hp:pcs 46 s=x::y::r):s=x++46::Lib.join (y::r) [46]/\VN (Lib.join (y::r) [46])/\pcs 46 (Lib.join (y::r) [46])=y::r:=by
 have hs:=Km 46 s
 rw [hp,Mq] at hs
 have hpc:pcs 46 (Lib.join (y::r) [46])=y::r:=OF 46 _ (by simp) (λz hz=>(Ks (s:=s) (by rw [hp];simp [hz])).1)
 have hall:∀ z∈y::r,P3 z=true:=λz hz=>h.all z (by rw [hp];exact List.mem_cons_of_mem _ hz)
 refine ⟨hs.symm,⟨?_,?_,by rw [hpc];exact hall⟩,hpc⟩
 ·have:=congrArg List.length hs
  have:=h.le
  grind
 ·have h1:=h.num
  unfold O2 at h1 ⊢
  have e:Bf (Lib.join (y::r) [46])=Bf s:=by
   unfold Bf
   rw [Uf h.pne,Uf (by rw [hpc];exact λz hz=>(Tf (hall z hz)).ne),hpc,hp]
   rfl
  grind
def Nv (name:By):By->List By->Prop
 | _,[]=>True
 | last,y::r=>D2 y name=true/\D2 y last=true/\y.length<last.length/\Nv name y r
theorem Qc (name:By):∀ (l:List By) (s:By),VN s->D2 s name=true->pcs 46 s=l->Nv name s (Y6 l)
 | [],s,_,_,hp=>absurd hp (Jn 46 s)
 | [x],s,_,_,_=>trivial
 | x::y::r,s,hv,hc,hp=>by
  obtain ⟨h1,h2,h3⟩:=hv.super hp
  have hcs:D2 (Lib.join (y::r) [46]) s=true:=I1.2 ⟨h2,hv,.inr ⟨x,h1⟩⟩
  refine ⟨Nw hcs hc,hcs,?_,Qc name (y::r) _ h2 (Nw hcs hc) h3⟩
  grind
theorem Q0 (name:By):Nv name name (E2 name):=by
 unfold E2
 by_cases h:C5 name=true
 ·rw [if_pos h]
  exact Qc name _ name (Dt.1 h) (by rw [Ea];exact h) rfl
 ·rw [if_neg h]
  trivial
def sh (n:Nat) (i:Int):Int:=if i = -1 then -1 else i+n
end
section
open Go Go.Op
abbrev Ent:=By × Bool
abbrev O6:=By × Bool × Int
def Uw (e:Ent):List SV:=[.str e.1,.bool e.2]
def A35 (p:O6):List SV:=[.str p.1,.bool p.2.1,.int .i64 p.2.2]
def D6 (l:List Ent):LL:=l.map Uw
def Y1 (l:List O6):LL:=l.map A35
def D1:List SV->Bool | [.str _,.bool _]=>true | _=>false
def F1:List SV->Bool | [.str _,.bool _,.int .i64 n]=>Bx0 n | _=>false
def A6 (el:List SV):Ent:=((el.getD 0 .nilp).gS,(el.getD 1 .nilp).gB)
def B0 (el:List SV):O6:=((el.getD 0 .nilp).gS,(el.getD 1 .nilp).gB,(el.getD 2 .nilp).gI)
theorem Sr {α β:Type} (f:β->α) (g:α->β):∀ l:List α,(∀ x∈l,f (g x)=x)->l=(l.map g).map f
 | [],_=>rfl
 | a::r,h=>by
  rw [List.map_cons,List.map_cons,h a (by simp),<-Sr f g r λx hx=>h x (by simp [hx])]
theorem Ec {l:LL} (h:l.all D1=true):l=D6 (l.map A6):=Sr Uw A6 l λx hx=>by
 have:=List.all_eq_true.1 h x hx
 unfold D1 at this
 split at this
 ·rfl
 ·cases this
theorem Pf {l:LL} (h:l.all F1=true):l=Y1 (l.map B0):=Sr A35 B0 l λx hx=>by
 have:=List.all_eq_true.1 h x hx
 unfold F1 at this
 split at this
 ·rfl
 ·cases this
theorem Kj (l:List Ent):(D6 l).map A6=l:=by
 unfold D6
 rw [List.map_map]
 exact List.map_id'' (λ_=>rfl) l
theorem Bl5 (l:List O6):(Y1 l).map B0=l:=by
 unfold Y1
 rw [List.map_map]
 exact List.map_id'' (λ_=>rfl) l
@[simp] theorem D4 (l:List Ent):(D6 l).length=l.length:=List.length_map ..
@[simp] theorem J3 (l:List O6):(Y1 l).length=l.length:=List.length_map ..
def noE:Ent:=([],false)
def noP:O6:=([],false,0)
theorem Iw {l:List Ent} {i:Nat} (h:i<l.length):(D6 l).getD i []=Uw (l.getD i noE):=by
 unfold D6
 simp [List.getD_eq_getElem?_getD,List.getElem?_eq_getElem h]
theorem Gi {l:List O6} {i:Nat} (h:i<l.length):(Y1 l).getD i []=A35 (l.getD i noP):=by
 unfold Y1
 simp [List.getD_eq_getElem?_getD,List.getElem?_eq_getElem h]
theorem S8:∀ x y:By,bytesLess x y=decide (x<y)
 | [],[]=>by simp [bytesLess]
 | _::_,[]=>by simp [bytesLess]
 | [],_::_=>by simp [bytesLess]
 | a::x,b::y=>by
  rw [bytesLess,S8 x y]
  simp only [List.cons_lt_cons_iff]
  by_cases h1:a<b<;>by_cases h2:a=b<;>by_cases h3:x<y<;>simp [h1,h2,h3]
def rl (s:By):List By:=(pcs 46 s).reverse
def Za:List By->List By->Bool
 | _,[]=>false
 | [],_::_=>true
 | x::r,y::q=>bytesLess x y || (x==y&&Za r q)
theorem Vq:∀ x y:List By,Za x y=decide (x<y)
 | [],[]=>by simp [Za]
 | _::_,[]=>by simp [Za]
 | [],_::_=>by simp [Za]
 | a::x,b::y=>by
  rw [Za,Vq x y,S8]
  simp only [List.cons_lt_cons_iff]
  by_cases h1:a<b<;>by_cases h2:a=b<;>by_cases h3:x<y<;>simp [h1,h2,h3]
def N5 (a b:By):Bool:=Za (rl a) (rl b)
def T9 (a b:By):Int:=cond (bytesLess a b) (-1) (cond (bytesLess b a) 1 0)
def IZ (a b:Int):Int:=cond (ltI a b) (-1) (cond (ltI b a) 1 0)
def M4 (a b:By):Int:=cond (N5 a b) (-1) (cond (N5 b a) 1 0)
theorem By3 {a b:By} (h:rl a=rl b):a=b:=by
 rw [<-Km 46 a,<-Km 46 b,List.reverse_inj.1 h]
theorem R7 (a:By):N5 a a=false:=by
 unfold N5
 rw [Vq]
 simp
theorem Dg {a b c:By} (h:N5 a b=true) (g:N5 b c=true):N5 a c=true:=by
 unfold N5 at *
 rw [Vq] at *
 exact decide_eq_true (List.lt_trans (of_decide_eq_true h) (of_decide_eq_true g))
theorem Jj {a b:By} (h:N5 a b=false) (g:N5 b a=false):a=b:=by
 unfold N5 at *
 rw [Vq] at *
 exact By3 (List.le_antisymm (List.not_lt.1 (of_decide_eq_false g)) (List.not_lt.1 (of_decide_eq_false h)))
theorem VU {a b:By} (h:N5 a b=true):N5 b a=false:=by
 cases e:N5 b a with
 | false=>rfl
 | true=>exact absurd (Dg h e) (by rw [R7];simp)
theorem Ud {a b c:By} (h:N5 a b=false) (g:N5 b c=false):N5 a c=false:=by
 cases e:N5 a c with
 | false=>rfl
 | true=>
  cases e1:N5 b a with
  | true=>rw [Dg e1 e] at g;cases g
  | false=>
   obtain rfl:=Jj h e1
   rw [e] at g;cases g
theorem X2 (a b:By):decide (M4 a b<0)=N5 a b:=by
 unfold M4
 cases N5 a b with
 | true=>rfl
 | false=>cases N5 b a<;>rfl
theorem CS (a b:By):(M4 a b==0)=(a==b):=by
 unfold M4
 cases h:N5 a b with
 | true=>
  have:a≠b:=λe=>by rw [e,R7] at h;cases h
  simp [this]
 | false=>
  cases g:N5 b a with
  | true=>
   have:a≠b:=λe=>by rw [e,R7] at g;cases g
   simp [this]
  | false=>
   obtain rfl:=Jj h g
   simp
theorem PT {α:Type} [Inhabited α] (f:α->By):Sort.SWO (Go.Proofs.ltOf λx y:α=>M4 (f x) (f y)) where
 irrefl x:=by unfold Go.Proofs.ltOf;rw [X2,R7]
 trans x y z h g:=by unfold Go.Proofs.ltOf at *;rw [X2] at *;exact Dg h g
 ntrans x y z h g:=by unfold Go.Proofs.ltOf at *;rw [X2] at *;exact Ud h g
def Ft (f:Nat->Int):Nat->Nat->Nat->Nat
 | 0,lo,_=>lo
 | n+1,lo,hi=>if lo<hi then (if f ((lo+hi) / 2)<0 then Ft f n ((lo+hi) / 2+1) hi else Ft f n lo ((lo+hi) / 2)) else lo
theorem Ni (f:Nat->Int):∀ n lo hi,lo<=hi->lo<=Ft f n lo hi/\Ft f n lo hi<=hi
 | 0,lo,hi,h=>⟨Nat.le_refl _,h⟩
 | n+1,lo,hi,h=>by
  unfold Ft
  split
  ·split
   ·have:=Ni f n ((lo+hi) / 2+1) hi (by omega);omega
   ·have:=Ni f n lo ((lo+hi) / 2) (by omega);omega
  ·omega
theorem IE (f:Nat->Int) (N:Nat) (mono:∀ a b,a<=b->b<N->f b<0->f a<0):∀ n lo hi,lo<=hi->hi<=N->hi-lo<=n->(∀ t,t<lo->f t<0)->(∀ t,hi<=t->t<N->0<=f t)->
  (∀ t,t<Ft f n lo hi->f t<0)/\∀ t,Ft f n lo hi<=t->t<N->0<=f t
 | 0,lo,hi,h,_,g,h1,h2=>⟨h1,λt a b=>h2 t (by unfold Ft at a;omega) b⟩
 | n+1,lo,hi,h,k,g,h1,h2=>by
  unfold Ft
  split
  ·split
   ·rename_i c
    exact IE f N mono n _ hi (by omega) k (by omega) (λt ht=>mono t ((lo+hi) / 2) (by omega) (by omega) c) h2
   ·rename_i c
    exact IE f N mono n lo _ (by omega) (by omega) (by omega) h1 (λt a b=>by
     apply Int.not_lt.1;intro d;exact c (mono _ t a b d))
  ·exact ⟨h1,λt a b=>h2 t (by omega) b⟩
def bsI (h:List By) (s:By):Nat:=Ft (λi=>M4 (h.getD i []) s) (h.length+1) 0 h.length
def bsB (h:List By) (s:By):Bool:=Nat.blt (bsI h s) h.length&&h.getD (bsI h s) []==s
def asc (h:List By):Bool:=match h with
 | []=>true
 | [_]=>true
 | a::b::r=>N5 a b&&asc (b::r)
theorem Xo:∀ {h:List By},asc h=true->∀ {i j:Nat},i<j->j<h.length->N5 (h.getD i []) (h.getD j [])=true
 | [],_,i,j,_,hj=>by simp at hj
 | [_],_,i,j,hi,hj=>by simp at hj;omega
 | a::b::r,H,i,j,hi,hj=>by
  unfold asc at H
  rw [Bool.and_eq_true] at H
  match i,j,hi with
  | 0,1,_=>exact H.1
  | 0,j+2,_=>exact Dg H.1 (Xo (i:=0) (j:=j+1) H.2 (by omega) (by simpa using hj))
  | i+1,j+1,hi=>exact Xo (i:=i) (j:=j) H.2 (by omega) (by simpa using hj)
theorem B43 {h:List By} (H:asc h=true) (s:By):(∀ t,t<bsI h s->N5 (h.getD t []) s=true)/\(∀ t,bsI h s<=t->t<h.length->N5 (h.getD t []) s=false)/\bsI h s<=h.length:=by
 have key:=IE (λi=>M4 (h.getD i []) s) h.length (λa b hab hb g=>by
  have g':N5 (h.getD b []) s=true:=by rw [<-X2];exact decide_eq_true g
  rcases Nat.lt_or_eq_of_le hab with l | rfl
  ·exact of_decide_eq_true (by rw [X2];exact Dg (Xo H l hb) g')
  ·exact g) (h.length+1) 0 h.length (by omega) (by omega) (by omega) (λt ht=>by omega) (λt a b=>by omega)
 refine ⟨λt ht=>by rw [<-X2];exact decide_eq_true (key.1 t ht),λt a b=>?_,(Ni _ _ _ _ (by omega)).2⟩
 rw [<-X2]
 exact decide_eq_false (by have:=key.2 t a b;omega)
theorem Bv6 {h:List By} (H:asc h=true) (s:By):bsB h s=h.contains s:=by
 obtain ⟨h1,h2,h3⟩:=B43 H s
 unfold bsB
 rw [Bool.eq_iff_iff]
 simp only [Bool.and_eq_true,Nat.blt_eq,beq_iff_eq,List.contains_iff_mem]
 constructor
 ·rintro ⟨a,b⟩
  rw [<-b,List.getD_eq_getElem?_getD,List.getElem?_eq_getElem a]
  exact List.getElem_mem a
 ·intro hm
  obtain ⟨t,ht,e⟩:=List.getElem_of_mem hm
  have e':h.getD t []=s:=by rw [List.getD_eq_getElem?_getD,List.getElem?_eq_getElem ht];exact e
  have l1:bsI h s<=t:=by
   apply Nat.not_lt.1;intro q
   have:=h1 t q
   rw [e',R7] at this;cases this
  refine ⟨by omega,?_⟩
  rcases Nat.lt_or_eq_of_le l1 with l | l
  ·have g:=h2 _ (Nat.le_refl _) (by omega)
   have:=Xo H l ht
   rw [e',g] at this;cases this
  ·rw [l];exact e'
theorem U3 {a b:Nat}:Nat.blt a b=true↔a<b:=by rw [Nat.blt_eq]
theorem Aa8 {a b:Nat}:Nat.ble a b=true↔a<=b:=by rw [Nat.ble_eq]
def JF {α:Type} (key:α->By) (d:α) (T:List α) (u:By):α × Bool:=if bsB (T.map key) u then (T.getD (bsI (T.map key) u) d,true) else (d,false)
theorem Ng {α:Type} {key:α->By} {T:List α} (H:asc (T.map key)=true) {x y:α} (hx:x∈T) (hy:y∈T) (e:key x=key y):x=y:=by
 obtain ⟨i,hi,rfl⟩:=List.getElem_of_mem hx
 obtain ⟨j,hj,rfl⟩:=List.getElem_of_mem hy
 have key':∀ {a b:Nat} (ha:a<T.length) (hb:b<T.length),a<b->key T[a]≠key T[b]:=λha hb hab e=>by
  have:=Xo H hab (by simpa using hb)
  simp [List.getD_eq_getElem?_getD,ha,hb] at this
  rw [e,R7] at this;cases this
 rcases Nat.lt_trichotomy i j with h | rfl | h
 ·exact absurd e (key' hi hj h)
 ·rfl
 ·exact absurd e.symm (key' hj hi h)
theorem Vn {α:Type} {key:α->By} {d:α} {T:List α} (H:asc (T.map key)=true) (u:By):(∃ x∈T,key x=u/\JF key d T u=(x,true))\/((∀ x∈T,key x≠u)/\JF key d T u=(d,false)):=by
 unfold JF
 cases h:bsB (T.map key) u with
 | true=>
  left
  rw [if_pos rfl]
  unfold bsB at h
  rw [Bool.and_eq_true] at h
  have h1:bsI (T.map key) u<T.length:=by have:=U3.1 h.1;simpa using this
  have e:T.getD (bsI (T.map key) u) d=T[bsI (T.map key) u]:=by simp [List.getD_eq_getElem?_getD,h1]
  rw [e]
  refine ⟨_,List.getElem_mem h1,?_,rfl⟩
  have:=h.2
  simpa [List.getD_eq_getElem?_getD,h1] using this
 | false=>
  right
  rw [Bv6 H] at h
  refine ⟨λx hx e=>?_,if_neg (by simp)⟩
  have:(T.map key).contains u=true:=by
   rw [List.contains_iff_mem,<-e]
   exact List.mem_map_of_mem hx
  rw [h] at this;cases this
abbrev H6:=JF (α:=Ent) Prod.fst noE
abbrev M5:=JF (α:=O6) Prod.fst noP
theorem Bu (c:UInt8):∀ (p acc s:By),G1 c acc (p++c::s)=G1 c acc p++G1 c [] s
 | [],acc,s=>by simp [G1]
 | b::r,acc,s=>by
  simp only [List.cons_append,G1]
  split
  ·rw [Bu c r [] s];rfl
  ·exact Bu c r _ s
theorem Qb (B:List By) (hB:B≠[]):∀ A:List By,A≠[]->Lib.join B [46]∈Y6 (A++B)
 | [],h=>absurd rfl h
 | [x],_=>by
  cases B with
  | nil=>exact absurd rfl hB
  | cons b r=>simp [Y6]
 | x::y::r,_=>by
  have:=Qb B hB (y::r) (by simp)
  simp only [List.cons_append,Y6] at this ⊢
  exact List.mem_cons_of_mem _ this
theorem Z6 {name:By}:∀ {last:By} {l:List By},Nv name last l->∀ u∈l,D2 u name=true/\u.length<last.length
 | _,[],_,u,hu=>by cases hu
 | last,y::r,h,u,hu=>by
  obtain ⟨h1,h2,h3,h4⟩:=h
  rcases List.mem_cons.1 hu with rfl | hu
  ·exact ⟨h1,h3⟩
  ·have:=Z6 h4 u hu
   exact ⟨this.1,by omega⟩
theorem AG {s:By} (hs:C5 s=true) (u:By):u∈E2 s↔D2 u s=true/\u≠s:=by
 constructor
 ·intro h
  have:=Z6 (Q0 s) u h
  exact ⟨this.1,λe=>by rw [e] at this;omega⟩
 ·rintro ⟨h,hne⟩
  obtain ⟨_,_,h3⟩:=I1.1 h
  rcases h3 with rfl | ⟨p,rfl⟩
  ·exact absurd rfl hne
  ·unfold E2
   rw [if_pos hs]
   have e:pcs 46 (p++46::u)=pcs 46 p++pcs 46 u:=Bu 46 p [] u
   rw [e]
   have:=Qb (pcs 46 u) (Jn 46 u) (pcs 46 p) (Jn 46 p)
   rwa [Km] at this
theorem Fx {a b s:By} (h:D2 a s=true) (g:D2 b s=true) (e:a.length=b.length):a=b:=by
 rcases ML h g with c | c
 ·obtain ⟨_,_,h3⟩:=I1.1 c
  rcases h3 with rfl | ⟨p,q⟩
  ·rfl
  ·have:=congrArg List.length q
   simp at this;omega
 ·obtain ⟨_,_,h3⟩:=I1.1 c
  rcases h3 with rfl | ⟨p,q⟩
  ·rfl
  ·have:=congrArg List.length q
   simp at this;omega
theorem Yc {name:By} (P:By->Bool):∀ {last:By} {l:List By},Nv name last l->(∃ u,l.find? P=some u/\u∈l/\P u=true/\∀ v∈l,P v=true->v.length<=u.length)\/(l.find? P=none/\∀ v∈l,P v=false)
 | _,[],_=>.inr ⟨rfl,λv hv=>by cases hv⟩
 | last,y::r,h=>by
  obtain ⟨h1,h2,h3,h4⟩:=h
  rw [List.find?_cons]
  cases hp:P y with
  | true=>
   refine .inl ⟨y,rfl,by simp,hp,λv hv _=>?_⟩
   rcases List.mem_cons.1 hv with rfl | hv
   ·exact Nat.le_refl _
   ·have:=(Z6 h4 v hv).2;omega
  | false=>
   rcases Yc P h4 with ⟨u,a,b,c,d⟩ | ⟨a,b⟩
   ·refine .inl ⟨u,a,by simp [b],c,λv hv hpv=>?_⟩
    rcases List.mem_cons.1 hv with rfl | hv
    ·rw [hp] at hpv;cases hpv
    ·exact d v hv hpv
   ·refine .inr ⟨a,λv hv=>?_⟩
    rcases List.mem_cons.1 hv with rfl | hv
    ·exact hp
    ·exact b v hv
theorem CM {s:By} (hs:C5 s=true) (P:By->Bool):(∃ u,(s::E2 s).find? P=some u/\D2 u s=true/\P u=true/\∀ v,D2 v s=true->P v=true->v.length<=u.length)\/((s::E2 s).find? P=none/\∀ v,D2 v s=true->P v=false):=by
 have mem:∀ v,D2 v s=true->v∈s::E2 s:=λv hv=>by
  by_cases e:v=s
  ·rw [e];simp
  ·exact List.mem_cons_of_mem _ ((AG hs v).2 ⟨hv,e⟩)
 have hss:D2 s s=true:=by rw [Ea];exact hs
 have hle:∀ v,D2 v s=true->v.length<=s.length:=λv hv=>by
  by_cases e:v=s
  ·rw [e];omega
  ·have:=(Z6 (Q0 s) v ((AG hs v).2 ⟨hv,e⟩)).2
   omega
 rw [List.find?_cons]
 cases hp:P s with
 | true=>exact .inl ⟨s,rfl,hss,hp,λv hv _=>hle v hv⟩
 | false=>
  rcases Yc P (Q0 s) with ⟨u,a,b,c,d⟩ | ⟨a,b⟩
  ·refine .inl ⟨u,a,(Z6 (Q0 s) u b).1,c,λv hv hpv=>?_⟩
   rcases List.mem_cons.1 (mem v hv) with rfl | hm
   ·rw [hp] at hpv;cases hpv
   ·exact d v hm hpv
  ·refine .inr ⟨a,λv hv=>?_⟩
   rcases List.mem_cons.1 (mem v hv) with rfl | hm
   ·exact hp
   ·exact b v hm
theorem Gd {α β:Type} (c:α->Bool) (len:α->Nat) (mk:α->β) (lenB:β->Nat) (hmk:∀ x,lenB (mk x)=len x) (gt:Nat->Nat->Bool) (hgt:∀ a b,gt a b=true->b<=a) (hgt':∀ a b,gt a b=false->a<=b):∀ (l:List α) (b:β),
  (l.foldl (λb x=>if c x&&gt (len x) (lenB b) then mk x else b) b=b/\∀ x∈l,c x=true->gt (len x) (lenB b)=false)\/
  ∃ x∈l,c x=true/\l.foldl (λb x=>if c x&&gt (len x) (lenB b) then mk x else b) b=mk x/\lenB b<=len x/\(∀ y∈l,c y=true->len y<=len x)/\(∃ y∈l,c y=true/\gt (len y) (lenB b)=true)
 | [],b=>.inl ⟨rfl,λx hx=>by cases hx⟩
 | a::l,b=>by
  rw [List.foldl_cons]
  cases h:c a&&gt (len a) (lenB b) with
  | false=>
   have h':c a=true->gt (len a) (lenB b)=false:=λe=>by rw [e,Bool.true_and] at h;exact h
   rw [if_neg (by simp)]
   rcases Gd c len mk lenB hmk gt hgt hgt' l b with ⟨e,k⟩ | ⟨x,hx,h1,h2,h3,h4,y,hy,h5,h6⟩
   ·refine .inl ⟨e,λx hx hc=>?_⟩
    rcases List.mem_cons.1 hx with rfl | hx
    ·exact h' hc
    ·exact k x hx hc
   ·refine .inr ⟨x,by simp [hx],h1,h2,h3,λy hy hc=>?_,y,by simp [hy],h5,h6⟩
    rcases List.mem_cons.1 hy with rfl | hy
    ·have:=hgt' _ _ (h' hc);omega
    ·exact h4 y hy hc
  | true=>
   rw [Bool.and_eq_true] at h
   rw [if_pos rfl]
   have hab:=hgt _ _ h.2
   rcases Gd c len mk lenB hmk gt hgt hgt' l (mk a) with ⟨e,k⟩ | ⟨x,hx,h1,h2,h3,h4,_⟩
   ·refine .inr ⟨a,by simp,h.1,e,hab,λy hy hc=>?_,a,by simp,h.1,h.2⟩
    rcases List.mem_cons.1 hy with rfl | hy
    ·exact Nat.le_refl _
    ·have:=hgt' _ _ (k y hy hc)
     rwa [hmk] at this
   ·rw [hmk] at h3
    refine .inr ⟨x,by simp [hx],h1,h2,by omega,λy hy hc=>?_,a,by simp,h.1,h.2⟩
    rcases List.mem_cons.1 hy with rfl | hy
    ·exact h3
    ·exact h4 y hy hc
def Bc (s:By) (e:Ent):Bool:=C5 s&&(e.1==s || e.2&&D2 e.1 s)
def L0 (l:List Ent) (s:By):Ent:=l.foldl (λb e=>if Bc s e&&Nat.blt b.1.length e.1.length then e else b) noE
def Ie (l:List Ent) (s u:By):Bool:=(H6 l u).2&&((u==s) || (H6 l u).1.2)
def DA (l:List Ent) (s:By):Ent × Bool:=if (H6 l s).2 then H6 l s else match (E2 s).find? λu=>(H6 l u).2&&(H6 l u).1.2 with
 | some u=>((H6 l u).1,true)
 | none=>(noE,false)
theorem Mo {α:Type} {p q:α->Bool}:∀ {l:List α},(∀ x∈l,p x=q x)->l.find? p=l.find? q
 | [],_=>rfl
 | a::r,h=>by
  rw [List.find?_cons,List.find?_cons,h a (by simp),Mo λx hx=>h x (by simp [hx])]
theorem EQ {s u:By} (h:u∈E2 s):u≠s:=λe=>by
 have:=(Z6 (Q0 s) u h).2
 rw [e] at this;omega
theorem Az8 (l:List Ent) (s:By):DA l s=match (s::E2 s).find? (Ie l s) with
  | some u=>((H6 l u).1,true)
  | none=>(noE,false):=by
 have e:(E2 s).find? (Ie l s)=(E2 s).find? λu=>(H6 l u).2&&(H6 l u).1.2:=Mo λu hu=>by
  unfold Ie
  rw [show (u==s)=false by simpa using EQ hu,Bool.false_or]
 unfold DA
 rw [List.find?_cons,e]
 cases h:(H6 l s).2 with
 | true=>
  rw [if_pos rfl,show Ie l s s=true by unfold Ie;rw [h];simp]
  show H6 l s=((H6 l s).1,true)
  rw [<-h]
 | false=>
  rw [if_neg (by simp),show Ie l s s=false by unfold Ie;rw [h];rfl]
theorem Db {l:List Ent} (H:asc (l.map Prod.fst)=true) {s u:By} (hu:D2 u s=true):Ie l s u=true↔∃ x∈l,x.1=u/\Bc s x=true:=by
 have hvs:C5 s=true:=Dt.2 (I1.1 hu).2.1
 unfold Ie
 rcases Vn (d:=noE) H u with ⟨x,hx,e,g⟩ | ⟨h,g⟩
 ·rw [show H6 l u=(x,true) from g]
  constructor
  ·intro k
   refine ⟨x,hx,e,?_⟩
   unfold Bc
   rw [hvs,e,hu]
   simpa using k
  ·rintro ⟨y,hy,e2,k⟩
   have exy:=Ng H hx hy (e.trans e2.symm)
   subst exy
   unfold Bc at k
   rw [hvs,e,hu] at k
   simpa using k
 ·rw [show H6 l u=(noE,false) from g]
  constructor
  ·intro k;cases k
  ·rintro ⟨y,hy,e2,_⟩
   exact absurd e2 (h y hy)
theorem H9 {s:By} {x:Ent} (h:Bc s x=true):D2 x.1 s=true:=by
 unfold Bc at h
 simp only [Bool.and_eq_true,Bool.or_eq_true,beq_iff_eq] at h
 rcases h with ⟨h,e | ⟨_,e⟩⟩
 ·rw [e,Ea];exact h
 ·exact e
theorem Fy {a s:By} (h:D2 a s=true):a≠[]:=(I1.1 h).1.ne
theorem MY {l:List Ent} (H:asc (l.map Prod.fst)=true) (s:By):(∃ x∈l,DA l s=(x,true)/\Bc s x=true/\∀ y∈l,Bc s y=true->y.1.length<=x.1.length)\/(DA l s=(noE,false)/\∀ y∈l,Bc s y=false)\/(C5 s=false/\∃ x∈l,x.1=s):=by
 cases hs:C5 s with
 | false=>
  have e:E2 s=[]:=by unfold E2;rw [hs];rfl
  rcases Vn (d:=noE) H s with ⟨x,hx,e1,g⟩ | ⟨h,g⟩
  ·exact .inr (.inr ⟨rfl,x,hx,e1⟩)
  ·refine .inr (.inl ⟨?_,λy hy=>by unfold Bc;rw [hs];rfl⟩)
   unfold DA
   rw [show H6 l s=(noE,false) from g,e]
   rfl
 | true=>
  rw [Az8]
  rcases CM hs (Ie l s) with ⟨u,h1,h2,h3,h4⟩ | ⟨h1,h2⟩
  ·rw [h1]
   obtain ⟨x,hx,e,c⟩:=(Db H h2).1 h3
   left
   refine ⟨x,hx,?_,c,λy hy hc=>?_⟩
   ·rcases Vn (d:=noE) H u with ⟨z,hz,e2,g⟩ | ⟨h,g⟩
    ·rw [Ng H hx hz (e.trans e2.symm)]
     show ((H6 l u).1,true)=_
     rw [show H6 l u=(z,true) from g]
    ·exact absurd e (h x hx)
   ·rw [e]
    exact h4 _ (H9 hc) ((Db H (H9 hc)).2 ⟨y,hy,rfl,hc⟩)
  ·rw [h1]
   refine .inr (.inl ⟨rfl,λy hy=>?_⟩)
   cases hc:Bc s y with
   | false=>rfl
   | true=>
    have:=(Db H (H9 hc)).2 ⟨y,hy,rfl,hc⟩
    rw [h2 _ (H9 hc)] at this;cases this
theorem UJ {l:List Ent} (H:asc (l.map Prod.fst)=true) (hv:∀ x∈l,C5 x.1=true) (s:By):DA l s=(L0 l s,!(L0 l s).1.isEmpty):=by
 have hb:=Gd (Bc s) (λx:Ent=>x.1.length) id (λx:Ent=>x.1.length) (λ_=>rfl) (λa b=>Nat.blt b a) (λa b h=>Nat.le_of_lt (U3.1 h)) (λa b h=>by
  apply Nat.not_lt.1;intro k;rw [U3.2 k] at h;cases h) l noE
 have hb':L0 l s=l.foldl (λb x=>if Bc s x&&(λa b=>Nat.blt b a) x.1.length b.1.length then id x else b) noE:=rfl
 rw [<-hb'] at hb
 rcases MY H s with ⟨x,hx,e,c,k⟩ | ⟨e,k⟩ | ⟨hs,x,hx,e⟩
 ·have hne:=Fy (H9 c)
  rcases hb with ⟨_,h2⟩ | ⟨y,hy,h1,h2,h3,h4,_⟩
  ·have:=h2 x hx c
   simp only [noE,List.length_nil] at this
   have h0:0<x.1.length:=List.length_pos_iff.2 hne
   rw [show Nat.blt 0 x.1.length=true from U3.2 h0] at this;cases this
  ·have e1:x.1=y.1:=Fx (H9 c) (H9 h1) (Nat.le_antisymm (h4 x hx c) (k y hy h1))
   have e2:=Ng H hx hy e1
   rw [e,h2,e2]
   show _=(y,!y.1.isEmpty)
   rw [show y.1.isEmpty=false by rw [List.isEmpty_eq_false_iff];exact Fy (H9 h1)]
   rfl
 ·rcases hb with ⟨h1,_⟩ | ⟨y,hy,h1,_⟩
  ·rw [e,h1];rfl
  ·rw [k y hy] at h1;cases h1
 ·rw [<-e,hv x hx] at hs;cases hs
abbrev Lb:=Int × By × Bool
def noC:Lb:=(0,[],false)
def NU (now:Int) (p:O6):Bool:=ltI now p.2.2
def Mm (now:Int) (s:By) (p:O6):Bool:=NU now p&&C5 s&&(p.1==s || p.2.1&&D2 p.1 s)
def OO (now:Int) (T:List O6) (L:List Ent) (s:By):Lb:=
 T.foldl (λc p=>if Mm now s p&&Nat.ble c.2.1.length p.1.length then (1,p.1,p.1==s) else c) (if (L0 L s).1.isEmpty then noC else (2,(L0 L s).1,(L0 L s).1==s))
def atV (now:Int) (T:List O6) (L:List Ent) (u:By) (ex:Bool):Lb × Bool:=
 cond ((M5 T u).2&&(NU now (M5 T u).1&&(ex || (M5 T u).1.2.1))) ((1,u,ex),true) (cond ((H6 L u).2&&(ex || (H6 L u).1.2)) ((2,u,ex),true) (noC,false))
def Da (now:Int) (T:List O6) (L:List Ent) (s:By):Lb:=if (atV now T L s true).2 then (atV now T L s true).1 else match (E2 s).find? λu=>(atV now T L u false).2 with
 | some u=>(atV now T L u false).1
 | none=>noC
def Ig (now:Int) (T:List O6) (s u:By):Bool:=(M5 T u).2&&(NU now (M5 T u).1&&((u==s) || (M5 T u).1.2.1))
theorem Au3 (now:Int) (T:List O6) (L:List Ent) (s u:By):atV now T L u (u==s)=if Ig now T s u then ((1,u,u==s),true) else if Ie L s u then ((2,u,u==s),true) else (noC,false):=by
 unfold atV Ig Ie
 cases (M5 T u).2&&(NU now (M5 T u).1&&((u==s) || (M5 T u).1.2.1))<;>cases (H6 L u).2&&((u==s) || (H6 L u).1.2)<;>rfl
theorem Az9 (now:Int) (T:List O6) (L:List Ent) (s:By):Da now T L s=match (s::E2 s).find? λu=>Ig now T s u || Ie L s u with
  | some u=>if Ig now T s u then (1,u,u==s) else (2,u,u==s)
  | none=>noC:=by
 have hat:∀ u,(atV now T L u (u==s)).2=(Ig now T s u || Ie L s u):=λu=>by
  rw [Au3]
  cases Ig now T s u<;>cases Ie L s u<;>rfl
 have hv:∀ u,(atV now T L u (u==s)).2=true->(atV now T L u (u==s)).1=if Ig now T s u then (1,u,u==s) else (2,u,u==s):=λu h=>by
  rw [hat] at h
  rw [Au3]
  cases h1:Ig now T s u with
  | true=>rfl
  | false=>
   rw [h1,Bool.false_or] at h
   rw [h];rfl
 have e:∀ u∈E2 s,(u==s)=false:=λu hu=>by simpa using EQ hu
 have es:(s==s)=true:=beq_self_eq_true s
 have h0:=hat s
 have v0:=hv s
 rw [es] at h0 v0
 unfold Da
 rw [List.find?_cons,<-h0]
 cases h:(atV now T L s true).2 with
 | true=>
  rw [if_pos rfl]
  show _=if Ig now T s s then (1,s,s==s) else (2,s,s==s)
  rw [v0 h,es]
 | false=>
  rw [if_neg (by simp),Mo (p:=λu=>(atV now T L u false).2) (q:=λu=>Ig now T s u || Ie L s u) λu hu=>by rw [<-hat u,e u hu]]
  cases hf:(E2 s).find? λu=>Ig now T s u || Ie L s u with
  | none=>rfl
  | some u=>
   have hu:=List.mem_of_find?_eq_some hf
   have hp:=List.find?_some hf
   have:=hv u (by rw [hat];exact hp)
   rw [e u hu] at this
   show (atV now T L u false).1=if Ig now T s u then (1,u,u==s) else (2,u,u==s)
   rw [e u hu]
   exact this
theorem Ap {now:Int} {s:By} {p:O6} (h:Mm now s p=true):D2 p.1 s=true:=by
 unfold Mm at h
 simp only [Bool.and_eq_true,Bool.or_eq_true,beq_iff_eq] at h
 rcases h with ⟨⟨_,h⟩,e | ⟨_,e⟩⟩
 ·rw [e,Ea];exact h
 ·exact e
theorem Oj {now:Int} {T:List O6} (H:asc (T.map Prod.fst)=true) {s u:By} (hu:D2 u s=true):Ig now T s u=true↔∃ x∈T,x.1=u/\Mm now s x=true:=by
 have hvs:C5 s=true:=Dt.2 (I1.1 hu).2.1
 unfold Ig
 rcases Vn (d:=noP) H u with ⟨x,hx,e,g⟩ | ⟨h,g⟩
 ·rw [show M5 T u=(x,true) from g]
  constructor
  ·intro k
   refine ⟨x,hx,e,?_⟩
   unfold Mm
   rw [hvs,e,hu]
   simpa using k
  ·rintro ⟨y,hy,e2,k⟩
   have exy:=Ng H hx hy (e.trans e2.symm)
   subst exy
   unfold Mm at k
   rw [hvs,e,hu] at k
   simpa using k
 ·rw [show M5 T u=(noP,false) from g]
  constructor
  ·intro k;cases k
  ·rintro ⟨y,hy,e2,_⟩
   exact absurd e2 (h y hy)
theorem TX {now:Int} {T:List O6} {L:List Ent} (HT:asc (T.map Prod.fst)=true) (HL:asc (L.map Prod.fst)=true) (hL:∀ x∈L,C5 x.1=true) {s:By} (hs:C5 s=true):Da now T L s=OO now T L s:=by
 have hE:=MY HL s
 rw [UJ HL hL] at hE
 generalize hb:L0 L s=b at hE
 have hc0:(if (L0 L s).1.isEmpty then noC else (2,(L0 L s).1,(L0 L s).1==s))=if b.1.isEmpty then noC else (2,b.1,b.1==s):=by rw [hb]
 have hB:=Gd (Mm now s) (λx:O6=>x.1.length) (λp=>((1,p.1,p.1==s):Lb)) (λc:Lb=>c.2.1.length) (λ_=>rfl) (λa b=>Nat.ble b a) (λa b h=>Nat.le_of_ble_eq_true h) (λa b h=>by
  apply Nat.le_of_lt;apply Nat.not_le.1;intro k;rw [Aa8.2 k] at h;cases h) T (if b.1.isEmpty then noC else (2,b.1,b.1==s))
 have hr:OO now T L s=T.foldl (λc p=>if Mm now s p&&(λa b=>Nat.ble b a) p.1.length c.2.1.length then (1,p.1,p.1==s) else c) (if b.1.isEmpty then noC else (2,b.1,b.1==s)):=by
  unfold OO
  rw [hc0]
 rw [<-hr] at hB
 rw [Az9]
 rcases CM hs (λu=>Ig now T s u || Ie L s u) with ⟨u,h1,h2,h3,h4⟩ | ⟨h1,h2⟩
 ·rw [h1]
  show (if Ig now T s u then ((1,u,u==s):Lb) else (2,u,u==s))=_
  cases hp:Ig now T s u with
  | true=>
   rw [if_pos rfl]
   obtain ⟨p,hpT,e,c⟩:=(Oj HT h2).1 hp
   have hlb:(if b.1.isEmpty then noC else ((2,b.1,b.1==s):Lb)).2.1.length<=u.length:=by
    rcases hE with ⟨x,hx,q,cx,_⟩ | ⟨q,_⟩ | ⟨q,_⟩
    ·obtain rfl:b=x:=congrArg Prod.fst q
     rw [show b.1.isEmpty=false by rw [List.isEmpty_eq_false_iff];exact Fy (H9 cx)]
     exact h4 b.1 (H9 cx) (by rw [(Db HL (H9 cx)).2 ⟨b,hx,rfl,cx⟩,Bool.or_true])
    ·have:b.1=[]:=by have:=congrArg (·.1.1) q;exact this
     rw [this];exact Nat.zero_le _
    ·rw [hs] at q;cases q
   rcases hB with ⟨_,k⟩ | ⟨y,hy,g1,g2,g3,g4,_⟩
   ·have:=k p hpT c
    rw [e,Aa8.2 hlb] at this;cases this
   ·rw [g2]
    have:y.1=u:=Fx (Ap g1) h2 (Nat.le_antisymm (h4 _ (Ap g1) (by rw [(Oj HT (Ap g1)).2 ⟨y,hy,rfl,g1⟩,Bool.true_or])) (by rw [<-e];exact g4 p hpT c))
    rw [this]
  | false=>
   rw [if_neg (by simp)]
   rw [hp,Bool.false_or] at h3
   obtain ⟨x,hx,e,c⟩:=(Db HL h2).1 h3
   have hbu:b.1=u/\b.1.isEmpty=false:=by
    rcases hE with ⟨y,hy,q,cy,ky⟩ | ⟨_,q⟩ | ⟨q,_⟩
    ·obtain rfl:b=y:=congrArg Prod.fst q
     refine ⟨Fx (H9 cy) h2 (Nat.le_antisymm (h4 _ (H9 cy) (by rw [(Db HL (H9 cy)).2 ⟨b,hy,rfl,cy⟩,Bool.or_true])) (by rw [<-e];exact ky x hx c)),?_⟩
     rw [List.isEmpty_eq_false_iff];exact Fy (H9 cy)
    ·rw [q x hx] at c;cases c
    ·rw [hs] at q;cases q
   rw [hbu.2,hbu.1] at hB
   rcases hB with ⟨k,_⟩ | ⟨y,hy,g1,g2,g3,g4,_⟩
   ·rw [k];rfl
   ·have hyu:Ig now T s y.1=true:=(Oj HT (Ap g1)).2 ⟨y,hy,rfl,g1⟩
    have:y.1=u:=Fx (Ap g1) h2 (Nat.le_antisymm (h4 _ (Ap g1) (by rw [hyu,Bool.true_or])) g3)
    rw [this,hp] at hyu;cases hyu
 ·rw [h1]
  show noC=_
  have hbe:b.1.isEmpty=true:=by
   rcases hE with ⟨y,hy,q,cy,ky⟩ | ⟨q,_⟩ | ⟨q,_⟩
   ·obtain rfl:b=y:=congrArg Prod.fst q
    have:=h2 _ (H9 cy)
    rw [(Db HL (H9 cy)).2 ⟨_,hy,rfl,cy⟩,Bool.or_true] at this;cases this
   ·have:b.1=[]:=by have:=congrArg (·.1.1) q;exact this
    rw [this];rfl
   ·rw [hs] at q;cases q
  rw [hbe] at hB
  rcases hB with ⟨k,_⟩ | ⟨y,hy,g1,_⟩
  ·rw [k];rfl
  ·have:=h2 _ (Ap g1)
   rw [(Oj HT (Ap g1)).2 ⟨y,hy,rfl,g1⟩,Bool.true_or] at this;cases this
def smE (el:List SV):Bool:=A1 (elS el).length
def N7 (z:Bool) (l:LL):Bool:=!z || l.isEmpty
def KB (h:By) (e:Int):Bool:=C5 h&&(!ltI e 0 && !ltI 1099511627776 e)
def ixE (l:List Ent):Int:=match l.findIdx? (λe=>!C5 e.1) with | some j=>(j:Int) | none=>-1
def RN (l:List Ent):Bool:=l.any λe=>!C5 e.1
def Mn:List By->Bool
 | []=>false
 | a::r=>r.contains a || Mn r
def AQ (e:Ent):List Ent->List Ent
 | []=>[e]
 | a::r=>if N5 a.1 e.1 then a::AQ e r else e::a::r
def isE (l:List Ent):List Ent:=l.foldl (λacc e=>AQ e acc) []
def Bl (l:List Ent):Nat:=if 1000<l.length then 3 else if RN l then 14 else if Mn (l.map Prod.fst) then 17 else 0
def JN (prev:Option By):List O6->Nat
 | []=>0
 | p::r=>if KB p.1 p.2.2 then (match prev with
   | some q=>if N5 q p.1 then JN (some p.1) r else 8
   | none=>JN (some p.1) r) else 1
def X8 (cp:Int) (l:List O6):Nat:=cond (ltI cp (l.length:Nat)) 11 (JN none l)
def A23 (h:By) (b:Bool):Ent:=(h,b)
def A26 (h:By) (b:Bool) (e:Int):O6:=(h,b,e)
def Be (n:Int) (l:LL):Bool:=!ltI n l.length&&l.all λel=>!ltI 300 (elS el).length
def E0 (now:Int) (T:List O6) (L:List Ent) (kd:Int) (h:LI):Lb:=cond (kd==1) (cond (M8 h) (Da now T L h.name) noC) noC
def Jp (now:Int) (T:List O6) (L:List Ent) (kd:Int) (h:LI):Lb:=cond (kd==1) (cond (M8 h) (OO now T L h.name) noC) noC
abbrev Lk:={e:Ent // e.1.length<=1000000000}
instance:Inhabited Lk:=⟨⟨noE,by decide⟩⟩
def mkS (e:Ent):Lk:=if h:e.1.length<=1000000000 then ⟨e,h⟩ else default
def Fo (d:Array Lk):Array Lk:=Sort.pdq (Go.Proofs.ltOf λx y:Lk=>M4 x.1.1 y.1.1) d 0 d.size (Lib.bitLen d.size) true true
def R9 (l:List Ent):List Ent:=(Fo (l.map mkS).toArray).toList.map (·.1)
theorem Jb {l:List Ent} {i:Nat} (h:i<l.length):gX (D6 l) i 0=(l.getD i noE).1:=by unfold gX gC;rw [Iw h];rfl
theorem A01 {l:List Ent} {i:Nat} (h:i<l.length):gY (D6 l) i 1=(l.getD i noE).2:=by unfold gY gC;rw [Iw h];rfl
theorem Oy {l:List Ent} {i:Nat} (h:i<l.length):okE ⟨true,true,[.str,.bool]⟩ (D6 l) i 0=true:=by unfold okE;rw [Iw h];simp [h,okS,Uw,SV.has]
theorem Jc {l:List O6} {i:Nat} (h:i<l.length):gX (Y1 l) i 0=(l.getD i noP).1:=by unfold gX gC;rw [Gi h];rfl
theorem UM {l:List O6} {i:Nat} (h:i<l.length):gY (Y1 l) i 1=(l.getD i noP).2.1:=by unfold gY gC;rw [Gi h];rfl
theorem UL {l:List O6} {i:Nat} (h:i<l.length):gE (Y1 l) i 2=(l.getD i noP).2.2:=by unfold gE gC;rw [Gi h];rfl
theorem Pa {l:List O6} {i:Nat} (h:i<l.length):okE ⟨true,true,[.str,.bool,.int .i64]⟩ (Y1 l) i 0=true:=by unfold okE;rw [Gi h];simp [h,okS,A35,SV.has]
theorem Wc {l:List Ent} (h:(D6 l).all smE=true) {i:Nat} (hi:i<l.length):A1 (l.getD i noE).1.length=true:=by
 have:=List.all_eq_true.1 h ((D6 l).getD i []) (by
  rw [List.getD_eq_getElem?_getD,List.getElem?_eq_getElem (by simpa using hi)]
  exact List.getElem_mem _)
 rw [Iw hi] at this
 exact this
theorem Py {l:List O6} (h:(Y1 l).all smE=true) {i:Nat} (hi:i<l.length):A1 (l.getD i noP).1.length=true:=by
 have:=List.all_eq_true.1 h ((Y1 l).getD i []) (by
  rw [List.getD_eq_getElem?_getD,List.getElem?_eq_getElem (by simpa using hi)]
  exact List.getElem_mem _)
 rw [Gi hi] at this
 exact this
theorem Vp {α:Type} (f:α->By) {d:α} {l:List α} {i:Nat} (h:i<l.length):(l.map f).getD i []=f (l.getD i d):=by
 simp [List.getD_eq_getElem?_getD,h]
end
section
open Go Go.Proofs
set_option maxRecDepth 100000
section
def GD:List PV->Tr
 | [.s (.str s)]=>.ret (.s (.bool false)) []
 | _=>.fail
def As4 (args:List PV):Tr:=GD (C7 [[0]] args)
def GC:List PV->Tr
 | [.s (.int .i64 n)]=>.ret (.s (.bool false)) []
 | _=>.fail
def As3 (args:List PV):Tr:=GC (C7 [[0]] args)
def QL:List PV->Tr
 | [.s (.str s),.s (.str p)]=>.ret (.s (.int .i64 (T9 s p))) []
 | _=>.fail
def Bt3 (args:List PV):Tr:=QL (C7 [[0],[0]] args)
def QK:List PV->Tr
 | [.s (.int .i64 n),.s (.int .i64 m)]=>.ret (.s (.int .i64 (IZ n m))) []
 | _=>.fail
def Bt2 (args:List PV):Tr:=QK (C7 [[0],[0]] args)
def GF:List PV->Tr
 | [.s (.str s),.s (.str p)]=>.need (A1 (List.length s)) (.need (A1 (List.length p)) (.ret (.s (.int .i64 (M4 s p))) []))
 | _=>.fail
def Qt (args:List PV):Tr:=GF (C7 [[0],[0]] args)
def GK:List PV->Tr
 | [.agg [.s (.str h),.s (.bool b),.s (.int .i64 e)]]=>.need (A1 (List.length h)) (.ret (.s (.bool (KB h e))) [])
 | _=>.fail
def GJ (args:List PV):Tr:=GK (C7 [[0,0,0]] args)
def HH:List PV->Tr
 | [.s (.int .i64 n),.s (.int .i64 m)]=>.ret (.s (.bool (not (ltI m n)))) []
 | _=>.fail
def HG (args:List PV):Tr:=HH (C7 [[0],[0]] args)
def FX:List PV->Tr
 | [.agg [.s (.str h),.s (.bool b)]]=>.need (A1 (List.length h)) (.ret (.s (.bool (not (C5 h)))) [])
 | _=>.fail
def As2 (args:List PV):Tr:=FX (C7 [[0,0]] args)
def QS:List PV->Tr
 | [.agg [.s (.str h),.s (.bool b)],.s (.str s)]=>.need (A1 (List.length h)) (.need (A1 (List.length s)) (.ret (.s (.int .i64 (M4 h s))) []))
 | _=>.fail
def Bt5 (args:List PV):Tr:=QS (C7 [[0,0],[0]] args)
def RH:List PV->Tr
 | [.agg [.s (.str h),.s (.bool b),.s (.int .i64 e)],.s (.str s)]=>.need (A1 (List.length h)) (.need (A1 (List.length s)) (.ret (.s (.int .i64 (M4 h s))) []))
 | _=>.fail
def Bt7 (args:List PV):Tr:=RH (C7 [[0,0,0],[0]] args)
def FU:List PV->Tr
 | [.s (.sl l_z l_t 2 l),.s (.fn (Fn.func 58) [] [])]=>.need (List.all l D1) (.need (List.all l smE) (.need (A1 (List.length l)) (.ret (.s (.int .i64 (ixE (List.map A6 l)))) [])))
 | _=>.fail
def As1 (args:List PV):Tr:=FU (C7 [[2],[0]] args)
def FT:List PV->Tr
 | [.s (.sl l_z l_t 2 l),.s (.fn (Fn.func 58) [] [])]=>.need (List.all l D1) (.need (List.all l smE) (.need (A1 (List.length l)) (.ret (.s (.bool (RN (List.map A6 l)))) [])))
 | _=>.fail
def FS (args:List PV):Tr:=FT (C7 [[2],[0]] args)
def FR:List PV->Tr
 | [.s (.sl l_z l_t 2 l)]=>.need (A1 (List.length l)) (.need (N7 l_z l) (.ret (.fl 0) [.arr l_z 63 2 l]))
 | _=>.fail
def FQ (args:List PV):Tr:=FR (C7 [[2]] args)
def HS:List PV->Tr
 | [.s (.sl l_z l_t 3 l)]=>.need (A1 (List.length l)) (.need (N7 l_z l) (.ret (.fl 0) [.arr l_z 48 3 l]))
 | _=>.fail
def HQ (args:List PV):Tr:=HS (C7 [[3]] args)
def Qq:SV->List (List SV)->Bool × List (List SV)
 | .fn (Fn.func 62) [] [],l=>(((List.all l D1)&&((List.all l smE)&&(A1 (List.length l)))),(D6 (R9 (List.map A6 l))))
 | _,_=>(false,[])
def FP:List PV->Tr
 | [.s (.sl l_z l_t 2 l),.s (.str q),.s (.fn (Fn.func 66) [] [])]=>.need (List.all l D1) (.need (List.all l smE) (.need (A1 (List.length l)) (.need (A1 (List.length q)) (.ret (.tup [.s (.int .i64 (↑(bsI (List.map Prod.fst (List.map A6 l)) q):Int)),.s (.bool (bsB (List.map Prod.fst (List.map A6 l)) q))]) []))))
 | _=>.fail
def QR (args:List PV):Tr:=FP (C7 [[2],[0],[0]] args)
def HP:List PV->Tr
 | [.s (.sl l_z l_t 3 l),.s (.str q),.s (.fn (Fn.func 78) [] [])]=>.need (List.all l F1) (.need (List.all l smE) (.need (A1 (List.length l)) (.need (A1 (List.length q)) (.ret (.tup [.s (.int .i64 (↑(bsI (List.map Prod.fst (List.map B0 l)) q):Int)),.s (.bool (bsB (List.map Prod.fst (List.map B0 l)) q))]) []))))
 | _=>.fail
def RG (args:List PV):Tr:=HP (C7 [[3],[0],[0]] args)
def FW:List PV->Tr
 | [.s (.sl l_z l_t 2 l)]=>.need (List.all l D1) (.need (List.all l smE) (.need (A1 (List.length l)) (.need (N7 l_z l) (.split ((Bl (List.map A6 l))==0) (.ret (.tup [.s (.sp [[.sl l_z l_z 2 (D6 (isE (List.map A6 l)))]] 0 0),.s (.int .i64 (0:Int))]) []) (.ret (.tup [.s (.nilp),.s (.int .i64 (↑(Bl (List.map A6 l)):Int))]) [])))))
 | _=>.fail
def QT (args:List PV):Tr:=FW (C7 [[2]] args)
def Wl:List PV->Tr
 | [.s (.sp [[.sl lz lt 2 l]] 0 0),.s (.str q)]=>.need (List.all l D1) (.need (List.all l smE) (.need (A1 (List.length l)) (.need (A1 (List.length q)) (.ret (.tup [.agg [.s (.str (((H6 (List.map A6 l) q)).1).1),.s (.bool (((H6 (List.map A6 l) q)).1).2)],.s (.bool ((H6 (List.map A6 l) q)).2)]) []))))
 | _=>.fail
def ZP (args:List PV):Tr:=Wl (C7 [[0],[0]] args)
def Wm:List PV->Tr
 | [.s (.nilp),.s (.str q)]=>.ret (.tup [.agg [.s (.str ([]:List UInt8)),.s (.bool false)],.s (.bool false)]) []
 | _=>.fail
def ZQ (args:List PV):Tr:=Wm (C7 [[0],[0]] args)
def Wk (args:List PV):Tr:=(orT (ZP args) (ZQ args))
def Ws:List PV->Tr
 | [.s (.int .i64 n)]=>.need ((ltI (0:Int) n)&&(ltI n (1001:Int))) (.ret (.tup [.ptr 1 0 0,.s (.int .i64 (0:Int))]) [.arr true 48 3 List.nil,.box [.fl 0,.s (.int .i64 n)]])
 | _=>.fail
def GM (args:List PV):Tr:=Ws (C7 [[0]] args)
def Qv:List PV->Tr
 | [.s (.sl t_z t_t 3 t),.s (.int .i64 cp)]=>.need (List.all t F1) (.need (List.all t smE) (.need (A1 (List.length t)) (.need (N7 t_z t) (.need ((ltI (0:Int) cp)&&(ltI cp (1001:Int))) (.split ((X8 cp (List.map B0 t))==0) (.ret (.tup [.s (.sp [[.sl t_z t_z 3 t,.int .i64 cp]] 0 0),.s (.int .i64 (0:Int))]) []) (.ret (.tup [.s (.nilp),.s (.int .i64 (↑(X8 cp (List.map B0 t)):Int))]) []))))))
 | _=>.fail
def Wr (args:List PV):Tr:=Qv (C7 [[3],[0]] args)
def Xe:List PV->Tr
 | [.s (.sp [[.sl tz tt 3 t,.int .i64 cp]] 0 0),.s (.str q)]=>.need (List.all t F1) (.need (List.all t smE) (.need (A1 (List.length t)) (.need (A1 (List.length q)) (.ret (.tup [.s (.int .i64 (↑(bsI (List.map Prod.fst (List.map B0 t)) q):Int)),.s (.bool (bsB (List.map Prod.fst (List.map B0 t)) q))]) []))))
 | _=>.fail
def ZY (args:List PV):Tr:=Xe (C7 [[0],[0]] args)
def Xf:List PV->Tr
 | [.s (.nilp),.s (.str q)]=>.ret (.tup [.s (.int .i64 (0:Int)),.s (.bool false)]) []
 | _=>.fail
def ZZ (args:List PV):Tr:=Xf (C7 [[0],[0]] args)
def RJ (args:List PV):Tr:=(orT (ZY args) (ZZ args))
def Xh:List PV->Tr
 | [.s (.sp [[.sl tz tt 3 t,.int .i64 cp]] 0 0),.s (.str q)]=>.need (List.all t F1) (.need (List.all t smE) (.need (A1 (List.length t)) (.need (A1 (List.length q)) (.ret (.tup [.agg [.s (.str (((M5 (List.map B0 t) q)).1).1),.s (.bool ((((M5 (List.map B0 t) q)).1).2).1),.s (.int .i64 ((((M5 (List.map B0 t) q)).1).2).2)],.s (.bool ((M5 (List.map B0 t) q)).2)]) []))))
 | _=>.fail
def Aa0 (args:List PV):Tr:=Xh (C7 [[0],[0]] args)
def Xi:List PV->Tr
 | [.s (.nilp),.s (.str q)]=>.ret (.tup [.agg [.s (.str ([]:List UInt8)),.s (.bool false),.s (.int .i64 (0:Int))],.s (.bool false)]) []
 | _=>.fail
def Aa1 (args:List PV):Tr:=Xi (C7 [[0],[0]] args)
def Xg (args:List PV):Tr:=(orT (Aa0 args) (Aa1 args))
def EW:List PV->Tr
 | [.s (.int .i64 now),.s (.sp [[.sl tz tt 3 t,.int .i64 cp]] 0 0),.s (.sp [[.sl lz lt 2 l]] 0 0),.s (.str u),.s (.bool ex)]=>.need (List.all t F1) (.need (List.all t smE) (.need (A1 (List.length t)) (.need (List.all l D1) (.need (List.all l smE) (.need (A1 (List.length l)) (.need (A1 (List.length u)) (.ret (.tup [.agg [.s (.int .i64 (((atV now (List.map B0 t) (List.map A6 l) u ex)).1).1),.s (.str ((((atV now (List.map B0 t) (List.map A6 l) u ex)).1).2).1),.s (.bool ((((atV now (List.map B0 t) (List.map A6 l) u ex)).1).2).2)],.s (.bool ((atV now (List.map B0 t) (List.map A6 l) u ex)).2)]) [])))))))
 | _=>.fail
def Ar1 (args:List PV):Tr:=EW (C7 [[0],[0],[0],[0],[0]] args)
def EX:List PV->Tr
 | [.s (.int .i64 now),.s (.nilp),.s (.sp [[.sl lz lt 2 l]] 0 0),.s (.str u),.s (.bool ex)]=>.need (List.all l D1) (.need (List.all l smE) (.need (A1 (List.length l)) (.need (A1 (List.length u)) (.ret (.tup [.agg [.s (.int .i64 (((atV now List.nil (List.map A6 l) u ex)).1).1),.s (.str ((((atV now List.nil (List.map A6 l) u ex)).1).2).1),.s (.bool ((((atV now List.nil (List.map A6 l) u ex)).1).2).2)],.s (.bool ((atV now List.nil (List.map A6 l) u ex)).2)]) []))))
 | _=>.fail
def Ar2 (args:List PV):Tr:=EX (C7 [[0],[0],[0],[0],[0]] args)
def EY:List PV->Tr
 | [.s (.int .i64 now),.s (.sp [[.sl tz tt 3 t,.int .i64 cp]] 0 0),.s (.nilp),.s (.str u),.s (.bool ex)]=>.need (List.all t F1) (.need (List.all t smE) (.need (A1 (List.length t)) (.need (A1 (List.length u)) (.ret (.tup [.agg [.s (.int .i64 (((atV now (List.map B0 t) List.nil u ex)).1).1),.s (.str ((((atV now (List.map B0 t) List.nil u ex)).1).2).1),.s (.bool ((((atV now (List.map B0 t) List.nil u ex)).1).2).2)],.s (.bool ((atV now (List.map B0 t) List.nil u ex)).2)]) []))))
 | _=>.fail
def Ar3 (args:List PV):Tr:=EY (C7 [[0],[0],[0],[0],[0]] args)
def EZ:List PV->Tr
 | [.s (.int .i64 now),.s (.nilp),.s (.nilp),.s (.str u),.s (.bool ex)]=>.need (A1 (List.length u)) (.ret (.tup [.agg [.s (.int .i64 (((atV now List.nil List.nil u ex)).1).1),.s (.str ((((atV now List.nil List.nil u ex)).1).2).1),.s (.bool ((((atV now List.nil List.nil u ex)).1).2).2)],.s (.bool ((atV now List.nil List.nil u ex)).2)]) [])
 | _=>.fail
def Ar4 (args:List PV):Tr:=EZ (C7 [[0],[0],[0],[0],[0]] args)
def Nc (args:List PV):Tr:=(orT (Ar1 args) (orT (Ar2 args) (orT (Ar3 args) (Ar4 args))))
def FC:List PV->Tr
 | [.s (.int .i64 now),.s (.sp [[.sl tz tt 3 t,.int .i64 cp]] 0 0),.s (.sp [[.sl lz lt 2 l]] 0 0),.agg [.s (.int .i64 kd),.s (.str nm),.s (.int .u32 v4),.s (.int .u16 a0),.s (.int .u16 a1),.s (.int .u16 a2),.s (.int .u16 a3),.s (.int .u16 a4),.s (.int .u16 a5),.s (.int .u16 a6),.s (.int .u16 a7)]]=>.need (List.all t F1) (.need (List.all t smE) (.need (A1 (List.length t)) (.need (List.all l D1) (.need (List.all l smE) (.need (A1 (List.length l)) (.need (A1 (List.length nm)) (.need (ltN v4 4294967296) (.need (ok8 a0 a1 a2 a3 a4 a5 a6 a7) (.ret (.agg [.s (.int .i64 ((E0 now (List.map B0 t) (List.map A6 l) kd (mkH kd nm v4 (n8 a0 a1 a2 a3 a4 a5 a6 a7)))).1),.s (.str (((E0 now (List.map B0 t) (List.map A6 l) kd (mkH kd nm v4 (n8 a0 a1 a2 a3 a4 a5 a6 a7)))).2).1),.s (.bool (((E0 now (List.map B0 t) (List.map A6 l) kd (mkH kd nm v4 (n8 a0 a1 a2 a3 a4 a5 a6 a7)))).2).2)]) [])))))))))
 | _=>.fail
def Ar5 (args:List PV):Tr:=FC (C7 [[0],[0],[0],[0,0,0,0,0,0,0,0,0,0,0]] args)
def FD:List PV->Tr
 | [.s (.int .i64 now),.s (.nilp),.s (.sp [[.sl lz lt 2 l]] 0 0),.agg [.s (.int .i64 kd),.s (.str nm),.s (.int .u32 v4),.s (.int .u16 a0),.s (.int .u16 a1),.s (.int .u16 a2),.s (.int .u16 a3),.s (.int .u16 a4),.s (.int .u16 a5),.s (.int .u16 a6),.s (.int .u16 a7)]]=>.need (List.all l D1) (.need (List.all l smE) (.need (A1 (List.length l)) (.need (A1 (List.length nm)) (.need (ltN v4 4294967296) (.need (ok8 a0 a1 a2 a3 a4 a5 a6 a7) (.ret (.agg [.s (.int .i64 ((E0 now List.nil (List.map A6 l) kd (mkH kd nm v4 (n8 a0 a1 a2 a3 a4 a5 a6 a7)))).1),.s (.str (((E0 now List.nil (List.map A6 l) kd (mkH kd nm v4 (n8 a0 a1 a2 a3 a4 a5 a6 a7)))).2).1),.s (.bool (((E0 now List.nil (List.map A6 l) kd (mkH kd nm v4 (n8 a0 a1 a2 a3 a4 a5 a6 a7)))).2).2)]) []))))))
 | _=>.fail
def Ar6 (args:List PV):Tr:=FD (C7 [[0],[0],[0],[0,0,0,0,0,0,0,0,0,0,0]] args)
def FE:List PV->Tr
 | [.s (.int .i64 now),.s (.sp [[.sl tz tt 3 t,.int .i64 cp]] 0 0),.s (.nilp),.agg [.s (.int .i64 kd),.s (.str nm),.s (.int .u32 v4),.s (.int .u16 a0),.s (.int .u16 a1),.s (.int .u16 a2),.s (.int .u16 a3),.s (.int .u16 a4),.s (.int .u16 a5),.s (.int .u16 a6),.s (.int .u16 a7)]]=>.need (List.all t F1) (.need (List.all t smE) (.need (A1 (List.length t)) (.need (A1 (List.length nm)) (.need (ltN v4 4294967296) (.need (ok8 a0 a1 a2 a3 a4 a5 a6 a7) (.ret (.agg [.s (.int .i64 ((E0 now (List.map B0 t) List.nil kd (mkH kd nm v4 (n8 a0 a1 a2 a3 a4 a5 a6 a7)))).1),.s (.str (((E0 now (List.map B0 t) List.nil kd (mkH kd nm v4 (n8 a0 a1 a2 a3 a4 a5 a6 a7)))).2).1),.s (.bool (((E0 now (List.map B0 t) List.nil kd (mkH kd nm v4 (n8 a0 a1 a2 a3 a4 a5 a6 a7)))).2).2)]) []))))))
 | _=>.fail
def Ar7 (args:List PV):Tr:=FE (C7 [[0],[0],[0],[0,0,0,0,0,0,0,0,0,0,0]] args)
def FF:List PV->Tr
 | [.s (.int .i64 now),.s (.nilp),.s (.nilp),.agg [.s (.int .i64 kd),.s (.str nm),.s (.int .u32 v4),.s (.int .u16 a0),.s (.int .u16 a1),.s (.int .u16 a2),.s (.int .u16 a3),.s (.int .u16 a4),.s (.int .u16 a5),.s (.int .u16 a6),.s (.int .u16 a7)]]=>.need (A1 (List.length nm)) (.need (ltN v4 4294967296) (.need (ok8 a0 a1 a2 a3 a4 a5 a6 a7) (.ret (.agg [.s (.int .i64 ((E0 now List.nil List.nil kd (mkH kd nm v4 (n8 a0 a1 a2 a3 a4 a5 a6 a7)))).1),.s (.str (((E0 now List.nil List.nil kd (mkH kd nm v4 (n8 a0 a1 a2 a3 a4 a5 a6 a7)))).2).1),.s (.bool (((E0 now List.nil List.nil kd (mkH kd nm v4 (n8 a0 a1 a2 a3 a4 a5 a6 a7)))).2).2)]) [])))
 | _=>.fail
def Ar8 (args:List PV):Tr:=FF (C7 [[0],[0],[0],[0,0,0,0,0,0,0,0,0,0,0]] args)
def Wf (args:List PV):Tr:=(orT (Ar5 args) (orT (Ar6 args) (orT (Ar7 args) (Ar8 args))))
def Lm:List PV->Tr
 | [.s (.int .i64 now),.s (.sp [[.sl tz tt 3 t,.int .i64 cp]] 0 0),.s (.sp [[.sl lz lt 2 l]] 0 0),.agg [.s (.int .i64 kd),.s (.str nm),.s (.int .u32 v4),.s (.int .u16 a0),.s (.int .u16 a1),.s (.int .u16 a2),.s (.int .u16 a3),.s (.int .u16 a4),.s (.int .u16 a5),.s (.int .u16 a6),.s (.int .u16 a7)]]=>.need (List.all t F1) (.need (List.all t smE) (.need (A1 (List.length t)) (.need (List.all l D1) (.need (List.all l smE) (.need (A1 (List.length l)) (.need (A1 (List.length nm)) (.need (ltN v4 4294967296) (.need (ok8 a0 a1 a2 a3 a4 a5 a6 a7) (.ret (.s (.bool (((E0 now (List.map B0 t) (List.map A6 l) kd (mkH kd nm v4 (n8 a0 a1 a2 a3 a4 a5 a6 a7)))).1 != (0:Int)))) [])))))))))
 | _=>.fail
def BD (args:List PV):Tr:=Lm (C7 [[0],[0],[0],[0,0,0,0,0,0,0,0,0,0,0]] args)
def Ln:List PV->Tr
 | [.s (.int .i64 now),.s (.nilp),.s (.sp [[.sl lz lt 2 l]] 0 0),.agg [.s (.int .i64 kd),.s (.str nm),.s (.int .u32 v4),.s (.int .u16 a0),.s (.int .u16 a1),.s (.int .u16 a2),.s (.int .u16 a3),.s (.int .u16 a4),.s (.int .u16 a5),.s (.int .u16 a6),.s (.int .u16 a7)]]=>.need (List.all l D1) (.need (List.all l smE) (.need (A1 (List.length l)) (.need (A1 (List.length nm)) (.need (ltN v4 4294967296) (.need (ok8 a0 a1 a2 a3 a4 a5 a6 a7) (.ret (.s (.bool (((E0 now List.nil (List.map A6 l) kd (mkH kd nm v4 (n8 a0 a1 a2 a3 a4 a5 a6 a7)))).1 != (0:Int)))) []))))))
 | _=>.fail
def BE (args:List PV):Tr:=Ln (C7 [[0],[0],[0],[0,0,0,0,0,0,0,0,0,0,0]] args)
def Lo:List PV->Tr
 | [.s (.int .i64 now),.s (.sp [[.sl tz tt 3 t,.int .i64 cp]] 0 0),.s (.nilp),.agg [.s (.int .i64 kd),.s (.str nm),.s (.int .u32 v4),.s (.int .u16 a0),.s (.int .u16 a1),.s (.int .u16 a2),.s (.int .u16 a3),.s (.int .u16 a4),.s (.int .u16 a5),.s (.int .u16 a6),.s (.int .u16 a7)]]=>.need (List.all t F1) (.need (List.all t smE) (.need (A1 (List.length t)) (.need (A1 (List.length nm)) (.need (ltN v4 4294967296) (.need (ok8 a0 a1 a2 a3 a4 a5 a6 a7) (.ret (.s (.bool (((E0 now (List.map B0 t) List.nil kd (mkH kd nm v4 (n8 a0 a1 a2 a3 a4 a5 a6 a7)))).1 != (0:Int)))) []))))))
 | _=>.fail
def BF (args:List PV):Tr:=Lo (C7 [[0],[0],[0],[0,0,0,0,0,0,0,0,0,0,0]] args)
def Lp:List PV->Tr
 | [.s (.int .i64 now),.s (.nilp),.s (.nilp),.agg [.s (.int .i64 kd),.s (.str nm),.s (.int .u32 v4),.s (.int .u16 a0),.s (.int .u16 a1),.s (.int .u16 a2),.s (.int .u16 a3),.s (.int .u16 a4),.s (.int .u16 a5),.s (.int .u16 a6),.s (.int .u16 a7)]]=>.need (A1 (List.length nm)) (.need (ltN v4 4294967296) (.need (ok8 a0 a1 a2 a3 a4 a5 a6 a7) (.ret (.s (.bool (((E0 now List.nil List.nil kd (mkH kd nm v4 (n8 a0 a1 a2 a3 a4 a5 a6 a7)))).1 != (0:Int)))) [])))
 | _=>.fail
def BG (args:List PV):Tr:=Lp (C7 [[0],[0],[0],[0,0,0,0,0,0,0,0,0,0,0]] args)
def Wg (args:List PV):Tr:=(orT (BD args) (orT (BE args) (orT (BF args) (BG args))))
def GV:List PV->Tr
 | [.agg [.s (.str h),.s (.bool b)],.s (.str s)]=>.need (A1 (List.length h)) (.need (A1 (List.length s)) (.ret (.s (.bool (Bc s (A23 h b)))) []))
 | _=>.fail
def At0 (args:List PV):Tr:=GV (C7 [[0,0],[0]] args)
def GW:List PV->Tr
 | [.s (.sl l_z l_t 2 l),.s (.str s)]=>.need (List.all l D1) (.need (List.all l smE) (.need (A1 (List.length l)) (.need (A1 (List.length s)) (.ret (.tup [.agg [.s (.str ((L0 (List.map A6 l) s)).1),.s (.bool ((L0 (List.map A6 l) s)).2)],.s (.bool (not (List.isEmpty ((L0 (List.map A6 l) s)).1)))]) []))))
 | _=>.fail
def At1 (args:List PV):Tr:=GW (C7 [[2],[0]] args)
def GO:List PV->Tr
 | [.agg [.s (.str h),.s (.bool b),.s (.int .i64 e)],.s (.int .i64 now),.s (.str s)]=>.need (A1 (List.length h)) (.need (A1 (List.length s)) (.ret (.s (.bool (Mm now s (A26 h b e)))) []))
 | _=>.fail
def As7 (args:List PV):Tr:=GO (C7 [[0,0,0],[0],[0]] args)
def GP:List PV->Tr
 | [.s (.int .i64 now),.s (.sl t_z t_t 3 t),.s (.sl l_z l_t 2 l),.agg [.s (.int .i64 kd),.s (.str nm),.s (.int .u32 v4),.s (.int .u16 a0),.s (.int .u16 a1),.s (.int .u16 a2),.s (.int .u16 a3),.s (.int .u16 a4),.s (.int .u16 a5),.s (.int .u16 a6),.s (.int .u16 a7)]]=>.need (List.all t F1) (.need (List.all t smE) (.need (A1 (List.length t)) (.need (List.all l D1) (.need (List.all l smE) (.need (A1 (List.length l)) (.need (A1 (List.length nm)) (.need (ltN v4 4294967296) (.need (ok8 a0 a1 a2 a3 a4 a5 a6 a7) (.ret (.agg [.s (.int .i64 ((Jp now (List.map B0 t) (List.map A6 l) kd (mkH kd nm v4 (n8 a0 a1 a2 a3 a4 a5 a6 a7)))).1),.s (.str (((Jp now (List.map B0 t) (List.map A6 l) kd (mkH kd nm v4 (n8 a0 a1 a2 a3 a4 a5 a6 a7)))).2).1),.s (.bool (((Jp now (List.map B0 t) (List.map A6 l) kd (mkH kd nm v4 (n8 a0 a1 a2 a3 a4 a5 a6 a7)))).2).2)]) [])))))))))
 | _=>.fail
def RC (args:List PV):Tr:=GP (C7 [[0],[3],[2],[0,0,0,0,0,0,0,0,0,0,0]] args)
def FO:List PV->Tr
 | [.s (.sl t_z t_t 3 t),.s (.int .i64 n)]=>.need (List.all t F1) (.need (ltI n (1001:Int)) (.ret (.s (.bool (Be n t))) []))
 | _=>.fail
def QQ (args:List PV):Tr:=FO (C7 [[3],[0]] args)
def FN:List PV->Tr
 | [.s (.sl l_z l_t 2 l),.s (.int .i64 n)]=>.need (List.all l D1) (.need (ltI n (1001:Int)) (.ret (.s (.bool (Be n l))) []))
 | _=>.fail
def QP (args:List PV):Tr:=FN (C7 [[2],[0]] args)
def Ll:List PV->Tr
 | []=>.ret (.s (.bool true)) []
 | _=>.fail
def Qm (args:List PV):Tr:=Ll (C7 [] args)
def GA:List PV->Tr
 | [.s (.sl t_z t_t 3 t),.s (.sl l_z l_t 2 l)]=>.need (List.all t F1) (.need (List.all t smE) (.need (A1 (List.length t)) (.need (List.all l D1) (.need (List.all l smE) (.need (A1 (List.length l)) (.need (N7 t_z t) (.need (N7 l_z l) (.split ((X8 (1000:Int) (List.map B0 t))==0) (.split ((Bl (List.map A6 l))==0) (.ret (.tup [.s (.sp [[.sl t_z t_z 3 t,.int .i64 (1000:Int)]] 0 0),.s (.sp [[.sl l_z l_z 2 (D6 (isE (List.map A6 l)))]] 0 0),.s (.bool true)]) []) (.ret (.tup [.s (.sp [[.sl t_z t_z 3 t,.int .i64 (1000:Int)]] 0 0),.s (.nilp),.s (.bool false)]) [])) (.split ((Bl (List.map A6 l))==0) (.ret (.tup [.s (.nilp),.s (.sp [[.sl l_z l_z 2 (D6 (isE (List.map A6 l)))]] 0 0),.s (.bool false)]) []) (.ret (.tup [.s (.nilp),.s (.nilp),.s (.bool false)]) []))))))))))
 | _=>.fail
def QW (args:List PV):Tr:=GA (C7 [[3],[2]] args)
end
section
variable {σ R : Type} (lf : Nat) (cl : D7) (yh : Yh σ) (s : σ) (k : Out -> St σ -> Option R)
noncomputable def SL (lf:Nat):Cfg:=B8 lf [143] (A4 []) [] (A4 [(1,[2]),(0,[0])]) [] (A4 []) (some [2]) [] [] []
noncomputable def Bj7 {R:Type} (lf:Nat) (x0:By) (k0:Bool->Option R):Option R:=k0 (not (x0==x0))
theorem Bj8 (d:Nat) (x0):evC (SL lf) (d+1) σ yh 143 [pS x0] [] s=Bj7 lf x0 (λr0=>some (pB r0,[],s)):=by
 refine (evE (fn:=Tryz.f143) (by kernel_rfl)).trans ?_
 generalize evC (SL lf) d=cl
 unfold Bj7;kernel_rfl
noncomputable def SK (lf:Nat):Cfg:=B8 lf [144] (A4 []) [] (A4 [(1,[2]),(0,[0])]) [] (A4 []) (some [2]) [] [] []
noncomputable def Bj5 {R:Type} (lf:Nat) (x0:Int) (k0:Bool->Option R):Option R:=k0 (x0 != x0)
theorem Bj6 (d:Nat) (x0):evC (SK lf) (d+1) σ yh 144 [pI x0] [] s=Bj5 lf x0 (λr0=>some (pB r0,[],s)):=by
 refine (evE (fn:=Tryz.f144) (by kernel_rfl)).trans ?_
 generalize evC (SK lf) d=cl
 unfold Bj5;kernel_rfl
noncomputable def Av9 (lf:Nat):Cfg:=B8 lf [98] (A4 []) [(143,As4)] (A4 [(13,[4]),(12,[4]),(11,[19]),(10,[4]),(9,[0,0,14]),(8,[4]),(7,[0,0,11]),(6,[4]),(5,[4]),(4,[12]),(3,[0,0,4,4]),(2,[0,0,3,0]),(1,[0,0,3]),(0,[0,0])]) [143] (A4 []) (some [4]) [] [] []
noncomputable def ccs {R:Type} (lf:Nat) (x0 y1:By) (k0:Int->Option R):Option R:=cond (bytesLess x0 y1) (k0 (-1)) (cond (not ((bytesLess x0 y1) || (x0==y1))) (k0 1) (k0 0))
theorem Bv8 (d:Nat) (x0 y1):evC (Av9 lf) (d+1) σ yh 98 [pS x0,pS y1] [] s=ccs lf x0 y1 (λr0=>some (pI r0,[],s)):=by
 refine (evE (fn:=Tryz.f98) (by kernel_rfl)).trans ?_
 generalize evC (Av9 lf) d=cl
 unfold ccs;kernel_rfl
noncomputable def Av8 (lf:Nat):Cfg:=B8 lf [99] (A4 []) [(144,As3)] (A4 [(13,[4]),(12,[4]),(11,[19]),(10,[4]),(9,[0,0,14]),(8,[4]),(7,[0,0,11]),(6,[4]),(5,[4]),(4,[12]),(3,[0,0,4,4]),(2,[0,0,3,0]),(1,[0,0,3]),(0,[0,0])]) [144] (A4 []) (some [4]) [] [] []
noncomputable def cci {R:Type} (lf:Nat) (x0 y1:Int) (k0:Int->Option R):Option R:=cond (ltI x0 y1) (k0 (-1)) (cond (ltI y1 x0) (k0 1) (k0 0))
theorem Bv7 (d:Nat) (x0 y1):evC (Av8 lf) (d+1) σ yh 99 [pI x0,pI y1] [] s=cci lf x0 y1 (λr0=>some (pI r0,[],s)):=by
 refine (evE (fn:=Tryz.f99) (by kernel_rfl)).trans ?_
 generalize evC (Av8 lf) d=cl
 unfold cci;kernel_rfl
noncomputable abbrev Av1:Code:=D3 Tryz.f63
noncomputable def Mg (lf:Nat):Cfg:=B8 lf [63] (A4 [(2,[0,0,2,0,0])]) [(97,Vb),(98,Bt3),(99,Bt2)] (A4 [(8,[4]),(7,[0,0]),(6,[0,0,3,0,22]),(5,[4]),(4,[0,0,3,0,0,14]),(3,[0,0,3,0,0]),(2,[0,0,3,0]),(1,[0,0]),(0,[0,0])]) [97,98,99] (A4 [(0,[5,0]),(1,[0,0])]) (some [4]) [] [] []
noncomputable def Kr {R:Type} (lf n:Nat) (a0 b1:By) (k0:Int->Option R) (k1:Int->Int->Option R):Option R:=match n with | 0=>none | n+1=>cond (A1 a0.length) (vl (G4 (u8n (46:Int)) a0) λn'2=>cond (A1 b1.length) (vl (G4 (u8n (46:Int)) b1) λn'3=>cond (P2 (A2 (n'2+1)) (a0.length:Int) a0.length) (vl (cut a0 (A2 (n'2+1)) (a0.length:Int)) λs'6=>cond (P2 (A2 (n'3+1)) (b1.length:Int) b1.length) (vl (cut b1 (A2 (n'3+1)) (b1.length:Int)) λs'7=>cond ((T9 s'6 s'7) != 0) (k0 (T9 s'6 s'7)) (cond (ltI n'2 0) (k1 n'2 n'3) (cond (ltI n'3 0) (k1 n'2 n'3) (cond (P2 0 n'2 a0.length) (cond (P2 0 n'3 b1.length) (Kr lf n (cut a0 0 n'2) (cut b1 0 n'3) k0 k1) none) none)))) none) none) none) none
theorem WD (n a0 b1):E6 0 ((Mg lf).keep 2) (bd (Mg lf) cl yh (cd [1,0,1,1,0,0,0] Av1)) n ⟨gp [(0,pS a0),(0,pS b1)] 39,[],s⟩ k =
 Kr lf n a0 b1 (λn0=>k .ret ⟨gp [(4,pI n0)] 36,[],s⟩) (λi0 kk1=>k (.exit 0) ⟨gp [(5,pI i0),(0,pI kk1)] 34,[],s⟩):=by
 induction n generalizing a0 b1 with
 | zero=>rfl
 | succ n ih=>rw [Kr];simp only [<-ih];kernel_rfl
noncomputable def Bk6 {R:Type} (lf:Nat) (a0 b1:By) (k0:Int->Option R):Option R:=Kr lf lf a0 b1 (λn'8=>k0 n'8) (λi'9 kk'10=>vl (IZ (if ((0:Int)<i'9) then (0:Int) else i'9) (if ((0:Int)<kk'10) then (0:Int) else kk'10)) λn'11=>k0 n'11)
theorem Bk7 (d:Nat) (a0 b1):evC (Mg lf) (d+1) σ yh 63 [pS a0,pS b1] [] s=Bk6 lf a0 b1 (λr0=>some (pI r0,[],s)):=by
 refine (evE (fn:=Tryz.f63) (by kernel_rfl)).trans ?_
 generalize evC (Mg lf) d=cl
 unfold Bk6;exact (Eq.trans (by kernel_rfl) ((WD lf cl yh s (G8 0 (I4 (Mg lf) cl yh (cd [1,0,1,1,1] Av1) (H4 (Mg lf) Tryz.f63))) lf a0 b1).trans (by kernel_rfl)))
noncomputable def SN (lf:Nat):Cfg:=B8 lf [45] (A4 []) [(59,BH)] (A4 [(1,[2]),(0,[1])]) [59] (A4 []) (some [2]) [] [] []
noncomputable def Bl6 {R:Type} (lf:Nat) (p0:By) (p1:Bool) (p2:Int) (k0:Bool->By->Bool->Int->Option R):Option R:=cond (A1 p0.length) (cond (C5 p0) (cond (not (ltI p2 0)) (k0 (not (ltI 1099511627776 p2)) p0 p1 p2) (k0 false p0 p1 p2)) (k0 false p0 p1 p2)) none
theorem Bl7 (d:Nat) (p0 p1 p2):evC (SN lf) (d+1) σ yh 45 [.agg [pS p0,pB p1,pI p2]] [] s=Bl6 lf p0 p1 p2 (λr0 s1 b2 n3=>some (pB r0,[.box [pS s1,pB b2,pI n3]],s)):=by
 refine (evE (fn:=Tryz.f45) (by kernel_rfl)).trans ?_
 generalize evC (SN lf) d=cl
 unfold Bl6;kernel_rfl
noncomputable def SW (lf:Nat):Cfg:=B8 lf [75] (A4 []) [] (A4 [(1,[4]),(0,[0,0])]) [] (A4 []) (some [4]) [] [] []
noncomputable def By5 {R:Type} (lf:Nat) (expiry0 now1:Int) (k0:Bool->Option R):Option R:=k0 (not (ltI now1 expiry0))
theorem Bp2 (d:Nat) (expiry0 now1):evC (SW lf) (d+1) σ yh 75 [pI expiry0,pI now1] [] s=By5 lf expiry0 now1 (λr0=>some (pB r0,[],s)):=by
 refine (evE (fn:=Tryz.f75) (by kernel_rfl)).trans ?_
 generalize evC (SW lf) d=cl
 unfold By5;kernel_rfl
noncomputable def SG (lf:Nat):Cfg:=B8 lf [58] (A4 []) [(59,BH)] (A4 [(1,[2]),(0,[1])]) [59] (A4 []) (some [2]) [] [] []
noncomputable def Bi5 {R:Type} (lf:Nat) (x0:By) (x1:Bool) (k0:Bool->By->Bool->Option R):Option R:=cond (A1 x0.length) (k0 (not (C5 x0)) x0 x1) none
theorem Bi6 (d:Nat) (x0 x1):evC (SG lf) (d+1) σ yh 58 [.agg [pS x0,pB x1]] [] s=Bi5 lf x0 x1 (λr0 s1 b2=>some (pB r0,[.box [pS s1,pB b2]],s)):=by
 refine (evE (fn:=Tryz.f58) (by kernel_rfl)).trans ?_
 generalize evC (SG lf) d=cl
 unfold Bi5;kernel_rfl
noncomputable def Aw0 (lf:Nat):Cfg:=B8 lf [66] (A4 []) [(63,Qt)] (A4 [(1,[4]),(0,[1,0])]) [63] (A4 []) (some [4]) [] [] []
noncomputable def lgf {R:Type} (lf:Nat) (x0:By) (x1:Bool) (name2:By) (k0:Int->By->Bool->Option R):Option R:=cond (A1 x0.length) (cond (A1 name2.length) (k0 (M4 x0 name2) x0 x1) none) none
theorem Bx5 (d:Nat) (x0 x1 name2):evC (Aw0 lf) (d+1) σ yh 66 [.agg [pS x0,pB x1],pS name2] [] s=lgf lf x0 x1 name2 (λr0 s1 b2=>some (pI r0,[.box [pS s1,pB b2]],s)):=by
 refine (evE (fn:=Tryz.f66) (by kernel_rfl)).trans ?_
 generalize evC (Aw0 lf) d=cl
 unfold lgf;kernel_rfl
noncomputable def Aw2 (lf:Nat):Cfg:=B8 lf [78] (A4 []) [(63,Qt)] (A4 [(1,[4]),(0,[1,0])]) [63] (A4 []) (some [4]) [] [] []
noncomputable def tff {R:Type} (lf:Nat) (p0:By) (p1:Bool) (p2:Int) (host3:By) (k0:Int->By->Bool->Int->Option R):Option R:=cond (A1 p0.length) (cond (A1 host3.length) (k0 (M4 p0 host3) p0 p1 p2) none) none
theorem By9 (d:Nat) (p0 p1 p2 host3):evC (Aw2 lf) (d+1) σ yh 78 [.agg [pS p0,pB p1,pI p2],pS host3] [] s=tff lf p0 p1 p2 host3 (λr0 s1 b2 n3=>some (pI r0,[.box [pS s1,pB b2,pI n3]],s)):=by
 refine (evE (fn:=Tryz.f78) (by kernel_rfl)).trans ?_
 generalize evC (Aw2 lf) d=cl
 unfold tff;kernel_rfl
noncomputable abbrev Au8:Code:=D3 Tryz.f92
noncomputable def Mc (lf:Nat):Cfg:=B8 lf [92] (A4 [(2,[0,0,2,2,0])]) [(58,As2)] (A4 [(7,[4]),(6,[0,0,5,0]),(5,[4]),(4,[0,0,3,1,0,7]),(3,[0,0,3,1,0]),(2,[0,0,5,0,0]),(1,[0,0,5,0]),(0,[0,0])]) [58] (A4 [(0,[]),(1,[0,0,5,0])]) (some [4]) [] [] []
noncomputable def Hh {R:Type} (lf n:Nat) (s_z0 s_t1:Bool) (s2:LL) (n3 n4:Int) (k0:Int->Option R) (k1:Unit->Option R):Option R:=match n with | 0=>none | n+1=>cond (ltI n4 n3) (cond (inR n4 s2.length) (cond (okE ⟨true,true,[.str,.bool]⟩ s2 (Int.toNat n4) 0) (cond (A1 (List.length (gX s2 (Int.toNat n4) 0))) (cond (not (C5 (gX s2 (Int.toNat n4) 0))) (k0 n4) (Hh lf n s_z0 s_t1 s2 n3 (A2 (n4+1)) k0 k1)) none) none) none) (k1 ())
theorem VF (n s_z0 s_t1 s2 n3 n4):E6 0 ((Mc lf).keep 2) (bd (Mc lf) cl yh (cd [1,0,1,0,0] Au8)) n ⟨gp [(0,.s (.sl s_z0 s_t1 2 s2)),(0,.s (.fn (Fn.func 58) [] [])),(5,pI n3),(0,pI n4)] 10,[],s⟩ k =
 Hh lf n s_z0 s_t1 s2 n3 n4 (λn0=>k .ret ⟨gp [(4,pI n0)] 14,[],s⟩) (λ_=>k (.exit 0) ⟨gp [] 19,[],s⟩):=by
 induction n generalizing s_z0 s_t1 s2 n3 n4 with
 | zero=>rfl
 | succ n ih=>rw [Hh];simp only [<-ih];kernel_rfl
noncomputable def Bi3 {R:Type} (lf:Nat) (l_z l_t:Bool) (l:LL) (k0:Int->Option R):Option R:=Hh lf lf l_z l_t l (l.length:Int) 0 (λn'0=>k0 n'0) (λ_=>k0 (-1))
theorem Bi4 (d:Nat) (l_z l_t l):evC (Mc lf) (d+1) σ yh 92 [.s (.sl l_z l_t 2 l),.s (.fn (Fn.func 58) [] [])] [] s=Bi3 lf l_z l_t l (λr0=>some (pI r0,[],s)):=by
 refine (evE (fn:=Tryz.f92) (by kernel_rfl)).trans ?_
 generalize evC (Mc lf) d=cl
 unfold Bi3;exact (Eq.trans (by kernel_rfl) ((VF lf cl yh s (G8 0 (I4 (Mc lf) cl yh (cd [1,1] Au8) (H4 (Mc lf) Tryz.f92))) lf l_z l_t l (l.length:Int) 0).trans (by kernel_rfl)))
noncomputable def SE (lf:Nat):Cfg:=B8 lf [57] (A4 []) [(92,As1)] (A4 [(1,[4]),(0,[0,0])]) [92] (A4 []) (some [4]) [] [] []
noncomputable def Bi0 {R:Type} (lf:Nat) (l_z l_t:Bool) (l:LL) (k0:Bool->Option R):Option R:=cond (List.all l D1) (cond (List.all l smE) (cond (A1 l.length) (k0 (not (ltI (ixE (List.map A6 l)) (0:Int)))) none) none) none
theorem Bi1 (d:Nat) (l_z l_t l):evC (SE lf) (d+1) σ yh 57 [.s (.sl l_z l_t 2 l),.s (.fn (Fn.func 58) [] [])] [] s=Bi0 lf l_z l_t l (λr0=>some (pB r0,[],s)):=by
 refine (evE (fn:=Tryz.f57) (by kernel_rfl)).trans ?_
 generalize evC (SE lf) d=cl
 unfold Bi0;kernel_rfl
noncomputable def SD (lf:Nat):Cfg:=B8 lf [60] (A4 []) [] (A4 [(3,[2]),(2,[2]),(1,[0,3]),(0,[0])]) [] (A4 []) (some [2]) [] [] []
noncomputable def Bh7 {R:Type} (lf:Nat) (l_z l_t:Bool) (l:LL) (k0:Bool->LL->Option R):Option R:=cond l_z (k0 true []) (cond (G0 (0+l.length)) (k0 false l) none)
theorem Bh8 (d:Nat) (l_z l_t l):evC (SD lf) (d+1) σ yh 60 [.s (.sl l_z l_t 2 l)] [] s=Bh7 lf l_z l_t l (λz0 l1=>some (.fl 0,[.arr z0 63 2 l1],s)):=by
 refine (evE (fn:=Tryz.f60) (by kernel_rfl)).trans ?_
 generalize evC (SD lf) d=cl
 unfold Bh7;kernel_rfl
noncomputable def SY (lf:Nat):Cfg:=B8 lf [74] (A4 []) [] (A4 [(3,[2]),(2,[2]),(1,[0,3]),(0,[0])]) [] (A4 []) (some [2]) [] [] []
noncomputable def Bq0 {R:Type} (lf:Nat) (l_z l_t:Bool) (l:LL) (k0:Bool->LL->Option R):Option R:=cond l_z (k0 true []) (cond (G0 (0+l.length)) (k0 false l) none)
theorem Bq1 (d:Nat) (l_z l_t l):evC (SY lf) (d+1) σ yh 74 [.s (.sl l_z l_t 3 l)] [] s=Bq0 lf l_z l_t l (λz0 l1=>some (.fl 0,[.arr z0 48 3 l1],s)):=by
 refine (evE (fn:=Tryz.f74) (by kernel_rfl)).trans ?_
 generalize evC (SY lf) d=cl
 unfold Bq0;kernel_rfl
noncomputable abbrev Au7:Code:=D3 Tryz.f65
noncomputable def Mb (lf:Nat):Cfg:=B8 lf [65] (A4 [(3,[0,0,0,3,0,0,0,0])]) [(66,Bt5)] (A4 [(8,[6,0]),(6,[0,0,0,5,0,0]),(7,[0,0,0,5,0,0]),(5,[0,0,0,5,0,0,0,19]),(4,[0,0,0,5,0,0,0]),(3,[0,0,0,5,0,0,6]),(2,[0,0,0,5,0,0]),(1,[0,0,0,5]),(0,[0,0,0])]) [66] (A4 [(0,[0,0,0,5,0]),(1,[0,0,0,5,0,0])]) (some [6,0]) [] [] []
noncomputable def Eh {R:Type} (lf n:Nat) (x_z0 x_t1:Bool) (x2:LL) (target3:By) (n4 i5 j6:Int) (k0:Bool->Bool->LL->By->Int->Int->Option R):Option R:=match n with | 0=>none | n+1=>cond (ltI i5 j6) (vl (Ao5 .u64 (Aq0 (A2 (i5+j6))) (1:Int)) λn'1=>cond (inR (A2 n'1) x2.length) (cond (okE ⟨true,true,[.str,.bool]⟩ x2 (Int.toNat (A2 n'1)) 0) (vl (gX x2 (Int.toNat (A2 n'1)) 0) λs'2=>cond (A1 s'2.length) (cond (A1 target3.length) (cond (ltI (M4 s'2 target3) (0:Int)) (vl (A2 ((A2 n'1)+1)) λn'3=>Eh lf n x_z0 x_t1 x2 target3 n4 n'3 j6 k0) (Eh lf n x_z0 x_t1 x2 target3 n4 i5 (A2 n'1) k0)) none) none) none) none) (k0 x_z0 x_t1 x2 target3 n4 i5)
theorem UY (n x_z0 x_t1 x2 target3 n4 i5 j6):E6 0 ((Mb lf).keep 3) (bd (Mb lf) cl yh (cd [1,1,1,0,0,0] Au7)) n ⟨gp [(0,.s (.sl x_z0 x_t1 2 x2)),(0,pS target3),(0,.s (.fn (Fn.func 66) [] [])),(5,pI n4),(0,pI i5),(0,pI j6)] 38,[],s⟩ k =
 Eh lf n x_z0 x_t1 x2 target3 n4 i5 j6 (λx_z0 x_t1 x2 target3 n4 i5=>k (.exit 0) ⟨gp [(0,.s (.sl x_z0 x_t1 2 x2)),(0,pS target3),(0,.s (.fn (Fn.func 66) [] [])),(5,pI n4),(0,pI i5)] 39,[],s⟩):=by
 induction n generalizing x_z0 x_t1 x2 target3 n4 i5 j6 with
 | zero=>rfl
 | succ n ih=>rw [Eh];simp only [<-ih];kernel_rfl
noncomputable def Bh5 {R:Type} (lf:Nat) (l_z l_t:Bool) (l:LL) (q:By) (k0:Int->Bool->Option R):Option R:=Eh lf lf l_z l_t l q (l.length:Int) 0 (l.length:Int) (λx_z'4 x_t'5 x'6 target'7 n'8 i'9=>cond (ltI i'9 n'8) (cond (inR i'9 x'6.length) (cond (okE ⟨true,true,[.str,.bool]⟩ x'6 (Int.toNat i'9) 0) (vl (gX x'6 (Int.toNat i'9) 0) λs'10=>cond (A1 s'10.length) (cond (A1 target'7.length) (k0 i'9 ((M4 s'10 target'7)==0)) none) none) none) none) (k0 i'9 false))
theorem Bh6 (d:Nat) (l_z l_t l q):evC (Mb lf) (d+1) σ yh 65 [.s (.sl l_z l_t 2 l),pS q,.s (.fn (Fn.func 66) [] [])] [] s=Bh5 lf l_z l_t l q (λr0 r1=>some (.tup [pI r0,pB r1],[],s)):=by
 refine (evE (fn:=Tryz.f65) (by kernel_rfl)).trans ?_
 generalize evC (Mb lf) d=cl
 unfold Bh5;exact (Eq.trans (by kernel_rfl) ((UY lf cl yh s (G8 0 (I4 (Mb lf) cl yh (cd [1,1,1,1] Au7) (H4 (Mb lf) Tryz.f65))) lf l_z l_t l q (l.length:Int) 0 (l.length:Int)).trans (by kernel_rfl)))
noncomputable abbrev Av4:Code:=D3 Tryz.f77
noncomputable def Ml (lf:Nat):Cfg:=B8 lf [77] (A4 [(3,[0,0,0,3,0,0,0,0])]) [(78,Bt7)] (A4 [(8,[6,0]),(6,[0,0,0,5,0,0]),(7,[0,0,0,5,0,0]),(5,[0,0,0,5,0,0,0,19]),(4,[0,0,0,5,0,0,0]),(3,[0,0,0,5,0,0,6]),(2,[0,0,0,5,0,0]),(1,[0,0,0,5]),(0,[0,0,0])]) [78] (A4 [(0,[0,0,0,5,0]),(1,[0,0,0,5,0,0])]) (some [6,0]) [] [] []
noncomputable def Eu {R:Type} (lf n:Nat) (x_z0 x_t1:Bool) (x2:LL) (target3:By) (n4 i5 j6:Int) (k0:Bool->Bool->LL->By->Int->Int->Option R):Option R:=match n with | 0=>none | n+1=>cond (ltI i5 j6) (vl (Ao5 .u64 (Aq0 (A2 (i5+j6))) (1:Int)) λn'1=>cond (inR (A2 n'1) x2.length) (cond (okE ⟨true,true,[.str,.bool,.int .i64]⟩ x2 (Int.toNat (A2 n'1)) 0) (vl (gX x2 (Int.toNat (A2 n'1)) 0) λs'2=>vl (gE x2 (Int.toNat (A2 n'1)) 2) λn'3=>cond (A1 s'2.length) (cond (A1 target3.length) (cond (ltI (M4 s'2 target3) (0:Int)) (vl (A2 ((A2 n'1)+1)) λn'4=>Eu lf n x_z0 x_t1 x2 target3 n4 n'4 j6 k0) (Eu lf n x_z0 x_t1 x2 target3 n4 i5 (A2 n'1) k0)) none) none) none) none) (k0 x_z0 x_t1 x2 target3 n4 i5)
theorem YZ (n x_z0 x_t1 x2 target3 n4 i5 j6):E6 0 ((Ml lf).keep 3) (bd (Ml lf) cl yh (cd [1,1,1,0,0,0] Av4)) n ⟨gp [(0,.s (.sl x_z0 x_t1 3 x2)),(0,pS target3),(0,.s (.fn (Fn.func 78) [] [])),(5,pI n4),(0,pI i5),(0,pI j6)] 38,[],s⟩ k =
 Eu lf n x_z0 x_t1 x2 target3 n4 i5 j6 (λx_z0 x_t1 x2 target3 n4 i5=>k (.exit 0) ⟨gp [(0,.s (.sl x_z0 x_t1 3 x2)),(0,pS target3),(0,.s (.fn (Fn.func 78) [] [])),(5,pI n4),(0,pI i5)] 39,[],s⟩):=by
 induction n generalizing x_z0 x_t1 x2 target3 n4 i5 j6 with
 | zero=>rfl
 | succ n ih=>rw [Eu];simp only [<-ih];kernel_rfl
noncomputable def Bp8 {R:Type} (lf:Nat) (l_z l_t:Bool) (l:LL) (q:By) (k0:Int->Bool->Option R):Option R:=Eu lf lf l_z l_t l q (l.length:Int) 0 (l.length:Int) (λx_z'5 x_t'6 x'7 target'8 n'9 i'10=>cond (ltI i'10 n'9) (cond (inR i'10 x'7.length) (cond (okE ⟨true,true,[.str,.bool,.int .i64]⟩ x'7 (Int.toNat i'10) 0) (vl (gX x'7 (Int.toNat i'10) 0) λs'11=>vl (gE x'7 (Int.toNat i'10) 2) λn'12=>cond (A1 s'11.length) (cond (A1 target'8.length) (k0 i'10 ((M4 s'11 target'8)==0)) none) none) none) none) (k0 i'10 false))
theorem Bp9 (d:Nat) (l_z l_t l q):evC (Ml lf) (d+1) σ yh 77 [.s (.sl l_z l_t 3 l),pS q,.s (.fn (Fn.func 78) [] [])] [] s=Bp8 lf l_z l_t l q (λr0 r1=>some (.tup [pI r0,pB r1],[],s)):=by
 refine (evE (fn:=Tryz.f77) (by kernel_rfl)).trans ?_
 generalize evC (Ml lf) d=cl
 unfold Bp8;exact (Eq.trans (by kernel_rfl) ((YZ lf cl yh s (G8 0 (I4 (Ml lf) cl yh (cd [1,1,1,1] Av4) (H4 (Ml lf) Tryz.f77))) lf l_z l_t l q (l.length:Int) 0 (l.length:Int)).trans (by kernel_rfl)))
end
section
variable {σ R : Type} (lf : Nat) (cl : D7) (yh : Yh σ) (s : σ) (k : Out -> St σ -> Option R)
noncomputable def SO (lf:Nat):Cfg:=B8 lf [194] (A4 []) [] (A4 [(2,[2]),(1,[1,1]),(0,[1])]) [] (A4 []) (some [2]) [] [] []
noncomputable def By2 {R:Type} (lf:Nat) (b:Int) (k0:Int->Option R):Option R:=k0 b
theorem Bl9 (d:Nat) (b):evC (SO lf) (d+1) σ yh 194 [pI b] [] s=By2 lf b (λn0=>some (.fnr (Fn.func 201) [] [.ptr 1 0 0,.ptr 0 0 0],[.box [pI n0],.box [pI (0:Int)]],s)):=by
 refine (evE (fn:=Tryz.f194) (by kernel_rfl)).trans ?_
 generalize evC (SO lf) d=cl
 unfold By2;kernel_rfl
noncomputable def IO (lf:Nat):Cfg:=B8 lf [201] (A4 []) [] (A4 [(2,[2]),(1,[0,0]),(0,[0,0])]) [] (A4 []) (some [2]) [] [] []
noncomputable def Ad8 {R:Type} (lf:Nat) (k b:Int) (k0:Int->Int->Int->Option R):Option R:=vl (A2 ((A2 (k+36))-b)) λn'0=>vl (if ((26:Int)<(if ((1:Int) > n'0) then (1:Int) else n'0)) then (26:Int) else (if ((1:Int) > n'0) then (1:Int) else n'0)) λn'1=>k0 n'1 (A2 (k+36)) b
theorem A39 (d:Nat) (k b):evC (IO lf) (d+1) σ yh 201 [.ptr 0 0 0,.ptr 1 0 0] [.box [pI k],.box [pI b]] s=Ad8 lf k b (λr0 n1 n2=>some (pI r0,[.box [pI n1],.box [pI n2]],s)):=by
 refine (evE (fn:=Tryz.f201) (by kernel_rfl)).trans ?_
 generalize evC (IO lf) d=cl
 unfold Ad8;kernel_rfl
noncomputable abbrev Bv2:Code:=D3 Tryz.f185
noncomputable def Rv (lf:Nat):Cfg:=B8 lf [185] (A4 [(2,[0,0,4,0])]) [(194,Wq),(195,QZ)] (A4 [(6,[0,0,5]),(5,[0,0,5,0]),(4,[6]),(3,[0,0,5,0,6]),(2,[0,0,5,0]),(1,[0,0,5]),(0,[0,0,0])]) [195] (A4 [(0,[6]),(1,[0,0,5])]) (some [6]) [(201,Kb)] [] [201]
noncomputable def Ek {R:Type} (lf n:Nat) (q0:Int) (z1:Bool) (l2:LL) (n3 n4:Int) (k0:Bool->LL->Int->Int->Option R):Option R:=match n with | 0=>none | n+1=>cond (ltN n4 1000000000000) (cond (ltN n3 1000000) (cond (ltI q0 (I5 n4 n3)) (cond (ltN q0 36) (vl (↑(UInt8.toNat (U0 (Int.toNat q0))):Int) λn'1=>cond (G0 (l2.length+1)) (k0 z1 (l2++[[(SV.int .u8 n'1)]]) n3 (Int.add n4 (36:Int))) none) none) (vl (A2 (q0-(I5 n4 n3))) λn'2=>vl (A2 ((36:Int)-(I5 n4 n3))) λn'3=>cond (n'3 != 0) (vl (A2 ((I5 n4 n3)+(Int.tmod n'2 n'3))) λn'4=>cond (ltN n'4 36) (vl (↑(UInt8.toNat (U0 (Int.toNat n'4))):Int) λn'5=>cond (G0 (l2.length+1)) (vl (A2 (q0-(I5 n4 n3))) λn'6=>vl (A2 ((36:Int)-(I5 n4 n3))) λn'7=>cond (n'7 != 0) (vl (A2 (Int.tdiv n'6 n'7)) λn'8=>Ek lf n n'8 z1 (l2++[[(SV.int .u8 n'5)]]) n3 (Int.add n4 (36:Int)) k0) none) none) none) none)) none) none
theorem WB (n q0 z1 l2 n3 n4):E6 3 ((Rv lf).keep 2) (bd (Rv lf) cl yh (cd [1,1,0,0] Bv2)) n ⟨gp [(0,.fl 0),(0,pI q0),(5,.fnr (Fn.func 201) [] [.ptr 2 0 0,.ptr 1 0 0])] 31,[.arr z1 5 1 l2,.box [pI n3],.box [pI n4]],s⟩ k =
 Ek lf n q0 z1 l2 n3 n4 (λz0 l1 n2 n3=>k .ret ⟨gp [(6,.fl 0)] 32,[.arr z0 5 1 l1,.box [pI n2],.box [pI n3]],s⟩):=by
 induction n generalizing q0 z1 l2 n3 n4 with
 | zero=>rfl
 | succ n ih=>rw [Ek];simp only [<-ih];kernel_rfl
noncomputable def Bx9 {R:Type} (lf:Nat) (q b:Int) (z:Bool) (l:LL) (k0:Bool->LL->Int->Int->Option R):Option R:=Ek lf lf q z l b 0 (λz'9 l'10 n'11 n'12=>k0 z'9 l'10 n'11 n'12)
theorem Bk5 (d:Nat) (q b z l):evC (Rv lf) (d+1) σ yh 185 [.fl 0,pI q,pI b] [.arr z 5 1 l] s=Bx9 lf q b z l (λz0 l1 n2 n3=>some (.fl 0,[.arr z0 5 1 l1,.box [pI n2],.box [pI n3]],s)):=by
 refine (evE (fn:=Tryz.f185) (by kernel_rfl)).trans ?_
 generalize evC (Rv lf) d=cl
 unfold Bx9;exact (Eq.trans (by kernel_rfl) ((WB lf cl yh s (G8 0 (H4 (Rv lf) Tryz.f185)) lf q z l b 0).trans (by kernel_rfl)))
noncomputable abbrev Bb:Code:=D3 Tryz.f161
noncomputable def M3 (lf:Nat):Cfg:=B8 lf [161] (A4 [(29,[0,1,0,0,2,0,0,0,0,61,0,0]),(21,[0,1,0,0,2,0,0,0,0,0,38,0,0]),(17,[0,1,0,0,2,0,0,0,0]),(5,[0,1,0,0,15,0,0])]) [(184,Ik),(186,Ij)] (A4 [(40,[2,0]),(18,[0,3,2,0,0,0,0]),(39,[0,3,2,0,0,0,0]),(38,[0,3,2,0,0,0,0,61,0,0]),(32,[0,3,2,0,0,0,0,61,0,0]),(37,[0,3,2,0,0,0,0,61,0,0]),(36,[0,3,2,0,0,0,0,61,0,0]),(35,[0,3,2,0,1,0,61,0,0]),(34,[0,3,2,0,0,1,61,0,0]),(33,[0,3,2,0,0,0,0,61,0,0,9]),(31,[0,3,2,0,0,0,0,4,56,0,0,3]),(30,[0,3,2,0,0,0,0,4,56,0,0]),(29,[0,3,2,0,0,0,0,61,0,0,0]),(28,[0,3,2,0,0,0,0,61,0,0]),(27,[0,3,2,0,0,0,0]),(26,[0,3,2,1,0,0,0]),(25,[0,3,2,0,0,0,0,0,38,0,0]),(24,[0,3,2,0,0,0,0,0,38,0,0]),(23,[0,3,2,0,0,0,0,0,1,36,0,0,5]),(22,[0,3,2,0,0,0,0,0,1,36,0,0]),(21,[0,3,2,0,0,0,0,0,38,0,0,0]),(20,[0,3,2,0,0,0,0,0,38,0,0]),(19,[0,3,2,0,0,0,0,0]),(17,[0,3,2,0,0,0,0,36]),(16,[0,3,2,0,0,0,0]),(15,[0,3,2,0,0,0]),(14,[0,3,2]),(13,[0,3,2,32]),(12,[0,3,2]),(11,[0,3,15,0,0]),(10,[0,3,15,0,0]),(9,[0,3,1,13,0,0,7]),(8,[2,0]),(7,[0,3,1,13,0,0,5]),(6,[0,3,1,13,0,0]),(5,[0,3,15,0,0,0]),(4,[0,3,15,0,0]),(3,[0,3]),(2,[2,0]),(1,[0,18]),(0,[0])]) [184,186] (A4 [(2,[4]),(3,[0,3,2,0,0,0,0]),(6,[0,3,2,0,0,0,0]),(7,[0,3,2,0,0,0,0,61,0,0]),(8,[0,3,2,0,0,0,0,61,0,0]),(4,[0,3,2,0,0,0,0,0]),(5,[0,3,2,0,0,0,0,0,38,0,0]),(0,[0,3]),(1,[0,3,15,0,0])]) (some [2,0]) [(185,GE)] [] [185]
noncomputable def O8 {R:Type} (lf n:Nat) (points_z0 points_t1:Bool) (points2:LL) (n3 n4:Int) (l5:LL) (k0:LL->Option R) (k1:Bool->Bool->LL->LL->Option R):Option R:=match n with | 0=>none | n+1=>cond (ltI n4 n3) (cond (inR n4 points2.length) (cond (okE Gk points2 (Int.toNat n4) 0) (vl (gE points2 (Int.toNat n4) 0) λn'1=>cond (not (ptI n'1)) (k0 l5) (cond (ltI n'1 128) (cond (G0 (l5.length+1)) (O8 lf n points_z0 points_t1 points2 n3 (A2 (n4+1)) (l5++[[(SV.int .u8 (wu8 n'1))]]) k0 k1) none) (O8 lf n points_z0 points_t1 points2 n3 (A2 (n4+1)) l5 k0 k1))) none) none) (k1 points_z0 points_t1 points2 l5)
theorem WK (n points_z0 points_t1 points2 n3 n4 l5):E6 1 ((M3 lf).keep 5) (bd (M3 lf) cl yh (cd [1,1,1,0,1,0,0] Bb)) n ⟨gp [(0,.s (.sl points_z0 points_t1 1 points2)),(3,.fl 0),(15,.s (.sl points_z0 points_t1 1 points2)),(0,pI n3),(0,pI n4)] 84,[.arr true 5 1 l5],s⟩ k =
 O8 lf n points_z0 points_t1 points2 n3 n4 l5 (λl0=>k .ret ⟨gp [(2,pS ([]:List UInt8)),(0,pI (2:Int))] 103,[.arr true 5 1 l0],s⟩) (λpoints_z0 points_t1 points2 l3=>k (.exit 0) ⟨gp [(0,.s (.sl points_z0 points_t1 1 points2)),(3,.fl 0)] 102,[.arr true 5 1 l3],s⟩):=by
 induction n generalizing points_z0 points_t1 points2 n3 n4 l5 with
 | zero=>rfl
 | succ n ih=>rw [O8];simp only [<-ih];kernel_rfl
noncomputable def Em {R:Type} (lf n:Nat) (points_z0 points_t1:Bool) (points2:LL) (basic3 n4 delta5 bias6 done7 m8 n9 n10:Int) (l11:LL) (k0:Bool->Bool->LL->Int->Int->Int->Int->Int->Int->LL->Option R):Option R:=match n with | 0=>none | n+1=>cond (ltI n10 n9) (cond (inR n10 points2.length) (cond (okE Gk points2 (Int.toNat n10) 0) (vl (gE points2 (Int.toNat n10) 0) λn'9=>cond (not (ltI n'9 n4)) (vl (if (n'9<m8) then n'9 else m8) λn'10=>Em lf n points_z0 points_t1 points2 basic3 n4 delta5 bias6 done7 n'10 n9 (A2 (n10+1)) l11 k0) (Em lf n points_z0 points_t1 points2 basic3 n4 delta5 bias6 done7 m8 n9 (A2 (n10+1)) l11 k0)) none) none) (k0 points_z0 points_t1 points2 basic3 n4 delta5 bias6 done7 m8 l11)
theorem WL (n points_z0 points_t1 points2 basic3 n4 delta5 bias6 done7 m8 n9 n10 l11):E6 1 ((M3 lf).keep 21) (bd (M3 lf) cl yh (cd [1,1,1,1,1,1,1,0,1,0,0,1,0,0,1,0,1,0,0] Bb)) n ⟨gp [(0,.s (.sl points_z0 points_t1 1 points2)),(3,.fl 0),(2,pI basic3),(0,pI n4),(0,pI delta5),(0,pI bias6),(0,pI done7),(0,pI m8),(38,.s (.sl points_z0 points_t1 1 points2)),(0,pI n9),(0,pI n10)] 53,[.arr true 5 1 l11],s⟩ k =
 Em lf n points_z0 points_t1 points2 basic3 n4 delta5 bias6 done7 m8 n9 n10 l11 (λpoints_z0 points_t1 points2 basic3 n4 delta5 bias6 done7 m8 l9=>k (.exit 4) ⟨gp [(0,.s (.sl points_z0 points_t1 1 points2)),(3,.fl 0),(2,pI basic3),(0,pI n4),(0,pI delta5),(0,pI bias6),(0,pI done7),(0,pI m8)] 94,[.arr true 5 1 l9],s⟩):=by
 induction n generalizing points_z0 points_t1 points2 basic3 n4 delta5 bias6 done7 m8 n9 n10 l11 with
 | zero=>rfl
 | succ n ih=>rw [Em];simp only [<-ih];kernel_rfl
noncomputable def Y0 {R:Type} (lf n:Nat) (points_z0 points_t1:Bool) (points2:LL) (basic3 n4 delta5 bias6 done7 n8v n9:Int) (l10:LL) (k0:Bool->Bool->LL->Int->Int->Int->Int->Int->LL->Option R):Option R:=match n with | 0=>none | n+1=>cond (ltI n9 n8v) (cond (inR n9 points2.length) (cond (okE Gk points2 (Int.toNat n9) 0) (vl (gE points2 (Int.toNat n9) 0) λn'26=>cond (ltI n'26 n4) (vl (A2 (delta5+1)) λn'27=>Y0 lf n points_z0 points_t1 points2 basic3 n4 n'27 bias6 done7 n8v (A2 (n9+1)) l10 k0) (cond (n'26==n4) (cond (ltN delta5 1152921504606846976) (cond (ltN bias6 1000000) (cond (Nat.ble l10.length 100000) (vl (List.append l10 (List.map F7 (L4 (Int.toNat delta5) 0 (Int.toNat bias6)))) λl'29=>vl (A2 (done7+1)) λn'30=>cond (ltN delta5 1152921504606846976) (cond (ltN n'30 1000000) (cond (ltI 0 n'30) (vl (↑(M0 (Int.toNat delta5) (Int.toNat n'30) (done7==basic3)):Int) λn'31=>vl (A2 (done7+1)) λn'32=>Y0 lf n points_z0 points_t1 points2 basic3 n4 0 n'31 n'32 n8v (A2 (n9+1)) l'29 k0) none) none) none) none) none) none) (Y0 lf n points_z0 points_t1 points2 basic3 n4 delta5 bias6 done7 n8v (A2 (n9+1)) l10 k0))) none) none) (k0 points_z0 points_t1 points2 basic3 n4 delta5 bias6 done7 l10)
theorem WM (n points_z0 points_t1 points2 basic3 n4 delta5 bias6 done7 n8v n9 l10):E6 1 ((M3 lf).keep 29) (bd (M3 lf) cl yh (cd [1,1,1,1,1,1,1,0,1,0,0,1,0,0,1,1,1,1,0,1,0,0] Bb)) n ⟨gp [(0,.s (.sl points_z0 points_t1 1 points2)),(3,.fl 0),(2,pI basic3),(0,pI n4),(0,pI delta5),(0,pI bias6),(0,pI done7),(61,.s (.sl points_z0 points_t1 1 points2)),(0,pI n8v),(0,pI n9)] 31,[.arr true 5 1 l10],s⟩ k =
 Y0 lf n points_z0 points_t1 points2 basic3 n4 delta5 bias6 done7 n8v n9 l10 (λpoints_z0 points_t1 points2 basic3 n4 delta5 bias6 done7 l8=>k (.exit 6) ⟨gp [(0,.s (.sl points_z0 points_t1 1 points2)),(3,.fl 0),(2,pI basic3),(0,pI n4),(0,pI delta5),(0,pI bias6),(0,pI done7)] 95,[.arr true 5 1 l8],s⟩):=by
 induction n generalizing points_z0 points_t1 points2 basic3 n4 delta5 bias6 done7 n8v n9 l10 with
 | zero=>rfl
 | succ n ih=>rw [Y0];simp only [<-ih];kernel_rfl
noncomputable def Bm {R:Type} (lf n:Nat) (points_z0 points_t1:Bool) (points2:LL) (basic3 n4 delta5 bias6 done7:Int) (l8:LL) (k0:LL->Option R):Option R:=match n with | 0=>none | n+1=>cond (ltI done7 (points2.length:Int)) (Em lf lf points_z0 points_t1 points2 basic3 n4 delta5 bias6 done7 1114112 (points2.length:Int) 0 l8 (λpoints_z'11 points_t'12 points'13 basic'14 n'15 delta'16 bias'17 done'18 m'19 l'20=>vl (A2 (done'18+1)) λn'23=>vl (A2 ((A2 (m'19-n'15))*n'23)) λn'24=>Y0 lf lf points_z'11 points_t'12 points'13 basic'14 m'19 (A2 (delta'16+n'24)) bias'17 done'18 (points'13.length:Int) 0 l'20 (λpoints_z'33 points_t'34 points'35 basic'36 n'37 delta'38 bias'39 done'40 l'41=>vl (A2 (delta'38+1)) λn'42=>vl (A2 (n'37+1)) λn'43=>Bm lf n points_z'33 points_t'34 points'35 basic'36 n'43 n'42 bias'39 done'40 l'41 k0))) (k0 l8)
theorem Zm (n points_z0 points_t1 points2 basic3 n4 delta5 bias6 done7 l8):E6 1 ((M3 lf).keep 17) (bd (M3 lf) cl yh (cd [1,1,1,1,1,1,1,0,1,0,0] Bb)) n ⟨gp [(0,.s (.sl points_z0 points_t1 1 points2)),(3,.fl 0),(2,pI basic3),(0,pI n4),(0,pI delta5),(0,pI bias6),(0,pI done7)] 95,[.arr true 5 1 l8],s⟩ k =
 Bm lf n points_z0 points_t1 points2 basic3 n4 delta5 bias6 done7 l8 (λl0=>k (.exit 2) ⟨gp [(4,.fl 0)] 102,[.arr true 5 1 l0],s⟩):=by
 induction n generalizing points_z0 points_t1 points2 basic3 n4 delta5 bias6 done7 l8 with
 | zero=>rfl
 | succ n ih=>rw [Bm];exact (Eq.trans (by kernel_rfl) (A0 ((WL lf cl yh s (G8 4 (I4 (M3 lf) cl yh (cd [1,1,1,1,1,1,1,0,1,0,0,1,0,0,1,1] Bb) (G8 3 (I4 (M3 lf) cl yh (cd [1,1,1,1,1,1,1,0,1,0,0,1,1] Bb) (lpK 1 ((M3 lf).keep 17) (bd (M3 lf) cl yh (cd [1,1,1,1,1,1,1,0,1,0,0] Bb)) n k))))) lf points_z0 points_t1 points2 basic3 n4 delta5 bias6 done7 1114112 (points2.length:Int) 0 l8).trans (congr rfl (Bg3 λpoints_z'11 points_t'12 points'13 basic'14 n'15 delta'16 bias'17 done'18 m'19 l'20=>(Eq.trans (by kernel_rfl) (A8 λn'23=>(A8 λn'24=>((WM lf cl yh s (G8 6 (I4 (M3 lf) cl yh (cd [1,1,1,1,1,1,1,0,1,0,0,1,0,0,1,1,1,1,1] Bb) (G8 3 (I4 (M3 lf) cl yh (cd [1,1,1,1,1,1,1,0,1,0,0,1,1] Bb) (lpK 1 ((M3 lf).keep 17) (bd (M3 lf) cl yh (cd [1,1,1,1,1,1,1,0,1,0,0] Bb)) n k))))) lf points_z'11 points_t'12 points'13 basic'14 m'19 (A2 (delta'16+n'24)) bias'17 done'18 (points'13.length:Int) 0 l'20).trans (congr rfl (fx9 λpoints_z'33 points_t'34 points'35 basic'36 n'37 delta'38 bias'39 done'40 l'41=>(Eq.trans (by kernel_rfl) (A8 λn'42=>(A8 λn'43=>(ih points_z'33 points_t'34 points'35 basic'36 n'43 n'42 bias'39 done'40 l'41))))))))))))) rfl))
noncomputable def OG {R:Type} (lf:Nat) (p_z p_t:Bool) (p:LL) (k0:Unit->Option R) (k1:By->Int->LL->Option R):Option R:=cond (ltI 256 (p.length:Int)) (k0 ()) (O8 lf lf p_z p_t p (p.length:Int) 0 [] (λl'2=>k1 ([]:List UInt8) 2 l'2) (λpoints_z'3 points_t'4 points'5 l'6=>vl (l'6.length:Int) λn'8=>cond (ltI 0 n'8) (cond (G0 (l'6.length+1)) (Bm lf lf points_z'3 points_t'4 points'5 n'8 128 0 72 n'8 (l'6++[[(SV.int .u8 (45:Int))]]) (λl'44=>cond (List.all l'44 JM) (k1 (List.map AP l'44) 0 l'44) none)) none) (Bm lf lf points_z'3 points_t'4 points'5 n'8 128 0 72 n'8 l'6 (λl'45=>cond (List.all l'45 JM) (k1 (List.map AP l'45) 0 l'45) none))))
theorem Bl2 (d:Nat) (p_z p_t p):evC (M3 lf) (d+1) σ yh 161 [.s (.sl p_z p_t 1 p)] [] s=OG lf p_z p_t p (λ_=>some (.tup [pS ([]:List UInt8),pI (3:Int)],[],s)) (λr0 r1 l2=>some (.tup [pS r0,pI r1],[.arr true 5 1 l2],s)):=by
 refine (evE (fn:=Tryz.f161) (by kernel_rfl)).trans ?_
 generalize evC (M3 lf) d=cl
 unfold OG;exact let K0:=(G8 2 (I4 (M3 lf) cl yh (cd [1,1,1,1,1,1,1,1] Bb) (H4 (M3 lf) Tryz.f161)));(Eq.trans (by kernel_rfl) (A0 rfl ((WK lf cl yh s (G8 0 (I4 (M3 lf) cl yh (cd [1,1,1,1] Bb) (H4 (M3 lf) Tryz.f161))) lf p_z p_t p (p.length:Int) 0 []).trans (congr (congr rfl (by kernel_rfl)) (fx4 λpoints_z'3 points_t'4 points'5 l'6=>(Eq.trans (by kernel_rfl) (A8 λn'8=>(A0 (A0 ((Zm lf cl yh s K0 lf points_z'3 points_t'4 points'5 n'8 128 0 72 n'8 (l'6++[[(SV.int .u8 (45:Int))]])).trans (by kernel_rfl)) rfl) ((Zm lf cl yh s K0 lf points_z'3 points_t'4 points'5 n'8 128 0 72 n'8 l'6).trans (by kernel_rfl))))))))))
end
end
end Go.Proofs.YtelhbgonncceeaaGreatDoor.E
