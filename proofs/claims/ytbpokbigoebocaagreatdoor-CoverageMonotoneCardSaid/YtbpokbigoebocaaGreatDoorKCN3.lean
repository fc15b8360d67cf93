/-
  Parts of the proof, merged by a program of the prover's own; no condition.
-/
import Derived.Test.YtbpokbigoebocaaGreatDoorKCN2
import Derived.Deep.Draws
import Derived.JoinedCond
import Derived.KernelRfl
import Derived.LaidMore
import Derived.LaidSub
import Derived.Laws.RangeString
import Derived.Lay
import Derived.Lib.IndexMore
import Derived.Lib.ItoaNum
import Derived.Lib.Join
import Derived.Lib.LaidTab
import Derived.Lib.LaidU8
import Derived.Lib.LastIndexLaws
import Derived.Lib.RuneCount
import Derived.Lib.TrailingZeros
import Derived.Lib.ValidU
import Derived.OpenShut
import Derived.ProofKit
import Derived.RangeFuncLeaves
import Derived.RangeFuncNested
import Derived.RangeFuncRecord
import Derived.Shelf.LaysM
import Derived.Shelf.Small.Strs
import Derived.Shelf.Spec.SlicesInsert
import Derived.Shelf.Spec.SlicesInsertGrow
import Derived.Shelf.Spec.TrailingZeros
import Derived.Shelf.Strconv.Itoa3
import Derived.Shelf.Strings.Count
import Derived.Shelf.Strings.Cut
import Derived.Shelf.Strings.IndexAnyAll
import Derived.Shelf.Strings.LastIndex
import Derived.Shelf.Strings.OnBuilder
import Derived.Shelf.Strings.Search3
import Derived.Shelf.Unicode.ValidAny
import Derived.Shelf.Utf8.RuneCount
import Derived.Shelf.Vars
import Derived.Sort.Grow
import Derived.Test.YtbpokbigoebocaaGreatDoorChecked
import Derived.Test.YtbpokbigoebocaaGreatDoorProg
import Derived.Test.YtbpokbigoebocaaGreatDoorRows
import Derived.WalkKit
namespace Go.Proofs.YtbpokbigoebocaaGreatDoor.E
set_option linter.all false
section
open Go
def Ctx.cut (Γ:Ctx) (L:Nat):Ctx:={ Γ with St:=λg=>Γ.St g\/∃ b,L<=b/\Γ.nm b=some g,nm:=λb=>if b<L then Γ.nm b else none }
def mkD (D:Nat):Deferred:={ target:=.collected D,args:=#[] }
section
variable {σ R : Type} {r : R} {C : Cfg} {I : σ -> (Nat -> Prop) -> (Nat -> Prop) -> World -> Prop} {Γ Γ' : Ctx} {Φ Φ' : Nat -> Prop} {st : St σ} {a : Act} {w w' : World} {cl : D0} {yh : Yh σ} {yv : Value} {o : Oper} {H H' : List Blk} {tmps : Array Value}
def Off (Γ:Ctx) (Φ:Nat->Prop) (w:World) (g:Nat):Prop:=g<w.heap.size/\¬ Γ.St g/\(∀ b,Γ.nm b≠some g)/\¬ Φ g
theorem Off.step {g:Nat} (h:Off Γ Φ w g) (s:Stp C Γ H w Φ Γ' H' w' Φ'):Off Γ' Φ' w' g/\w'.heap[g]? = w.heap[g]?:=by
 obtain ⟨h1,h2,h3,h4⟩:=h
 refine ⟨⟨Nat.lt_of_lt_of_le h1 s.size,λq=>?_,λb q=>?_,λq=>?_⟩,s.frame g h1 h3 h4⟩
 ·rcases s.stnew g q with q | q
  ·exact h2 q
  ·omega
 ·rcases s.own b g q with ⟨_,q⟩ | q
  ·exact h3 b q
  ·omega
 ·rcases s.foot g q with q | q
  ·exact h4 q
  ·omega
def Mk (n0:Nat) (Γ:Ctx) (Φ:Nat->Prop) (w:World) (ds:List Deferred):Prop:=n0<=w.heap.size/\∃ Ds:List Nat,ds=Ds.map mkD/\Ds.Nodup/\∀ D∈Ds,n0<=D/\Off Γ Φ w D/\w.heap[D]? = some (.deferred (some []))
theorem Mk.nil {n0:Nat} (h:n0<=w.heap.size):Mk n0 Γ Φ w []:=⟨h,[],rfl,List.nodup_nil,by simp⟩
theorem Mk.step {n0:Nat} {ds:List Deferred} (h:Mk n0 Γ Φ w ds) (s:Stp C Γ H w Φ Γ' H' w' Φ'):Mk n0 Γ' Φ' w' ds:=by
 obtain ⟨h0,Ds,h1,h2,h3⟩:=h
 refine ⟨Nat.le_trans h0 s.size,Ds,h1,h2,λD hD=>?_⟩
 obtain ⟨k1,k2,k3⟩:=h3 D hD
 obtain ⟨q1,q2⟩:=k2.step s
 exact ⟨k1,q1,q2.trans k3⟩
structure Ky (Γ:Ctx) (Φ:Nat->Prop) (w w':World):Prop where
 same:∀ g,Γ.St g\/(∃ b,Γ.nm b=some g)\/Φ g->w'.heap[g]? = w.heap[g]?
 size:w.heap.size<=w'.heap.size
 os:w'.os=w.os
 tape:w'.tape=w.tape
 output:w'.output=w.output
theorem Ky.mono (h:Ky Γ Φ w w'):P7 Γ (A1 H) w Γ (A1 H) w' (λ_=>True):=
 ⟨λg hg=>h.same g (.inl hg),λ_ h=>h,λ_ _=>rfl,λ_ _=>rfl,λb g _ hg=>C3 (h.same g (.inr (.inl ⟨b,hg⟩))),rfl⟩
theorem SI.offW (hI:HI I) (S:SI C I Γ Φ st tmps w) (h:Ky Γ Φ w w'):SI C I Γ Φ st tmps w':=by
 have hf:=hI.foot _ _ _ _ S.inv
 refine ⟨⟨S.hr.inj,λb g hb=>?_,λg hg=>Nat.lt_of_lt_of_le (S.hr.stlt g hg) h.size,S.hr.nms,λb hb=>(S.hr.blk b hb).mono h.mono rfl (λg hg=>h.same g (.inr (.inl ⟨b,hg⟩))) (λ_ _=>trivial)⟩,
  S.sr.mono h.mono (λc hc=>⟨trivial,S.sr.nms c hc⟩),S.g.mono (λg hg=>h.same g (.inl hg)) (λ_ h=>h),
  hI.mono _ _ _ _ _ _ S.inv (λ_ h=>h) (λg hg hp=>(hf g hp).2 hg) (λg hg=>Nat.lt_of_lt_of_le (S.hr.stlt g hg) h.size) (λg hg=>h.same g (hg.elim .inl (λq=>.inr (.inr q)))) h.size h.os h.tape h.output,S.dis⟩
 obtain ⟨q1,q2,q3⟩:=S.hr.lt b g hb
 exact ⟨q1,Nat.lt_of_lt_of_le q2 h.size,q3⟩
structure Pg (C:Cfg) (Γ:Ctx) (H:List Blk) (w:World) (Φ:Nat->Prop) (Γ':Ctx) (H':List Blk) (w':World) (Φ':Nat->Prop):Prop where
 os:w'.os=w.os
 tape:w'.tape=w.tape
 output:w'.output=w.output
 size:w.heap.size<=w'.heap.size
 sub:∀ g,Γ.St g->Γ'.St g
 own:∀ b g,Γ'.nm b=some g->(b<H.length/\Γ.nm b=some g)\/w.heap.size<=g
 foot:∀ g,Φ' g->Φ g\/w.heap.size<=g
 yv:Γ'.yv = Γ.yv
 len:H.length<=H'.length
 keep:∀ b,b<H.length->Cb C (A1 H b)->Γ'.nm b = Γ.nm b/\A1 H' b=A1 H b/\∀ g,Γ.nm b=some g->w'.shape? g=w.shape? g
theorem Stp.pg (h:Stp C Γ H w Φ Γ' H' w' Φ'):Pg C Γ H w Φ Γ' H' w' Φ':=⟨h.os,h.tape,h.output,h.size,h.sub,h.own,h.foot,h.yv,h.len,h.keep⟩
theorem Pg.trans {Γ'':Ctx} {H'':List Blk} {w'':World} {Φ'':Nat->Prop} (h:Pg C Γ H w Φ Γ' H' w' Φ') (k:Pg C Γ' H' w' Φ' Γ'' H'' w'' Φ''):Pg C Γ H w Φ Γ'' H'' w'' Φ'':=by
 have h1:=h.size
 refine ⟨k.os.trans h.os,k.tape.trans h.tape,k.output.trans h.output,Nat.le_trans h.size k.size,λg hg=>k.sub g (h.sub g hg),λb g hb=>?_,λg hg=>?_,k.yv.trans h.yv,Nat.le_trans h.len k.len,λb hb hf=>?_⟩
 ·rcases k.own b g hb with ⟨_,q⟩ | q
  ·exact h.own b g q
  ·exact .inr (by omega)
 ·rcases k.foot g hg with q | q
  ·exact h.foot g q
  ·exact .inr (by omega)
 ·obtain ⟨k1,k2,k3⟩:=h.keep b hb hf
  have h2:=h.len
  obtain ⟨m1,m2,m3⟩:=k.keep b (by omega) (by rw [k2];exact hf)
  exact ⟨m1.trans k1,m2.trans k2,λg hg=>(m3 g (k1.trans hg)).trans (k3 g hg)⟩
theorem Pg.off (hH:HR Γ H w) (h:Ky Γ Φ w w'):Pg C Γ H w Φ Γ H w' Φ:=
 ⟨h.os,h.tape,h.output,h.size,λ_ h=>h,λb g hb=>.inl ⟨(hH.lt b g hb).1,hb⟩,λ_ h=>.inl h,rfl,Nat.le_refl _,λb hb _=>⟨rfl,rfl,λg hg=>C3 (h.same g (.inr (.inl ⟨b,hg⟩)))⟩⟩
theorem Pg.wideSt {St':Nat->Prop} (hH:HR Γ H w) (hs:∀ g,Γ.St g->St' g):Pg C Γ H w Φ { Γ with St:=St' } H w Φ:=
 ⟨rfl,rfl,rfl,Nat.le_refl _,hs,λb g hb=>.inl ⟨(hH.lt b g hb).1,hb⟩,λ_ h=>.inl h,rfl,Nat.le_refl _,λ_ _ _=>⟨rfl,rfl,λ_ _=>rfl⟩⟩
theorem Ky.put {l:Nat} {ob:Obj} (h:Off Γ Φ w l):Ky Γ Φ w (w.putObj l ob):=by
 refine ⟨λg hg=>World.putObj_heap_other ?_,by simp,rfl,rfl,rfl⟩
 rintro rfl
 rcases hg with q | ⟨b,q⟩ | q
 ·exact h.2.1 q
 ·exact h.2.2.1 b q
 ·exact h.2.2.2 q
theorem Off.put {g l:Nat} {ob:Obj} (h:Off Γ Φ w g):Off Γ Φ (w.putObj l ob) g:=⟨by simpa using h.1,h.2⟩
theorem Mk.put {n0 l:Nat} {ob:Obj} {rr:Loop} {ds:List Deferred} (h:Mk n0 Γ Φ w ds) (hl:w.heap[l]? = some (.loop rr)):Mk n0 Γ Φ (w.putObj l ob) ds:=by
 obtain ⟨h0,Ds,h1,h2,h3⟩:=h
 refine ⟨by simpa using h0,Ds,h1,h2,λD hD=>?_⟩
 obtain ⟨k1,k2,k3⟩:=h3 D hD
 refine ⟨k1,k2.put,(World.putObj_heap_other ?_).trans k3⟩
 rintro rfl
 rw [k3] at hl
 cases hl
def Ro (ro:Option Nat) (Γ:Ctx) (Φ:Nat->Prop) (w:World):Prop:=∀ l,ro=some l->Off Γ Φ w l/\∃ rr:Loop,w.heap[l]? = some (.loop rr)
theorem Ro.none:Ro none Γ Φ w:=λ_ h=>by cases h
theorem Ro.step {ro:Option Nat} (h:Ro ro Γ Φ w) (s:Stp C Γ H w Φ Γ' H' w' Φ'):Ro ro Γ' Φ' w':=λl e=>by
 obtain ⟨k1,rr,k2⟩:=h l e
 obtain ⟨q1,q2⟩:=k1.step s
 exact ⟨q1,rr,q2.trans k2⟩
def Aw6 (C:Cfg) (I:σ->(Nat->Prop)->(Nat->Prop)->World->Prop) (n0:Nat) (Γ:Ctx) (Φ:Nat->Prop) (H:List Blk) (w:World) (k:Out->St σ->Option R) (r:R) (Q:Exit->Act->World->Prop):Prop:=
 ∀ o st' a' w' Γ' Φ',k o st'=some r->Stp C Γ H w Φ Γ' st'.hp w' Φ'->SI C I Γ' Φ' st' a'.tmps w'->Mk n0 Γ' Φ' w' a'.defers->Q o.exit' a' w'
def WP (C:Cfg) (I:σ->(Nat->Prop)->(Nat->Prop)->World->Prop) (cl:D0) (yh:Yh σ) (yv:Value) (c:Code):Prop:=
 ∀ {R:Type} {r:R} {ro:Option Nat} {n n0:Nat} {Γ:Ctx} {Φ:Nat->Prop} {st:St σ} {a:Act} {w:World} {k:Out->St σ->Option R} {Q:Exit->Act->World->Prop},
  Γ.yv=yv->B0 C cl yh c st k=some r->SI C I Γ Φ st a.tmps w->Mk n0 Γ Φ w a.defers->Ro ro Γ Φ w->Aw6 C I n0 Γ Φ st.hp w k r Q->c.wpIn (C1 ro) n C.P Q a w
def Ec (fn:FuncId) (tmps:Array Value) (ps:Array Tmp) (aq body:Code) (D:Nat) (s:LoopState) (p:Option Code):Loop:={ state:=s,pending:=p,fn:=fn,tmps:=tmps,params:=ps,assign:=aq,body:=body,defers:=D }
def jmp:Out->Code
 | .normal=>.skip
 | .exit id=>.exit id
 | .ret=>.ret
def A89:Option Out->LoopState
 | none=>.ready
 | some _=>.done
structure RIb (C:Cfg) (I:σ->(Nat->Prop)->(Nat->Prop)->World->Prop) (Γ0:Ctx) (H0:List Blk) (w0:World) (Φ0:Nat->Prop) (sl0:List PV) (tmps:Array Value) (l:Nat) (D:Option Nat) (rc:LoopState->Option Code->Loop) (x:List Blk × Option Out × σ) (St Φ:Nat->Prop) (w:World) (Γb:Ctx) (Φb:Nat->Prop):Prop where
 si:SI C I Γb Φb { sl:=sl0,hp:=x.1,s:=x.2.2 } tmps w
 pg:Pg C Γ0 H0 w0 Φ0 Γb x.1 w Φb
 st:∀ g,Γb.St g->St g
 ph:∀ g,Φ g↔Φb g\/(∃ b,Γb.nm b=some g)\/g=l\/D=some g
 ft:∀ g,Φ g->g<w.heap.size/\¬ St g
 ol:Off Γb Φb w l
 od:∀ d,D=some d->Off Γb Φb w d
 hl:w.heap[l]? = some (.loop (rc (A89 x.2.1) (x.2.1.map jmp)))
 hd:∀ d,D=some d->w.heap[d]? = some (.deferred (some []))
def RI (C:Cfg) (I:σ->(Nat->Prop)->(Nat->Prop)->World->Prop) (Γ0:Ctx) (H0:List Blk) (w0:World) (Φ0:Nat->Prop) (sl0:List PV) (tmps:Array Value) (l:Nat) (D:Option Nat) (rc:LoopState->Option Code->Loop):(List Blk × Option Out × σ)->(Nat->Prop)->(Nat->Prop)->World->Prop:=
 λx St Φ w=>∃ Γb Φb,RIb C I Γ0 H0 w0 Φ0 sl0 tmps l D rc x St Φ w Γb Φb
theorem Bn6 {Γ0:Ctx} {H0:List Blk} {w0:World} {Φ0:Nat->Prop} {sl0:List PV} {l:Nat} {D:Option Nat} {rc:LoopState->Option Code->Loop} (hI:HI I):HI (RI C I Γ0 H0 w0 Φ0 sl0 tmps l D rc):=by
 refine ⟨λx St Φ w ⟨Γb,Φb,r⟩=>r.ft,λx St Φ w St' w' ⟨Γb,Φb,r⟩ hs hd hlt hh hz ho ht hu=>?_⟩
 have inΦ:∀ {g},Φb g\/(∃ b,Γb.nm b=some g)\/g=l\/D=some g->Φ g:=fun {g} h=>(r.ph g).2 h
 have O:Ky Γb Φb w w':=⟨λg hg=>by
  rcases hg with q | q | q
  ·exact hh g (.inl (r.st g q))
  ·exact hh g (.inr (inΦ (.inr (.inl q))))
  ·exact hh g (.inr (inΦ (.inl q))),hz,ho,ht,hu⟩
 have up:∀ {g},Off Γb Φb w g->Off Γb Φb w' g:=λh=>⟨Nat.lt_of_lt_of_le h.1 hz,h.2⟩
 exact ⟨Γb,Φb,r.si.offW hI O,r.pg.trans (Pg.off r.si.hr O),λg hg=>hs g (r.st g hg),r.ph,λg hg=>⟨Nat.lt_of_lt_of_le (r.ft g hg).1 hz,λq=>hd g q hg⟩,up r.ol,λd h=>up (r.od d h),
  (hh l (.inr (inΦ (.inr (.inr (.inl rfl)))))).trans r.hl,λd h=>(hh d (.inr (inΦ (.inr (.inr (.inr h)))))).trans (r.hd d h)⟩
end
section
variable {σ R : Type} {r : R} {C : Cfg} {I : σ -> (Nat -> Prop) -> (Nat -> Prop) -> World -> Prop} {Γ Γ' : Ctx} {Φ Φ' : Nat -> Prop} {st : St σ} {a : Act} {w w' : World} {cl : D0} {yh : Yh σ} {yv : Value} {H H' : List Blk} {tmps : Array Value}
theorem Zq (x:Blk):(Cw x).nms=[]:=by
 cases x with
 | box cells=>
  simp only [Cw,Blk.nms]
  rw [List.eq_nil_iff_forall_not_mem]
  intro c hc
  obtain ⟨j,hj,hc⟩:=A8.1 hc
  simp [PV.nms] at hc
 | mp ents=>
  simp only [Cw,Blk.nms]
  rw [List.eq_nil_iff_forall_not_mem]
  intro c hc
  obtain ⟨j,hj,hc⟩:=A8.1 hc
  simp [PV.nms,Yw] at hc
 | _=>rfl
theorem Zr (x:Blk):(Cw x).shp=x.shp:=by cases x<;>rfl
theorem Aj1 {sh sh':Nat->Option Shp} {b b':Nat} {x:Blk} (h:BR Γ sh w b x) (hnm:Γ'.nm b' = Γ.nm b) (hst:∀ g,Γ.St g->w'.heap[g]? = w.heap[g]?) (hsub:∀ g,Γ.St g->Γ'.St g) (hheap:∀ g,Γ.nm b=some g->w'.heap[g]? = w.heap[g]?):BR Γ' sh' w' b' (Cw x):=by
 cases x with
 | arr v e sz els=>
  rcases h with h | ⟨hn,g,cur,h1,h2,h3,h4,h5⟩
  ·exact .inl h
  ·refine .inr ⟨hn,g,cur,by rw [hnm];exact h1,by rw [hheap g h1];exact h2,h3,h4,λi h j h'=>?_⟩
   obtain ⟨V,e1,e2⟩:=h5 i h j h'
   exact ⟨V,e1,e2.mono hst hsub⟩
 | box cells=>
  obtain ⟨g,cur,e,h1,h2,h3,h4⟩:=h
  refine ⟨g,cur,e,by rw [hnm];exact h1,by rw [hheap g h1];exact h2,by simpa using h3,λj h=>?_⟩
  obtain ⟨V,e1,_⟩:=h4 j (by simpa using h)
  exact ⟨V,e1,by rw [List.getElem_map];exact .bad V⟩
 | iter s p=>
  obtain ⟨g,s',h1,h2,h3⟩:=h
  exact ⟨g,s',by rw [hnm];exact h1,by rw [hheap g h1];exact h2,h3⟩
 | mp ents=>
  obtain ⟨g,es,ck,h1,h2,h3⟩:=h
  exact ⟨g,es,ck,by rw [hnm];exact h1,by rw [hheap g h1];exact h2,h3.map λv _ V _=>.bad V⟩
 | ms a ents=>
  obtain ⟨g,es,ck,h1,h2,h3⟩:=h
  refine ⟨g,es,ck,by rw [hnm];exact h1,by rw [hheap g h1];exact h2,h3.imp λv hv V k=>?_⟩
  obtain ⟨e,he,rfl⟩:=Tm hv
  exact As7 hst hsub k
 | dead=>trivial
end
section
variable {σ R : Type} {r : R} {C : Cfg} {I : σ -> (Nat -> Prop) -> (Nat -> Prop) -> World -> Prop} {Γ : Ctx} {Φ : Nat -> Prop} {st : St σ} {a : Act} {w : World} {cl : D0} {yh : Yh σ} {yv : Value} {o : Oper} {H : List Blk}
theorem JY (hH:HR Γ H w) {L:Nat} (hL:L<=H.length):P7 Γ (A1 H) w (Γ.cut L) (A1 (H.take L)) w (· < L):=
 ⟨λ_ _=>rfl,λ_ h=>.inl h,λb hb=>by simp only [Ctx.cut];rw [if_pos hb],λb hb=>by simp only [A1,List.getElem?_take];rw [if_pos hb],λ_ _ _ _=>rfl,rfl⟩
theorem Am5 (hH:HR Γ H w) {L:Nat} (hL:L<=H.length) (hlow:ZM L (H.take L)=true):HR (Γ.cut L) (H.take L) w:=by
 have hlow':=BM hlow
 have hlen:(H.take L).length=L:=by rw [List.length_take];omega
 have key:∀ b g,(Γ.cut L).nm b=some g->b<L/\Γ.nm b=some g:=λb g h=>by
  simp only [Ctx.cut] at h
  grind
 refine ⟨λb b' g h1 h2=>hH.inj b b' g (key b g h1).2 (key b' g h2).2,λb g h=>?_,λg hg=>?_,λb hb c hc=>?_,λb hb=>?_⟩
 ·obtain ⟨h1,h2⟩:=key b g h
  have:=hH.lt b g h2
  refine ⟨by omega,this.2.1,?_⟩
  rintro (h3 | ⟨b',h3,h4⟩)
  ·grind
  ·have:=hH.inj b b' g h2 h4;omega
 ·rcases hg with hg | ⟨b,_,hg⟩
  ·exact hH.stlt g hg
  ·exact (hH.lt b g hg).2.1
 ·grind
 ·have hbL:b<L:=by omega
  have e:(H.take L)[b]=H[b]'(by omega):=List.getElem_take
  rw [e]
  have M:=JY hH hL
  exact (hH.blk b (by omega)).mono M (M.nm b hbL) (λ_ _=>rfl) (λc hc=>hlow' _ (List.getElem_mem hb) c (by rw [e];exact hc))
theorem WY (hH:HR Γ H w) {L b:Nat} (hb:¬ b<L) {v:PV} {V:Value} (hv:v = .fl b\/∃ i n,v = .vw b i n) (h:VP Γ (A1 H) w v V):VP (Γ.cut L) (A1 (H.take L)) w (v.snap H) V/\(v.snap H).nms=[]:=by
 rcases hv with rfl | ⟨i,n,rfl⟩
 ·cases h with
  | flv _ e sz h=>
   obtain ⟨x,hx,hs⟩:∃ x,H[b]? = some x/\x.shp = .arr true e sz 0:=by simpa [A1] using h
   cases x<;>simp [Blk.shp] at hs
   rename_i v' e' sz' els
   obtain ⟨rfl,rfl,rfl,h4⟩:=hs
   subst h4
   simp only [PV.snap,hx]
   exact ⟨.s _ _ (.nil _ _),rfl⟩
  | fl _ g v e sz n cap h hv hg hcap hm hs=>
   obtain ⟨x,hx,hs'⟩:∃ x,H[b]? = some x/\x.shp = .arr v e sz n:=by simpa [A1] using h
   cases x<;>simp [Blk.shp] at hs'
   rename_i v' e' sz' els
   obtain ⟨rfl,rfl,rfl,rfl⟩:=hs'
   have hne:¬ (v'=true/\els=[]):=by rintro ⟨q1,q2⟩;exact hv q1 (by rw [q2];rfl)
   have hz:(v'&&els.isEmpty)=false:=by cases v'<;>simp_all
   simp only [PV.snap,hx,hz]
   have:=IC (i:=0) (n:=els.length) (a:=⟨g,0,none⟩) (cap:=cap) hH hx hne hg (by omega) (λ_=>by simp) hcap hm (St':=(Γ.cut L).St) (λ_ h=>Or.inl h) (.inr ⟨b,by omega,hg⟩)
   simp only [List.drop_zero,List.take_length] at this
   exact ⟨.s _ _ this,rfl⟩
 ·cases h with
  | vwv _ e sz _ h=>
   obtain ⟨x,hx,hs⟩:∃ x,H[b]? = some x/\x.shp = .arr true e sz 0:=by simpa [A1] using h
   cases x<;>simp [Blk.shp] at hs
   rename_i v' e' sz' els
   obtain ⟨rfl,rfl,rfl,h4⟩:=hs
   subst h4
   simp only [PV.snap,hx,List.drop_nil,List.take_nil]
   exact ⟨.s _ _ (.nil _ _),rfl⟩
  | vw _ _ _ g a cap v e sz m h hv hg ha hi hcap hm=>
   obtain ⟨x,hx,hs'⟩:∃ x,H[b]? = some x/\x.shp = .arr v e sz m:=by simpa [A1] using h
   cases x<;>simp [Blk.shp] at hs'
   rename_i v' e' sz' els
   obtain ⟨rfl,rfl,rfl,rfl⟩:=hs'
   have hne:¬ (v'=true/\els=[]):=by rintro ⟨q1,q2⟩;exact hv q1 (by rw [q2];rfl)
   have hz:(v'&&els.isEmpty)=false:=by cases v'<;>simp_all
   simp only [PV.snap,hx,hz]
   exact ⟨.s _ _ (IC hH hx hne hg hi ha hcap hm (λ_ h=>Or.inl h) (.inr ⟨b,by omega,hg⟩)),rfl⟩
theorem GZ (hH:HR Γ H w) {L:Nat} (hL:L<=H.length) {v:PV} {V:Value} (h:VP Γ (A1 H) w v V):VP (Γ.cut L) (A1 (H.take L)) w (v.low H L) V/\∀ c∈(v.low H L).nms,c<L:=by
 have M:=JY hH hL
 have keep:(∀ c∈v.nms,c<L)->VP (Γ.cut L) (A1 (H.take L)) w v V:=λhn=>h.mono M hn
 unfold PV.low
 split
 ·rename_i b
  split
  ·rename_i hb;exact ⟨keep (by simpa [PV.nms] using hb),by simpa [PV.nms] using hb⟩
  ·rename_i hb
   obtain ⟨q1,q2⟩:=WY hH hb (.inl rfl) h
   grind
 ·rename_i b i n
  split
  ·rename_i hb;exact ⟨keep (by simpa [PV.nms] using hb),by simpa [PV.nms] using hb⟩
  ·rename_i hb
   obtain ⟨q1,q2⟩:=WY hH hb (.inr ⟨i,n,rfl⟩) h
   grind
 ·exact ⟨keep (by simp [PV.nms]),by simp [PV.nms]⟩
 ·exact ⟨keep (by simp [PV.nms]),by simp [PV.nms]⟩
 ·exact ⟨keep (by simp [PV.nms]),by simp [PV.nms]⟩
 ·split
  ·rename_i hb;exact ⟨keep (by simpa [PV.nms] using hb),by simpa [PV.nms] using hb⟩
  ·exact ⟨.bad _,by simp [PV.nms]⟩
 ·split
  ·rename_i hb;exact ⟨keep (by simpa [PV.nms] using hb),by simpa [PV.nms] using hb⟩
  ·exact ⟨.bad _,by simp [PV.nms]⟩
 ·split
  ·grind
  ·exact ⟨.bad _,by simp [PV.nms]⟩
def Sub (Γ Γ':Ctx):Prop:=(∀ g,Γ'.St g->Γ.St g\/∃ b,Γ.nm b=some g)/\∀ b g,Γ'.nm b=some g->Γ.nm b=some g
theorem Mk.sub {n0:Nat} {Γ':Ctx} {ds:List Deferred} (h:Mk n0 Γ Φ w ds) (s:Sub Γ Γ'):Mk n0 Γ' Φ w ds:=by
 obtain ⟨h0,Ds,h1,h2,h3⟩:=h
 refine ⟨h0,Ds,h1,h2,λD hD=>?_⟩
 obtain ⟨k1,k2,k3⟩:=h3 D hD
 refine ⟨k1,⟨k2.1,λq=>?_,λb q=>k2.2.2.1 b (s.2 b D q),k2.2.2.2⟩,k3⟩
 rcases s.1 D q with q | ⟨b,q⟩
 ·exact k2.2.1 q
 ·exact k2.2.2.1 b q
theorem Nn {H0:List Blk} {Γ0:Ctx} {w0:World} {Φ0:Nat->Prop} {L:Nat} (hI:HI I) (S:SI C I Γ Φ st a.tmps w) (h:Stp C Γ0 H0 w0 Φ0 Γ st.hp w Φ) (hL0:H0.length<=L) (hL:L<=st.hp.length):∃ Γ',SI C I Γ' Φ (P5 L st) a.tmps w/\Stp C Γ0 H0 w0 Φ0 Γ' (P5 L st).hp w Φ/\Sub Γ Γ':=by
 unfold P5
 split
 ·rename_i hlow
  have hlen:(st.hp.take L).length=L:=by rw [List.length_take];omega
  have hr:=Am5 S.hr hL hlow
  have hnm:∀ b g,(Γ.cut L).nm b=some g->Γ.nm b=some g:=λb g h=>by
   simp only [Ctx.cut] at h
   all_goals grind
  have hnewSt:∀ g,(Γ.cut L).St g->Γ.St g\/(w0.heap.size<=g/\¬ Φ g):=λg hg=>by
   rcases hg with hg | ⟨b,hb,hg⟩
   ·grind
   ·refine .inr ⟨?_,S.dis b g hg⟩
    rcases h.own b g hg with ⟨q,_⟩ | q
    all_goals omega
  have hfoot:=hI.foot _ _ _ _ S.inv
  refine ⟨Γ.cut L,⟨hr,⟨by simpa using S.sr.size,λc hc=>?_,λi hi=>?_⟩,S.g.mono (λ_ _=>rfl) (λ_ h=>Or.inl h),?_,λb g hg=>S.dis b g (hnm b g hg)⟩,
   ⟨h.os,h.tape,h.output,h.size,λg hg=>Or.inl (h.sub g hg),λg hg=>?_,λb g hg=>h.own b g (hnm b g hg),h.foot,h.frame,h.yv,by rw [hlen];exact hL0,λb hb hf=>?_⟩,λg hg=>hg.elim .inl (λ⟨b,_,q⟩=>.inr ⟨b,q⟩),hnm⟩
  ·obtain ⟨j,hj,hc⟩:=A8.1 hc
   have hj':j<st.sl.length:=by simpa using hj
   obtain ⟨U,e,k⟩:=S.sr.slot j hj'
   rw [List.getElem_map] at hc
   have:=(GZ S.hr hL k).2 c hc
   grind
  ·have hi':i<st.sl.length:=by simpa using hi
   obtain ⟨U,e,k⟩:=S.sr.slot i hi'
   exact ⟨U,e,by rw [List.getElem_map];exact (GZ S.hr hL k).1⟩
  ·refine hI.mono _ _ _ _ _ _ S.inv (λ_ h=>Or.inl h) (λg hg hp=>?_) (λg hg=>hr.stlt g hg) (λ_ _=>rfl) (Nat.le_refl _) rfl rfl rfl
   all_goals grind
  ·rcases hnewSt g hg with q | q
   ·exact h.stnew g q
   omega
  ·obtain ⟨k1,k2,k3⟩:=h.keep b hb hf
   have hbL:b<L:=by omega
   refine ⟨by simp only [Ctx.cut];rw [if_pos hbL];exact k1,?_,k3⟩
   rw [<-k2]
   simp only [A1,List.getElem?_take]
   grind
 ·exact ⟨Γ,S,h,λ_ h=>.inl h,λ_ _ h=>h⟩
theorem MZ {H0:List Blk} {Γ0:Ctx} {w0:World} {Φ0:Nat->Prop} (hI:HI I) (S:SI C I Γ Φ st a.tmps w) (h:Stp C Γ0 H0 w0 Φ0 Γ st.hp w Φ):∃ Γ',SI C I Γ' Φ (P5 H0.length st) a.tmps w/\Stp C Γ0 H0 w0 Φ0 Γ' (P5 H0.length st).hp w Φ/\Sub Γ Γ':=
 Nn hI S h (Nat.le_refl _) h.len
theorem Mm:∀ (g:List Nat) (l:List PV),(Au g l).length=l.length/\∀ i (h:i<(Au g l).length) (h':i<l.length),(Au g l)[i]=l[i]\/(Au g l)[i] = .bad
 | g,[]=>by
  have e:Au g []=[]:=by unfold Au;rfl
  grind
 | [],v::l=>by
  obtain ⟨h1,h2⟩:=Mm [] l
  refine ⟨by simp [Au,h1],λi h h'=>?_⟩
  cases i with
  | zero=>exact .inr rfl
  | succ i=>
   have:=h2 i (by simpa [Au] using h) (by simpa using h')
   simpa [Au] using this
 | 0::g,v::l=>by
  obtain ⟨h1,h2⟩:=Mm g l
  refine ⟨by simp [Au,h1],λi h h'=>?_⟩
  cases i with
  | zero=>exact .inl rfl
  | succ i=>
   have:=h2 i (by simpa [Au] using h) (by simpa using h')
   simpa [Au] using this
 | (n+1)::g,v::l=>by
  obtain ⟨h1,h2⟩:=Mm (n::g) l
  refine ⟨by simp [Au,h1],λi h h'=>?_⟩
  cases i with
  | zero=>exact .inr rfl
  | succ i=>
   have:=h2 i (by simpa [Au] using h) (by simpa using h')
   simpa [Au] using this
theorem WM {sl:List PV} {tmps:Array Value} (g:List Nat) (h:SR Γ H w sl tmps):SR Γ H w (Au g sl) tmps:=by
 obtain ⟨h1,h2⟩:=Mm g sl
 refine ⟨by rw [h1];exact h.size,λc hc=>?_,λi hi=>?_⟩
 ·obtain ⟨j,hj,hc⟩:=A8.1 hc
  have hj':j<sl.length:=by rw [<-h1];exact hj
  rcases h2 j hj hj' with e | e
  ·rw [e] at hc;exact h.nms c (A8.2 ⟨j,hj',hc⟩)
  ·rw [e] at hc;simp [PV.nms] at hc
 ·have hi':i<sl.length:=by rw [<-h1];exact hi
  obtain ⟨V,e1,e2⟩:=h.slot i hi'
  refine ⟨V,e1,?_⟩
  rcases h2 i hi hi' with e | e
  ·grind
  ·rw [e];exact .bad V
theorem Bg (ds:Option (List Nat)) (st:St σ):(Fr ds st).hp=st.hp:=by cases ds<;>rfl
theorem Bf (S:SI C I Γ Φ st a.tmps w) (ds:Option (List Nat)):SI C I Γ Φ (Fr ds st) a.tmps w:=by
 cases ds with
 | none=>exact S
 | some g=>exact ⟨S.hr,WM g S.sr,S.g,S.inv,S.dis⟩
theorem Tz:∀ (l:List Nat) (m:Nat),m<=UU l m
 | [],m=>Nat.le_refl _
 | b::r,m=>by
  simp only [UU]
  cases h:Nat.ble m b with
  | true=>exact Nat.le_trans (Nat.le_succ_of_le (Nat.le_of_ble_eq_true h)) (Tz r (b+1))
  | false=>exact Tz r m
theorem XD:∀ (l:List Blk) (m:Nat),m<=Ad8 l m
 | [],m=>Nat.le_refl _
 | b::r,m=>Nat.le_trans (Tz _ _) (XD r _)
theorem Jf {H0:List Blk} {Γ0:Ctx} {w0:World} {Φ0:Nat->Prop} (hI:HI I) (S:SI C I Γ Φ st a.tmps w) (h:Stp C Γ0 H0 w0 Φ0 Γ st.hp w Φ) (ds:Option (List Nat)) {L:Nat} (hL:H0.length<=L):∃ Γ',SI C I Γ' Φ (Ma ds L st) a.tmps w/\Stp C Γ0 H0 w0 Φ0 Γ' (Ma ds L st).hp w Φ:=by
 cases ds with
 | none=>exact ⟨Γ,S,h⟩
 | some g=>
  have S1:SI C I Γ Φ ({ sl:=Au g st.sl,hp:=st.hp,s:=st.s }:St σ) a.tmps w:=⟨S.hr,WM g S.sr,S.g,S.inv,S.dis⟩
  simp only [Ma,Bp5,At6]
  cases hb:Nat.ble (Ad8 st.hp (UU (B3 (Au g st.sl)) L)+1) st.hp.length with
  | false=>exact ⟨Γ,S1,h⟩
  | true=>
   have:=Nat.le_of_ble_eq_true hb
   obtain ⟨Γ',k1,k2,_⟩:=Nn (L:=Ad8 st.hp (UU (B3 (Au g st.sl)) L)) hI S1 h (Nat.le_trans hL (Nat.le_trans (Tz _ _) (XD _ _))) (by show Ad8 st.hp _<=st.hp.length;omega)
   grind
theorem At9 {tmps:Array Value} (hI:HI I) (S:SI C I Γ Φ st tmps w) {L:Nat} (hL:L<=st.hp.length):∃ Γ',SI C I Γ' Φ (P5 L st) tmps w/\(∀ g,Γ.St g->Γ'.St g)/\(∀ g,Γ'.St g->Γ.St g\/∃ b,L<=b/\Γ.nm b=some g)/\
  (∀ b g,Γ'.nm b=some g->Γ.nm b=some g)/\Γ'.yv = Γ.yv/\(∀ b,b<L->Γ'.nm b = Γ.nm b/\A1 (P5 L st).hp b=A1 st.hp b)/\L<=(P5 L st).hp.length:=by
 unfold P5
 split
 ·rename_i hlow
  have hlen:(st.hp.take L).length=L:=by rw [List.length_take];omega
  have hr:=Am5 S.hr hL hlow
  have hnm:∀ b g,(Γ.cut L).nm b=some g->Γ.nm b=some g:=λb g h=>by
   simp only [Ctx.cut] at h
   grind
  have hfoot:=hI.foot _ _ _ _ S.inv
  refine ⟨Γ.cut L,⟨hr,⟨by simpa using S.sr.size,λc hc=>?_,λi hi=>?_⟩,S.g.mono (λ_ _=>rfl) (λ_ h=>Or.inl h),?_,λb g hg=>S.dis b g (hnm b g hg)⟩,
   λ_ h=>Or.inl h,λ_ h=>h,hnm,rfl,λb hb=>⟨by simp only [Ctx.cut];rw [if_pos hb],?_⟩,by rw [hlen];exact Nat.le_refl _⟩
  ·obtain ⟨j,hj,hc⟩:=A8.1 hc
   have hj':j<st.sl.length:=by simpa using hj
   obtain ⟨U,e,k⟩:=S.sr.slot j hj'
   rw [List.getElem_map] at hc
   have:=(GZ S.hr hL k).2 c hc
   show c<(st.hp.take L).length
   omega
  ·have hi':i<st.sl.length:=by simpa using hi
   obtain ⟨U,e,k⟩:=S.sr.slot i hi'
   exact ⟨U,e,by rw [List.getElem_map];exact (GZ S.hr hL k).1⟩
  ·refine hI.mono _ _ _ _ _ _ S.inv (λ_ h=>Or.inl h) (λg hg hp=>?_) (λg hg=>hr.stlt g hg) (λ_ _=>rfl) (Nat.le_refl _) rfl rfl rfl
   rcases hg with q | ⟨b,_,q⟩
   ·exact (hfoot g hp).2 q
   ·exact S.dis b g q hp
  ·simp only [A1,List.getElem?_take]
   rw [if_pos hb]
 ·exact ⟨Γ,S,λ_ h=>h,λ_ h=>.inl h,λ_ _ h=>h,rfl,λ_ _=>⟨rfl,rfl⟩,hL⟩
end
section
variable {σ R : Type} {r : R} {C : Cfg} {I : σ -> (Nat -> Prop) -> (Nat -> Prop) -> World -> Prop} {Γ Γ' : Ctx} {Φ Φ' : Nat -> Prop} {st : St σ} {a : Act} {w w' : World} {cl : D0} {yh : Yh σ} {yv : Value} {H H' : List Blk} {tmps : Array Value}
theorem As6 {sh sh':Nat->Option Shp} {v:PV} {V:Value} (h:v.sv?.isSome=true) (hv:VP Γ sh w v V) (hs:∀ g,Γ.St g->Γ'.St g):VP Γ' sh' w v V/\v.nms=[]:=by
 cases v<;>simp [PV.sv?] at h
 ·exact ⟨.s _ _ (hv.inv_s.mono (λ_ _=>rfl) hs),rfl⟩
 ·rw [hv.inv_nsl];exact ⟨.nsl,rfl⟩
theorem IK:∀ {l:List PV} {vs:List SV},Co l=some vs->∀ v∈l,v.sv?.isSome=true
 | [],_,_,v,hv=>by simp at hv
 | x::l,vs,h,v,hv=>by
  simp only [Co] at h
  split at h
  ·rename_i p q hp hq
   rcases List.mem_cons.1 hv with rfl | hv
   ·rw [hp];rfl
   ·exact IK hq v hv
  ·cases h
theorem CJ {sh sh':Nat->Option Shp} (hs:∀ g,Γ.St g->Γ'.St g):∀ {args:List PV},Eh args=true->∀ v∈args,v.nms=[]/\∀ V,VP Γ sh w v V->VP Γ' sh' w v V
 | [],_,v,hv=>by simp at hv
 | x::r,h,v,hv=>by
  have key:(x.nms=[]/\∀ V,VP Γ sh w x V->VP Γ' sh' w x V)/\Eh r=true:=by
   unfold Eh at h
   split at h
   ·rename_i he;cases he
   ·rename_i he;cases he
    exact ⟨⟨rfl,λV hV=>(As6 (Γ:=Γ) (Γ':=Γ') rfl hV hs).1⟩,h⟩
   ·rename_i l r' he
    cases he
    simp only [Bool.and_eq_true,Option.isSome_iff_exists] at h
    obtain ⟨⟨vs,hvs⟩,h⟩:=h
    refine ⟨⟨?_,λV hV=>?_⟩,h⟩
    ·simp only [PV.nms]
     rw [List.eq_nil_iff_forall_not_mem]
     intro c hc
     obtain ⟨j,hj,hc⟩:=A8.1 hc
     have hm:=IK hvs _ (List.getElem_mem hj)
     generalize l[j]=u at hm hc
     cases u<;>simp [PV.sv?] at hm<;>simp [PV.nms] at hc
    ·obtain ⟨A,rfl,hA,hc⟩:=hV.inv_agg
     refine VP.mk_agg hA λj hj=>?_
     obtain ⟨U,e,k⟩:=hc j hj
     exact ⟨U,e,(As6 (IK hvs _ (List.getElem_mem hj)) k hs).1⟩
   ·cases h
  rcases List.mem_cons.1 hv with rfl | hv
  ·exact key.1
  ·exact CJ hs key.2 v hv
theorem Nd:∀ (ts:List Nat) (vs:List PV) (Vs:List Value) {sl:List PV} {tmps:Array Value},SR Γ H w sl tmps->vs.length=Vs.length->(∀ j (h:j<vs.length),∃ U,Vs[j]? = some U/\VP Γ (A1 H) w (vs[j]) U)->(∀ v∈vs,v.nms=[])->
  SR Γ H w (Ez sl ts vs) ((ts.zip Vs).foldl (λt (p:Nat × Value)=>t.setIfInBounds p.1 p.2) tmps)
 | [],vs,Vs,sl,tmps,h,_,_,_=>by cases vs<;>exact h
 | t::ts,[],[],sl,tmps,h,_,_,_=>h
 | t::ts,[],_::_,_,_,_,hl,_,_=>by simp at hl
 | t::ts,_::_,[],_,_,_,hl,_,_=>by simp at hl
 | t::ts,v::vs,V::Vs,sl,tmps,h,hl,hc,hn=>by
  have h0:VP Γ (A1 H) w v V:=by
   obtain ⟨U,e,k⟩:=hc 0 (by simp)
   simp only [List.getElem?_cons_zero,Option.some.injEq] at e
   subst e
   exact k
  have h1:=h.put (ds:=[]) ({ op:=.move (.const undef),dst:=some t,guard:=none,type:=0,after:=#[],pos:=default }:Oper) h0 (by rw [hn v (by simp)];simp)
  have h2:SR Γ H w (sl.set t v) (tmps.setIfInBounds t V):=h1
  exact Nd ts vs Vs h2 (by simpa using hl) (λj hj=>by
   obtain ⟨U,e,k⟩:=hc (j+1) (by simpa using hj)
   exact ⟨U,by simpa using e,by simpa using k⟩) (λv hv=>hn v (by simp [hv]))
theorem Ao5 (o:Out):((Y6 o).map jmp).isNone=(Y6 o).isNone:=by cases o<;>rfl
theorem Bn7 {Γ0:Ctx} {H0:List Blk} {w0:World} {Φ0:Nat->Prop} {sl0:List PV} {l Dv fn:Nat} {D:Option Nat} {ps:Array Tmp} {aq body:Code} (hI:HI I) (hyv0:Γ0.yv=yv) (has:WP C I cl yh yv aq) (hbd:WP C I cl yh yv body)
  (hfix:∀ c∈B3 sl0,c<H0.length/\Cb C (A1 H0 c)) :
  OE C.P (RI C I Γ0 H0 w0 Φ0 sl0 tmps l D (Ec fn tmps ps aq body Dv)) (Ed ps sl0 (λst k=>B0 C cl yh aq st k) (λst k=>B0 C cl yh body st k)) (.func (.yield l) #[] #[]):=by
 intro args x b x' hyx hsv Γ Φ w Vs ⟨Γb,Φb,r⟩ hlt hc
 obtain ⟨H,pend,s1⟩:=x
 unfold Ed at hyx
 cases pend with
 | some o=>simp at hyx
 | none=>
 dsimp only at hyx
 split at hyx
 case isFalse=>cases hyx
 rename_i hps
 have hrun:(do let d <-Deferred.ofValue (.func (.yield l) #[] #[]) Vs;invoke d.target d.args:Sem Next).run C.P w=(Instr.yield l Vs).run C.P w:=by simp [Deferred.ofValue,invoke]
 have hsz:Vs.size=(Ec fn tmps ps aq body Dv .ready none).params.size:=by rw [hc.1,hps];rfl
 have hdr:=r.hd
 have hlr:w.heap[l]? = some (.loop (Ec fn tmps ps aq body Dv .ready none)):=r.hl
 intro ro n o a next Q hnext
 rw [hrun,run_yield hlr hsz,Oper.uponIn_round]
 refine ⟨λh=>(by simp [C1,Fence.wide] at h),roundIn_of_wpIn trivial ?_⟩
 have inΦ:∀ {g},Φb g\/(∃ b,Γb.nm b=some g)\/g=l\/D=some g->Φ g:=fun {g} h=>(r.ph g).2 h
 have notSt:∀ {g},Φ g->¬ Γ.St g:=fun {g} h=>(r.ft g h).2
 let ΓB:Ctx:={ Γb with St:=Γ.St }
 have SB:SI C I ΓB Φb { sl:=sl0,hp:=H,s:=s1 } tmps w:=r.si.wideSt hI r.st (λg hg hp=>notSt (inΦ (.inl hp)) hg) (λb g hg hs=>notSt (inΦ (.inr (.inl ⟨b,hg⟩))) hs) hlt
 have hargs:=CJ (Γ:=Γ) (Γ':=ΓB) (sh:=λ_=>none) (sh':=A1 H) (w:=w) (λ_ h=>h) hsv
 have hSR:=Nd ps.toList args Vs.toList SB.sr (by rw [Array.length_toList];exact hc.1.symm) (λj hj=>by
  obtain ⟨U,e,k⟩:=hc.2 j hj
  exact ⟨U,by simpa using e,(hargs _ (List.getElem_mem hj)).2 U k⟩) (λv hv=>(hargs v hv).1)
 have hfold:(ps.zip Vs).foldl (λtmps (t,a)=>tmps.setIfInBounds t a) tmps=(ps.toList.zip Vs.toList).foldl (λt (p:Nat × Value)=>t.setIfInBounds p.1 p.2) tmps:=by
  rw [<-Array.foldl_toList,Array.toList_zip]
 have SA:SI C I ΓB Φb { sl:=Ez sl0 ps.toList args,hp:=H,s:=s1 } ((ps.zip Vs).foldl (λtmps (t,a)=>tmps.setIfInBounds t a) tmps) w:=⟨SB.hr,by rw [hfold];exact hSR,SB.g,SB.inv,SB.dis⟩
 have hyvB:ΓB.yv=yv:=r.pg.yv.trans hyv0
 have olB:Off ΓB Φb w l:=⟨r.ol.1,notSt (inΦ (.inr (.inr (.inl rfl)))),r.ol.2.2⟩
 have odB:∀ d,D=some d->Off ΓB Φb w d:=λd h=>⟨(r.od d h).1,notSt (inΦ (.inr (.inr (.inr h)))),(r.od d h).2.2⟩
 have hfW:=hI.foot _ _ _ _ SA.inv
 refine has (n0:=0) (a:={ tmps:=(ps.zip Vs).foldl (λtmps (t,a)=>tmps.setIfInBounds t a) tmps,defers:=[] }) hyvB hyx SA (Mk.nil (Nat.zero_le _)) (λl' e=>by cases e;exact ⟨olB,_,hlr⟩) ?_
 intro o1 st1 a1 w1 Γ1 Φ1 h1 hs1 S1 hm1
 cases o1 with
 | exit id=>cases h1
 | ret=>cases h1
 | normal=>
 dsimp only at h1
 obtain ⟨ol1,el1⟩:=olB.step hs1
 have od1:∀ d,D=some d->Off Γ1 Φ1 w1 d/\w1.heap[d]? = w.heap[d]?:=λd h=>(odB d h).step hs1
 have hl1:w1.heap[l]? = some (.loop (Ec fn tmps ps aq body Dv .ready none)):=el1.trans hlr
 show ∃ w₂,(Instr.beginRound l).run C.P w1 = .ok () w₂/\body.wpIn (C1 (some l)) (n-1) C.P (roundPost C.P l _) a1 w₂
 refine ⟨_,run_beginRound hl1 rfl,?_⟩
 have O1:Ky Γ1 Φ1 w1 (w1.putObj l (.loop { Ec fn tmps ps aq body Dv .ready none with state:=.busy })):=Ky.put ol1
 have S2:=S1.offW hI O1
 refine hbd (hs1.yv.trans hyvB) h1 S2 (hm1.put hl1) (λl' e=>by cases e;exact ⟨ol1.put,_,World.putObj_heap_same ol1.1⟩) ?_
 intro o2 st2 a2 w3 Γ2 Φ2 h2 hs2 S3 _
 simp only [Option.some.injEq,Prod.mk.injEq] at h2
 obtain ⟨rfl,rfl⟩:=h2
 obtain ⟨ol3,el3⟩:=(Off.put (ob:=.loop { Ec fn tmps ps aq body Dv .ready none with state:=.busy }) (l:=l) ol1).step hs2
 have od3:∀ d,D=some d->Off Γ2 Φ2 w3 d/\w3.heap[d]? = (w1.putObj l (.loop { Ec fn tmps ps aq body Dv .ready none with state:=.busy })).heap[d]?:=λd h=>(Off.put (ob:=.loop { Ec fn tmps ps aq body Dv .ready none with state:=.busy }) (l:=l) (od1 d h).1).step hs2
 have hl3:w3.heap[l]? = some (.loop { Ec fn tmps ps aq body Dv .ready none with state:=.busy }):=el3.trans (World.putObj_heap_same ol1.1)
 have hend:=run_endRound (P:=C.P) ((Y6 o2).map jmp) hl3
 have hDl:∀ d,D=some d->d≠l:=λd h e=>by
  have:=hdr d h
  rw [e,hlr] at this
  cases this
 obtain ⟨w4,hw4⟩:∃ w4,w3.putObj l (.loop { { Ec fn tmps ps aq body Dv .ready none with state:=.busy } with state:=if ((Y6 o2).map jmp).isNone then .ready else .done,pending:=(Y6 o2).map jmp })=w4:=⟨_,rfl⟩
 rw [hw4] at hend
 have O3:Ky Γ2 Φ2 w3 w4:=by rw [<-hw4];exact Ky.put ol3
 have ol4:Off Γ2 Φ2 w4 l:=by rw [<-hw4];exact ol3.put
 have od4:∀ d,D=some d->Off Γ2 Φ2 w4 d:=λd h=>by rw [<-hw4];exact (od3 d h).1.put
 have S4:=S3.offW hI O3
 have hlen:H.length<=st2.hp.length:=Nat.le_trans hs1.len hs2.len
 obtain ⟨Γ3,S5,t1,t2,t3,t4,t5,t6⟩:=At9 hI S4 hlen
 have ets:(P5 H.length st2).s=st2.s:=by unfold P5;split<;>rfl
 have PgR:Pg C ΓB H w Φb Γ2 st2.hp w4 Φ2:=hs1.pg.trans ((Pg.off S1.hr O1).trans (hs2.pg.trans (Pg.off S3.hr O3)))
 have P1:Pg C Γ0 H0 w0 Φ0 Γ2 st2.hp w4 Φ2:=r.pg.trans ((Pg.wideSt r.si.hr r.st).trans PgR)
 have hst1:=hs1.st SA.hr (λg hg=>(hfW g hg).2)
 have hst2:=hs2.st S2.hr (λg hg=>(hI.foot _ _ _ _ S2.inv g hg).2)
 have hstA:∀ g,ΓB.St g->w4.heap[g]? = w.heap[g]?:=λg hg=>by
  have q1:=hs1.sub g hg
  have q2:=hs2.sub g q1
  rw [O3.same g (.inl q2),hst2 g q1,O1.same g (.inl q1),hst1 g hg]
 have hL0:=r.pg.len
 have hkeep:∀ c,c<H0.length/\Cb C (A1 H0 c)->Γ3.nm c = ΓB.nm c/\A1 (P5 H.length st2).hp c=A1 H c/\∀ g,ΓB.nm c=some g->w4.shape? g=w.shape? g:=λc ⟨hc1,hc2⟩=>by
  obtain ⟨_,k2,_⟩:=r.pg.keep c hc1 hc2
  have hcH:c<H.length:=Nat.lt_of_lt_of_le hc1 hL0
  obtain ⟨m1,m2,m3⟩:=PgR.keep c hcH (by rw [k2];exact hc2)
  obtain ⟨n1,n2⟩:=t5 c hcH
  exact ⟨n1.trans m1,n2.trans m2,m3⟩
 have M:P7 ΓB (A1 H) w Γ3 (A1 (P5 H.length st2).hp) w4 (λc=>c<H0.length/\Cb C (A1 H0 c)):=
  ⟨hstA,λg hg=>t1 g (PgR.sub g hg),λb hb=>(hkeep b hb).1,λb hb=>(hkeep b hb).2.1,λb g hb hg=>(hkeep b hb).2.2 g hg,t4.trans PgR.yv⟩
 have SF:SI C I Γ3 Φ2 { sl:=sl0,hp:=(P5 H.length st2).hp,s:=st2.s } tmps w4:=
  ⟨S5.hr,SB.sr.mono M (λc hc=>⟨hfix c hc,Nat.lt_of_lt_of_le (hfix c hc).1 (Nat.le_trans hL0 t6)⟩),S5.g,by have:=S5.inv;rw [ets] at this;exact this,S5.dis⟩
 have PF:Pg C Γ0 H0 w0 Φ0 Γ3 (P5 H.length st2).hp w4 Φ2:=⟨P1.os,P1.tape,P1.output,P1.size,λg hg=>t1 g (P1.sub g hg),λb g hb=>P1.own b g (t3 b g hb),P1.foot,t4.trans P1.yv,Nat.le_trans hL0 t6,λb hb hf=>by
  obtain ⟨k1,k2,k3⟩:=P1.keep b hb hf
  obtain ⟨n1,n2⟩:=t5 b (Nat.lt_of_lt_of_le hb hL0)
  exact ⟨n1.trans k1,n2.trans k2,k3⟩⟩
 have offT:∀ {g},Off Γ2 Φ2 w4 g->Off Γ3 Φ2 w4 g:=fun {g} h=>⟨h.1,λq=>by
  rcases t2 g q with q | ⟨b,_,q⟩
  ·exact h.2.1 q
  ·exact h.2.2.1 b q,λb q=>h.2.2.1 b (t3 b g q),h.2.2.2⟩
 have hl4:w4.heap[l]? = some (.loop (Ec fn tmps ps aq body Dv (A89 (Y6 o2)) ((Y6 o2).map jmp))):=by
  rw [<-hw4,World.putObj_heap_same ol3.1]
  cases o2<;>rfl
 have hd4:∀ d,D=some d->w4.heap[d]? = some (.deferred (some [])):=λd h=>by
  rw [<-hw4,World.putObj_heap_other (hDl d h),(od3 d h).2,World.putObj_heap_other (hDl d h),(od1 d h).2]
  exact hdr d h
 have hf5:=hI.foot _ _ _ _ SF.inv
 have RB:RIb C I Γ0 H0 w0 Φ0 sl0 tmps l D (Ec fn tmps ps aq body Dv) ((P5 H.length st2).hp,Y6 o2,st2.s) Γ3.St (λg=>Φ2 g\/(∃ b,Γ3.nm b=some g)\/g=l\/D=some g) w4 Γ3 Φ2:=by
  refine ⟨SF,PF,λ_ h=>h,λ_=>Iff.rfl,λg hg=>?_,offT ol4,λd h=>offT (od4 d h),hl4,hd4⟩
  rcases hg with q | ⟨b,q⟩ | rfl | q
  ·exact hf5 g q
  ·have:=SF.hr.lt b g q
   exact ⟨this.2.1,this.2.2⟩
  ·exact ⟨ol4.1,(offT ol4).2.1⟩
  ·exact ⟨(od4 g q).1,(offT (od4 g q)).2.1⟩
 have hs1sz:=hs1.size
 have e2:∀ {g},(w1.putObj l (.loop { Ec fn tmps ps aq body Dv .ready none with state:=.busy })).heap.size<=g->w.heap.size<=g:=fun {g} q=>Nat.le_trans (Nat.le_trans hs1sz O1.size) q
 have e3:∀ {g},g<w.heap.size->g<(w1.putObj l (.loop { Ec fn tmps ps aq body Dv .ready none with state:=.busy })).heap.size:=fun {g} q=>Nat.lt_of_lt_of_le q (Nat.le_trans hs1sz O1.size)
 have fin:next (a.put o.dst (.bool ((Y6 o2).map jmp).isNone)) w4:=by
  refine hnext _ _ ⟨by rw [Ao5],Γ3.St,_,⟨Γ3,Φ2,RB⟩,λg hg=>t1 g (PgR.sub g hg),λg hg=>?_,λg hg=>?_,λg hg hp=>?_,PgR.size,PgR.os,PgR.tape,PgR.output,SF.hr.stlt⟩
  ·have st2c:Γ2.St g->Γ.St g\/w.heap.size<=g:=λq=>by
    rcases hs2.stnew g q with q | q
    ·exact hs1.stnew g q
    ·exact .inr (e2 q)
   rcases t2 g hg with q | ⟨b,hb,q⟩
   ·exact st2c q
   ·rcases hs2.own b g q with ⟨_,q⟩ | q
    ·rcases hs1.own b g q with ⟨q',_⟩ | q
     ·simp only at q';omega
     ·exact .inr q
    ·exact .inr (e2 q)
  ·rcases hg with q | ⟨b,q⟩ | rfl | q
   ·rcases PgR.foot g q with q | q
    ·exact .inl (inΦ (.inl q))
    ·exact .inr q
   ·rcases PgR.own b g (t3 b g q) with ⟨_,q⟩ | q
    ·exact .inl (inΦ (.inr (.inl ⟨b,q⟩)))
    ·exact .inr q
   ·exact .inl (inΦ (.inr (.inr (.inl rfl))))
   ·exact .inl (inΦ (.inr (.inr (.inr q))))
  ·have hgl:g≠l:=λe=>hp (inΦ (.inr (.inr (.inl e))))
   have n1:∀ b,ΓB.nm b≠some g:=λb q=>hp (inΦ (.inr (.inl ⟨b,q⟩)))
   have p1:¬ Φb g:=λq=>hp (inΦ (.inl q))
   have n2:∀ b,Γ1.nm b≠some g:=λb q=>by
    rcases hs1.own b g q with ⟨_,q⟩ | q
    ·exact n1 b q
    ·omega
   have p2:¬ Φ1 g:=λq=>by
    rcases hs1.foot g q with q | q
    ·exact p1 q
    ·omega
   rw [<-hw4,World.putObj_heap_other hgl,hs2.frame g (e3 hg) n2 p2,World.putObj_heap_other hgl,hs1.frame g hg n1 p1]
 cases o2 with
 | normal=>exact ⟨_,_,hend,fin⟩
 | exit id=>exact ⟨_,_,hend,fin⟩
 | ret=>exact ⟨_,_,hend,fin⟩
end
section
variable {σ R S : Type} (C : Cfg) (g : R -> Option S)
theorem B7 (c:Bool) (k:Option R):(need c k).bind g=need c (k.bind g):=by cases c<;>rfl
theorem B5 (b:Bool) (k:Bool->Option R):(Ai b k).bind g=Ai b λt=>(k t).bind g:=by cases b<;>rfl
theorem C2 (b:Bool) (x y:Option R):(cond b x y).bind g=cond b (x.bind g) (y.bind g):=by cases b<;>rfl
theorem D5 (p:Prop) [Decidable p] (x y:Option R):(if p then x else y).bind g=if p then x.bind g else y.bind g:=by split<;>rfl
theorem B8:∀ (t:Tr) (k:PV->List Blk->Option R),(An t k).bind g=An t λv H=>(k v H).bind g
 | .ret v H,k=>rfl
 | .need c t,k=>by cases c;rfl;exact B8 t k
 | .split c a b,k=>by cases c;exact B8 b k;exact B8 a k
 | .fail,_=>rfl
theorem Zs (op:BinOp) (t:Nat) (x y:PV) (H:List Blk) (k:PV->Option R):(XO C op t x y H k).bind g=XO C op t x y H λv=>(k v).bind g:=by unfold XO;((try dsimp only);(repeat' (first | rfl | split | (simp only [B7,B5,C2,D5,B8,Option.bind_none,Option.bind_some]))))
theorem NB (op:UnOp) (x:PV) (k:PV->Option R):(unK op x k).bind g=unK op x λv=>(k v).bind g:=by unfold unK;((try dsimp only);(repeat' (first | rfl | split | (simp only [B7,B5,C2,D5,B8,Option.bind_none,Option.bind_some]))))
theorem Wl (t:TI) (a:PV) (H:List Blk) (k:PV->Option R):(Jg t a H k).bind g=Jg t a H λv=>(k v).bind g:=by unfold Jg;((try dsimp only);(repeat' (first | rfl | split | (simp only [B7,B5,C2,D5,B8,Option.bind_none,Option.bind_some]))))
theorem Sc (f:Nat->Nat × Nat) (t:TI) (a v:PV) (H:List Blk) (k:List Blk->Option R):(Kv f t a v H k).bind g=Kv f t a v H λv=>(k v).bind g:=by unfold Kv;((try dsimp only);(repeat' (first | rfl | split | (simp only [B7,B5,C2,D5,B8,Option.bind_none,Option.bind_some]))))
theorem Gg (t:Nat) (x i:PV) (H:List Blk) (k:PV->Option R):(X6 C t x i H k).bind g=X6 C t x i H λv=>(k v).bind g:=by unfold X6;((try dsimp only);(repeat' (first | rfl | split | (simp only [B7,B5,C2,D5,B8,Option.bind_none,Option.bind_some]))))
theorem Rd (t:Nat) (x i:PV) (k:PV->Option R):(Ps C t x i k).bind g=Ps C t x i λv=>(k v).bind g:=by unfold Ps;((try dsimp only);(repeat' (first | rfl | split | (simp only [B7,B5,C2,D5,B8,Option.bind_none,Option.bind_some]))))
theorem MM (t:Nat) (x:PV) (lo hi mx:Option PV) (H:List Blk) (k:PV->Option R):(Ql C t x lo hi mx H k).bind g=Ql C t x lo hi mx H λv=>(k v).bind g:=by unfold Ql;((try dsimp only);(repeat' (first | rfl | split | (simp only [B7,B5,C2,D5,B8,Option.bind_none,Option.bind_some]))))
theorem Xr (b n:Nat) (lo hi mx:Option PV) (k:PV->Option R):(Bk b n lo hi mx k).bind g=Bk b n lo hi mx λv=>(k v).bind g:=by unfold Bk;((try dsimp only);(repeat' (first | rfl | split | (simp only [B7,B5,C2,D5,B8,Option.bind_none,Option.bind_some]))))
theorem EY (t:Nat) (sl:List PV) (s x:PV) (H:List Blk) (k:PV->List PV->List Blk->Option R):(Aq C t sl s x H k).bind g=Aq C t sl s x H λv a b=>(k v a b).bind g:=by unfold Aq;((try dsimp only);(repeat' (first | rfl | split | (simp only [B7,B5,C2,D5,B8,Option.bind_none,Option.bind_some]))))
theorem QL (t:Nat) (d x:PV) (H:List Blk) (k:PV->List Blk->Option R):(AR C t d x H k).bind g=AR C t d x H λv a=>(k v a).bind g:=by unfold AR;((try dsimp only);(repeat' (first | rfl | split | (simp only [B7,B5,C2,D5,B8,Option.bind_none,Option.bind_some]))))
theorem QK (src dst:Nat) (x:PV) (H:List Blk) (k:PV->Option R):(AQ C src dst x H k).bind g=AQ C src dst x H λv=>(k v).bind g:=by unfold AQ;((try dsimp only);(repeat' (first | rfl | split | (simp only [B7,B5,C2,D5,B8,Option.bind_none,Option.bind_some]))))
theorem JO (src dst:Nat) (x:PV) (k:PV->Option R):(Ov C src dst x k).bind g=Ov C src dst x λv=>(k v).bind g:=by unfold Ov;((try dsimp only);(repeat' (first | rfl | split | (simp only [B7,B5,C2,D5,B8,Option.bind_none,Option.bind_some]))))
theorem ZG (x:PV) (t:Nat) (H:List Blk) (k:PV->Option R):(ZF C x t H k).bind g=ZF C x t H λv=>(k v).bind g:=by unfold ZF;((try dsimp only);(repeat' (first | rfl | split | (simp only [B7,B5,C2,D5,B8,Option.bind_none,Option.bind_some]))))
theorem Qs (t:Nat) (parts:List (Nat × PV)) (k:PV->Option R):(Ou C t parts k).bind g=Ou C t parts λv=>(k v).bind g:=by unfold Ou;((try dsimp only);(repeat' (first | rfl | split | (simp only [B7,B5,C2,D5,B8,Option.bind_none,Option.bind_some]))))
theorem Ek (t len:Nat) (parts:List (Nat × PV)) (H:List Blk) (k:PV->List Blk->Option R):(T0 C t len parts H k).bind g=T0 C t len parts H λv a=>(k v a).bind g:=by unfold T0;((try dsimp only);(repeat' (first | rfl | split | (simp only [B7,B5,C2,D5,B8,Option.bind_none,Option.bind_some]))))
theorem Gj (t:Nat) (l c:PV) (H:List Blk) (k:PV->List Blk->Option R):(Y0 C t l c H k).bind g=Y0 C t l c H λv a=>(k v a).bind g:=by unfold Y0;((try dsimp only);(repeat' (first | rfl | split | (simp only [B7,B5,C2,D5,B8,Option.bind_none,Option.bind_some]))))
theorem Mn (mx:Bool) (l:List PV) (k:PV->Option R):(Fx mx l k).bind g=Fx mx l λv=>(k v).bind g:=by unfold Fx;((try dsimp only);(repeat' (first | rfl | split | (simp only [B7,B5,C2,D5,B8,Option.bind_none,Option.bind_some]))))
theorem Gf (t:Nat) (x:PV) (f:Nat) (k:PV->Option R):(X3 C t x f k).bind g=X3 C t x f λv=>(k v).bind g:=by unfold X3;((try dsimp only);(repeat' (first | rfl | split | (simp only [B7,B5,C2,D5,B8,Option.bind_none,Option.bind_some]))))
theorem Rc (t:Nat) (x:PV) (f:Nat) (k:PV->Option R):(Pm C t x f k).bind g=Pm C t x f λv=>(k v).bind g:=by unfold Pm;((try dsimp only);(repeat' (first | rfl | split | (simp only [B7,B5,C2,D5,B8,Option.bind_none,Option.bind_some]))))
theorem Si (t len:Nat) (parts:List (Nat × PV)) (k:PV->Option R):(M6 C t len parts k).bind g=M6 C t len parts λv=>(k v).bind g:=by unfold M6;((try dsimp only);(repeat' (first | rfl | split | (simp only [B7,B5,C2,D5,B8,Option.bind_none,Option.bind_some]))))
theorem Yt (t:Nat) (H:List Blk) (k:PV->List Blk->Option R):(Ew C t H k).bind g=Ew C t H λv a=>(k v a).bind g:=by unfold Ew;((try dsimp only);(repeat' (first | rfl | split | (simp only [B7,B5,C2,D5,B8,Option.bind_none,Option.bind_some]))))
theorem GY (t:Nat) (x i:PV) (ok:Bool) (H:List Blk) (k:PV->Option R):(Im C t x i ok H k).bind g=Im C t x i ok H λv=>(k v).bind g:=by
 unfold Im
 repeat' (first | rfl | split | (rw [B7];done) | (rw [B5];congr 1;funext b;rw [C2,B7];done))
theorem HD (t:Nat) (m x v:PV) (H:List Blk) (k:List Blk->Option R):(Ip C t m x v H k).bind g=Ip C t m x v H λa=>(k a).bind g:=by unfold Ip;((try dsimp only);(repeat' (first | rfl | split | (simp only [B7,B5,C2,D5,B8,Option.bind_none,Option.bind_some]))))
theorem HB (t:Nat) (m x:PV) (H:List Blk) (k:List Blk->Option R):(Io C t m x H k).bind g=Io C t m x H λa=>(k a).bind g:=by unfold Io;((try dsimp only);(repeat' (first | rfl | split | (simp only [B7,B5,C2,D5,B8,Option.bind_none,Option.bind_some]))))
theorem JT (t:Nat) (x:PV) (H:List Blk) (k:List Blk->Option R):(Pf C t x H k).bind g=Pf C t x H λa=>(k a).bind g:=by unfold Pf;((try dsimp only);(repeat' (first | rfl | split | (simp only [B7,B5,C2,D5,B8,Option.bind_none,Option.bind_some]))))
theorem Ym (b:Builtin) (ts:List Nat) (args:List PV) (st:St σ) (k:PV->St σ->Option R):(Z6 C b ts args st k).bind g=Z6 C b ts args st λv s=>(k v s).bind g:=by
 unfold Z6
 split
 ·rw [ZG]
 ·split
  ·rw [EY]
  ·rfl
 ·rw [QL]
 ·rw [Mn]
 ·rw [Mn]
 ·rw [JT]
 ·rw [HB]
 ·rfl
theorem Ot (e:Nat) (cells:List PV) (H:List Blk) (k:PV->List Blk->Option R):(Oq C e cells H k).bind g=Oq C e cells H λv a=>(k v a).bind g:=by unfold Oq;((try dsimp only);(repeat' (first | rfl | split | (simp only [B7,B5,C2,D5,B8,Option.bind_none,Option.bind_some]))))
theorem Vg (cl:D0) (yh:Yh σ) (f:Nat) (args:List PV) (st:St σ) (k:PV->St σ->Option R):(Lg C cl yh f args st k).bind g=Lg C cl yh f args st λv s=>(k v s).bind g:=by
 unfold Lg
 split
 ·split
  ·rw [B8]
   congr 1;funext v H;rw [B7]
  ·rfl
 ·((try dsimp only);(repeat' (first | rfl | split | (simp only [B7,B5,C2,D5,B8,Option.bind_none,Option.bind_some]))))
theorem Aw1 (x:Option (Bool × σ)) (k:Bool->σ->Option R):(ydK x k).bind g=ydK x λb s=>(k b s).bind g:=by unfold ydK;((try dsimp only);(repeat' (first | rfl | split | (simp only [B7,B5,C2,D5,B8,Option.bind_none,Option.bind_some]))))
theorem PL (cl:D0) (yh:Yh σ) (f:PV) (args:List PV) (st:St σ) (k:PV->St σ->Option R):(Qv C cl yh f args st k).bind g=Qv C cl yh f args st λv s=>(k v s).bind g:=by
 unfold Qv
 split
 ·rw [Vg]
 ·rw [Vg]
 ·split
  ·rw [Aw1]
  ·rfl
 ·rfl
theorem LX (cl:D0) (yh:Yh σ) (o:Oper) (st:St σ) (k:St σ->Option R):(opK C cl yh o st k).bind g=opK C cl yh o st λs=>(k s).bind g:=by
 unfold opK
 dsimp only
 split<;>(first | rfl | (simp only [Ot,Qs,Ek,Wl,Sc,Zs,NB,Gj,Gf,Rc,Gg,Rd,Yt,GY,HD,C2,Si];done) | skip)
 all_goals ((try dsimp only);(repeat' (first | rfl | split | (simp only [B7,B5,C2,D5,B8,Option.bind_none,Option.bind_some]))))
 all_goals (first | rfl | skip)
 all_goals (simp only [Ym,PL,Ot,Qs,Ek,Wl,Sc,Zs,NB,Gj,Gf,Rc,Gg,Rd,JO,QK,MM,Xr,B7,B5])
theorem Y4 (cl:D0) (yh:Yh σ) (all:Array Oper):∀ (l:List Oper) (st:St σ) (k:St σ->Option R),(Y3 C cl yh all l st k).bind g=Y3 C cl yh all l st λs=>(k s).bind g
 | [],st,k=>rfl
 | o::rest,st,k=>by
  simp only [Y3]
  have ih:=Y4 cl yh all rest
  split
  ·rw [LX];congr 1;funext s;exact ih s k
  ·split
   ·split
    ·rw [B5];congr 1;funext b
     split
     ·rw [LX];congr 1;funext s;exact ih s k
     ·exact ih _ k
    ·exact ih _ k
    ·rfl
   ·rfl
theorem CD (o:Oper) (sl:List PV) (k:Trn->Option R):(MJ C o sl k).bind g=MJ C o sl λv=>(k v).bind g:=by
 unfold MJ
 repeat' (first | rfl | split | rw [B7])
theorem Yb (d:Option Nat) (t:Trn) (st:St σ) (k:St σ->Option R):(Fd C d t st k).bind g=Fd C d t st λs=>(k s).bind g:=by
 unfold Fd
 split
 ·rfl
 ·exact Ot C g _ _ _ _
theorem Wx (cl:D0) (yh:Yh σ) (all:Array Oper) (fd:List Nat × List Nat) (H0:List Blk):∀ (p:Bool) (l:List Nat) (st:St σ) (k:St σ->Option R),(Mt C cl yh all fd H0 p l st k).bind g=Mt C cl yh all fd H0 p l st λs=>(k s).bind g
 | _,[],st,k=>rfl
 | p,i::rest,st,k=>by
  simp only [Mt]
  rw [B7,Y4]
  congr 2;funext s
  exact Wx cl yh all fd H0 _ rest _ k
theorem Y2 (cl:D0) (yh:Yh σ) (all:Array Oper) (fd:Option (List Nat × List Nat)) (H0:List Blk) (p:Bool) (l:List Nat) (st:St σ) (k:St σ->Option R):(Am C cl yh all fd H0 p l st k).bind g=Am C cl yh all fd H0 p l st λs=>(k s).bind g:=by
 cases fd with
 | none=>exact Y4 C g cl yh all _ st k
 | some f=>exact Wx C g cl yh all f H0 p l st k
theorem Wz (cl:D0) (yh:Yh σ) (all:Array Oper) (fd:Option (List Nat × List Nat)) (H0:List Blk) (d:Option Nat):∀ (l:List Nat) (st:St σ) (k:St σ->Option R),(Gk C cl yh all fd H0 d l st k).bind g=Gk C cl yh all fd H0 d l st λs=>(k s).bind g
 | [],st,k=>rfl
 | i::rest,st,k=>by
  simp only [Gk]
  rw [Y2]
  congr 1;funext s
  exact Wz cl yh all fd H0 d rest _ k
theorem Xz (ops:Array Oper) (sl:List PV):∀ (fl:List Nat) (k:List (Nat × Option Nat × Trn)->Option R),(Sd C ops sl fl k).bind g=Sd C ops sl fl λts=>(k ts).bind g
 | [],k=>rfl
 | f::r,k=>by
  simp only [Sd]
  split
  ·rw [CD];congr 1;funext t
   exact Xz ops sl r _
  ·rfl
theorem Kq (cl:D0) (yh:Yh σ) (all:Array Oper) (fd:Option (List Nat × List Nat)) (H0:List Blk) (ts:List (Nat × Option Nat × Trn)):∀ (l:List Nat) (st:St σ) (k:St σ->Option R),(Jj C cl yh all fd H0 ts l st k).bind g=Jj C cl yh all fd H0 ts l st λs=>(k s).bind g
 | [],st,k=>rfl
 | i::rest,st,k=>by
  simp only [Jj]
  split
  ·rw [Yb];congr 1;funext s
   exact Kq cl yh all fd H0 ts rest _ k
  ·rw [Y2];congr 1;funext s
   exact Kq cl yh all fd H0 ts rest _ k
theorem ZI (o1 o2:Oper) (sl:List PV) (k:PV->Option R):(ZH C o1 o2 sl k).bind g=ZH C o1 o2 sl λv=>(k v).bind g:=by
 unfold ZH
 split
 ·rw [B7]
  unfold M6
  split
  ·dsimp only
   split
   ·split
    ·split
     ·rw [B7]
     ·rfl
    ·rfl
   ·rfl
  ·rfl
 ·rfl
theorem Ab4 (cl:D0) (yh:Yh σ) (ops:Array Oper) (st:St σ) (k:St σ->Option R):∀ l:List Oper,(UC C cl yh ops st k l).bind g=UC C cl yh ops st (λs=>(k s).bind g) l
 | []=>Y4 C g cl yh ops _ st k
 | [o]=>Y4 C g cl yh ops _ st k
 | o1::o2::rest=>by
  simp only [UC]
  cases LE C o1 o2 with
  | true=>
   simp only [cond_true]
   rw [ZI];congr 1;funext v
   exact Y4 C g cl yh ops rest _ k
  | false=>exact Y4 C g cl yh ops _ st k
theorem Ab5 (cl:D0) (yh:Yh σ) (id:Nat) (ops:Array Oper) (d:Bool) (st:St σ) (k:St σ->Option R):(UD C cl yh id ops d st k).bind g=UD C cl yh id ops d st λs=>(k s).bind g:=by
 unfold UD
 split
 ·split
  ·split
   ·exact Y2 C g cl yh ops _ _ _ _ st k
   ·rw [Y2];congr 1;funext s
    rw [Xz];congr 1;funext ts
    exact Kq C g cl yh ops _ _ ts _ _ k
  ·exact Ab4 C g cl yh ops st k _
 ·split
  ·rw [Y2];congr 1;funext s
   rw [CD];congr 1;funext v
   rw [Wz];congr 1;funext s2
   rw [Yb];congr 1;funext s3
   exact Y2 C g cl yh ops _ _ _ _ _ k
  ·rfl
theorem Wn (L:Nat) (ds:Option (List Nat)) (body:St σ->(Out->St σ->Option R)->Option R) (body':St σ->(Out->St σ->Option S)->Option S) (hb:∀ st k,(body st k).bind g=body' st λo s=>(k o s).bind g):∀ (n:Nat) (st:St σ) (k:Out->St σ->Option R),(H4 L ds body n st k).bind g=H4 L ds body' n st λo s=>(k o s).bind g
 | 0,st,k=>rfl
 | n+1,st,k=>by
  simp only [H4]
  rw [hb]
  congr 1;funext o s
  cases o with
  | normal=>exact Wn L ds body body' hb n _ k
  | exit id=>rfl
  | ret=>rfl
theorem Nb {ps:Array Tmp} {sl0:List PV} {aq bd:St σ->(Out->St σ->Option R)->Option R} {as' bd':St σ->(Out->St σ->Option S)->Option S} (ha:∀ st k,(aq st k).bind g=as' st λo s=>(k o s).bind g) (hb:∀ st k,(bd st k).bind g=bd' st λo s=>(k o s).bind g) :
  ∀ (L:List (List PV)) (H:List Blk) (s:σ) (k:Option Out->List Blk->σ->Option R),(L5 ps sl0 aq bd L H s k).bind g=L5 ps sl0 as' bd' L H s λp H s=>(k p H s).bind g
 | [],H,s,k=>rfl
 | x::xs,H,s,k=>by
  simp only [L5]
  split
  ·rw [ha]
   congr 1;funext o st1
   cases o with
   | normal=>
    dsimp only
    rw [hb]
    congr 1;funext o2 st2
    cases o2 with
    | normal=>exact Nb ha hb xs _ _ k
    | exit id=>rfl
    | ret=>rfl
   | exit id=>rfl
   | ret=>rfl
  ·rfl
theorem MH (cl:D0) (f:PV) (st:St σ) (yR:List PV->Yh (List Blk × Option Out × σ)) {sR:List PV->List (List PV)->List Blk->σ->(Option Out->List Blk->σ->Option R)->Option R} {sR':List PV->List (List PV)->List Blk->σ->(Option Out->List Blk->σ->Option S)->Option S}
  (hs:∀ sl0 L H s k,(sR sl0 L H s k).bind g=sR' sl0 L H s λp H s=>(k p H s).bind g) (k:Out->St σ->Option R):(Ks C cl f st yR sR k).bind g=Ks C cl f st yR sR' λo s=>(k o s).bind g:=by
 unfold Ks
 split
 ·split
  ·unfold UB
   split
   ·split
    ·rw [B7,hs];rfl
    ·rfl
   ·rfl
  ·unfold Na;((try dsimp only);(repeat' (first | rfl | split | (simp only [B7,B5,C2,D5,B8,Option.bind_none,Option.bind_some]))))
 ·rfl
end
theorem Ra {σ:Type} (C:Cfg) (cl:D0) (yh:Yh σ):∀ (c:Code) {R S:Type} (g:R->Option S) (st:St σ) (k:Out->St σ->Option R),(B0 C cl yh c st k).bind g=B0 C cl yh c st λo s=>(k o s).bind g:=by
 intro c
 induction c with
 | skip=>intros;rfl
 | label l=>intros;rfl
 | region id ops d=>intro R S g st k;simp only [B0];rw [Ab5]
 | seq a b iha ihb=>
  intro R S g st k
  simp only [B0]
  rw [iha]
  congr 1;funext o s
  cases o with
  | normal=>exact ihb g s k
  | exit id=>rfl
  | ret=>rfl
 | cond c a b iha ihb=>
  intro R S g st k
  simp only [B0]
  split
  ·rw [B5];congr 1;funext t
   rw [C2,iha,ihb]
  ·rfl
 | block id a ih=>
  intro R S g st k
  simp only [B0]
  rw [ih]
  congr 1;funext o s
  cases o with
  | normal=>rfl
  | exit j=>dsimp only;split<;>rfl
  | ret=>rfl
 | loop a ih=>
  intro R S g st k
  simp only [B0]
  exact Wn g _ _ _ _ (λst k=>ih g st k) _ _ _
 | scope a ih=>intro R S g st k;simp only [B0];rw [ih]
 | exit id=>intros;rfl
 | ret=>intros;rfl
 | rangeFunc f ps a b iha ihb=>
  intro R S g st k
  simp only [B0]
  exact MH C g cl (opnd C st.sl f) st _ (sR:=λsl0=>L5 ps sl0 (λst k=>B0 C cl yh a st k) (λst k=>B0 C cl yh b st k)) (sR':=λsl0=>L5 ps sl0 (λst k=>B0 C cl yh a st k) (λst k=>B0 C cl yh b st k))
   (λsl0 L H s k=>Nb (ps:=ps) (sl0:=sl0) g (aq:=λst k=>B0 C cl yh a st k) (bd:=λst k=>B0 C cl yh b st k) (as':=λst k=>B0 C cl yh a st k) (bd':=λst k=>B0 C cl yh b st k) (λst k=>iha g st k) (λst k=>ihb g st k) L H s k) k
 | _=>intros;rfl
theorem Vr {σ R:Type} {C:Cfg} {cl:D0} {yh:Yh σ} {c:Code} {st:St σ} {k:Out->St σ->Option R} {r:R} (h:B0 C cl yh c st k=some r):∃ o s,B0 C cl yh c st (λo s=>some (o,s))=some (o,s)/\k o s=some r:=by
 have:=Ra C cl yh c (λp:Out × St σ=>k p.1 p.2) st (λo s=>some (o,s))
 simp only [Option.bind_some] at this
 rw [<-this] at h
 cases he:B0 C cl yh c st (λo s=>some (o,s)) with
 | none=>rw [he] at h;cases h
 | some p=>rw [he] at h;exact ⟨p.1,p.2,rfl,h⟩
theorem AV {σ R:Type} {C:Cfg} {cl:D0} {yh:Yh σ} {c:Code} {st:St σ} {k:Out->St σ->Option R} {o:Out} {s:St σ} (h:B0 C cl yh c st (λo s=>some (o,s))=some (o,s)):B0 C cl yh c st k=k o s:=by
 have:=Ra C cl yh c (λp:Out × St σ=>k p.1 p.2) st (λo s=>some (o,s))
 rw [h] at this
 exact this.symm
def Ctx.hide (Γ:Ctx) (ns:List Nat):Ctx:={ Γ with nm:=λb=>if b∈ns then none else Γ.nm b }
def Ctx.reyv (Γ:Ctx) (y:Value) (hy:y.oneCell'=true):Ctx:={ Γ with yv:=y,yv1:=hy }
section
variable {σ R : Type} {r : R} {C : Cfg} {I : σ -> (Nat -> Prop) -> (Nat -> Prop) -> World -> Prop} {Γ Γ' : Ctx} {Φ Φ' : Nat -> Prop} {st : St σ} {a : Act} {w w' : World} {cl : D0} {yh : Yh σ} {yv : Value} {H H' : List Blk} {tmps : Array Value}
theorem Dp:∀ {l:List PV},yfL l=true->∀ v∈l,v.yf=true
 | [],_,v,hv=>by simp at hv
 | x::r,h,v,hv=>by
  simp only [yfL,Bool.and_eq_true] at h
  rcases List.mem_cons.1 hv with rfl | hv
  ·exact h.1
  ·exact Dp h.2 v hv
theorem VP.reyv {sh:Nat->Option Shp} {y:Value} {hy:y.oneCell'=true} {v:PV} {V:Value} (h:VP Γ sh w v V):v.yf=true->VP (Γ.reyv y hy) sh w v V:=by
 induction h with
 | s v V h=>intro _;exact .s v V h
 | nsl=>intro _;exact .nsl
 | flv b e sz h=>intro _;exact .flv b e sz h
 | fl b g v e sz n cap h hv hg hcap hm hs=>intro _;exact .fl b g v e sz n cap h hv hg hcap hm hs
 | vwv b e sz i h=>intro _;exact .vwv b e sz i h
 | vw b i n g a cap v e sz m h hv hg ha hi hcap hm=>intro _;exact .vw b i n g a cap v e sz m h hv hg ha hi hcap hm
 | ptrA b i off g v e sz n h hg=>intro _;exact .ptrA b i off g v e sz n h hg
 | ptrB b off g h hg=>intro _;exact .ptrB b off g h hg
 | fnr g x y A B As Bs hf hA hB ha hb hx hy ihx ihy=>
  intro hc
  simp only [PV.yf,Bool.and_eq_true] at hc
  exact .fnr g x y A B As Bs hf hA hB ha hb (λj h=>ihx j h (Dp hc.1 _ (List.getElem_mem h))) (λj h=>ihy j h (Dp hc.2 _ (List.getElem_mem h)))
 | it b g h hg=>intro _;exact .it b g h hg
 | mpv b g h hg=>intro _;exact .mpv b g h hg
 | yd=>intro h;simp [PV.yf] at h
 | agg l A As hA ha hl ih=>
  intro hc
  simp only [PV.yf] at hc
  exact .agg l A As hA ha (λj h=>ih j h (Dp hc _ (List.getElem_mem h)))
 | tup l A As hA ha hl ih=>
  intro hc
  simp only [PV.yf] at hc
  exact .tup l A As hA ha (λj h=>ih j h (Dp hc _ (List.getElem_mem h)))
 | bad V=>intro _;exact .bad V
mutual
theorem PV.yf_rn (f:Nat->Nat):∀ v:PV,(v.rn f).yf=v.yf
 | .s _=>rfl
 | .nsl=>rfl
 | .fl b=>rfl
 | .vw b _ _=>rfl
 | .ptr b _ _=>rfl
 | .fnr _ x y=>by simp only [PV.rn,PV.yf,Kw f x,Kw f y]
 | .it b=>rfl
 | .yd=>rfl
 | .agg l=>by simp only [PV.rn,PV.yf,Kw f l]
 | .tup l=>by simp only [PV.rn,PV.yf,Kw f l]
 | .bad=>rfl
theorem Kw (f:Nat->Nat):∀ l:List PV,yfL (rnL f l)=yfL l
 | []=>rfl
 | v::r=>by simp only [rnL,yfL,PV.yf_rn f v,Kw f r]
end
theorem As1 (f:PV->PV) (l:List (List UInt8 × PV)):(Yw f l).map Prod.snd=(l.map Prod.snd).map f:=by simp [Yw]
theorem Blk.yf_rn (f:Nat->Nat) (x:Blk):(x.rn f).yf=x.yf:=(by cases x with | mp ents=>simp only [Blk.rn,Blk.yf,As1,<-Ga,Kw] | _=>simp [Blk.rn,Blk.yf,Kw])
theorem Bj0 (a:Bool) (l:List SV):(svV a l).yf=true:=by
 cases a with
 | true=>
  simp only [svV,cond_true,PV.yf]
  induction l with
  | nil=>rfl
  | cons x l ih=>exact ih
 | false=>simp only [svV,cond_false];split<;>rfl
theorem BR.reyv {sh:Nat->Option Shp} {b:Nat} {x:Blk} {y:Value} {hy:y.oneCell'=true} (h:BR Γ sh w b x) (hx:x.yf=true):BR (Γ.reyv y hy) sh w b x:=by
 cases x with
 | arr v e sz els=>exact h
 | box cells=>
  simp only [Blk.yf] at hx
  obtain ⟨g,cur,e,h1,h2,h3,h4⟩:=h
  refine ⟨g,cur,e,h1,h2,h3,λj h=>?_⟩
  obtain ⟨V,e1,e2⟩:=h4 j h
  exact ⟨V,e1,e2.reyv (Dp hx _ (List.getElem_mem h))⟩
 | iter s p=>exact h
 | mp ents=>
  simp only [Blk.yf] at hx
  obtain ⟨g,es,ck,h1,h2,h3⟩:=h
  exact ⟨g,es,ck,h1,h2,h3.imp λv hv V k=>k.reyv (Dp hx v hv)⟩
 | ms a ents=>
  obtain ⟨g,es,ck,h1,h2,h3⟩:=h
  refine ⟨g,es,ck,h1,h2,h3.imp λv hv V k=>k.reyv ?_⟩
  obtain ⟨e,he,rfl⟩:=Tm hv
  exact Bj0 a _
 | dead=>exact h
theorem HR.reyv {y:Value} {hy:y.oneCell'=true} (h:HR Γ H w) (hx:∀ b (h:b<H.length),(H[b]).yf=true):HR (Γ.reyv y hy) H w:=
 ⟨h.inj,h.lt,h.stlt,h.nms,λb hb=>(h.blk b hb).reyv (hx b hb)⟩
theorem Wo:∀ (H:List Blk) (n:Nat),∀ b (h:b<H.length),(n+b)∈T6 C H n\/Z9 C H[b]=true
 | [],n,b,h=>by simp at h
 | x::r,n,0,_=>by
  cases hf:Z9 C x with
  | true=>exact .inr hf
  | false=>exact .inl (by simp [T6,hf])
 | x::r,n,b+1,h=>by
  have:=Wo r (n+1) b (by simpa using h)
  rw [show n+1+b=n+(b+1) by omega] at this
  rcases this with q | q
  ·refine .inl ?_
   simp only [T6]
   cases Z9 C x with
   | true=>exact q
   | false=>exact List.mem_cons_of_mem _ q
  ·exact .inr (by simpa using q)
theorem BA {ns:List Nat} (hsh:∀ b,b∉ns->A1 H' b=A1 H b):P7 Γ (A1 H) w (Γ.hide ns) (A1 H') w (·∉ns):=
 ⟨λ_ _=>rfl,λ_ h=>h,λb hb=>by simp only [Ctx.hide];rw [if_neg hb],hsh,λ_ _ _ _=>rfl,rfl⟩
theorem A03 {ns:List Nat} (hH:HR Γ H w) (hnd:ns.Nodup) (hlt:∀ b∈ns,b<H.length):(G7 ns H).length=H.length/\(∀ b,b∉ns->A1 (G7 ns H) b=A1 H b)/\(∀ b,b∈ns->A1 (G7 ns H) b=some .dead)/\HR (Γ.hide ns) (G7 ns H) w:=by
 obtain ⟨kb1,kb2,kb3⟩:=Hg (Γ:=Γ) (sh:=A1 H) (w:=w) ns H
 obtain ⟨sa1,sa2⟩:=Di ns (List.replicate ns.length .dead) (J7 ns H) hnd (by simp) (λb hb=>by rw [kb1];exact hlt b hb)
 have hl:(G7 ns H).length=H.length:=by rw [G7,sa1,kb1]
 have hout:∀ b,b∉ns->(G7 ns H)[b]? = (J7 ns H)[b]?:=λb hb=>by rw [G7,sa2,if_neg hb]
 have hin:∀ b,b∈ns->(G7 ns H)[b]? = some .dead:=λb hb=>by
  rw [G7,sa2,if_pos hb,List.getElem?_replicate,if_pos (List.idxOf_lt_length_of_mem hb)]
 have hsh:∀ b,b∉ns->A1 (G7 ns H) b=A1 H b:=λb hb=>by
  rw [<-kb2 b];simp only [A1,hout b hb]
 have M:=BA (Γ:=Γ) (H:=H) (w:=w) hsh
 have hnm:∀ b g,(Γ.hide ns).nm b=some g->b∉ns/\Γ.nm b=some g:=λb g h=>by
  simp only [Ctx.hide] at h
  split at h
  ·cases h
  ·exact ⟨‹_›,h⟩
 refine ⟨hl,hsh,λb hb=>by simp only [A1,hin b hb];rfl,⟨λb b' g h1 h2=>hH.inj b b' g (hnm b g h1).2 (hnm b' g h2).2,λb g h=>?_,hH.stlt,λb hb c hc=>?_,λb hb=>?_⟩⟩
 ·obtain ⟨q1,q2,q3⟩:=hH.lt b g (hnm b g h).2
  exact ⟨by rw [hl];exact q1,q2,q3⟩
 ·rw [hl] at hb ⊢
  by_cases h:b∈ns
  ·have:=hin b h
   rw [List.getElem?_eq_getElem (by rw [hl];exact hb)] at this
   simp only [Option.some.injEq] at this
   rw [this] at hc;simp [Blk.nms] at hc
  ·have e:=hout b h
   rw [List.getElem?_eq_getElem (by rw [hl];exact hb),List.getElem?_eq_getElem (by rw [kb1];exact hb)] at e
   simp only [Option.some.injEq] at e
   rw [e] at hc
   exact hH.nms b hb c ((kb3 b (by rw [kb1];exact hb) hb).1 c hc).2
 ·rw [hl] at hb
  by_cases h:b∈ns
  ·have:=hin b h
   rw [List.getElem?_eq_getElem (by rw [hl];exact hb)] at this
   simp only [Option.some.injEq] at this
   rw [this];trivial
  ·have e:=hout b h
   rw [List.getElem?_eq_getElem (by rw [hl];exact hb),List.getElem?_eq_getElem (by rw [kb1];exact hb)] at e
   simp only [Option.some.injEq] at e
   rw [e]
   obtain ⟨q1,q2⟩:=kb3 b (by rw [kb1];exact hb) hb
   exact (q2 b (hH.blk b hb)).mono M (M.nm b h) (λ_ _=>rfl) (λc hc=>(q1 c hc).1)
theorem Hz {ob:Obj} {g:Nat} (h:g<w.heap.size):(w.alloc ob).heap[g]? = w.heap[g]?:=by
 show (w.heap.push ob)[g]? = w.heap[g]?
 rw [Array.getElem?_push]
 rw [if_neg (by omega)]
theorem Jl {v:PV} {V:Value} {sh:Nat->Option Shp} {f:Nat} {first caps:List PV} (h:Iy v=some (f,first,caps)) (hv:VP Γ sh w v V):∃ A B,V = .func (.func f) A B/\CR Γ sh w first A/\CR Γ sh w caps B/\∀ c∈B3 (first++caps),c∈v.nms:=by
 have hs:∀ (l:List SV),B3 (l.map PV.s)=[]:=λl=>by
  rw [List.eq_nil_iff_forall_not_mem]
  intro c hc
  obtain ⟨j,hj,hc⟩:=A8.1 hc
  simp [PV.nms] at hc
 unfold Iy at h
 split at h
 ·simp only [Option.some.injEq,Prod.mk.injEq] at h
  obtain ⟨rfl,rfl,rfl⟩:=h
  obtain ⟨A,B,rfl,hA,hB⟩:=hv.inv_fn'
  exact ⟨A,B,rfl,hA,hB,λc hc=>by rw [H6,hs,hs] at hc;simp at hc⟩
 ·simp only [Option.some.injEq,Prod.mk.injEq] at h
  obtain ⟨rfl,rfl,rfl⟩:=h
  obtain ⟨A,B,rfl,hA,hB⟩:=hv.inv_fnr'
  exact ⟨A,B,rfl,hA,hB,λc hc=>by rw [H6] at hc;simpa [PV.nms] using hc⟩
 ·cases h
theorem VP.ndead {sh:Nat->Option Shp} {v:PV} {V:Value} (h:VP Γ sh w v V):∀ c∈v.nms,sh c≠some .dead:=by
 induction h with
 | s v V h=>intro c hc;simp [PV.nms] at hc
 | nsl=>intro c hc;simp [PV.nms] at hc
 | flv b e sz h=>intro c hc;simp [PV.nms] at hc;subst hc;rw [h];simp
 | fl b g v e sz n cap h hv hg hcap hm hs=>intro c hc;simp [PV.nms] at hc;subst hc;rw [h];simp
 | vwv b e sz i h=>intro c hc;simp [PV.nms] at hc;subst hc;rw [h];simp
 | vw b i n g a cap v e sz m h hv hg ha hi hcap hm=>intro c hc;simp [PV.nms] at hc;subst hc;rw [h];simp
 | ptrA b i off g v e sz n h hg=>intro c hc;simp [PV.nms] at hc;subst hc;rw [h];simp
 | ptrB b off g h hg=>intro c hc;simp [PV.nms] at hc;subst hc;rw [h];simp
 | fnr g x y A B As Bs hf hA hB ha hb hx hy ihx ihy=>
  intro c hc
  simp only [PV.nms,List.mem_append] at hc
  rcases hc with hc | hc
  ·obtain ⟨j,hj,hc⟩:=A8.1 hc;exact ihx j hj c hc
  ·obtain ⟨j,hj,hc⟩:=A8.1 hc;exact ihy j hj c hc
 | it b g h hg=>intro c hc;simp [PV.nms] at hc;subst hc;rw [h];simp
 | mpv b g h hg=>intro c hc;simp [PV.nms] at hc;subst hc;rw [h];simp
 | yd=>intro c hc;simp [PV.nms] at hc
 | agg l A As hA ha hl ih=>intro c hc;simp only [PV.nms] at hc;obtain ⟨j,hj,hc⟩:=A8.1 hc;exact ih j hj c hc
 | tup l A As hA ha hl ih=>intro c hc;simp only [PV.nms] at hc;obtain ⟨j,hj,hc⟩:=A8.1 hc;exact ih j hj c hc
 | bad V=>intro c hc;simp [PV.nms] at hc
theorem BR.ndead {sh:Nat->Option Shp} {b:Nat} {x:Blk} (h:BR Γ sh w b x):∀ c∈x.nms,sh c≠some .dead:=by
 cases x with
 | box cells=>
  intro c hc
  simp only [Blk.nms] at hc
  obtain ⟨j,hj,hc⟩:=A8.1 hc
  obtain ⟨g,cur,e,h1,h2,h3,h4⟩:=h
  obtain ⟨V,_,e2⟩:=h4 j hj
  exact e2.ndead c hc
 | arr v e sz els=>intro c hc;simp [Blk.nms] at hc
 | iter s p=>intro c hc;simp [Blk.nms] at hc
 | mp ents=>
  intro c hc
  simp only [Blk.nms] at hc
  obtain ⟨j,hj,hc⟩:=A8.1 hc
  obtain ⟨g,es,ck,h1,h2,h3⟩:=h
  exact h3.vals _ (List.getElem_mem hj) (λV k=>k.ndead c hc)
 | ms a ents=>intro c hc;simp [Blk.nms] at hc
 | dead=>intro c hc;simp [Blk.nms] at hc
theorem Xg {ro:Option Nat} {n n0:Nat} {g:Operand} {ps:Array Tmp} {aq body:Code} {k:Out->St σ->Option R} {Q:Exit->Act->World->Prop} {cl2:D0} {f:Nat} {first caps:List PV} {ns:List Nat} (A:Ask C I cl yh yv) (hC2:U2 C cl2) (hyv:Γ.yv=yv) (has:WP C I cl yh yv aq) (hbd:WP C I cl yh yv body)
  (hra:Iy (opnd C st.sl g)=some (f,first,caps)) (hnd:ns.Nodup) (hsub:∀ c∈B3 (first++caps),c∈ns) (hlt:∀ b∈ns,b<st.hp.length)
  (h:Na C cl2 f first caps ns st (λsl0=>Ed ps sl0 (λst k=>B0 C cl yh aq st k) (λst k=>B0 C cl yh body st k)) k=some r) (S:SI C I Γ Φ st a.tmps w) (hM:Mk n0 Γ Φ w a.defers) (hR:Ro ro Γ Φ w) (hP:Aw6 C I n0 Γ Φ st.hp w k r Q) :
  (Code.rangeFunc g ps aq body).wpIn (C1 ro) n C.P Q a w:=by
 have hv:=(S.opnd g).1
 have hvn:=(S.opnd g).2
 obtain ⟨FA,FB,hFV,hcA,hcB,hnf⟩:=Jl hra hv
 unfold Na at h
 split at h
 case isFalse=>cases h
 rename_i hcond
 simp only [Bool.and_eq_true,List.all_eq_true] at hcond
 obtain ⟨⟨⟨hcl,hyf⟩,hyb⟩,hent⟩:=hcond
 split at h
 case h_2=>cases h
 rename_i ret Hc H1 pend s' hcall
 refine wpIn_rangeFunc (λfn _=>?_)
 have ent:∃ (W1:World) (l Dv:Nat) (D:Option Nat),(Instr.enterLoop fn a.tmps ps aq body ro).run C.P w = .ok (l,D.toList.map mkD) W1/\w.heap.size<=l/\l<W1.heap.size/\w.heap.size<=W1.heap.size/\(∀ g,g<w.heap.size->W1.heap[g]? = w.heap[g]?)/\
   W1.heap[l]? = some (.loop (Ec fn a.tmps ps aq body Dv .ready none))/\(∀ d,D=some d->w.heap.size<=d/\d<W1.heap.size/\d≠l/\W1.heap[d]? = some (.deferred (some [])))/\W1.os=w.os/\W1.tape=w.tape/\W1.output=w.output:=by
  cases ro with
  | none=>
   refine ⟨(w.alloc (.deferred (some []))).alloc (.loop (Ec fn a.tmps ps aq body w.heap.size .ready none)),w.heap.size+1,w.heap.size,some w.heap.size,run_enterLoop_outer _ _ _ _ _,by omega,by simp,by simp;omega,λg hg=>?_,?_,λd hd=>?_,rfl,rfl,rfl⟩
   ·rw [Hz (by simp;omega),Hz hg]
   ·have:=World.alloc_heap_new (w.alloc (.deferred (some []))) (.loop (Ec fn a.tmps ps aq body w.heap.size .ready none));rwa [World.size_alloc] at this
   ·simp only [Option.some.injEq] at hd
    subst hd
    exact ⟨Nat.le_refl _,by simp;omega,by omega,by rw [Hz (by simp)];exact World.alloc_heap_new w _⟩
  | some l0=>
   obtain ⟨_,r0,hr0⟩:=hR l0 rfl
   exact ⟨w.alloc (.loop (Ec fn a.tmps ps aq body r0.defers .ready none)),w.heap.size,r0.defers,none,run_enterLoop_inner hr0 _ _ _ _ _,Nat.le_refl _,by simp,by simp,λg hg=>Hz hg,World.alloc_heap_new w _,λd hd=>(by cases hd),rfl,rfl,rfl⟩
 obtain ⟨W1,lw,Dv,D,henter,hlw,hlW,hszW,hold,hlr,hD,ho⟩:=ent
 obtain ⟨S1,hs1⟩:=S.wide A.hI (St':=Γ.St) hold hszW (λ_ h=>h) (λ_ h=>.inl h) (λg hg=>by have:=S.hr.stlt g hg;omega) ho.1 ho.2.1 ho.2.2
 have S1:SI C I Γ Φ st a.tmps W1:=S1
 have hf0:=A.hI.foot _ _ _ _ S.inv
 have offN:∀ {g},w.heap.size<=g->g<W1.heap.size->Off Γ Φ W1 g:=fun {g} h1 h2=>⟨h2,λq=>by have:=S.hr.stlt g q;omega,λb q=>by have:=(S.hr.lt b g q).2.1;omega,λq=>by have:=(hf0 g q).1;omega⟩
 have olW:Off Γ Φ W1 lw:=offN hlw hlW
 have odW:∀ d,D=some d->Off Γ Φ W1 d:=λd h=>offN (hD d h).1 (hD d h).2.1
 obtain ⟨dl,dsh,dsd,dHR⟩:=A03 S1.hr hnd hlt
 have hkL:=Ft (Γ:=Γ) (sh:=A1 st.hp) (w:=W1) (ns++T6 C st.hp 0) st.sl
 have hideM:=BA (Γ:=Γ) (H:=st.hp) (H':=G7 ns st.hp) (w:=W1) dsh
 have hslN:∀ c∈B3 (F7 (ns++T6 C st.hp 0) st.sl),c∉ns/\c<st.hp.length/\Z9 C (st.hp.getD c .dead)=true:=λc hc=>by
  obtain ⟨q1,q2⟩:=hkL.2.1 c hc
  have q3:=S.sr.nms c q2
  simp only [List.mem_append,not_or] at q1
  refine ⟨q1.1,q3,?_⟩
  have e:st.hp.getD c .dead=st.hp[c]:=by rw [List.getD_eq_getElem?_getD,List.getElem?_eq_getElem q3];rfl
  rw [e]
  rcases Wo (C:=C) st.hp 0 c q3 with q | q
  ·rw [Nat.zero_add] at q;exact absurd q q1.2
  ·exact q
 have hSR0:SR (Γ.hide ns) (G7 ns st.hp) W1 (F7 (ns++T6 C st.hp 0) st.sl) a.tmps:=by
  have h0:SR Γ st.hp W1 (F7 (ns++T6 C st.hp 0) st.sl) a.tmps:=⟨by rw [hkL.1];exact S1.sr.size,λc hc=>(hslN c hc).2.1,λi hi=>by
   have hi':i<st.sl.length:=by rw [<-hkL.1];exact hi
   obtain ⟨V,e1,e2⟩:=S1.sr.slot i hi'
   exact ⟨V,e1,hkL.2.2 i hi hi' V e2⟩⟩
  exact h0.mono hideM (λc hc=>⟨(hslN c hc).1,by rw [dl];exact (hslN c hc).2.1⟩)
 have hideN:∀ {b g},(Γ.hide ns).nm b=some g->b∉ns/\Γ.nm b=some g:=fun {b g} h=>by
  simp only [Ctx.hide] at h
  split at h
  ·cases h
  ·exact ⟨‹_›,h⟩
 have SS:SI C I (Γ.hide ns) Φ { sl:=F7 (ns++T6 C st.hp 0) st.sl,hp:=G7 ns st.hp,s:=st.s } a.tmps W1:=⟨dHR,hSR0,S1.g,S1.inv,λb g hb=>S1.dis b g (hideN hb).2⟩
 have hfix:∀ c∈B3 (F7 (ns++T6 C st.hp 0) st.sl),c<(G7 ns st.hp).length/\Cb C (A1 (G7 ns st.hp) c):=λc hc=>by
  obtain ⟨q1,q2,q3⟩:=hslN c hc
  exact ⟨by rw [dl];exact q2,by rw [dsh c q1];exact (Vv q2).1 q3⟩
 have offH:∀ {g},Off Γ Φ W1 g->Off (Γ.hide ns) Φ W1 g:=fun {g} h=>⟨h.1,h.2.1,λb q=>h.2.2.1 b (hideN q).2,h.2.2.2⟩
 let Φc:Nat->Prop:=λg=>Φ g\/(∃ b,(Γ.hide ns).nm b=some g)\/g=lw\/D=some g
 have RI0:RI C I (Γ.hide ns) (G7 ns st.hp) W1 Φ (F7 (ns++T6 C st.hp 0) st.sl) a.tmps lw D (Ec fn a.tmps ps aq body Dv) (G7 ns st.hp,none,st.s) Γ.St Φc W1:=by
  refine ⟨Γ.hide ns,Φ,SS,Stp.pg (Stp.refl dHR),λ_ h=>h,λ_=>Iff.rfl,λg hg=>?_,offH olW,λd h=>offH (odW d h),hlr,λd h=>(hD d h).2.2.2⟩
  rcases hg with q | ⟨b,q⟩ | q | q
  ·have:=A.hI.foot _ _ _ _ S1.inv g q;exact this
  ·have:=dHR.lt b g q;exact ⟨this.2.1,this.2.2⟩
  ·rw [q];exact ⟨olW.1,olW.2.1⟩
  ·exact ⟨(odW g q).1,(odW g q).2.1⟩
 have hHc:=GW S1.hr hnd hlt hcl
 have hci:=λb (h:b∈ns)=>R7 h
 have hlH:(H9 st.hp ns).length=ns.length:=by simp [H9]
 let y:Value:=.func (.yield lw) #[] #[]
 have hy1:y.oneCell'=true:=rfl
 have hHc':HR ((Γ.lent ns).reyv y hy1) (H9 st.hp ns) W1:=hHc.reyv (λb hb=>by
  have hb':b<ns.length:=by rw [<-hlH];exact hb
  simp only [H9,List.getElem_map,Blk.yf_rn]
  exact hyb _ (List.getElem_mem hb'))
 have rnCR:∀ {l:List PV} {V:Array Value},CR Γ (A1 st.hp) w l V->yfL l=true->(∀ c∈B3 l,c∈ns)->CR ((Γ.lent ns).reyv y hy1) (A1 (H9 st.hp ns)) W1 (rnL (D8 ns) l) V:=fun {l V} hc hy hn=>by
  have hc1:CR Γ (A1 st.hp) W1 l V:=hc.mono (Γ':=Γ) (H':=st.hp) (Qq S.hr hold (λ_ h=>h)) (λ_ _=>trivial)
  rw [Ga]
  refine ⟨by rw [List.length_map];exact hc1.1,λj hj=>?_⟩
  have hj':j<l.length:=by simpa using hj
  obtain ⟨U,e,q⟩:=hc1.2 j hj'
  refine ⟨U,e,?_⟩
  rw [List.getElem_map]
  refine VP.reyv (VP.rn (Γ:=Γ) (Γ':=Γ.lent ns) rfl q (.inr λ_ h=>h) (λc hc=>?_)) (by rw [PV.yf_rn];exact Dp hy _ (List.getElem_mem hj'))
  have hcn:=hn c (A8.2 ⟨j,hj',hc⟩)
  obtain ⟨q1,q2⟩:=hci c hcn
  exact ⟨Il hcn,by rw [Ev hlt q1,q2]⟩
 have yfA:∀ (x z:List PV),yfL (x++z)=(yfL x&&yfL z):=λx z=>by
  induction x with
  | nil=>simp [yfL]
  | cons v x ih=>simp [yfL,ih,Bool.and_assoc]
 rw [yfA,Bool.and_eq_true] at hyf
 have hargs:CR ((Γ.lent ns).reyv y hy1) (A1 (H9 st.hp ns)) W1 (rnL (D8 ns) first++.yd::rnL (D8 ns) caps) (FA++#[y]++FB):=by
  have h1:=rnCR hcA hyf.1 (λc hc=>hsub c (by rw [H6];simp [hc]))
  have h2:=rnCR hcB hyf.2 (λc hc=>hsub c (by rw [H6];simp [hc]))
  have h3:CR ((Γ.lent ns).reyv y hy1) (A1 (H9 st.hp ns)) W1 [.yd] #[y]:=CR.one .yd
  have:=(h1.append h3).append h2
  simpa using this
 have hargn:∀ c∈B3 (rnL (D8 ns) first++.yd::rnL (D8 ns) caps),c<(H9 st.hp ns).length:=λc hc=>by
  have:c∈(B3 (first++caps)).map (D8 ns):=by
   rw [H6] at hc
   simp only [B3,PV.nms,List.nil_append,Av,List.mem_append] at hc
   rw [H6,List.map_append,List.mem_append]
   exact hc
  obtain ⟨d,hd,rfl⟩:=List.mem_map.1 this
  rw [hlH]
  exact (hci d (hsub d hd)).1
 have lentN:∀ {i g},(Γ.lent ns).nm i=some g->∃ hi:i<ns.length,Γ.nm ns[i]=some g:=fun {i g} h=>by
  simp only [Ctx.lent] at h
  cases hi:ns[i]? with
  | none=>rw [hi] at h;simp at h
  | some b=>
   obtain ⟨h1,h2⟩:=List.getElem?_eq_some_iff.1 hi
   rw [hi] at h
   exact ⟨h1,by rw [h2];exact h⟩
 have hcall':=hC2 _ _ _ y (Bn6 A.hI) (Bn7 (fn:=fn) (ps:=ps) (aq:=aq) (body:=body) (l:=lw) (Dv:=Dv) (D:=D) (tmps:=a.tmps) (w0:=W1) (Φ0:=Φ) (Γ0:=Γ.hide ns) A.hI hyv has hbd hfix) f _ _ _ ret Hc _ hcall ((Γ.lent ns).reyv y hy1) Φc W1 (FA++#[y]++FB) rfl hHc' S1.g RI0 (λi g hi=>by
  obtain ⟨hi1,hi2⟩:=lentN hi
  rintro (q | ⟨b,q⟩ | q | q)
  ·exact S1.dis _ g hi2 q
  ·obtain ⟨q1,q2⟩:=hideN q
   have:=S1.hr.inj _ _ g hi2 q2
   exact q1 (this ▸ List.getElem_mem hi1)
  ·exact olW.2.2.1 _ (q ▸ hi2)
  ·exact (odW _ q).2.2.1 _ hi2) hargs hargn
 have hcalls:=Np (ro:=ro) (n:=n) (R4 hent) hcall'
 refine ⟨lw,D.toList.map mkD,W1,{ target:=.fn (.func f) FB,args:=FA++#[y] },W1,f,FA++#[y]++FB,W1,?_,?_,λ_ _=>trivial,?_,λh=>by simp [C1,Fence.wide] at h,hcalls.mono ?_⟩
 ·exact henter
 ·simp [resolve,hFV,Deferred.ofValue]
  rfl
 ·show (callFunc f (FA++#[y]++FB)).run C.P W1=_
  exact R4 hent
 rintro e W2 ⟨V,rfl,Γ1,Φ1,hs,hH1,hvv,hvn1,⟨Γb,Φb,r1⟩,hd1⟩
 have hlr2:=r1.hl
 have hend:=run_endLoop (P:=C.P) hlr2 (by cases pend<;>simp [Ec,A89])
 obtain ⟨w4,hw4⟩:∃ w4,W2.putObj lw (.loop { Ec fn a.tmps ps aq body Dv (A89 pend) (pend.map jmp) with state:=.exhausted })=w4:=⟨_,rfl⟩
 rw [hw4] at hend
 have O:Ky Γb Φb W2 w4:=by rw [<-hw4];exact Ky.put r1.ol
 have hsz4:w4.heap.size=W2.heap.size:=by rw [<-hw4];simp
 have h4:∀ g,g≠lw->w4.heap[g]? = W2.heap[g]?:=λg hg=>by rw [<-hw4];exact World.putObj_heap_other hg
 have inΦ:∀ {g},Φb g\/(∃ b,Γb.nm b=some g)\/g=lw\/D=some g->Φ1 g:=fun {g} h=>(r1.ph g).2 h
 have S5:=(r1.si.offW A.hI O).wideSt A.hI (St':=Γ1.St) r1.st (λg hg hp=>(r1.ft g (inΦ (.inl hp))).2 hg) (λb g hb hg=>(r1.ft g (inΦ (.inr (.inl ⟨b,hb⟩)))).2 hg) (λg hg=>by rw [hsz4];exact hH1.stlt g hg)
 have hl1:st.hp.length<=H1.length:=by have:=r1.pg.len;rw [dl] at this;exact this
 have hH1c:ns.length<=Hc.length:=by have:=hs.len;rw [List.length_map] at this;exact this
 obtain ⟨sb1,sb2⟩:=Di ns (ns.map λb=>cond (Z9 C (st.hp.getD b .dead)) (Cw (Hc.getD (D8 ns b) .dead)) .dead) H1 hnd (by simp) (λb hb=>Nat.lt_of_lt_of_le (hlt b hb) hl1)
 generalize hH2:JL C ns st.hp Hc H1=H2 at h
 have hl2:H2.length=H1.length:=by rw [<-hH2];exact sb1
 have gin:∀ b (hb:b∈ns),H2[b]? = some (cond (Z9 C (st.hp.getD b .dead)) (Cw (Hc.getD (D8 ns b) .dead)) .dead):=λb hb=>by
  rw [<-hH2]
  simp only [JL]
  rw [sb2,if_pos hb,List.getElem?_map]
  have e:ns.idxOf b=D8 ns b:=rfl
  rw [e,List.getElem?_eq_getElem (hci b hb).1,(hci b hb).2]
  rfl
 have gout:∀ b,b∉ns->H2[b]? = H1[b]?:=λb hb=>by
  rw [<-hH2]
  simp only [JL]
  rw [sb2,if_neg hb]
 let Γf:Ctx:={ St:=Γ1.St,nm:=λb=>if b∈ns then (if Z9 C (st.hp.getD b .dead)=true then Γ1.nm (D8 ns b) else none) else Γb.nm b,yv:=Γ.yv,yv1:=Γ.yv1 }
 have fin1:∀ {b},b∈ns->Z9 C (st.hp.getD b .dead)=true->Γf.nm b = Γ1.nm (D8 ns b):=fun {b} h1 h2=>by simp only [Γf];rw [if_pos h1,if_pos h2]
 have fin0:∀ {b},b∈ns->¬ Z9 C (st.hp.getD b .dead)=true->Γf.nm b=none:=fun {b} h1 h2=>by simp only [Γf];rw [if_pos h1,if_neg h2]
 have fout:∀ {b},b∉ns->Γf.nm b = Γb.nm b:=fun {b} h1=>by simp only [Γf];rw [if_neg h1]
 have fcase:∀ {b g},Γf.nm b=some g->(b∈ns/\Γ1.nm (D8 ns b)=some g)\/(b∉ns/\Γb.nm b=some g):=fun {b g} h=>by
  by_cases hb:b∈ns
  ·by_cases hf:Z9 C (st.hp.getD b .dead)=true
   ·rw [fin1 hb hf] at h;exact .inl ⟨hb,h⟩
   ·rw [fin0 hb hf] at h;cases h
  ·rw [fout hb] at h;exact .inr ⟨hb,h⟩
 have hshD:∀ c,c∈ns->A1 H1 c=some .dead:=λc hc=>by
  obtain ⟨_,k2,_⟩:=r1.pg.keep c (by rw [dl];exact hlt c hc) (by rw [dsd c hc];trivial)
  rw [k2];exact dsd c hc
 have hsh2:∀ b,b∉ns->A1 H2 b=A1 H1 b:=λb hb=>by simp only [A1,gout b hb]
 have Mf:P7 { Γb with St:=Γ1.St } (A1 H1) w4 Γf (A1 H2) w4 (·∉ns):=⟨λ_ _=>rfl,λ_ h=>h,λb hb=>fout hb,hsh2,λ_ _ _ _=>rfl,(r1.pg.yv:Γb.yv = Γ.yv).symm⟩
 have hHf:HR Γf H2 w4:=by
  refine ⟨λb b' g h1 h2=>?_,λb g hb=>?_,λg hg=>by rw [hsz4];exact hH1.stlt g hg,λb hb c hc=>?_,λb hb=>?_⟩
  ·rcases fcase h1 with ⟨p1,q1⟩ | ⟨p1,q1⟩<;>rcases fcase h2 with ⟨p2,q2⟩ | ⟨p2,q2⟩
   ·have:=hH1.inj _ _ g q1 q2
    have e1:=(hci b p1).2
    have e2:=(hci b' p2).2
    rw [<-e1,<-e2]
    simp only [this]
   ·exact absurd (inΦ (.inr (.inl ⟨b',q2⟩))) (hd1 _ g q1)
   ·exact absurd (inΦ (.inr (.inl ⟨b,q1⟩))) (hd1 _ g q2)
   ·exact r1.si.hr.inj b b' g q1 q2
  ·rcases fcase hb with ⟨p1,q1⟩ | ⟨p1,q1⟩
   ·have:=hH1.lt _ g q1
    exact ⟨by rw [hl2];exact Nat.lt_of_lt_of_le (hlt b p1) hl1,by rw [hsz4];exact this.2.1,this.2.2⟩
   ·have:=S5.hr.lt b g q1
    exact ⟨by rw [hl2];exact this.1,this.2⟩
  ·by_cases hbn:b∈ns
   ·have e:=gin b hbn
    rw [List.getElem?_eq_getElem hb] at e
    simp only [Option.some.injEq] at e
    rw [e] at hc
    cases hf:Z9 C (st.hp.getD b .dead) with
    | true=>rw [hf,cond_true,Zq] at hc;simp at hc
    | false=>rw [hf] at hc;simp [Blk.nms] at hc
   ·have e:=gout b hbn
    have hb1:b<H1.length:=by rw [<-hl2];exact hb
    rw [List.getElem?_eq_getElem hb,List.getElem?_eq_getElem hb1] at e
    simp only [Option.some.injEq] at e
    rw [e] at hc
    rw [hl2]
    exact S5.hr.nms b hb1 c hc
  ·by_cases hbn:b∈ns
   ·have e:=gin b hbn
    rw [List.getElem?_eq_getElem hb] at e
    simp only [Option.some.injEq] at e
    rw [e]
    cases hf:Z9 C (st.hp.getD b .dead) with
    | true=>
     rw [cond_true]
     have hi:D8 ns b<Hc.length:=Nat.lt_of_lt_of_le (hci b hbn).1 hH1c
     rw [Mb hi]
     refine Aj1 (hH1.blk _ hi) (fin1 hbn hf) (λg hg=>h4 g ?_) (λ_ h=>h) (λg hg=>h4 g ?_)
     ·intro e;rw [e] at hg;exact (r1.ft _ (inΦ (.inr (.inr (.inl rfl))))).2 hg
     ·intro e;rw [e] at hg;exact hd1 _ _ hg (inΦ (.inr (.inr (.inl rfl))))
    | false=>trivial
   ·have e:=gout b hbn
    have hb1:b<H1.length:=by rw [<-hl2];exact hb
    rw [List.getElem?_eq_getElem hb,List.getElem?_eq_getElem hb1] at e
    simp only [Option.some.injEq] at e
    rw [e]
    have hB:=S5.hr.blk b hb1
    exact hB.mono Mf (fout hbn) (λ_ _=>rfl) (λc hc hcn=>hB.ndead c hc (hshD c hcn))
 have hSRf:SR Γf H2 w4 (F7 (ns++T6 C st.hp 0) st.sl) a.tmps:=S5.sr.mono Mf (λc hc=>⟨(hslN c hc).1,by rw [hl2];exact Nat.lt_of_lt_of_le (hslN c hc).2.1 hl1⟩)
 have SF:SI C I Γf Φb { sl:=F7 (ns++T6 C st.hp 0) st.sl,hp:=H2,s:=s' } a.tmps w4:=⟨hHf,hSRf,S5.g,S5.inv,λb g hb=>by
  rcases fcase hb with ⟨_,q1⟩ | ⟨_,q1⟩
  ·exact λq=>hd1 _ g q1 (inΦ (.inl q))
  ·exact S5.dis b g q1⟩
 have hsz2:=hs.size
 have STF:Stp C Γ st.hp w Φ Γf H2 w4 Φb:=by
  refine ⟨O.os.trans (hs.os.trans ho.1),O.tape.trans (hs.tape.trans ho.2.1),O.output.trans (hs.output.trans ho.2.2),by omega,λg hg=>hs.sub g hg,λg hg=>?_,λb g hb=>?_,λg hg=>?_,λg hg hn hp=>?_,rfl,by rw [hl2];exact hl1,λb hb hf=>?_⟩
  ·rcases hs.stnew g hg with q | q
   ·exact .inl q
   ·exact .inr (by omega)
  ·rcases fcase hb with ⟨p1,q1⟩ | ⟨p1,q1⟩
   ·rcases hs.own _ g q1 with ⟨_,q⟩ | q
    ·obtain ⟨i1,i2⟩:=lentN q
     rw [(hci b p1).2] at i2
     exact .inl ⟨hlt b p1,i2⟩
    ·exact .inr (by omega)
   ·rcases r1.pg.own b g q1 with ⟨q,q'⟩ | q
    ·exact .inl ⟨by rw [<-dl];exact q,(hideN q').2⟩
    ·exact .inr (by omega)
  ·rcases r1.pg.foot g hg with q | q
   ·exact .inl q
   ·exact .inr (by omega)
  ·have np:¬ Φc g:=by
    rintro (q | ⟨b,q⟩ | q | q)
    ·exact hp q
    ·exact hn b (hideN q).2
    ·omega
    ·have:=(hD g q).1;omega
   rw [h4 g (by omega),hs.frame g (by omega) (λb q=>by obtain ⟨_,i2⟩:=lentN q;exact hn _ i2) np,hold g hg]
  ·by_cases hbn:b∈ns
   ·have hfb:=(Vv (C:=C) (H:=st.hp) hb).2 hf
    obtain ⟨q1,q2⟩:=hci b hbn
    have hi:D8 ns b<(H9 st.hp ns).length:=by rw [hlH];exact q1
    have hsl:A1 (H9 st.hp ns) (D8 ns b)=A1 st.hp b:=by rw [Ev hlt q1,q2]
    obtain ⟨k1,k2,k3⟩:=hs.keep _ hi (by show Cb C (A1 (H9 st.hp ns) _);rw [hsl];exact hf)
    have k2:A1 Hc (D8 ns b)=A1 (H9 st.hp ns) (D8 ns b):=k2
    have hnmb:((Γ.lent ns).reyv y hy1).nm (D8 ns b) = Γ.nm b:=Il hbn
    refine ⟨(fin1 hbn hfb).trans (k1.trans hnmb),?_,λg hg=>?_⟩
    ·have hi':D8 ns b<Hc.length:=Nat.lt_of_lt_of_le q1 hH1c
     simp only [A1,gin b hbn,hfb,cond_true,Option.map_some,Zr,Mb hi']
     show some (Hc[D8 ns b]).shp=A1 st.hp b
     rw [<-hsl,<-k2]
     simp only [A1,List.getElem?_eq_getElem hi',Option.map_some]
    ·have e1:=k3 g (hnmb.trans hg)
     have hgl:=S.hr.lt b g hg
     rw [C3 (h4 g (by omega)),e1,C3 (hold g hgl.2.1)]
   ·obtain ⟨k1,k2,k3⟩:=r1.pg.keep b (by rw [dl];exact hb) (by rw [dsh b hbn];exact hf)
    have hh:(Γ.hide ns).nm b = Γ.nm b:=by simp only [Ctx.hide];rw [if_neg hbn]
    refine ⟨(fout hbn).trans (k1.trans hh),by rw [hsh2 b hbn,k2,dsh b hbn],λg hg=>?_⟩
    have hgl:=S.hr.lt b g hg
    rw [C3 (h4 g (by omega)),k3 g (hh.trans hg),C3 (hold g hgl.2.1)]
 have hMf:Mk n0 Γf Φb w4 (D.toList.map mkD++a.defers):=by
  obtain ⟨m0,Ds,m1,m2,m3⟩:=hM
  refine ⟨by omega,D.toList++Ds,by rw [m1,List.map_append],?_,λd hd=>?_⟩
  ·cases D with
   | none=>exact m2
   | some d=>exact List.nodup_cons.2 ⟨λhmem=>by have:=(m3 _ hmem).2.1.1;have:=(hD d rfl).1;omega,m2⟩
  ·rcases List.mem_append.1 hd with hd | hd
   ·have e:D=some d:=by
     cases D with
     | none=>simp at hd
     | some d'=>simp at hd;rw [hd]
    refine ⟨Nat.le_trans m0 (hD d e).1,⟨by rw [hsz4];exact (r1.od d e).1,(r1.ft _ (inΦ (.inr (.inr (.inr e))))).2,λb q=>?_,(r1.od d e).2.2.2⟩,by rw [h4 _ (hD d e).2.2.1];exact r1.hd d e⟩
    rcases fcase q with ⟨_,q1⟩ | ⟨_,q1⟩
    ·exact hd1 _ _ q1 (inΦ (.inr (.inr (.inr e))))
    ·exact (r1.od d e).2.2.1 b q1
   ·obtain ⟨k1,k2,k3⟩:=m3 d hd
    obtain ⟨q1,q2⟩:=k2.step STF
    exact ⟨k1,q1,q2.trans k3⟩
 have fin:=hP (pend.getD .normal) { sl:=F7 (ns++T6 C st.hp 0) st.sl,hp:=H2,s:=s' } { a with defers:=D.toList.map mkD++a.defers } w4 Γf Φb h STF SF hMf
 refine ⟨pend.map jmp,w4,hend,?_⟩
 cases pend with
 | none=>exact fin
 | some o=>
  cases o with
  | normal=>exact wpIn_skip fin
  | exit id=>exact wpIn_exit fin
  | ret=>exact wpIn_ret fin
theorem Rw {ps:Array Tmp} {sl0:List PV} {aq body:Code}:∀ (L:List (List PV)) (H:List Blk) (s:σ) {k:Option Out->List Blk->σ->Option R},L5 ps sl0 (λst k=>B0 C cl yh aq st k) (λst k=>B0 C cl yh body st k) L H s k=some r->
  ∃ H' pend s',O0 (Ed ps sl0 (λst k=>B0 C cl yh aq st k) (λst k=>B0 C cl yh body st k)) L (H,none,s)=some (H',pend,s')/\k pend H' s'=some r
 | [],H,s,k,h=>⟨H,none,s,rfl,h⟩
 | x::xs,H,s,k,h=>by
  simp only [L5] at h
  split at h
  case isFalse=>cases h
  rename_i hx
  obtain ⟨o,st1,e1,h1⟩:=Vr h
  cases o with
  | exit id=>cases h1
  | ret=>cases h1
  | normal=>
  obtain ⟨o2,st2,e2,h2⟩:=Vr h1
  have hr:Ed ps sl0 (λst k=>B0 C cl yh aq st k) (λst k=>B0 C cl yh body st k) x (H,none,s)=some ((Y6 o2).isNone,((P5 H.length st2).hp,Y6 o2,st2.s)):=by
   simp only [Ed]
   rw [if_pos hx,AV e1]
   dsimp only
   rw [AV e2]
  cases o2 with
  | normal=>
   obtain ⟨H',pend,s',h3,h4⟩:=Rw xs _ _ h2
   refine ⟨H',pend,s',?_,h4⟩
   simp only [O0,hr]
   exact h3
  | exit id=>exact ⟨_,_,_,by simp only [O0,hr];rfl,h2⟩
  | ret=>exact ⟨_,_,_,by simp only [O0,hr];rfl,h2⟩
theorem Ab2 {ro:Option Nat} {n n0:Nat} {g:Operand} {ps:Array Tmp} {aq body:Code} {k:Out->St σ->Option R} {Q:Exit->Act->World->Prop} (A:Ask C I cl yh yv) (hyv:Γ.yv=yv) (has:WP C I cl yh yv aq) (hbd:WP C I cl yh yv body)
  (h:Ks C cl (opnd C st.sl g) st (λsl0=>Ed ps sl0 (λst k=>B0 C cl yh aq st k) (λst k=>B0 C cl yh body st k)) (λsl0=>L5 ps sl0 (λst k=>B0 C cl yh aq st k) (λst k=>B0 C cl yh body st k)) k=some r) (S:SI C I Γ Φ st a.tmps w) (hM:Mk n0 Γ Φ w a.defers) (hR:Ro ro Γ Φ w) (hP:Aw6 C I n0 Γ Φ st.hp w k r Q) :
  (Code.rangeFunc g ps aq body).wpIn (C1 ro) n C.P Q a w:=by
 have hvn:=(S.opnd g).2
 have hv:=(S.opnd g).1
 unfold Ks at h
 split at h
 case h_2=>cases h
 rename_i f first caps hra
 obtain ⟨FA,FB,hFV,hcA,hcB,hnf⟩:=Jl hra hv
 have hnd:=Rv st.hp (B3 (first++caps))
 have hsub:=CB st.hp (B3 (first++caps))
 have hlt:∀ b∈W8 st.hp (B3 (first++caps)),b<st.hp.length:=CA st.hp (B3 (first++caps)) (· < st.hp.length) (λb hb c hc=>by
  have e:st.hp.getD b .dead=st.hp[b]:=by rw [List.getD_eq_getElem?_getD,List.getElem?_eq_getElem hb];rfl
  rw [e] at hc
  exact S.hr.nms b hb c hc) (λc hc=>hvn c (hnf c hc))
 generalize W8 st.hp (B3 (first++caps))=ns at *
 split at h
 ·rename_i pf hS
  unfold UB at h
  split at h
  case isFalse=>cases h
  rename_i hcond
  rw [Bool.and_eq_true] at hcond
  split at h
  case h_2=>cases h
  rename_i cL L hL
  obtain ⟨rfl,h⟩:=A7 h
  obtain ⟨H',pend,s',h1,h2⟩:=Rw L _ _ h
  refine Xg A A.hX.s hyv has hbd hra hnd hsub hlt ?_ S hM hR hP
  unfold Na
  rw [if_pos hcond.1]
  have hbx:(ns.map λb=>(st.hp.getD b .dead).rn (D8 ns)).all Wd=true:=by
   rw [List.all_map,List.all_eq_true]
   intro b hb
   have:=List.all_eq_true.1 hcond.2 b hb
   simp only [Function.comp]
   generalize st.hp.getD b .dead=x at this
   cases x<;>simp_all [Wd,Blk.rn]
  have e:clS C (List Blk × Option Out × σ) (Ed ps (F7 (ns++T6 C st.hp 0) st.sl) (λst k=>B0 C cl yh aq st k) (λst k=>B0 C cl yh body st k)) f (rnL (D8 ns) first++PV.yd::rnL (D8 ns) caps) (ns.map λb=>(st.hp.getD b .dead).rn (D8 ns)) (G7 ns st.hp,none,st.s)=some (.tup [],(ns.map λb=>(st.hp.getD b .dead).rn (D8 ns)).map Cw,(H',pend,s')):=by
   simp only [clS,hS]
   rw [if_pos hbx,hL]
   simp only [h1]
  rw [e]
  exact h2
 ·exact Xg A A.hC hyv has hbd hra hnd hsub hlt h S hM hR hP
end
section
variable {σ R : Type} {r : R} {C : Cfg} {I : σ -> (Nat -> Prop) -> (Nat -> Prop) -> World -> Prop} {Γ : Ctx} {Φ : Nat -> Prop} {st : St σ} {a : Act} {w : World} {cl : D0} {yh : Yh σ} {yv : Value} {o : Oper} {H : List Blk}
theorem YD (A:Ask C I cl yh yv) (hm:C.P.follows .mixedOrders=true):∀ (c:Code) {ro:Option Nat} {n n0:Nat} {rf:Bool} {R:Type} {r:R} {Γ:Ctx} {Φ:Nat->Prop} {st:St σ} {a:Act} {w:World} {k:Out->St σ->Option R} {Q:Exit->Act->World->Prop},
  M8 C rf c=true->Γ.yv=yv->B0 C cl yh c st k=some r->SI C I Γ Φ st a.tmps w->Mk n0 Γ Φ w a.defers->Ro ro Γ Φ w->Aw6 C I n0 Γ Φ st.hp w k r Q->c.wpIn (C1 ro) n C.P Q a w:=by
 intro c
 induction c with
 | skip=>intro ro n n0 rf R r Γ Φ st a w k Q hok hyv h S hM hR hP;exact wpIn_skip (hP .normal st a w Γ Φ h (Stp.refl S.hr) S hM)
 | label l=>intro ro n n0 rf R r Γ Φ st a w k Q hok hyv h S hM hR hP;exact wpIn_label (hP .normal st a w Γ Φ h (Stp.refl S.hr) S hM)
 | region id ops d=>
  intro ro n n0 rf R r Γ Φ st a w k Q hok hyv h S hM hR hP
  cases d with
  | false=>
   have h:UC C cl yh ops st (λst'=>k .normal (Ma (C.keepR id) st.hp.length st')) ops.toList=some r:=by
    simp only [B0,UD] at h
    split at h
    ·exact h
    ·cases h
   refine wpIn_region_list (A80 A ops.toList hyv h S ?_)
   intro st' a' w' Γ' Φ' h1 h2 h3 h4
   obtain ⟨Γ2,S2,hs2⟩:=Jf A.hI h3 h2 (C.keepR id) (Nat.le_refl _)
   exact hP .normal _ a' w' Γ2 Φ' h1 hs2 S2 (by rw [h4];exact hM.step hs2)
  | true=>
   simp only [M8,Bool.not_true,Bool.false_or] at hok
   refine A81 A hm hok hyv h S ?_
   intro st' a' w' Γ' Φ' h1 h2 h3 h4
   obtain ⟨Γ2,S2,hs2⟩:=Jf A.hI h3 h2 (C.keepR id) (Nat.le_refl _)
   exact hP .normal _ a' w' Γ2 Φ' h1 hs2 S2 (by rw [h4];exact hM.step hs2)
 | seq x y ihx ihy=>
  intro ro n n0 rf R r Γ Φ st a w k Q hok hyv h S hM hR hP
  simp only [M8,Bool.and_eq_true] at hok
  refine wpIn_seq (ihx hok.1 hyv h S hM hR ?_)
  intro o st' a' w' Γ' Φ' h1 h2 h3 h4
  cases o with
  | normal=>exact ihy hok.2 (h2.yv.trans hyv) h1 h3 h4 (hR.step h2) λo2 st2 a2 w2 Γ2 Φ2 k1 k2 k3 k4=>hP o2 st2 a2 w2 Γ2 Φ2 k1 (h2.trans k2) k3 k4
  | exit id=>exact hP (.exit id) st' a' w' Γ' Φ' h1 h2 h3 h4
  | ret=>exact hP .ret st' a' w' Γ' Φ' h1 h2 h3 h4
 | cond c x y ihx ihy=>
  intro ro n n0 rf R r Γ Φ st a w k Q hok hyv h S hM hR hP
  simp only [M8,Bool.and_eq_true] at hok
  simp only [B0] at h
  split at h
  ·rename_i t hc
   have hv:=(S.opnd c).1
   rw [hc] at hv
   have hb:=hv.inv_bool
   cases t with
   | true=>exact wpIn_cond hb (ihx hok.1 hyv h S hM hR hP)
   | false=>exact wpIn_cond hb (ihy hok.2 hyv h S hM hR hP)
  ·cases h
 | block id x ih=>
  intro ro n n0 rf R r Γ Φ st a w k Q hok hyv h S hM hR hP
  refine wpIn_block (ih hok hyv h S hM hR ?_)
  intro o st' a' w' Γ' Φ' h1 h2 h3 h4
  cases o with
  | normal=>exact hP .normal st' a' w' Γ' Φ' h1 h2 h3 h4
  | exit j=>
   simp only [Out.exit',Exit.inBlock]
   dsimp only at h1
   split at h1
   ·rename_i e;rw [if_pos e];exact hP .normal st' a' w' Γ' Φ' h1 h2 h3 h4
   ·rename_i e;rw [if_neg e];exact hP (.exit j) st' a' w' Γ' Φ' h1 h2 h3 h4
  | ret=>exact hP .ret st' a' w' Γ' Φ' h1 h2 h3 h4
 | loop x ih=>
  intro ro n n0 rf R r Γ Φ st a w k Q hok hyv h S hM hR hP
  simp only [B0] at h
  refine UZ (λm a' w'=>∃ st' Γ' Φ',H4 st.hp.length (C.keep (KM x)) (λst k=>B0 C cl yh x st k) m st' k=some r/\Stp C Γ st.hp w Φ Γ' st'.hp w' Φ'/\SI C I Γ' Φ' st' a'.tmps w'/\Mk n0 Γ' Φ' w' a'.defers) C.lf ⟨_,Γ,Φ,h,by rw [Bg];exact Stp.refl S.hr,Bf S _,hM⟩ ?_
  rintro m a1 w1 ⟨st1,Γ1,Φ1,h1,h2,h3,h4⟩
  cases m with
  | zero=>simp [H4] at h1
  | succ m=>
   simp only [H4] at h1
   refine ih hok (h2.yv.trans hyv) h1 h3 h4 (hR.step h2) ?_
   intro o st' a' w' Γ' Φ' k1 k2 k3 k4
   cases o with
   | normal=>
    obtain ⟨Γ2,S2,hs2,hsub⟩:=MZ A.hI k3 (h2.trans k2)
    have hMt:=Mk.sub k4 hsub
    exact ⟨m,Nat.lt_succ_self m,_,Γ2,Φ',k1,by rw [Bg];exact hs2,Bf S2 _,hMt⟩
   | exit j=>exact hP (.exit j) _ a' w' Γ' Φ' k1 (by rw [Bg];exact h2.trans k2) (Bf k3 _) k4
   | ret=>exact hP .ret _ a' w' Γ' Φ' k1 (by rw [Bg];exact h2.trans k2) (Bf k3 _) k4
 | exit id=>intro ro n n0 rf R r Γ Φ st a w k Q hok hyv h S hM hR hP;exact wpIn_exit (hP (.exit id) _ a w Γ Φ h (by rw [Bg];exact Stp.refl S.hr) (Bf S _) hM)
 | ret=>intro ro n n0 rf R r Γ Φ st a w k Q hok hyv h S hM hR hP;exact wpIn_ret (hP .ret _ a w Γ Φ h (by rw [Bg];exact Stp.refl S.hr) (Bf S _) hM)
 | scope x ih=>
  intro ro n n0 rf R r Γ Φ st a w k Q hok hyv h S hM hR hP
  refine NF (ih (Q:=λe a w=>(∀ l,e≠.goto l)/\Q e a w) hok hyv h S hM hR ?_)
  intro o st' a' w' Γ' Φ' h1 h2 h3 h4
  exact ⟨λl=>by cases o<;>simp [Out.exit'],hP o st' a' w' Γ' Φ' h1 h2 h3 h4⟩
 | rangeFunc g ps x y ihx ihy=>
  intro ro n n0 rf R r Γ Φ st a w k Q hok hyv h S hM hR hP
  simp only [M8,Bool.and_eq_true] at hok
  obtain ⟨hx,hy⟩:=hok
  simp only [B0] at h
  exact Ab2 A hyv (fun {R r ro n n0 Γ Φ st a w k Q} h1 h2 h3 h4 h6 h5=>ihx hx h1 h2 h3 h4 h6 h5) (fun {R r ro n n0 Γ Φ st a w k Q} h1 h2 h3 h4 h6 h5=>ihy hy h1 h2 h3 h4 h6 h5) h S hM hR hP
 | _=>intro ro n n0 rf R r Γ Φ st a w k Q hok hyv h S hM hR hP;simp [B0] at h
end
section
variable {σ R : Type} {r : R} {C : Cfg} {I : σ -> (Nat -> Prop) -> (Nat -> Prop) -> World -> Prop} {Γ : Ctx} {Φ : Nat -> Prop} {st : St σ} {a : Act} {w : World} {cl : D0} {yh : Yh σ} {yv : Value} {o : Oper} {H : List Blk}
def Qh (tmps:Array Value):ResultVar->Sem Value
 | .tmp t=>pure (tmps.getD t undef)
 | .cell a t=>do loadVar t (<-asAddr (tmps.getD a undef))
theorem UI (fn:Func) (tmps:Array Value):results fn tmps=(fn.results.toList.mapM (Qh tmps) >>= λl=>pure (if h:l.length=1 then l[0] else .tuple l.toArray)):=by
 unfold results
 have:∀ (rs:Array ResultVar),(rs.mapM (Qh tmps) >>= λvs=>(pure (if h:vs.size=1 then vs[0] else .tuple vs):Sem Value))=(rs.toList.mapM (Qh tmps) >>= λl=>pure (if h:l.length=1 then l[0] else .tuple l.toArray)):=by
  intro rs
  rw [Array.mapM_eq_mapM_toList,map_eq_pure_bind,bind_assoc]
  congr 1
 exact this fn.results
theorem AX (S:SR Γ H w st.sl a.tmps) (t:Nat):VP Γ (A1 H) w (st.sl.getD t (.tup [])) (a.tmps.getD t undef)/\∀ c∈(st.sl.getD t (.tup [])).nms,c<H.length:=by
 by_cases h:t<st.sl.length
 ·obtain ⟨V,e,k⟩:=S.slot t h
  have hn:∀ c∈(st.sl[t]).nms,c<H.length:=λc hc=>S.nms c (A8.2 ⟨t,h,hc⟩)
  simp_all
 ·have h1:st.sl.getD t (.tup []) = .tup []:=by rw [List.getD_eq_getElem?_getD,List.getElem?_eq_none (Nat.le_of_not_lt h)];rfl
  have h2:a.tmps.getD t undef=undef:=by rw [Array.getD_eq_getD_getElem?,Array.getElem?_eq_none (by rw [S.size];exact Nat.le_of_not_lt h)];rfl
  rw [h1,h2]
  exact ⟨P6,by simp [PV.nms,B3]⟩
def LR (Γ:Ctx) (sh:Nat->Option Shp) (w:World):List PV->List Value->Prop
 | [],[]=>True
 | v::r,V::q=>VP Γ sh w v V/\LR Γ sh w r q
 | _,_=>False
theorem LR.len {sh:Nat->Option Shp}:∀ {l:List PV} {A:List Value},LR Γ sh w l A->A.length=l.length
 | [],[],_=>rfl
 | v::r,V::q,h=>by simp [LR.len h.2]
 | [],_::_,h=>h.elim
 | _::_,[],h=>h.elim
theorem LR.CR {sh:Nat->Option Shp}:∀ {l:List PV} {A:List Value},LR Γ sh w l A->∀ j (h:j<l.length),∃ U,A[j]? = some U/\VP Γ sh w (l[j]) U
 | [],[],_,j,h=>by simp at h
 | v::r,V::q,h,0,_=>⟨V,rfl,h.1⟩
 | v::r,V::q,h,j+1,hj=>by
  obtain ⟨U,e,k⟩:=LR.CR h.2 j (by simpa using hj)
  grind
 | [],_::_,h,_,_=>h.elim
 | _::_,[],h,_,_=>h.elim
theorem A41 {t:TypeId} {A V:Value} {w':World} (h:(Instr.loadAt t A).run C.P w' = .ok V w'):(do loadVar t (<-asAddr A):Sem Value).run C.P w' = .ok V w':=by
 simp only [Instr.loadAt] at h
 unfold Instr.sureAddr at h
 split at h
 ·exact h
 simp_all
theorem Kt (hH:HR Γ H w) (S:SR Γ H w st.sl a.tmps):∀ (rs:List ResultVar) {k:List PV->Option R},Sn C st.sl H rs k=some r->
  ∃ vs Vs,k vs=some r/\(rs.mapM (Qh a.tmps)).run C.P w = .ok Vs w/\LR Γ (A1 H) w vs Vs/\∀ c∈B3 vs,c<H.length
 | [],k,h=>⟨[],[],h,by simp,trivial,by simp [B3]⟩
 | .tmp t::rest,k,h=>by
  simp only [Sn] at h
  obtain ⟨vs,Vs,h1,h2,h3,h4⟩:=Kt hH S rest h
  obtain ⟨g1,g2⟩:=AX S t
  refine ⟨_,a.tmps.getD t undef::Vs,h1,?_,⟨g1,h3⟩,λc hc=>?_⟩
  ·rw [List.mapM_cons]
   simp only [Qh,Sem.run_bind,Sem.run_pure,Result.andThen,h2]
  ·simp only [B3,List.mem_append] at hc
   grind
 | .cell x t::rest,k,h=>by
  simp only [Sn] at h
  obtain ⟨g1,g2⟩:=AX S x
  obtain ⟨v,hk,hn,V,hv,hq⟩:=Rk hH h g1
  obtain ⟨vs,Vs,h1,h2,h3,h4⟩:=Kt hH S rest hk
  refine ⟨_,V::Vs,h1,?_,⟨hv,h3⟩,λc hc=>?_⟩
  ·rw [List.mapM_cons]
   have:=A41 (hq w (Ext.refl w))
   rw [show Qh a.tmps (.cell x t)=(do loadVar t (<-asAddr (a.tmps.getD x undef)):Sem Value) from rfl]
   rw [Sem.run_bind,this]
   simp_all
  ·simp only [B3,List.mem_append] at hc
   grind
theorem LZ {vs:List PV} {c:Nat} (h:c∈(V3 vs).nms):c∈B3 vs:=by
 unfold V3 at h
 split at h
 ·simp [B3,h]
 ·exact h
theorem A57 {vs:List PV} {Vs:List Value} (h:LR Γ (A1 H) w vs Vs):VP Γ (A1 H) w (V3 vs) (if h:Vs.length=1 then Vs[0] else .tuple Vs.toArray):=by
 have hl:=h.len
 unfold V3
 split
 ·rename_i v
  cases Vs with
  | nil=>simp at hl
  | cons V q=>
   cases q with
   | nil=>exact h.1
   | cons _ _=>simp at hl
 ·rename_i hne
  have:Vs.length≠1:=by
   intro e
   rw [e] at hl
   match vs,hl with
   | [v],_=>exact hne v rfl
  rw [dif_neg this]
  refine VP.mk_tup (by simpa using hl) λj hj=>?_
  obtain ⟨U,e,k⟩:=h.CR j hj
  grind
def Cv (C:Cfg):Prop:=∀ f fn c,C.okf f=true->C.P.funcs[f]? = some fn->fn.body=some c->Am0 C c=true/\(fn.name == "runtime.NumGoroutine")=false
theorem Gx {f:Nat} {fn:Func} {c:Code} {Vs:Array Value} (hf:C.P.funcs[f]? = some fn) (hb:fn.body=some c) (hn:(fn.name == "runtime.NumGoroutine")=false):(callFunc f Vs).run C.P w = .ok (.enter f Vs) w:=by
 have hn':¬ fn.name = "runtime.NumGoroutine":=by simpa using hn
 simp [callFunc,hf,hb,hn',Result.andThen]
theorem Ax2 {args:List PV} {Vs:Array Value} {n:Nat} (hc:CR Γ (A1 H) w args Vs) (hn:∀ c∈B3 args,c<H.length) :
  SR Γ H w (args++List.replicate (n-args.length) (.tup [])) (Vs++Array.replicate (n-Vs.size) undef):=by
 have h2:CR Γ (A1 H) w (List.replicate (n-args.length) (.tup [])) (Array.replicate (n-Vs.size) undef):=⟨by simp [hc.1],λj hj=>by
  simp only [List.length_replicate] at hj
  refine ⟨undef,by rw [hc.1];simp [hj],?_⟩
  simp only [List.getElem_replicate]
  exact P6⟩
 have h3:=hc.append h2
 refine ⟨h3.1,λc hcc=>?_,h3.2⟩
 rw [H6,List.mem_append] at hcc
 rcases hcc with hcc | hcc
 ·exact hn c hcc
 ·obtain ⟨j,hj,hcc⟩:=A8.1 hcc
  simp [PV.nms,B3] at hcc
theorem Stp.put {Γ0 Γ':Ctx} {H0 H':List Blk} {w0 w':World} {Φ0 Φ':Nat->Prop} {D:Nat} {ob:Obj} (h:Stp C Γ0 H0 w0 Φ0 Γ' H' w' Φ') (hD:w0.heap.size<=D) (hO:Off Γ' Φ' w' D):Stp C Γ0 H0 w0 Φ0 Γ' H' (w'.putObj D ob) Φ':=by
 refine ⟨h.os,h.tape,h.output,by rw [World.putObj_size];exact h.size,h.sub,h.stnew,h.own,h.foot,λg hg hn hp=>?_,h.yv,h.len,λb hb hf=>?_⟩
 ·rw [World.putObj_heap_other (by omega)];exact h.frame g hg hn hp
 ·obtain ⟨k1,k2,k3⟩:=h.keep b hb hf
  refine ⟨k1,k2,λg hg=>?_⟩
  rw [<-k3 g hg]
  refine C3 (World.putObj_heap_other ?_)
  rintro rfl
  exact hO.2.2.1 b (k1.trans hg)
theorem WD {F:Fence} {n:Nat} {fn:Func} {Rr:Ending->World->Prop} {Γ0 Γ':Ctx} {H0:List Blk} {w0:World} {Φ0 Φ':Nat->Prop} {st':St σ} {tmps:Array Value} (hI:HI I)
  (hk:∀ w',SI C I Γ' Φ' st' tmps w'->Stp C Γ0 H0 w0 Φ0 Γ' st'.hp w' Φ'->∃ V,(results fn tmps).run C.P w' = .ok V w'/\Rr (.returned V) w') :
  ∀ (Ds:List Nat) (w:World),Ds.Nodup->(∀ D∈Ds,w0.heap.size<=D/\Off Γ' Φ' w D/\w.heap[D]? = some (.deferred (some [])))->SI C I Γ' Φ' st' tmps w->Stp C Γ0 H0 w0 Φ0 Γ' st'.hp w Φ'->LeavesInM F n C.P fn tmps Rr (Ds.map mkD) .returning w
 | [],w,_,_,S,h=>hk w S h
 | D::Ds,w,hn,hD,S,h=>by
  obtain ⟨h1,h2,h3⟩:=hD D (by simp)
  refine ⟨by simp,.inl ⟨D,w.putObj D (.deferred none),rfl,run_takeDeferred h3,?_⟩⟩
  have hn':=List.nodup_cons.1 hn
  refine WD hI hk Ds _ hn'.2 (λE hE=>?_) (S.offW hI (Ky.put h2)) (h.put h1 h2)
  obtain ⟨k1,k2,k3⟩:=hD E (by simp [hE])
  refine ⟨k1,k2.put,(World.putObj_heap_other ?_).trans k3⟩
  grind
theorem Eo (hX:XOK C) (hO:Cv C) (hm:C.P.follows .mixedOrders=true):∀ d,U2 C (evC C d)
 | 0=>λσ I yh yv hI hy g args H s ret Hc s' h=>by simp [evC] at h
 | d+1=>λσ I yh yv hI hy g args H s ret Hc s' h Γ Φ w Vs hyv hH hg hi hdis hc hn=>by
  have ih:=Eo hX hO hm d
  simp only [evC] at h
  split at h
  ·rename_i fn hok hf
   split at h
   ·rename_i c hb
    obtain ⟨hcode,hname⟩:=hO g fn c hok hf hb
    intro ro n o a next Q hnext
    rw [Gx hf hb hname]
    simp only [Oper.uponIn_enter]
    refine ⟨λh=>(by simp [C1,Fence.wide] at h),?_⟩
    have key:CallsIn Fence.wide (n-1) C.P g Vs w λe w''=>∃ V,e = .returned V/\R6 C I Γ H w Φ ret Hc s' V w'':=by
     refine callsIn_of_wp_marks hf hb trivial ?_
     have S0:SI C I Γ Φ { sl:=args++List.replicate (fn.ntmps-args.length) (.tup []),hp:=H,s:=s } (Vs++Array.replicate (fn.ntmps-Vs.size) undef) w:=⟨hH,Ax2 hc hn,hg,hi,hdis⟩
     refine YD (ro:=none) (rf:=true) (n:=n-1) (n0:=w.heap.size) (a:={ tmps:=Vs++Array.replicate (fn.ntmps-Vs.size) undef,defers:=[] }) ⟨hI,ih,hX,hy⟩ hm c hcode hyv h S0 (Mk.nil (Nat.le_refl _)) Ro.none ?_
     intro o st' a' w' Γ' Φ' k1 k2 k3 ⟨_,Ds,k4,k5,k6⟩
     suffices fin:∀ w',SI C I Γ' Φ' st' a'.tmps w'->Stp C Γ H w Φ Γ' st'.hp w' Φ'->Sn C st'.sl st'.hp fn.results.toList (λvs=>some (V3 vs,st'.hp,st'.s))=some (ret,Hc,s')->∃ V,(results fn a'.tmps).run C.P w' = .ok V w'/\∃ V',Ending.returned V = .returned V'/\R6 C I Γ H w Φ ret Hc s' V' w' by
      have key2:Sn C st'.sl st'.hp fn.results.toList (λvs=>some (V3 vs,st'.hp,st'.s))=some (ret,Hc,s')->LeavesInM (C1 none) (n-1) C.P fn a'.tmps (λe w''=>∃ V,e = .returned V/\R6 C I Γ H w Φ ret Hc s' V w'') a'.defers .returning w':=λh=>by
       rw [k4]
       exact WD hI (λw' a b=>fin w' a b h) Ds w' k5 k6 k3 k2
      cases o with
      | normal=>exact key2 k1
      | ret=>exact key2 k1
      | exit id=>cases k1
     intro w' k3 k2
     have fin:∀ (h:Sn C st'.sl st'.hp fn.results.toList (λvs=>some (V3 vs,st'.hp,st'.s))=some (ret,Hc,s')),∃ V,(results fn a'.tmps).run C.P w' = .ok V w'/\∃ V',Ending.returned V = .returned V'/\R6 C I Γ H w Φ ret Hc s' V' w':=λh=>by
      obtain ⟨vs,Us,h1,h2,h3,h4⟩:=Kt k3.hr k3.sr _ h
      simp only [Option.some.injEq,Prod.mk.injEq] at h1
      obtain ⟨rfl,rfl,rfl⟩:=h1
      refine ⟨_,?_,_,rfl,Γ',Φ',k2,k3.hr,A57 h3,λc hc=>h4 c (LZ hc),k3.inv,k3.dis⟩
      rw [UI,Sem.run_bind,h2]
      rfl
     omega
    have key':CallsIn (C1 ro) (n-1) C.P g Vs w λe w''=>∃ V,e = .returned V/\R6 C I Γ H w Φ ret Hc s' V w'':=key
    refine key'.mono ?_
    grind
   ·cases h
  ·cases h
end
end
section
open Go Go.ChangeShapes Go.RowKit Go.WideShapes
inductive Ty where
 | bool
 | int (k:IntKind)
 | str
 | slice (e:List Ty)
 deriving Inhabited
def Au0 (P:Program) (f:Nat->Option (List Ty)):List Field->Nat->Option (List Ty)
 | [],_=>some []
 | x::r,off=>if x.offset==off then match f x.type with
   | some a=>if P.cellsOf x.type==a.length then match Au0 P f r (off+a.length) with
    | some b=>some (a++b)
    | none=>none else none
   | none=>none else none
def Ap (P:Program):Nat->Nat->Option (List Ty)
 | 0,_=>none
 | d+1,t=>match P.underlying t with
  | some .bool=>some [.bool]
  | some (.int k)=>some [.int k]
  | some .string=>some [.str]
  | some (.slice e)=>match Ap P d e with
   | some a=>if P.cellsOf e==a.length&&decide (0<a.length) then some [.slice a] else none
   | none=>none
  | some (.struct fs)=>match Au0 P (Ap P d) fs.toList 0 with
   | some r=>if P.cellsOf t==r.length then some r else none
   | none=>none
  | some (.array n e)=>match Ap P d e with
   | some a=>if P.cellsOf e==a.length&&P.cellsOf t==n*a.length then some (List.replicate n a).flatten else none
   | none=>none
  | _=>none
mutual
def Ty.of:Ty->SV->Prop
 | .bool,v=>∃ b,v = .bool b
 | .int k,v=>∃ n,v = .int k n/\k.min<=n/\n<=k.max
 | .str,v=>∃ l,v = .str l/\l.length<=maxLen
 | .slice e,v=>v = .sl true false e.length []\/∃ els,v = .sl false false e.length els/\els.length<=maxLen/\∀ el∈els,Ty.ofL e el
def Ty.ofL:List Ty->List SV->Prop
 | [],l=>l=[]
 | t::r,l=>∃ v q,l=v::q/\t.of v/\Ty.ofL r q
end
theorem Ty.ofL_len:∀ {ts:List Ty} {l:List SV},Ty.ofL ts l->l.length=ts.length
 | [],l,h=>by simp only [Ty.ofL] at h;subst h;rfl
 | t::r,l,h=>by
  simp only [Ty.ofL] at h
  obtain ⟨v,q,rfl,_,hq⟩:=h
  simp [Ty.ofL_len hq]
theorem Ty.ofL_append:∀ {a b:List Ty} {x y:List SV},Ty.ofL a x->Ty.ofL b y->Ty.ofL (a++b) (x++y)
 | [],b,x,y,h,k=>by simp only [Ty.ofL] at h;subst h;exact k
 | t::r,b,x,y,h,k=>by
  simp only [Ty.ofL] at h
  obtain ⟨v,q,rfl,hv,hq⟩:=h
  simp only [List.cons_append,Ty.ofL]
  exact ⟨v,q++y,rfl,hv,Ty.ofL_append hq k⟩
def CVS (St:Nat->Prop) (w:World) (l:List SV) (A:List Value):Prop:=A.length=l.length/\∀ j (h:j<l.length),∃ U,A[j]? = some U/\VS St w (l[j]) U
theorem CVS.append {St:Nat->Prop} {w:World} {x y:List SV} {X Y:List Value} (hx:CVS St w x X) (hy:CVS St w y Y):CVS St w (x++y) (X++Y):=by
 refine ⟨by simp [hx.1,hy.1],λj hj=>?_⟩
 by_cases h:j<x.length
 ·obtain ⟨U,e,k⟩:=hx.2 j h
  exact ⟨U,by rw [List.getElem?_append_left (by rw [hx.1];exact h)];exact e,by rw [List.getElem_append_left h];exact k⟩
 ·obtain ⟨U,e,k⟩:=hy.2 (j-x.length) (by simp at hj;omega)
  exact ⟨U,by rw [List.getElem?_append_right (by rw [hx.1];omega),hx.1];exact e,by rw [List.getElem_append_right (by omega)];exact k⟩
theorem CVS.one {St:Nat->Prop} {w:World} {v:SV} {V:Value} (h:VS St w v V):CVS St w [v] [V]:=⟨rfl,λj hj=>by
 have:j=0:=by simpa using hj
 subst this
 exact ⟨V,rfl,h⟩⟩
theorem Ac3 {w:World} {a:Addr} {V:Value} (h:w.cell? a=some V):a.spot=none/\a.block<w.heap.size:=by
 unfold World.cell? at h
 split at h
 ·rename_i c t fr hb
  refine ⟨?_,(Array.getElem?_eq_some_iff.1 hb).1⟩
  cases hs:a.spot with
  | none=>rfl
  | some x=>rw [hs] at h;simp at h
 ·cases h
theorem JC {a:Addr} (h:a.spot=none) (n:Nat):a.add n=⟨a.block,a.off+n,none⟩:=by
 unfold Addr.add
 split
 ·rename_i hn;subst hn;cases a;simp_all
 ·rfl
theorem Aw9 {a:Addr} {m n:Nat} (h:a.spot=none):(a.add m).add n=⟨a.block,a.off+m+n,none⟩:=by
 rw [JC h,JC rfl]
theorem CL {H:Type} {enc:TypeId × Value->H} {P:Program} {w:World} {base:Nat} {sp:Nat->Bool} {held:Bool} {f:Nat->Option (List Ty)} {m:Nat}
  (ih:∀ t tys cs x,f t=some tys->DataW.trod enc P w base sp held m t cs=some x->∃ svs,Ty.ofL tys svs/\CVS (· < w.heap.size) w svs cs) (cs:List Value) :
  ∀ (fs:List Field) (off:Nat) (tys:List Ty),Au0 P f fs off=some tys->(∀ (i:Nat) (fl:Field),fs[i]? = some fl->∃ y,DataW.trod enc P w base sp held m fl.type ((cs.drop fl.offset).take (P.cellsOf fl.type))=some y)->
   ∃ svs,Ty.ofL tys svs/\CVS (· < w.heap.size) w svs ((cs.drop off).take tys.length)
 | [],off,tys,h,_=>by
  simp only [Au0,Option.some.injEq] at h
  subst h
  exact ⟨[],rfl,by simp,λj hj=>by simp at hj⟩
 | x::r,off,tys,h,hall=>by
  simp only [Au0] at h
  split at h
  ·rename_i hoff
   simp only [beq_iff_eq] at hoff
   split at h
   ·rename_i a ha
    split at h
    ·rename_i hc
     simp only [beq_iff_eq] at hc
     split at h
     ·rename_i b hb
      simp only [Option.some.injEq] at h
      subst h
      obtain ⟨y,hy⟩:=hall 0 x rfl
      rw [hoff,hc] at hy
      obtain ⟨s1,h1,h2⟩:=ih _ _ _ _ ha hy
      obtain ⟨s2,h3,h4⟩:=CL ih cs r _ b hb (λi fl hi=>hall (i+1) fl (by simpa using hi))
      refine ⟨s1++s2,Ty.ofL_append h1 h3,?_⟩
      have:=h2.append h4
      have e:(cs.drop off).take (a++b).length=(cs.drop off).take a.length++(cs.drop (off+a.length)).take b.length:=by
       rw [List.length_append,List.take_add,List.drop_drop]
      rw [e];exact this
     ·cases h
    ·cases h
   ·cases h
  ·cases h
theorem JG {H:Type} {enc:TypeId × Value->H} {P:Program} {w:World} {base:Nat} {sp:Nat->Bool} {held:Bool} {e m:Nat} {a:List Ty} (cs:List Value)
  (ih:∀ cs x,DataW.trod enc P w base sp held m e cs=some x->∃ svs,Ty.ofL a svs/\CVS (· < w.heap.size) w svs cs) (hc:P.cellsOf e=a.length) :
  ∀ (n k:Nat),(∀ i,k<=i->i<k+n->∃ y,DataW.trod enc P w base sp held m e ((cs.drop (i*P.cellsOf e)).take (P.cellsOf e))=some y)->
   ∃ svs,Ty.ofL (List.replicate n a).flatten svs/\CVS (· < w.heap.size) w svs ((cs.drop (k*a.length)).take (n*a.length))
 | 0,k,_=>⟨[],by simp [Ty.ofL],by simp,λj hj=>by simp at hj⟩
 | n+1,k,hall=>by
  obtain ⟨y,hy⟩:=hall k (Nat.le_refl _) (by omega)
  obtain ⟨s1,h1,h2⟩:=ih _ _ hy
  obtain ⟨s2,h3,h4⟩:=JG cs ih hc n (k+1) (λi hi1 hi2=>hall i (by omega) (by omega))
  rw [hc] at h2
  refine ⟨s1++s2,?_,?_⟩
  ·rw [List.replicate_succ,List.flatten_cons];exact Ty.ofL_append h1 h3
  ·have:=h2.append h4
   have e:(cs.drop (k*a.length)).take ((n+1)*a.length)=(cs.drop (k*a.length)).take a.length++(cs.drop ((k+1)*a.length)).take (n*a.length):=by
    rw [show (n+1)*a.length=a.length+n*a.length by rw [Nat.add_mul,Nat.one_mul,Nat.add_comm],List.take_add,List.drop_drop,show k*a.length+a.length=(k+1)*a.length by rw [Nat.add_mul,Nat.one_mul]]
   rw [e];exact this
theorem Tu {H:Type} {enc:TypeId × Value->H} {P:Program} {w:World} {base:Nat} {sp:Nat->Bool} {held:Bool}:∀ (n t:Nat) (tys:List Ty) (m:Nat) (cs:List Value) (x:DataW H × List MemPlace),Ap P n t=some tys->
  DataW.trod enc P w base sp held m t cs=some x->∃ svs,Ty.ofL tys svs/\CVS (· < w.heap.size) w svs cs
 | 0,t,tys,m,cs,x,h,_=>by simp [Ap] at h
 | n+1,t,tys,m,cs,x,h,hd=>by
  simp only [Ap] at h
  split at h
  ·rename_i ht
   simp only [Option.some.injEq] at h;subst h
   obtain ⟨b,rfl,_⟩:=DataW.trod_bool ht hd
   exact ⟨[.bool b],by simp [Ty.ofL,Ty.of],CVS.one (.bool b)⟩
  ·rename_i k ht
   simp only [Option.some.injEq] at h;subst h
   obtain ⟨b,rfl,_,hw⟩:=DataW.trod_int ht hd
   simp only [Lit.wf,Bool.and_eq_true,decide_eq_true_eq] at hw
   exact ⟨[.int k b],by simp [Ty.ofL,Ty.of,hw],CVS.one (.int k b)⟩
  ·rename_i ht
   simp only [Option.some.injEq] at h;subst h
   obtain ⟨b,rfl,_,hw⟩:=DataW.trod_string ht hd
   exact ⟨[.str b.data.toList],by simpa [Ty.ofL,Ty.of] using hw,CVS.one (.str b)⟩
  ·rename_i e ht
   split at h
   ·rename_i a ha
    split at h
    ·rename_i hc
     simp only [Bool.and_eq_true,beq_iff_eq,decide_eq_true_eq] at hc
     simp only [Option.some.injEq] at h;subst h
     rcases DataW.trod_slice ht hd with ⟨rfl,_⟩ | ⟨ad,len,cap,elems,rest,m',_,rfl,_,hb,hl,hm,hlen,hel,_,_⟩
     ·exact ⟨[.sl true false a.length []],by simp [Ty.ofL,Ty.of],CVS.one (.nil _ _)⟩
     ·have each:∀ i,i<len->∃ el cs',w.cells? base (ad.add (i*a.length)) a.length=some cs'/\Ty.ofL a el/\CVS (· < w.heap.size) w el cs':=λi hi=>by
       have h1:=hel i hi
       rw [List.getElem?_eq_getElem (by omega),hc.1,Option.bind_eq_some_iff] at h1
       obtain ⟨cs',h2,h3⟩:=h1
       obtain ⟨el,h4,h5⟩:=Tu n e a m' cs' _ ha h3
       exact ⟨el,cs',h2,h4,h5⟩
      by_cases h0:len=0
      ·subst h0
       exact ⟨[.sl false false a.length []],by simp [Ty.ofL,Ty.of],CVS.one (.emp _ _ _ _ (by simp) hm)⟩
      ·let els:List (List SV):=(List.range len).attach.map λi=>Classical.choose (each i.1 (List.mem_range.1 i.2))
       have hels:els.length=len:=by simp [els]
       have hget:∀ i (hi:i<els.length),∃ cs',w.cells? base (ad.add (i*a.length)) a.length=some cs'/\Ty.ofL a (els[i])/\CVS (· < w.heap.size) w (els[i]) cs':=λi hi=>by
        have hi':i<len:=by omega
        have e:els[i]=Classical.choose (each i hi'):=by simp [els]
        rw [e]
        exact Classical.choose_spec (each i hi')
       have hspot:ad.spot=none/\ad.block<w.heap.size:=by
        obtain ⟨cs',h1,h2,h3⟩:=hget 0 (by omega)
        obtain ⟨_,hl1,hl2⟩:=World.cells?_some h1
        have:=hl2 0 hc.2
        rw [List.getElem?_eq_getElem (by omega)] at this
        simp only [Nat.zero_mul,Addr.add,if_true] at this
        exact Ac3 this
       have hel:∀ i (hi:i<els.length),(els[i]).length=a.length:=λi hi=>by
        obtain ⟨cs',h1,h2,h3⟩:=hget i hi
        exact Ty.ofL_len h2
       have hcell:∀ i (hi:i<els.length) j (hj:j<(els[i]).length),∃ U,w.cell? ⟨ad.block,ad.off+i*a.length+j,none⟩=some U/\VS (· < w.heap.size) w (els[i][j]) U:=λi hi j hj=>by
        obtain ⟨cs',h1,h2,h3⟩:=hget i hi
        obtain ⟨_,hl1,hl2⟩:=World.cells?_some h1
        have hj':j<a.length:=by rw [<-hel i hi];exact hj
        obtain ⟨U,e1,e2⟩:=h3.2 j hj
        refine ⟨U,?_,e2⟩
        rw [<-e1,<-hl2 j hj',Aw9 hspot.1]
       refine ⟨[.sl false false a.length els],?_,CVS.one ?_⟩
       ·simp only [Ty.ofL,Ty.of]
        refine ⟨_,[],rfl,.inr ⟨els,rfl,by omega,λel hm'=>?_⟩,rfl⟩
        obtain ⟨i,hi,rfl⟩:=List.getElem_of_mem hm'
        obtain ⟨cs',h1,h2,h3⟩:=hget i hi
        exact h2
       ·have e:ad=⟨ad.block,ad.off,none⟩:=by cases ad;simp_all
        rw [e]
        refine .sl false els ad.block ad.off len cap a.length (λi j=>(w.cell? ⟨ad.block,ad.off+i*a.length+j,none⟩).getD undef) hels.symm hl hm (by simp) hspot.2 hel (λi hi j hj=>?_) (λi hi j hj=>?_)
        ·obtain ⟨U,e1,e2⟩:=hcell i hi j hj
         rw [e1];rfl
        ·obtain ⟨U,e1,e2⟩:=hcell i hi j hj
         rw [e1];exact e2
    ·cases h
   ·cases h
  ·rename_i fs ht
   split at h
   ·rename_i r hr
    split at h
    ·rename_i hc
     simp only [beq_iff_eq] at hc
     simp only [Option.some.injEq] at h;subst h
     obtain ⟨xs,m',_,_,hlen,hxs,hf⟩:=DataW.trod_struct ht hd
     obtain ⟨svs,h1,h2⟩:=CL (λt tys cs x=>Tu n t tys m' cs x) cs fs.toList 0 r hr (λi fl hi=>by
      have hi':fs[i]? = some fl:=by simpa using hi
      have:=hf i fl hi'
      have hlt:i<xs.length:=by rw [hxs];exact (Array.getElem?_eq_some_iff.1 hi').1
      rw [List.getElem?_eq_getElem hlt] at this
      exact ⟨_,this⟩)
     refine ⟨svs,h1,?_⟩
     rw [List.drop_zero,List.take_of_length_le (by omega)] at h2
     exact h2
    ·cases h
   ·cases h
  ·rename_i k e ht
   split at h
   ·rename_i a ha
    split at h
    ·rename_i hc
     simp only [Bool.and_eq_true,beq_iff_eq] at hc
     simp only [Option.some.injEq] at h;subst h
     obtain ⟨xs,m',_,_,hlen,hxs,hf⟩:=DataW.trod_array ht hd
     obtain ⟨svs,h1,h2⟩:=JG cs (λcs x=>Tu n e a m' cs x ha) hc.1 k 0 (λi _ hi=>by
      have:=hf i (by omega)
      rw [List.getElem?_eq_getElem (by omega)] at this
      exact ⟨_,this⟩)
     refine ⟨svs,h1,?_⟩
     rw [Nat.zero_mul,List.drop_zero,List.take_of_length_le (by omega)] at h2
     exact h2
    ·cases h
   ·cases h
  ·cases h
def Gs (P:Program) (t:Nat):Bool:=match P.underlying t with
 | some (.struct _)=>true
 | some (.array _ _)=>true
 | _=>false
def Kx (P:Program) (t:Nat) (v:PV):Prop:=∃ tys l,Ap P 20 t=some tys/\Ty.ofL tys l/\((Gs P t=true/\v = .agg (l.map .s))\/(Gs P t=false/\∃ x,l=[x]/\v = .s x))
def Fg (P:Program):List Nat->List PV->Prop
 | [],l=>l=[]
 | t::r,l=>∃ v q,l=v::q/\Kx P t v/\Fg P r q
theorem Kx.nms {P:Program} {t:Nat} {v:PV} (h:Kx P t v):v.nms=[]:=by
 obtain ⟨tys,l,_,_,h⟩:=h
 rcases h with ⟨_,rfl⟩ | ⟨_,x,_,rfl⟩
 ·simp only [PV.nms]
  rw [List.eq_nil_iff_forall_not_mem]
  intro c hc
  obtain ⟨j,hj,hc⟩:=A8.1 hc
  simp [PV.nms] at hc
 ·rfl
theorem Fg.nms {P:Program}:∀ {ts:List Nat} {l:List PV},Fg P ts l->B3 l=[]
 | [],l,h=>by simp only [Fg] at h;subst h;rfl
 | t::r,l,h=>by
  simp only [Fg] at h
  obtain ⟨v,q,rfl,h1,h2⟩:=h
  simp [B3,h1.nms,h2.nms]
section
variable {H : Type} {enc : TypeId × Value -> H} {P : Program} {w : World}
theorem A55 {v:Value} {r:Reach} {b:Nat} {t:Nat} (ha:Gs P t=false) (Gn:Value.okWide P w r b t v):∀ cs,v = .agg cs->False:=by
 rintro cs rfl
 simp only [Value.okWide,Cell.okWide] at Gn
 unfold Gs at ha
 split at Gn
 ·grind
 ·grind
 ·revert Gn
  cases hu:P.underlying t with
  | none=>simp [Cell.ok,hu]
  | some d=>cases d<;>simp [Cell.ok,hu]
theorem Ar7 {Γ:Ctx} {sh:Nat->Option Shp} {sp:Nat->Bool} {held:Bool} {r:Reach} {b b' t:Nat} {v:Value} {d:DataW H} {ps:List MemPlace} (hΓ:∀ g,g<w.heap.size->Γ.St g) (htys:(Ap P 20 t).isSome=true) (Gn:Value.okWide P w r b t v) (hd:DataW.Trod enc P w b' sp held t v d ps) :
  ∃ pv,Kx P t pv/\VP Γ sh w pv v:=by
 obtain ⟨tys,ht⟩:=Option.isSome_iff_exists.1 htys
 obtain ⟨m,hm⟩:=hd
 obtain ⟨svs,h1,h2⟩:=Tu 20 t tys m _ _ ht hm
 have lift:∀ {x:SV} {V:Value},VS (· < w.heap.size) w x V->VS Γ.St w x V:=λh=>h.mono (λ_ _=>rfl) hΓ
 cases ha:Gs P t with
 | true=>
  refine ⟨.agg (svs.map .s),⟨tys,svs,ht,h1,.inl ⟨ha,rfl⟩⟩,?_⟩
  have:∃ cs,v = .agg cs:=by
   unfold Gs at ha
   simp only [Value.okWide] at Gn
   grind
  obtain ⟨cs,rfl⟩:=this
  simp only [Value.cells] at h2
  refine VP.mk_agg (by simpa using h2.1) λj hj=>?_
  have hj':j<svs.length:=by simpa using hj
  obtain ⟨U,e,k⟩:=h2.2 j hj'
  exact ⟨U,by simpa using e,by rw [List.getElem_map];exact .s _ _ (lift k)⟩
 | false=>
  have hc:v.cells = #[v]:=by
   have:=A55 ha Gn
   cases v with
   | agg cs=>exact (this cs rfl).elim
   | _=>rfl
  rw [hc] at h2
  have hl:svs.length=1:=by have:=h2.1;simpa using this.symm
  obtain ⟨x,rfl⟩:∃ x,svs=[x]:=by
   match svs,hl with
   | [x],_=>exact ⟨x,rfl⟩
  obtain ⟨U,e,k⟩:=h2.2 0 (by simp)
  simp only [List.getElem?_cons_zero,Option.some.injEq] at e
  subst e
  exact ⟨.s x,⟨tys,[x],ht,h1,.inr ⟨ha,x,rfl,rfl⟩⟩,.s _ _ (lift k)⟩
theorem CC {Γ:Ctx} {sh:Nat->Option Shp} {sp:Nat->Bool} {held:Bool} {r:Reach} {b b':Nat} (hΓ:∀ g,g<w.heap.size->Γ.St g):∀ (ts:List Nat) (vs:List Value) (ds:List (DataW H)) (ps:List MemPlace),(∀ t∈ts,(Ap P 20 t).isSome=true)->(∀ (j:Nat) t v,ts[j]? = some t->vs[j]? = some v->Value.okWide P w r b t v)->DataW.TrodAll enc P w b' sp held ts vs ds ps->
  ∃ pvs,Fg P ts pvs/\vs.length=pvs.length/\ds.length=ts.length/\∀ j (h:j<pvs.length),∃ U,vs[j]? = some U/\VP Γ sh w (pvs[j]) U
 | [],vs,ds,ps,_,_,h=>by
  obtain ⟨rfl,rfl,_⟩:=trodAll_nil h
  exact ⟨[],rfl,rfl,rfl,λj hj=>by simp at hj⟩
 | t::ts,vs,ds,ps,htys,Gn,h=>by
  obtain ⟨v,vs',d,ds',p,q,rfl,rfl,rfl,h1,h2⟩:=trodAll_cons h
  obtain ⟨pv,k1,k2⟩:=Ar7 (Γ:=Γ) (sh:=sh) hΓ (htys t (by simp)) (Gn 0 t v rfl rfl) h1
  obtain ⟨pvs,g1,g2,g3,g4⟩:=CC (Γ:=Γ) (sh:=sh) hΓ ts vs' ds' q (λt ht=>htys t (by simp [ht])) (λj t v hj hv=>Gn (j+1) t v (by simpa using hj) (by simpa using hv)) h2
  refine ⟨pv::pvs,⟨pv,pvs,rfl,k1,g1⟩,by simp [g2],by simp [g3],λj hj=>?_⟩
  cases j with
  | zero=>exact ⟨v,rfl,k2⟩
  | succ j=>
   obtain ⟨U,e,k⟩:=g4 j (by simpa using hj)
   grind
theorem Uy (hl:laidOutB P=true) {w':World} {ts:List Nat} {vs:List Value} {ds:List (DataW H)} {ps:List MemPlace}:∀ {ts:List Nat} {vs:List Value} {ds:List (DataW H)} {ps:List MemPlace},(∀ t∈ts,P.readableRec t=true/\t<P.types.size)->DataW.TrodAll enc P w 0 (λ_=>true) true ts vs ds ps->(∀ x∈ps,w.sameAt w' x)->∀ sp:Nat->Bool,(∀ x∈ps,sp x.block=true)->
  DataW.TrodAll enc P w' 0 sp true ts vs ds ps
 | [],vs,ds,ps,_,h,_,sp,_=>by
  obtain ⟨rfl,rfl,rfl⟩:=trodAll_nil h
  exact trodAll_mk0
 | t::ts,vs,ds,ps,hr,h,hs,sp,hsp=>by
  obtain ⟨v,vs',d,ds',p,q,rfl,rfl,rfl,h1,h2⟩:=trodAll_cons h
  refine ⟨p,q,WideElems.Trod_stays hl (hr t (by simp)).1 (hr t (by simp)).2 h1 (λx hx=>hs x (by simp [hx])) (λx hx=>hsp x (by simp [hx])),Uy hl (w':=w') (ts:=ts) (vs:=vs') (ds:=ds') (ps:=q) (λt ht=>hr t (by simp [ht])) h2 (λx hx=>hs x (by simp [hx])) sp (λx hx=>hsp x (by simp [hx])),rfl⟩
theorem Za {f:Func} {s:ChangeSpec} {apart fresh handsOn again:Bool} {W W':World} {args:Array Value} {v:Value} {ds gs:List (DataW H)} {before pa pv:List MemPlace}
  (hW:DataW.Whole enc P f.params.toList s.vars apart W args.toList ds gs before)
  (hres:∀ (b:Nat) (sp:Nat->Bool) (hd:Bool),DataW.TrodAll enc P W' b sp hd f.resultTypes.toList (v.resultList f.resultTypes.size) (s.fn H (ds++gs)).results [])
  (hargs:∀ sp:Nat->Bool,(∀ p∈before,sp p.block=true)->DataW.TrodAll enc P W' 0 sp true f.params.toList args.toList (s.fn H (ds++gs)).args pa)
  (hvars:∀ sp:Nat->Bool,(∀ p∈before,sp p.block=true)->DataW.TrodVars enc P W' sp s.vars (s.fn H (ds++gs)).vars pv)
  (hps:before=pa++pv) (hb:Below W.heap.size W W')
  (hok:∀ (j:Nat) (t:TypeId) (r:Value),f.resultTypes[j]? = some t->(v.resultList f.resultTypes.size)[j]? = some r->Value.okWide P W' .any 0 t r) :
  s.post enc P f apart fresh handsOn again W args v W':=by
 have hold:∀ p∈before,(λb=>decide (b<W.heap.size)) p.block=true:=λp hp=>by simpa using hW.lt p hp
 refine ⟨ds,gs,before,[],pa,pv,hW,hres _ _ _,hargs _ hold,hvars _ hold,hb.frame _,λ_=>?_⟩
 have hlt:=hW.lt
 obtain ⟨_,_,_,_,_,hz,hn⟩:=hW
 refine ⟨hok,_,_,([]++pa)++pv,⟨[]++pa,pv,trodAll_append (hargs _ (λ_ _=>rfl)) (hres _ _ _),hvars _ (λ_ _=>rfl),rfl,?_,?_⟩,?_⟩
 ·intro b off hp
  have hp':MemPlace.cell b off∈before:=by rw [hps];simpa using hp
  rw [hb.frozen (hlt _ hp')]
  exact hz b off hp'
 ·intro ha
  have:=hn ha
  rw [hps] at this
  simpa using this
 ·intro p hp _
  rw [hps]
  simpa using hp
end
theorem UW {P:Program} {f:Nat} {Vs:Array Value} {w:World} {R:Value->World->Prop} (hrun:(callFunc f Vs).run P w = .ok (.enter f Vs) w) (h:I2 P ((callFunc f Vs).run P w) R):Calls P f Vs w λe w'=>∃ V,e = .returned V/\R V w':=by
 rw [hrun] at h
 have:=h none 1 { op:=.move (.const undef),dst:=some 0,guard:=none,type:=0,after:=#[],pos:=default } { tmps:=#[undef],defers:=[] } (λa' w'=>∃ V,a'.tmps[0]? = some V/\R V w') (λ_ _ _=>False) (λV w' hR=>⟨V,by simp [Act.put],hR⟩)
 rw [Oper.uponIn_enter] at this
 have h2:CallsIn Fence.wide 0 P f Vs w _:=this.2
 refine (callsIn_wide.1 h2).mono λe w' he=>?_
 cases e with
 | returned v=>
  obtain ⟨V,e1,e2⟩:=he
  simp [Act.put] at e1
  grind
 | panicked c=>exact he.elim
 | outgrown=>obtain ⟨_,_,h⟩:=he;exact h.elim
def noY:Yh Unit:=λ_ _=>none
theorem Am1 {H:Type} {enc:TypeId × Value->H} {C:Cfg} {f tb:Nat} {fn:Func} {c:Code} {s:ChangeSpec} {apart fresh handsOn again:Bool} (hX:XOK C) (hO:Cv C) (hm:C.P.follows .mixedOrders=true) (hl:laidOutB C.P=true) (hfn:C.P.funcs[f]? = some fn) (hb:fn.body=some c) (hname:(fn.name == "runtime.NumGoroutine")=false)
  (hp:∀ t∈fn.params.toList,(C.P.readableRec t=true/\t<C.P.types.size)/\(Ap C.P 20 t).isSome=true) (hres:fn.resultTypes = #[tb]) (hbool:C.P.underlying tb=some .bool) (hvars:s.vars=[])
  (hspec:∀ ds:List (DataW H),ds.length=fn.params.toList.length->s.fn H ds = { results:=[.lit (.bool true)],args:=ds })
  (hev:∀ args,Fg C.P fn.params.toList args->∃ d Hc,evC C d Unit noY f args [] ()=some (.s (.bool true),Hc,()))
  (W:World) (hG:GOK C (· < W.heap.size) W) (base:Nat) (args:Array Value) (ds gs:List (DataW H)) (before:List MemPlace)
  (Gn:∀ (j:Nat) t v,fn.params[j]? = some t->args[j]? = some v->Value.okWide C.P W .any base t v)
  (hW:DataW.Whole enc C.P fn.params.toList s.vars apart W args.toList ds gs before) :
  Calls C.P f args W λe W'=>∃ v,e = .returned v/\s.post enc C.P fn apart fresh handsOn again W args v W':=by
 have hW':=hW
 obtain ⟨p,q,hA,hV,rfl,hfz,hnd⟩:=hW
 rw [hvars] at hV
 obtain ⟨rfl,rfl⟩:=trodVars_none hV
 let Γ:Ctx:={ St:=(· < W.heap.size),nm:=λ_=>none,yv:=.nilFunc,yv1:=rfl }
 obtain ⟨pvs,h1,h2,h3,h4⟩:=CC (Γ:=Γ) (sh:=A1 []) (λ_ h=>h) fn.params.toList args.toList ds p (λt ht=>(hp t ht).2) (λj t v hj hv=>Gn j t v (by simpa using hj) (by simpa using hv)) hA
 obtain ⟨d,Hc,hd⟩:=hev pvs h1
 have hS:=Eo hX hO hm d Unit I0 noY .nilFunc Af3 Af4 f pvs [] () _ Hc () hd Γ noΦ W args rfl (Fk (λ_=>rfl) (λ_ h=>h)) hG (λ_ h=>h) (λb g h=>by cases h)
  ⟨by rw [<-Array.length_toList];exact h2,λj hj=>by obtain ⟨U,e,k⟩:=h4 j hj;exact ⟨U,by simpa using e,k⟩⟩ (by rw [h1.nms];simp)
 refine (UW (Gx hfn hb hname) hS).mono ?_
 rintro e W' ⟨V,rfl,Γ',Φ',hs,hH,hv,_⟩
 have hV:=hv.inv_bool
 subst hV
 have hbel:Below W.heap.size W W':=⟨hs.os,hs.tape,hs.output,hs.size,λk hk=>hs.frame k hk (λb=>by simp [Γ]) (λx=>x)⟩
 simp only [List.append_nil] at hW'
 refine ⟨_,rfl,?_⟩
 have hsp:=hspec ds h3
 have hlt:=hW'.lt
 refine Za (pa:=p) (pv:=[]) hW' (λb sp hd=>?_) (λsp hsp'=>?_) (λsp _=>?_) (by simp) hbel ?_
 ·rw [List.append_nil,hsp,hres]
  exact trodAll_cons_mk (shut_bool hbool _) trodAll_mk0
 ·rw [List.append_nil,hsp]
  exact Uy hl (w:=W) (ts:=fn.params.toList) (vs:=args.toList) (ds:=ds) (ps:=p) (λt ht=>(hp t ht).1) hA (λx hx=>hbel.same (hlt x hx)) sp hsp'
 ·rw [List.append_nil,hsp,hvars]
  rfl
 ·exact ok_one hres rfl (okWide_bool_mk hbool _)
end
section
open Go
def B2 (P:Program) (G:GT) (g:Nat) (pf:List PV->Tr):Prop:=
 ∀ args ret Hc,G2 (pf args)=some (ret,Hc)->∀ C:Cfg,C.P=P->C.G=G->∀ Γ w Vs,(∀ b,Γ.nm b=none)->HR Γ [] w->GOK C Γ.St w->CR Γ (A1 []) w args Vs->
  I2 P ((callFunc g Vs).run P w) (R6 C I0 Γ [] w noΦ ret Hc ())
theorem Dm {C₀:Cfg} {g:Nat} {pf:List PV->Tr} (hX:XOK C₀) (hO:Cv C₀) (hm:C₀.P.follows .mixedOrders=true)
  (h:∀ args ret Hc,G2 (pf args)=some (ret,Hc)->B3 args=[]/\∃ d,evC C₀ d Unit noY g args [] ()=some (ret,Hc,())):B2 C₀.P C₀.G g pf:=by
 intro args ret Hc hpf C hP hGe Γ w Vs hnm hH hG hc
 obtain ⟨hna,d,hev⟩:=h args ret Hc hpf
 have hG0:GOK C₀ Γ.St w:=hG.congr hGe.symm
 refine (Eo hX hO hm d Unit I0 noY Γ.yv Af3 Af4 g args [] () ret Hc () hev Γ noΦ w Vs rfl hH hG0 (λ_ h=>h) (λb g h=>by rw [hnm] at h;cases h) hc (by rw [hna];simp)).mono ?_
 rintro V w' ⟨Γ1,Φ1,hs,hH1,hv,hvn,hi1,hd1⟩
 exact ⟨Γ1,Φ1,⟨hs.os,hs.tape,hs.output,hs.size,hs.sub,hs.stnew,hs.own,hs.foot,hs.frame,hs.yv,hs.len,λb hb=>by simp at hb⟩,hH1,hv,hvn,hi1,hd1⟩
def Tr.snap:Tr->Tr
 | .ret v H=>cond (v.snap H).nms.isEmpty (.ret (v.snap H) []) .fail
 | .need c t=>.need c t.snap
 | .split c a b=>.split c a.snap b.snap
 | .fail=>.fail
theorem Tr.snap_res:∀ {t:Tr} {v:PV} {H:List Blk},G2 t.snap=some (v,H)->∃ v' H',G2 t=some (v',H')/\v=v'.snap H'/\H=[]/\v.nms=[]
 | .ret v' H',v,H,h=>by
  simp only [Tr.snap] at h
  cases he:(v'.snap H').nms.isEmpty with
  | false=>rw [he] at h;cases h
  | true=>
   rw [he] at h
   simp only [cond_true,G2,An,Option.some.injEq,Prod.mk.injEq] at h
   obtain ⟨rfl,rfl⟩:=h
   exact ⟨v',H',rfl,rfl,rfl,List.isEmpty_iff.1 he⟩
 | .need c t,v,H,h=>by
  cases c with
  | true=>exact Tr.snap_res (t:=t) h
  | false=>cases h
 | .split c a b,v,H,h=>by
  cases c with
  | true=>exact Tr.snap_res (t:=a) h
  | false=>exact Tr.snap_res (t:=b) h
 | .fail,_,_,h=>by cases h
theorem B2.snap {P:Program} {G:GT} {g:Nat} {pf:List PV->Tr} (h:B2 P G g pf):B2 P G g (λargs=>(pf args).snap):=by
 intro args ret Hc hpf C hP hGe Γ w Vs hnm hH hG hc
 obtain ⟨ret',Hc',hpf',rfl,rfl,hnr⟩:=Tr.snap_res hpf
 refine (h args ret' Hc' hpf' C hP hGe Γ w Vs hnm hH hG hc).mono ?_
 rintro V w' ⟨Γ1,Φ1,hs,hH1,hv,hvn,hi1,hd1⟩
 let Γ2:Ctx:={ Γ1.all with nm:=λ_=>none }
 have hlt:∀ g,Γ2.St g->g<w'.heap.size:=λg hg=>by
  rcases hg with hg | ⟨b,hb⟩
  ·exact hH1.stlt g hg
  ·exact (hH1.lt b g hb).2.1
 refine ⟨Γ2,Φ1,⟨hs.os,hs.tape,hs.output,hs.size,λg hg=>.inl (hs.sub g hg),λg hg=>?_,λb g h=>by simp [Γ2] at h,hs.foot,hs.frame,hs.yv,Nat.le_refl _,λb hb=>by simp at hb⟩,
  Fk (λ_=>rfl) hlt,?_,by rw [hnr];simp,hi1,λb g h=>by simp [Γ2] at h⟩
 ·rcases hg with hg | ⟨b,hb⟩
  ·exact hs.stnew g hg
  ·rcases hs.own b g hb with ⟨h',_⟩ | h'
   all_goals grind
 ·exact VP.mono (Γ:=Γ1.all) (Γ':=Γ2) (w:=w') (w':=w') (sh:=A1 Hc') (ok:=λ_=>False) ⟨λ_ _=>rfl,λ_ h=>h,λ_ h=>h.elim,λ_ h=>h.elim,λ_ _ h=>h.elim,rfl⟩ (hv.snap hH1) (by rw [hnr];simp)
def IL:List (Nat × (List PV->Tr))->Nat->Option (List PV->Tr)
 | [],_=>none
 | (g,pf)::r,n=>cond (Nat.beq n g) (some pf) (IL r n)
def I3 (P:Program) (G:GT):List (Nat × (List PV->Tr))->Prop
 | []=>True
 | (g,pf)::r=>B2 P G g pf/\I3 P G r
theorem I3.x1 {C:Cfg} {l:List (Nat × (List PV->Tr))} (hl:C.X=IL l) (h:I3 C.P C.G l):Bn8 C:=by
 intro g pf args ret Hc hg hpf Γ w Vs hnm hH hG hc
 rw [hl] at hg
 have key:∀ l:List (Nat × (List PV->Tr)),I3 C.P C.G l->IL l g=some pf->B2 C.P C.G g pf:=by
  intro l
  induction l with
  | nil=>intro _ h;cases h
  | cons e r ih=>
   intro h1 h2
   obtain ⟨n,q⟩:=e
   simp only [IL] at h2
   cases hb:Nat.beq g n with
   | true=>
    rw [hb] at h2
    simp only [cond_true,Option.some.injEq] at h2
    have:=Nat.eq_of_beq_eq_true hb
    subst this;subst h2
    exact h1.1
   | false=>
    rw [hb] at h2
    exact ih h1.2 h2
 exact key l h hg args ret Hc hpf C rfl rfl Γ w Vs hnm hH hG hc
theorem Vw {C C':Cfg} (h:C.P=C'.P):Cb C=Cb C':=by
 funext s
 unfold Cb
 split
 ·simp only [Ag,Cfg.sh,h]
 ·rfl
 ·rfl
theorem Stp.congr {C C':Cfg} (h:C.P=C'.P) {Γ Γ':Ctx} {H H':List Blk} {w w':World} {Φ Φ':Nat->Prop} (s:Stp C Γ H w Φ Γ' H' w' Φ'):Stp C' Γ H w Φ Γ' H' w' Φ':=
 ⟨s.os,s.tape,s.output,s.size,s.sub,s.stnew,s.own,s.foot,s.frame,s.yv,s.len,λb hb hf=>s.keep b hb (by rw [Vw h];exact hf)⟩
def Jd (P:Program) (G:GT) (g:Nat) (pf:List PV->List Blk->Tr):Prop:=
 ∀ C:Cfg,C.P=P->C.G=G->∀ (σ:Type) (I:σ->(Nat->Prop)->(Nat->Prop)->World->Prop) (yh:Yh σ) (yv:Value),HI I->OE P I yh yv->
  ∀ args H s ret Hc,G2 (pf args H)=some (ret,Hc)->∀ Γ Φ w Vs,Γ.yv=yv->HR Γ H w->GOK C Γ.St w->I s Γ.St Φ w->(∀ b g,Γ.nm b=some g->¬ Φ g)->CR Γ (A1 H) w args Vs->(∀ c∈B3 args,c<H.length)->
   I2 P ((callFunc g Vs).run P w) (R6 C I Γ H w Φ ret Hc s)
def IT (P:Program) (G:GT) (g:Nat) (pf:List PV->List Blk->Option (Bool × List (List PV))):Prop:=
 ∀ C:Cfg,C.P=P->C.G=G->∀ (σ:Type) (I:σ->(Nat->Prop)->(Nat->Prop)->World->Prop) (yh:Yh σ) (yv:Value),HI I->OE P I yh yv->
  ∀ args H L s s',pf args H=some (true,L)->H.all Wd=true->O0 yh L s=some s'->∀ Γ Φ w Vs,Γ.yv=yv->HR Γ H w->GOK C Γ.St w->I s Γ.St Φ w->(∀ b g,Γ.nm b=some g->¬ Φ g)->CR Γ (A1 H) w args Vs->(∀ c∈B3 args,c<H.length)->
   I2 P ((callFunc g Vs).run P w) (R6 C I Γ H w Φ (.tup []) (H.map Cw) s')
theorem Aj2 {C C₀:Cfg} {σ:Type} {I:σ->(Nat->Prop)->(Nat->Prop)->World->Prop} {Γ:Ctx} {H Hc:List Blk} {w w':World} {Φ:Nat->Prop} {s':σ} {V:Value} (hP:C₀.P=C.P) (hb:H.all Wd=true) (hH:HR Γ H w) (h:R6 C₀ I Γ H w Φ (.tup []) Hc s' V w'):R6 C I Γ H w Φ (.tup []) (H.map Cw) s' V w':=by
 obtain ⟨Γ1,Φ1,hs,k1,k2,k3,k4,k5⟩:=h
 have hn:∀ b g,(if b<H.length then Γ1.nm b else none)=some g->b<H.length/\Γ1.nm b=some g:=λb g h=>by grind
 have hlen:(H.map Cw).length=H.length:=List.length_map _
 refine ⟨{ Γ1 with nm:=λb=>if b<H.length then Γ1.nm b else none },Φ1,⟨hs.os,hs.tape,hs.output,hs.size,hs.sub,hs.stnew,λb g hg=>hs.own b g (hn b g hg).2,hs.foot,hs.frame,hs.yv,by rw [hlen];exact Nat.le_refl _,λb hbl hf=>?_⟩,
  ⟨λb b' g h1 h2=>k1.inj b b' g (hn b g h1).2 (hn b' g h2).2,λb g hg=>?_,k1.stlt,λb hbl c hc=>?_,λb hbl=>?_⟩,?_,by simp [PV.nms,B3],k4,λb g hg=>k5 b g (hn b g hg).2⟩
 ·obtain ⟨m1,m2,m3⟩:=hs.keep b hbl (by rw [Vw hP];exact hf)
  refine ⟨by simp only;rw [if_pos hbl];exact m1,?_,m3⟩
  simp only [A1,List.getElem?_map]
  cases H[b]? with
  | none=>rfl
  | some x=>exact congrArg some (Zr x)
 ·obtain ⟨q1,q2⟩:=hn b g hg
  have:=k1.lt b g q2
  grind
 ·rw [List.getElem_map,Zq] at hc
  simp at hc
 ·rw [hlen] at hbl
  rw [List.getElem_map]
  have hbx:=List.all_eq_true.1 hb _ (List.getElem_mem hbl)
  have hB:=hH.blk b hbl
  cases hx:H[b] with
  | box cells=>
   rw [hx] at hB
   obtain ⟨g,cur,e,h1,h2,h3,_⟩:=hB
   obtain ⟨m1,m2,m3⟩:=hs.keep b hbl (by simp only [A1,List.getElem?_eq_getElem hbl,hx];exact trivial)
   have hl2:b<Hc.length:=Nat.lt_of_lt_of_le hbl hs.len
   have hB2:=k1.blk b hl2
   have hshp:(Hc[b]).shp = .box:=by
    simp only [A1,List.getElem?_eq_getElem hbl,List.getElem?_eq_getElem hl2,Option.map_some,Option.some.injEq] at m2
    rw [m2,hx];rfl
   cases hy:Hc[b] with
   | box cells'=>
    rw [hy] at hB2
    obtain ⟨g',cur',e',h1',h2',h3',h4'⟩:=hB2
    have hgg:g'=g:=by grind
    subst hgg
    have hsz:=m3 g' h1
    simp only [World.shape?,h2,h2',Option.some.injEq,Prod.mk.injEq] at hsz
    refine ⟨g',cur',e',by simp only;rw [if_pos hbl];exact h1',h2',by rw [hsz.2,h3];simp,λj hj=>?_⟩
    have hj':j<cur'.size:=by rw [hsz.2,h3];simpa using hj
    exact ⟨cur'[j],Array.getElem?_eq_getElem hj',by rw [List.getElem_map];exact .bad _⟩
   | arr a b c d=>rw [hy] at hshp;cases hshp
   | iter a b=>rw [hy] at hshp;cases hshp
   | mp a=>rw [hy] at hshp;cases hshp
   | ms a b=>rw [hy] at hshp;cases hshp
   | dead=>rw [hy] at hshp;cases hshp
  | arr a b c d=>rw [hx] at hbx;cases hbx
  | iter a b=>rw [hx] at hbx;cases hbx
  | mp a=>rw [hx] at hbx;cases hbx
  | ms a b=>rw [hx] at hbx;cases hbx
  | dead=>rw [hx] at hbx;cases hbx
 ·obtain ⟨A,rfl,hA,hcA⟩:=k2.inv_tup
  exact VP.mk_tup hA λj hj=>by simp at hj
theorem Rz {C₀:Cfg} {g:Nat} {pf:List PV->List Blk->Option (Bool × List (List PV))} (hX:XOK C₀) (hO:Cv C₀) (hm:C₀.P.follows .mixedOrders=true)
  (h:∀ args H L,pf args H=some (true,L)->∀ (σ:Type) (yh:Yh σ) (s s':σ),O0 yh L s=some s'->∃ d Hc,evC C₀ d σ yh g args H s=some (.tup [],Hc,s')):IT C₀.P C₀.G g pf:=by
 intro C hP hG σ I yh yv hI hy args H L s s' hpf hb hrun Γ Φ w Vs hyv hH hg hi hdis hc hn
 obtain ⟨d,Hc,hev⟩:=h args H L hpf σ yh s s' hrun
 exact (Eo hX hO hm d σ I yh yv hI hy g args H s _ Hc s' hev Γ Φ w Vs hyv hH (hg.congr hG.symm) hi hdis hc hn).mono λV w' hr=>Aj2 hP.symm hb hH hr
def Fb {α:Type}:List (Nat × α)->Nat->Option α
 | [],_=>none
 | (g,pf)::r,n=>cond (Nat.beq n g) (some pf) (Fb r n)
theorem Nm {α:Type}:∀ {l:List (Nat × α)} {g:Nat} {pf:α},Fb l g=some pf->(g,pf)∈l
 | [],_,_,h=>by cases h
 | (n,q)::r,g,pf,h=>by
  simp only [Fb] at h
  cases hb:Nat.beq g n with
  | true=>
   simp_all
  | false=>
   rw [hb] at h
   exact List.mem_cons_of_mem _ (Nm h)
def Du (P:Program) (G:GT):List (Nat × (List PV->List Blk->Tr))->Prop
 | []=>True
 | (g,pf)::r=>Jd P G g pf/\Du P G r
def Dq (P:Program) (G:GT):List (Nat × (List PV->List Blk->Option (Bool × List (List PV))))->Prop
 | []=>True
 | (g,pf)::r=>IT P G g pf/\Dq P G r
theorem Du.mem {P:Program} {G:GT}:∀ {l:List (Nat × (List PV->List Blk->Tr))} {g:Nat} {pf:List PV->List Blk->Tr},Du P G l->(g,pf)∈l->Jd P G g pf
 | [],_,_,_,hm=>by simp at hm
 | (n,q)::r,g,pf,h,hm=>by
  rcases List.mem_cons.1 hm with e | hm
  ·cases e;exact h.1
  ·exact Du.mem h.2 hm
theorem Dq.mem {P:Program} {G:GT}:∀ {l:List (Nat × (List PV->List Blk->Option (Bool × List (List PV))))} {g:Nat} {pf:List PV->List Blk->Option (Bool × List (List PV))},Dq P G l->(g,pf)∈l->IT P G g pf
 | [],_,_,_,hm=>by simp at hm
 | (n,q)::r,g,pf,h,hm=>by
  rcases List.mem_cons.1 hm with e | hm
  ·cases e;exact h.1
  ·exact Dq.mem h.2 hm
theorem Du.ok {C:Cfg} {l:List (Nat × (List PV->List Blk->Tr))} (hl:C.Y=Fb l) (h:Du C.P C.G l):U2 C (clY C):=by
 intro σ I yh yv hI hy g args H s ret Hc s' hcl Γ Φ w Vs hyv hH hg hi hd hc hn
 simp only [clY,hl] at hcl
 split at hcl
 ·rename_i pf hpf
  split at hcl
  ·rename_i r' h' hr
   simp only [Option.some.injEq,Prod.mk.injEq] at hcl
   obtain ⟨rfl,rfl,rfl⟩:=hcl
   exact h.mem (Nm hpf) C rfl rfl σ I yh yv hI hy args H s _ _ hr Γ Φ w Vs hyv hH hg hi hd hc hn
  grind
 ·cases hcl
theorem Dq.ok {C:Cfg} {l:List (Nat × (List PV->List Blk->Option (Bool × List (List PV))))} (hl:C.S=Fb l) (h:Dq C.P C.G l):U2 C (clS C):=by
 intro σ I yh yv hI hy g args H s ret Hc s' hcl Γ Φ w Vs hyv hH hg hi hd hc hn
 simp only [clS,hl] at hcl
 split at hcl
 ·rename_i pf hpf
  split at hcl
  ·rename_i hb
   split at hcl
   ·rename_i L hL
    split at hcl
    ·rename_i s2 hr
     simp only [Option.some.injEq,Prod.mk.injEq] at hcl
     obtain ⟨rfl,rfl,rfl⟩:=hcl
     exact h.mem (Nm hpf) C rfl rfl σ I yh yv hI hy args H L s _ hL hb hr Γ Φ w Vs hyv hH hg hi hd hc hn
    grind
   grind
  grind
 ·cases hcl
theorem Y9 {C:Cfg} {lx:List (Nat × (List PV->Tr))} {ly:List (Nat × (List PV->List Blk->Tr))} {ls:List (Nat × (List PV->List Blk->Option (Bool × List (List PV))))} (h1:C.X=IL lx) (h2:C.Y=Fb ly) (h3:C.S=Fb ls) (x:I3 C.P C.G lx) (y:Du C.P C.G ly) (s:Dq C.P C.G ls) (h4:C.Z=Fb []:=by rfl):XOK C:=
 ⟨I3.x1 h1 x,Du.ok h2 y,Dq.ok h3 s,λg pf h=>by rw [h4] at h;cases h⟩
theorem I3.ok {C:Cfg} {l:List (Nat × (List PV->Tr))} (hl:C.X=IL l) (h:I3 C.P C.G l) (h2:C.Y=Fb []:=by rfl) (h3:C.S=Fb []:=by rfl) (h4:C.Z=Fb []:=by rfl):XOK C:=
 Y9 hl h2 h3 h trivial trivial h4
def okL:List Nat->Nat->Bool
 | [],_=>false
 | a::r,n=>Nat.beq n a || okL r n
def TA (C:Cfg) (l:List Nat):Bool:=l.all λf=>match C.P.funcs[f]? with
 | some fn=>match fn.body with
  | some c=>Am0 C c && !(fn.name == "runtime.NumGoroutine")
  | none=>true
 | none=>true
theorem D9 {C:Cfg} {l:List Nat} (hl:C.okf=okL l) (h:TA C l=true):Cv C:=by
 intro f fn c hok hf hb
 have key:∀ l:List Nat,okL l f=true->f∈l:=by
  intro l
  induction l with
  | nil=>intro h;cases h
  | cons a r ih=>
   intro h
   simp only [okL,Bool.or_eq_true] at h
   rcases h with h | h
   all_goals simp_all
 have hm:f∈l:=key l (by rw [<-hl];exact hok)
 simp only [TA,List.all_eq_true] at h
 grind
def cd:List Nat->Code->Code
 | [],c=>c
 | 0::p,.seq a _=>cd p a
 | 1::p,.seq _ b=>cd p b
 | 0::p,.cond _ a _=>cd p a
 | 1::p,.cond _ _ b=>cd p b
 | 0::p,.block _ a=>cd p a
 | 0::p,.loop a=>cd p a
 | 0::p,.scope a=>cd p a
 | 0::p,.rangeFunc _ _ a _=>cd p a
 | 1::p,.rangeFunc _ _ _ b=>cd p b
 | _,_=>.skip
def U1:List Nat->Code->Code->Code
 | [],b,_=>b
 | 0::p,b,.seq x y=>.seq (U1 p b x) y
 | 1::p,b,.seq x y=>.seq x (U1 p b y)
 | 0::p,b,.cond c x y=>.cond c (U1 p b x) y
 | 1::p,b,.cond c x y=>.cond c x (U1 p b y)
 | 0::p,b,.block id x=>.block id (U1 p b x)
 | 0::p,b,.loop x=>.loop (U1 p b x)
 | 0::p,b,.scope x=>.scope (U1 p b x)
 | 0::p,b,.rangeFunc g ps x y=>.rangeFunc g ps (U1 p b x) y
 | 1::p,b,.rangeFunc g ps x y=>.rangeFunc g ps x (U1 p b y)
 | _,_,c=>c
def E6 (f:Func):Code:=f.body.getD .skip
section
variable {σ R : Type}
def bd (C:Cfg) (cl:D0) (yh:Yh σ) (c:Code):St σ->(Out->St σ->Option R)->Option R:=λst k=>B0 C cl yh c st k
def P3 (C:Cfg) (cl:D0) (yh:Yh σ) (b:Code) (k:Out->St σ->Option R):Out->St σ->Option R:=λo st'=>match o with
 | .normal=>B0 C cl yh b st' k
 | o=>k o st'
def O4 (id:Nat) (k:Out->St σ->Option R):Out->St σ->Option R:=λo st'=>match o with
 | .exit j=>if j=id then k .normal st' else k (.exit j) st'
 | o=>k o st'
def J6 (C:Cfg) (fn:Func):Out->St σ->Option (PV × List Blk × σ):=λo st=>match o with
 | .normal=>Sn C st.sl st.hp fn.results.toList λvs=>some (V3 vs,st.hp,st.s)
 | .ret=>Sn C st.sl st.hp fn.results.toList λvs=>some (V3 vs,st.hp,st.s)
 | _=>none
def lpK (L:Nat) (ds:Option (List Nat)) (body:St σ->(Out->St σ->Option R)->Option R) (n:Nat) (k:Out->St σ->Option R):Out->St σ->Option R:=λo st'=>match o with
 | .normal=>H4 L ds body n (Fr ds (P5 L st')) k
 | o=>k o (Fr ds st')
end
theorem Bg0 {C:Cfg} {d f:Nat} {fn:Func} {σ:Type} {yh:Yh σ} {args:List PV} {H:List Blk} {s:σ} (h2:C.P.funcs[f]? = some fn) (h1:C.okf f=true) (h3:fn.body=some (E6 fn)) :
  evC C (d+1) σ yh f args H s=B0 C (evC C d) yh (E6 fn) { sl:=args++List.replicate (fn.ntmps-args.length) (.tup []),hp:=H,s:=s } (J6 C fn):=by
 simp only [evC,h1,h2]
 split
 ·rename_i c hc
  rw [hc] at h3
  simp only [Option.some.injEq] at h3
  rw [<-h3]
  rfl
 ·rename_i hc
  rw [hc] at h3
  cases h3
theorem evE {C:Cfg} {d f:Nat} {fn:Func} {σ:Type} {yh:Yh σ} {args:List PV} {H:List Blk} {s:σ} (h:(C.P.funcs[f]?,C.okf f,fn.body)=(some fn,true,some (E6 fn))) :
  evC C (d+1) σ yh f args H s=B0 C (evC C d) yh (E6 fn) { sl:=args++List.replicate (fn.ntmps-args.length) (.tup []),hp:=H,s:=s } (J6 C fn):=by
 simp only [Prod.mk.injEq] at h
 exact Bg0 h.1 h.2.1 h.2.2
def Eb:List Nat->List Blk->List Blk
 | [],H=>H
 | i::r,H=>Eb r (H.set i .dead)
def QM (idx:List Nat) (ret:PV) (H:List Blk):Bool:=idx.all λi=>!(ret.nms.contains i)&&(Eb idx H).all λb=>!(b.nms.contains i)
theorem Qx:∀ (idx:List Nat) (H:List Blk),(Eb idx H).length=H.length/\∀ i (h:i<(Eb idx H).length) (h':i<H.length),(i∈idx/\(Eb idx H)[i] = .dead)\/(i∉idx/\(Eb idx H)[i]=H[i])
 | [],H=>⟨rfl,λi h h'=>.inr ⟨by simp,rfl⟩⟩
 | a::r,H=>by
  obtain ⟨h1,h2⟩:=Qx r (H.set a .dead)
  simp only [Eb]
  grind
theorem R6.dead {C:Cfg} {Γ:Ctx} {w w':World} {ret:PV} {Hc:List Blk} {V:Value} {idx:List Nat} (h:R6 C I0 Γ [] w noΦ ret Hc () V w') (hok:QM idx ret Hc=true):R6 C I0 Γ [] w noΦ ret (Eb idx Hc) () V w':=by
 obtain ⟨Γ1,Φ1,hs,hH1,hv,hvn,hi1,hd1⟩:=h
 obtain ⟨hl,hsp⟩:=Qx idx Hc
 simp only [QM,List.all_eq_true,Bool.and_eq_true,Bool.not_eq_true',List.contains_iff_mem,<-Bool.not_eq_true] at hok
 let Γ2:Ctx:={ Γ1 with nm:=λb=>if b∈idx then none else Γ1.nm b }
 have hnm:∀ b g,Γ2.nm b=some g->b∉idx/\Γ1.nm b=some g:=λb g h=>by
  simp only [Γ2] at h
  split at h
  ·cases h
  ·exact ⟨‹_›,h⟩
 have M:P7 Γ1 (A1 Hc) w' Γ2 (A1 (Eb idx Hc)) w' (·∉idx):=⟨λ_ _=>rfl,λ_ h=>h,λb hb=>by simp only [Γ2];rw [if_neg hb],λb hb=>by
  simp only [A1]
  by_cases hlt:b<Hc.length
  ·rcases hsp b (by omega) hlt with ⟨q,_⟩ | ⟨_,q⟩
   ·exact absurd q hb
   ·rw [List.getElem?_eq_getElem (by omega),List.getElem?_eq_getElem hlt,q]
  ·rw [List.getElem?_eq_none (by omega),List.getElem?_eq_none (by omega)],λ_ _ _ _=>rfl,rfl⟩
 refine ⟨Γ2,Φ1,⟨hs.os,hs.tape,hs.output,hs.size,hs.sub,hs.stnew,λb g h=>hs.own b g (hnm b g h).2,hs.foot,hs.frame,hs.yv,Nat.zero_le _,λb hb=>by simp at hb⟩,
  ⟨λb b' g h1 h2=>hH1.inj b b' g (hnm b g h1).2 (hnm b' g h2).2,λb g h=>by have:=hH1.lt b g (hnm b g h).2;rw [hl];exact this,hH1.stlt,λb hb c hc=>?_,λb hb=>?_⟩,
  hv.mono M (λb hb hi=>by have:=(hok b hi).1;exact this hb),λc hc=>by rw [hl];exact hvn c hc,hi1,λb g h=>hd1 b g (hnm b g h).2⟩
 ·have hlt:b<Hc.length:=by omega
  rcases hsp b hb hlt with ⟨_,q⟩ | ⟨_,q⟩
  ·rw [q] at hc;simp [Blk.nms] at hc
  ·rw [q] at hc;rw [hl];exact hH1.nms b hlt c hc
 ·have hlt:b<Hc.length:=by omega
  rcases hsp b hb hlt with ⟨_,q⟩ | ⟨q0,q⟩
  ·rw [q];trivial
  ·rw [q]
   refine (hH1.blk b hlt).mono M (M.nm b q0) (λ_ _=>rfl) (λc hc hi=>?_)
   have:=(hok c hi).2 _ (List.getElem_mem hb)
   rw [q] at this
   exact this hc
theorem N3 {C₀:Cfg} {g:Nat} {pf:List PV->Tr} (hX:XOK C₀) (hO:Cv C₀) (hm:C₀.P.follows .mixedOrders=true)
  (h:∀ args ret Hc,G2 (pf args)=some (ret,Hc)->B3 args=[]/\∃ d H0 idx,evC C₀ d Unit noY g args [] ()=some (ret,H0,())/\QM idx ret H0=true/\Eb idx H0=Hc):B2 C₀.P C₀.G g pf:=by
 intro args ret Hc hpf C hP hGe Γ w Vs hnm hH hG hc
 obtain ⟨hna,d,H0,idx,hev,hd,rfl⟩:=h args ret Hc hpf
 have h0:=Dm (C₀:=C₀) (g:=g) (pf:=λa=>match G2 (pf a) with | some _=>(match evC C₀ d Unit noY g a [] () with | some (r,H,_)=>cond (B3 a).isEmpty (.ret r H) .fail | none=>.fail) | none=>.fail) hX hO hm (λa r H hr=>by
  split at hr
  ·split at hr
   ·rename_i r' H' _ he
    cases hn:(B3 a).isEmpty with
    | true=>
     rw [hn] at hr
     simp only [cond_true,G2,An,Option.some.injEq,Prod.mk.injEq] at hr
     grind
    | false=>rw [hn] at hr;cases hr
   ·cases hr
  ·cases hr)
 refine (h0 args ret H0 ?_ C hP hGe Γ w Vs hnm hH hG hc).mono λV w' hR=>hR.dead hd
 dsimp only
 rw [hpf]
 dsimp only
 rw [hev]
 dsimp only
 rw [hna]
 rfl
theorem IP {C₀:Cfg} {g:Nat} {pf:List PV->Tr} (hX:XOK C₀) (hO:Cv C₀) (hm:C₀.P.follows .mixedOrders=true)
  (h:∀ args ret Hc,G2 (pf args)=some (ret,Hc)->B3 args=[]/\Hc=[]/\ret.nms=[]/\∃ d ret' H0,evC C₀ d Unit noY g args [] ()=some (ret',H0,())/\ret'.snap H0=ret):B2 C₀.P C₀.G g pf:=by
 intro args ret Hc hpf C hP hGe Γ w Vs hnm hH hG hc
 obtain ⟨hna,rfl,hnr,d,ret',H0,hev,rfl⟩:=h args ret Hc hpf
 have h0:=Dm (C₀:=C₀) (g:=g) (pf:=λa=>match evC C₀ d Unit noY g a [] () with | some (r,H,_)=>cond (B3 a).isEmpty (.ret r H) .fail | none=>.fail) hX hO hm (λa r H hr=>by
  split at hr
  ·rename_i r' H' _ he
   cases hn:(B3 a).isEmpty with
   | true=>
    rw [hn] at hr
    simp only [cond_true,G2,An,Option.some.injEq,Prod.mk.injEq] at hr
    grind
   | false=>rw [hn] at hr;cases hr
  ·cases hr)
 refine h0.snap args (ret'.snap H0) [] ?_ C hP hGe Γ w Vs hnm hH hG hc
 dsimp only
 rw [hev]
 dsimp only
 rw [hna]
 simp only [List.isEmpty_nil,cond_true,Tr.snap,hnr]
 rfl
section
variable {σ R : Type} {C : Cfg} {cl : D0} {yh : Yh σ} {c a b : Code} {st : St σ} {k : Out -> St σ -> Option R} {id : Nat}
theorem A0 {b:Bool} {x y x' y':Option R} (hx:x=x') (hy:y=y'):cond b x y=cond b x' y':=by rw [hx,hy]
end
def A3 {α:Type}:List (Nat × α)->Nat->Option α
 | [],_=>none
 | (a,l)::r,n=>cond (Nat.beq n a) (some l) (A3 r n)
def bds (n:Nat):List PV:=List.replicate n .bad
def tps (n:Nat):List PV:=List.replicate n (.tup [])
def gp:List (Nat × PV)->Nat->List PV
 | [],n=>bds n
 | (m,v)::r,n=>bds m++v::gp r n
abbrev LL:=List (List SV)
abbrev By:=List UInt8
def A5 (n:Int):Int:=IntKind.wrap .i64 n
def Ae3 (n:Int):Int:=IntKind.wrap .u64 n
def Bq2 (n:Int):Int:=IntKind.wrap .u32 n
def Bq1 (n:Int):Int:=IntKind.wrap .u16 n
def wu8 (n:Int):Int:=IntKind.wrap .u8 n
def Ac0 (k:IntKind) (a b:Int):Int:=a.fdiv (2 ^ min b.toNat k.bits)
def inR (n:Int) (m:Nat):Bool:=decide (0<=n)&&decide (n<m)
def UP:TI:=⟨true,false,[.int .i64]⟩
def Qm:TI:=⟨true,false,[.str]⟩
def okE (t:TI) (l:LL) (i o:Nat):Bool:=decide (i<l.length)&&okS t (l.getD i []) o
def gC (l:LL) (i j:Nat):SV:=(l.getD i []).getD j .nilp
def gE (l:LL) (i j:Nat):Int:=(gC l i j).gI
def gX (l:LL) (i j:Nat):By:=(gC l i j).gS
def gY (l:LL) (i j:Nat):Bool:=(gC l i j).gB
def bAt (s:By) (n:Int):Int:=((s.getD n.toNat 0).toNat:Int)
def Cu (l h:Int) (n:Nat):Bool:=decide (0<=l)&&decide (l<=h)&&decide (h<=n)
def cut {α:Type} (s:List α) (l h:Int):List α:=(s.take h.toNat).drop l.toNat
def Br7:Code->Bool | .rangeFunc _ _ _ _=>true | _=>false
def rgX:Code->Operand | .rangeFunc x _ _ _=>x | _=>.tmp 0
def rgP:Code->Array Tmp | .rangeFunc _ p _ _=>p | _=>#[]
theorem FU:∀ (p:List Nat),cd p .skip = .skip
 | []=>rfl
 | 0::_=>rfl
 | 1::_=>rfl
 | (_+2)::_=>rfl
theorem Bx:∀ (p q:List Nat) (c:Code),cd (p++q) c=cd q (cd p c)
 | [],q,c=>rfl
 | i::p,q,c=>by
  rw [List.cons_append]
  match i,c with
  | 0,.seq a b=>exact Bx p q a
  | 1,.seq a b=>exact Bx p q b
  | 0,.cond _ a b=>exact Bx p q a
  | 1,.cond _ a b=>exact Bx p q b
  | 0,.block _ a=>exact Bx p q a
  | 0,.loop a=>exact Bx p q a
  | 0,.scope a=>exact Bx p q a
  | 0,.rangeFunc _ _ a b=>exact Bx p q a
  | 1,.rangeFunc _ _ a b=>exact Bx p q b
  | 0,.skip | 0,.region _ _ _ | 0,.exit _ | 0,.label _ | 0,.goto _ | 0,.ret | 0,.refuse _=>exact (FU q).symm
  | 1,.skip | 1,.region _ _ _ | 1,.exit _ | 1,.scope _ | 1,.label _ | 1,.goto _ | 1,.ret | 1,.refuse _ | 1,.block _ _ | 1,.loop _=>exact (FU q).symm
  | _+2,.skip | _+2,.region _ _ _ | _+2,.exit _ | _+2,.scope _ | _+2,.label _ | _+2,.goto _ | _+2,.ret | _+2,.refuse _ | _+2,.block _ _ | _+2,.loop _ | _+2,.seq _ _ | _+2,.cond _ _ _ | _+2,.rangeFunc _ _ _ _=>exact (FU q).symm
section
variable {σ R : Type} {C : Cfg} {cl : D0} {yh : Yh σ} {B : Code} {st : St σ} {k : Out -> St σ -> Option R}
theorem KE (p:List Nat) (h:Br7 (cd p B)=true):B0 C cl yh (cd p B) st k=Ks C cl (opnd C st.sl (rgX (cd p B))) st (λsl0=>Ed (rgP (cd p B)) sl0 (bd C cl yh (cd (p++[0]) B)) (bd C cl yh (cd (p++[1]) B))) (λsl0=>L5 (rgP (cd p B)) sl0 (bd C cl yh (cd (p++[0]) B)) (bd C cl yh (cd (p++[1]) B))) k:=by
 rw [Bx,Bx]
 cases hc:cd p B<;>rw [hc] at h<;>first | rfl | cases h
theorem Ch {c:Bool} {x y:Option R} (h:x=y):need c x=cond c y none:=by rw [h];rfl
end
abbrev pS (l:List UInt8):PV:=.s (.str l)
abbrev pB (b:Bool):PV:=.s (.bool b)
abbrev pI (n:Int):PV:=.s (.int .i64 n)
abbrev p8 (n:Int):PV:=.s (.int .u8 n)
abbrev p16 (n:Int):PV:=.s (.int .u16 n)
abbrev p32 (n:Int):PV:=.s (.int .u32 n)
abbrev vl {α β:Type} (e:α) (f:α->β):β:=f e
theorem B9 {α R:Type} {e:α} {f g:α->Option R} (h:∀ x,f x=g x):vl e f=vl e g:=h e
def Bd6 (m n:Nat):Bool:=decide (m+n<4611686018427387904)
theorem fx1 {A R:Type} {f g:A->R} (h0:∀ a,f a=g a):f=g:=funext h0
theorem fx2 {A B R:Type} {f g:A->B->R} (h0:∀ a b,f a b=g a b):f=g:=funext λa=>fx1 (h0 a)
theorem fx3 {A B C R:Type} {f g:A->B->C->R} (h0:∀ a b c,f a b c=g a b c):f=g:=funext λa=>fx2 (h0 a)
theorem fx4 {A B C D R:Type} {f g:A->B->C->D->R} (h0:∀ a b c d,f a b c d=g a b c d):f=g:=funext λa=>fx3 (h0 a)
theorem fx5 {A B C D E R:Type} {f g:A->B->C->D->E->R} (h0:∀ a b c d e,f a b c d e=g a b c d e):f=g:=funext λa=>fx4 (h0 a)
theorem fx6 {A B C D E H R:Type} {f g:A->B->C->D->E->H->R} (h0:∀ a b c d e h,f a b c d e h=g a b c d e h):f=g:=funext λa=>fx5 (h0 a)
theorem fx7 {A B C D E H I R:Type} {f g:A->B->C->D->E->H->I->R} (h0:∀ a b c d e h i,f a b c d e h i=g a b c d e h i):f=g:=funext λa=>fx6 (h0 a)
theorem fx8 {A B C D E H I J R:Type} {f g:A->B->C->D->E->H->I->J->R} (h0:∀ a b c d e h i j,f a b c d e h i j=g a b c d e h i j):f=g:=funext λa=>fx7 (h0 a)
theorem fx9 {A B C D E H I J K R:Type} {f g:A->B->C->D->E->H->I->J->K->R} (h0:∀ a b c d e h i j k,f a b c d e h i j k=g a b c d e h i j k):f=g:=funext λa=>fx8 (h0 a)
theorem Br6 {A B C D E H I J K L R:Type} {f g:A->B->C->D->E->H->I->J->K->L->R} (h0:∀ a b c d e h i j k l,f a b c d e h i j k l=g a b c d e h i j k l):f=g:=funext λa=>fx9 (h0 a)
def Ab3 {α β:Type} (z:α) (f:β->List β->α->α):List β->α
 | []=>z
 | x::xs=>f x xs (Ab3 z f xs)
def Vu (n:Nat):PV->PV
 | .s (.sl z t k els)=>if n=0 then .s (.sl z t k els) else if k=n then .s (.sl z t k els) else .s (.sl z t (cond z n k) els)
 | v=>v
def Jb:List Nat->List PV->List PV
 | n::r,v::l=>Vu n v::Jb r l
 | _,l=>l
def Bg1 (szs:List Nat):PV->PV
 | .agg l=>.agg (Jb szs l)
 | v=>Vu (szs.headD 0) v
def D7:List (List Nat)->List PV->List PV
 | s::r,v::l=>Bg1 s v::D7 r l
 | _,l=>l
section
variable {Γ : Ctx} {sh : Nat -> Option Shp} {w : World}
theorem Fp {n:Nat} {v:PV} {V:Value} (h:VP Γ sh w v V):VP Γ sh w (Vu n v) V:=by
 unfold Vu
 split
 ·rename_i z t k els
  split
  ·exact h
  ·split
   ·exact h
   ·cases z with
    | false=>exact h
    | true=>
     have hs:=h.inv_s
     cases hs with
     | nil=>exact .s _ _ (.nil _ _)
 ·exact h
theorem Er:∀ (szs:List Nat) (l:List PV),(Jb szs l).length=l.length
 | [],_=>rfl
 | _::_,[]=>rfl
 | n::r,v::l=>by simp [Jb,Er r l]
theorem Hf:∀ (szs:List Nat) (l:List PV) (j:Nat) (h:j<l.length) (h':j<(Jb szs l).length),∃ n,(Jb szs l)[j]=Vu n l[j]
 | [],l,j,h,h'=>⟨0,by
  have e:Jb [] l=l:=by cases l<;>rfl
  simp only [e]
  unfold Vu
  split
  ·rename_i he;rw [he];simp
  ·rfl⟩
 | n::r,v::l,0,h,h'=>⟨n,rfl⟩
 | n::r,v::l,j+1,h,h'=>by
  obtain ⟨m,e⟩:=Hf r l j (by simpa using h) (by simpa [Jb] using h')
  exact ⟨m,by simpa [Jb] using e⟩
theorem A12 {szs:List Nat} {v:PV} {V:Value} (h:VP Γ sh w v V):VP Γ sh w (Bg1 szs v) V:=by
 unfold Bg1
 split
 ·rename_i l
  obtain ⟨A,rfl,hA,hc⟩:=h.inv_agg
  refine VP.mk_agg (by rw [Er];exact hA) λj hj=>?_
  have hj':j<l.length:=by rw [Er] at hj;exact hj
  obtain ⟨U,e,k⟩:=hc j hj'
  obtain ⟨m,e2⟩:=Hf szs l j hj' hj
  exact ⟨U,e,by rw [e2];exact Fp k⟩
 ·exact Fp h
theorem KJ:∀ (szs:List (List Nat)) (l:List PV),(D7 szs l).length=l.length
 | [],_=>rfl
 | _::_,[]=>rfl
 | n::r,v::l=>by simp [D7,KJ r l]
theorem A13:∀ (szs:List (List Nat)) (l:List PV) (V:Array Value),CR Γ sh w l V->CR Γ sh w (D7 szs l) V:=by
 intro szs l V h
 refine ⟨by rw [KJ];exact h.1,?_⟩
 have key:∀ (szs:List (List Nat)) (l:List PV) (As:Nat->Option Value),(∀ j (h:j<l.length),∃ U,As j=some U/\VP Γ sh w (l[j]) U)->∀ j (h:j<(D7 szs l).length),∃ U,As j=some U/\VP Γ sh w ((D7 szs l)[j]) U:=by
  intro szs
  induction szs with
  | nil=>intro l As hl j hj;exact hl j (by cases l<;>exact hj)
  | cons s r ih=>
   intro l As hl j hj
   cases l with
   | nil=>simp [D7] at hj
   | cons v l=>
    cases j with
    | zero=>
     obtain ⟨U,e,k⟩:=hl 0 (by simp)
     exact ⟨U,e,A12 k⟩
    | succ j=>
     have:=ih l (λj=>As (j+1)) (λj h=>hl (j+1) (by simpa using h)) j (by simpa [D7] using hj)
     simpa [D7] using this
 exact key szs l (λj=>V[j]?) h.2
end
theorem B2.fix {P:Program} {G:GT} {g:Nat} {pf:List PV->Tr} (szs:List (List Nat)) (h:B2 P G g pf):B2 P G g (λargs=>pf (D7 szs args)):=
 λargs ret Hc hpf C hP hGe Γ w Vs hnm hH hG hc=>h (D7 szs args) ret Hc hpf C hP hGe Γ w Vs hnm hH hG (A13 szs args Vs hc)
theorem F5 {v:PV} {H:List Blk} {ret:PV} {Hc:List Blk} (h:G2 (.ret v H)=some (ret,Hc)):ret=v/\Hc=H:=by
 simp only [G2,An,Option.some.injEq,Prod.mk.injEq] at h
 grind
theorem A9 {c:Bool} {t:Tr} {ret:PV} {Hc:List Blk} (h:G2 (.need c t)=some (ret,Hc)):c=true/\G2 t=some (ret,Hc):=by
 cases c with
 | true=>exact ⟨rfl,h⟩
 | false=>cases h
theorem Hu {c:Bool} {a b:Tr} {ret:PV} {Hc:List Blk} (h:G2 (.split c a b)=some (ret,Hc)):(c=true/\G2 a=some (ret,Hc))\/(c=false/\G2 b=some (ret,Hc)):=by
 cases c with
 | true=>exact .inl ⟨rfl,h⟩
 | false=>exact .inr ⟨rfl,h⟩
theorem Bc7:∃ n:Nat,100000000000000000000<=n:=⟨_,Nat.le_refl _⟩
noncomputable def LF:Nat:=Classical.choose Bc7
theorem K9:100000000000000000000<=LF:=Classical.choose_spec Bc7
attribute [irreducible] LF
theorem YA (b:UInt8):KD (I8 b)=b:=by
 simp [KD,I8,SV.gI]
theorem LT (l:List UInt8):(l.map I8).map KD=l:=by
 rw [List.map_map]
 have:KD ∘ I8=id:=by funext b;exact YA b
 rw [this,List.map_id]
theorem YP (b:UInt8):RM (I8 b)=true:=by
 have:=b.toNat_lt
 simp only [RM,I8,Bool.and_eq_true,decide_eq_true_eq]
 omega
theorem JD (l:List UInt8):(l.map I8).all RM=true:=by
 rw [List.all_map]
 simp [Function.comp_def,YP]
theorem Bk2 (n:Nat):IntKind.wrap .u8 (n:Int)=((n % 256:Nat):Int):=by simp [IntKind.wrap,IntKind.bits,IntKind.signed]
theorem Ba6 (n:Nat):IntKind.wrap .u16 (n:Int)=((n % 65536:Nat):Int):=by simp [IntKind.wrap,IntKind.bits,IntKind.signed]
theorem Ba7 (n:Nat):IntKind.wrap .u32 (n:Int)=((n % 4294967296:Nat):Int):=by simp [IntKind.wrap,IntKind.bits,IntKind.signed]
theorem Ba8 (n:Nat):IntKind.wrap .u64 (n:Int)=((n % 18446744073709551616:Nat):Int):=by simp [IntKind.wrap,IntKind.bits,IntKind.signed]
theorem Ba5 (n:Int) (h0:-9223372036854775808<=n) (h1:n<9223372036854775808):IntKind.wrap .i64 n=n:=by
 simp [IntKind.wrap,IntKind.bits,IntKind.signed]
 split<;>omega
theorem An6 (n m:Nat):Int.fdiv (n:Int) (m:Int)=((n / m:Nat):Int):=by
 rw [Int.fdiv_eq_ediv_of_nonneg _ (by omega)]
 rfl
theorem W3 (n m:Nat):Int.tdiv (n:Int) (m:Int)=((n / m:Nat):Int):=by
 rw [Int.tdiv_eq_ediv_of_nonneg (by omega)]
 rfl
theorem Xy (n m:Nat):Int.tmod (n:Int) (m:Int)=((n % m:Nat):Int):=by
 rw [Int.tmod_eq_emod_of_nonneg (by omega)]
 rfl
end
section
open Go Go.ChangeShapes Go.RowKit Go.Sort Go.WideShapes
theorem R2 {P:Program} {f:Nat} {fn:Func} {Vs:Array Value} {w:World} {R:Value->World->Prop} (hf:P.funcs[f]? = some fn) (hb:fn.body.isSome=true) (hn:(fn.name == "runtime.NumGoroutine")=false)
  (h:Calls P f Vs w λe w'=>∃ V,e = .returned V/\R V w'):I2 P ((callFunc f Vs).run P w) R:=by
 obtain ⟨c,hb⟩:=Option.isSome_iff_exists.1 hb
 intro ro n o a next Q hnext
 have hrun:(callFunc f Vs).run P w = .ok (.enter f Vs) w:=by
  have hn':¬ fn.name = "runtime.NumGoroutine":=by simpa using hn
  simp [callFunc,hf,hb,hn',Result.andThen]
 rw [hrun]
 simp only [Oper.uponIn_enter]
 refine ⟨λh=>(by simp [C1,Fence.wide] at h),?_⟩
 have key:CallsIn Fence.wide (n-1) P f Vs w λe w'=>∃ V,e = .returned V/\R V w':=callsIn_wide.2 h
 have key':CallsIn (C1 ro) (n-1) P f Vs w λe w'=>∃ V,e = .returned V/\R V w':=key
 refine key'.mono ?_
 rintro e w' ⟨V,rfl,hR⟩
 exact hnext V w' hR
theorem Am3 {C:Cfg} {Γ:Ctx} {w w':World} {ret:PV} {V:Value} (hnm:∀ b,Γ.nm b=none) (hH:HR Γ [] w) (hb:Below w.heap.size w w') (hv:VP Γ (A1 []) w' ret V) (hr:ret.nms=[]):R6 C I0 Γ [] w noΦ ret [] () V w':=by
 refine ⟨Γ,noΦ,⟨hb.os,hb.tape,hb.output,hb.size,λ_ h=>h,λ_ h=>.inl h,λb g h=>(by rw [hnm] at h;cases h),λ_ h=>h.elim,λg hg _ _=>hb.block g hg,rfl,Nat.le_refl _,λb h=>(by simp at h)⟩,
  ⟨λb b' g h=>(by rw [hnm] at h;cases h),λb g h=>(by rw [hnm] at h;cases h),λg hg=>Nat.lt_of_lt_of_le (hH.stlt g hg) hb.size,λb h=>(by simp at h),λb h=>(by simp at h)⟩,hv,by rw [hr];simp,λ_ h=>h,λb g h=>(by rw [hnm] at h;cases h)⟩
theorem JM (w:World) (n:Nat):Below w.heap.size w (w.drewN n):=⟨rfl,rfl,rfl,Nat.le_refl _,λ_ _=>rfl⟩
section
variable {Γ : Ctx} {sh : Nat -> Option Shp} {w : World}
theorem CR.arr1 {a:PV} {A:Array Value} (h:CR Γ sh w [a] A):∃ U,A = #[U]/\VP Γ sh w a U:=by
 obtain ⟨U,e,k⟩:=h.2 0 (by simp)
 refine ⟨U,?_,k⟩
 have hs:A.size=1:=h.1
 grind
theorem CR.arr2 {a b:PV} {A:Array Value} (h:CR Γ sh w [a,b] A):∃ U V,A = #[U,V]/\VP Γ sh w a U/\VP Γ sh w b V:=by
 obtain ⟨U,e,k⟩:=h.2 0 (by simp)
 obtain ⟨V,e',k'⟩:=h.2 1 (by simp)
 refine ⟨U,V,?_,k,k'⟩
 have hs:A.size=2:=h.1
 grind
theorem CR.arr3 {a b c:PV} {A:Array Value} (h:CR Γ sh w [a,b,c] A):∃ U V W,A = #[U,V,W]/\VP Γ sh w a U/\VP Γ sh w b V/\VP Γ sh w c W:=by
 obtain ⟨U,e,k⟩:=h.2 0 (by simp)
 obtain ⟨V,e',k'⟩:=h.2 1 (by simp)
 obtain ⟨W,e'',k''⟩:=h.2 2 (by simp)
 refine ⟨U,V,W,?_,k,k',k''⟩
 have hs:A.size=3:=h.1
 grind
theorem VP.mk_str (l:List UInt8):VP Γ sh w (.s (.str l)) (.string ⟨l.toArray⟩):=by
 have:=VP.s (Γ:=Γ) (sh:=sh) (w:=w) _ _ (VS.str (St:=Γ.St) (w:=w) ⟨l.toArray⟩)
 omega
theorem VP.mk_int (k:IntKind) (n:Int):VP Γ sh w (.s (.int k n)) (.int k n):=.s _ _ (.int k n)
theorem VP.mk_bool (b:Bool):VP Γ sh w (.s (.bool b)) (.bool b):=.s _ _ (.bool b)
theorem VP.mk_tup3 {a b c:PV} {U V W:Value} (h:VP Γ sh w a U) (k:VP Γ sh w b V) (l:VP Γ sh w c W):VP Γ sh w (.tup [a,b,c]) (.tuple #[U,V,W]):=
 VP.mk_tup rfl λj hj=>by grind
end
theorem Cs {P:Program} {G:GT} {g:Nat} {fn:Func} {pf:List PV->Tr} (hf:P.funcs[g]? = some fn) (hb:fn.body.isSome=true) (hn:(fn.name == "runtime.NumGoroutine")=false)
  (h:∀ args ret Hc,G2 (pf args)=some (ret,Hc)->Hc=[]/\ret.nms=[]/\∀ C:Cfg,C.P=P->C.G=G->∀ Γ w Vs,GOK C Γ.St w->(∀ g,Γ.St g->g<w.heap.size)->CR Γ (A1 []) w args Vs->
   Calls P g Vs w λe w'=>∃ V,e = .returned V/\Below w.heap.size w w'/\VP Γ (A1 []) w' ret V):B2 P G g pf:=by
 intro args ret Hc hpf C hP hG Γ w Vs hnm hH hg hc
 obtain ⟨rfl,hr,h1⟩:=h args ret Hc hpf
 exact R2 hf hb hn ((h1 C hP hG Γ w Vs hg hH.stlt hc).mono λe w' ⟨V,he,hb,hv⟩=>⟨V,he,Am3 hnm hH hb hv hr⟩)
def PV.stab (szs:List Nat) (H:List Blk):PV->PV
 | .tup l=>.tup (Jb szs (I1 H l))
 | v=>Vu (szs.headD 0) (v.snap H)
theorem VP.stab {Γ:Ctx} {H:List Blk} {w:World} (szs:List Nat) (hH:HR Γ H w) {v:PV} {V:Value} (h:VP Γ (A1 H) w v V):VP Γ.all (A1 H) w (v.stab szs H) V:=by
 by_cases ht:∃ l,v = .tup l
 ·obtain ⟨l,rfl⟩:=ht
  obtain ⟨A,rfl,hA,hc⟩:=h.inv_tup
  simp only [PV.stab]
  have hl:(Jb szs (I1 H l)).length=l.length:=by rw [Er,N4,List.length_map]
  refine VP.mk_tup (by rw [hl];exact hA) λj hj=>?_
  obtain ⟨U,e,k⟩:=hc j (by omega)
  refine ⟨U,e,?_⟩
  have hj':j<(I1 H l).length:=by rw [N4,List.length_map];omega
  obtain ⟨n,en⟩:=Hf szs (I1 H l) j hj' hj
  rw [en]
  have e2:(I1 H l)[j]=(l[j]'(by omega)).snap H:=by
   simp only [N4,List.getElem_map]
  rw [e2]
  exact Fp (k.snap hH)
 ·have e:v.stab szs H=Vu (szs.headD 0) (v.snap H):=by
   cases v with
   | tup l=>exact absurd ⟨l,rfl⟩ ht
   | _=>rfl
  rw [e]
  exact Fp (h.snap hH)
theorem Yi (f:List Blk->PV->PV) (hf:∀ {Γ:Ctx} {H:List Blk} {w:World},HR Γ H w->∀ {v:PV} {V:Value},VP Γ (A1 H) w v V->VP Γ.all (A1 H) w (f H v) V) {C₀:Cfg} {g:Nat} {pf:List PV->Tr} (hX:XOK C₀) (hO:Cv C₀) (hm:C₀.P.follows .mixedOrders=true)
  (h:∀ args ret Hc,G2 (pf args)=some (ret,Hc)->B3 args=[]/\Hc=[]/\ret.nms=[]/\∃ d ret' H0,evC C₀ d Unit noY g args [] ()=some (ret',H0,())/\f H0 ret'=ret):B2 C₀.P C₀.G g pf:=by
 intro args ret Hc hpf C hP hGe Γ w Vs hnm hH hG hc
 obtain ⟨hna,rfl,hnr,d,ret',H0,hev,rfl⟩:=h args ret Hc hpf
 have h0:=Dm (C₀:=C₀) (g:=g) (pf:=λa=>match evC C₀ d Unit noY g a [] () with | some (r,H,_)=>cond (B3 a).isEmpty (.ret r H) .fail | none=>.fail) hX hO hm (λa r H hr=>by
  split at hr
  ·rename_i r' H' _ he
   cases hn:(B3 a).isEmpty with
   | true=>
    rw [hn] at hr
    simp only [cond_true,G2,An,Option.some.injEq,Prod.mk.injEq] at hr
    grind
   | false=>rw [hn] at hr;cases hr
  ·cases hr)
 refine (h0 args ret' H0 (by dsimp only;rw [hev];dsimp only;rw [hna];rfl) C hP hGe Γ w Vs hnm hH hG hc).mono ?_
 rintro V w' ⟨Γ1,Φ1,hs,hH1,hv,hvn,hi1,hd1⟩
 let Γ2:Ctx:={ Γ1.all with nm:=λ_=>none }
 have hlt:∀ g,Γ2.St g->g<w'.heap.size:=λg hg=>by
  rcases hg with hg | ⟨b,hb⟩
  ·exact hH1.stlt g hg
  ·exact (hH1.lt b g hb).2.1
 refine ⟨Γ2,Φ1,⟨hs.os,hs.tape,hs.output,hs.size,λg hg=>.inl (hs.sub g hg),λg hg=>?_,λb g h=>by simp [Γ2] at h,hs.foot,hs.frame,hs.yv,Nat.le_refl _,λb hb=>by simp at hb⟩,
  Fk (λ_=>rfl) hlt,?_,by rw [hnr];simp,hi1,λb g h=>by simp [Γ2] at h⟩
 ·rcases hg with hg | ⟨b,hb⟩
  ·exact hs.stnew g hg
  ·rcases hs.own b g hb with ⟨h',_⟩ | h'
   ·simp at h'
   ·exact .inr h'
 ·exact VP.mono (Γ:=Γ1.all) (Γ':=Γ2) (w:=w') (w':=w') (sh:=A1 H0) (ok:=λ_=>False) ⟨λ_ _=>rfl,λ_ h=>h,λ_ h=>h.elim,λ_ h=>h.elim,λ_ _ h=>h.elim,rfl⟩ (hf hH1 hv) (by rw [hnr];simp)
theorem I7 (szs:List Nat) {C₀:Cfg} {g:Nat} {pf:List PV->Tr} (hX:XOK C₀) (hO:Cv C₀) (hm:C₀.P.follows .mixedOrders=true)
  (h:∀ args ret Hc,G2 (pf args)=some (ret,Hc)->B3 args=[]/\Hc=[]/\ret.nms=[]/\∃ d ret' H0,evC C₀ d Unit noY g args [] ()=some (ret',H0,())/\ret'.stab szs H0=ret):B2 C₀.P C₀.G g pf:=
 Yi (λH v=>v.stab szs H) (λhH _ _ h=>h.stab szs hH) hX hO hm h
def Tr.Good (szs:List Nat) (args:List PV) (e:Option (PV × List Blk × Unit)):Tr->Prop
 | .ret v H=>B3 args=[]/\H=[]/\v.nms=[]/\∃ r H0,e=some (r,H0,())/\r.stab szs H0=v
 | .need c t=>c=true->Good szs args e t
 | .split c a b=>(c=true->Good szs args e a)/\(c=false->Good szs args e b)
 | .fail=>True
theorem Tr.Good.res {szs:List Nat} {args:List PV} {e:Option (PV × List Blk × Unit)} {ret:PV} {Hc:List Blk}:∀ {t:Tr},t.Good szs args e->G2 t=some (ret,Hc)->B3 args=[]/\Hc=[]/\ret.nms=[]/\∃ r H0,e=some (r,H0,())/\r.stab szs H0=ret
 | .ret v H,h,hr=>by
  obtain ⟨rfl,rfl⟩:=F5 hr
  exact h
 | .need c t,h,hr=>by
  obtain ⟨h0,hr⟩:=A9 hr
  exact res (h h0) hr
 | .split c a b,h,hr=>by
  rcases Hu hr with ⟨h0,hr⟩ | ⟨h0,hr⟩
  ·exact res (h.1 h0) hr
  ·exact res (h.2 h0) hr
theorem xf (szs:List Nat) (C₀:Cfg) {g:Nat} (pf:List PV->Tr) {ss:List (List Nat)} {l:List (Nat × (List PV->Tr))} {lo:List Nat} (hl:C₀.X=IL l) (hx:I3 C₀.P C₀.G l) (ho:C₀.okf=okL lo) (hb:TA C₀ lo=true) (hm:C₀.P.follows .mixedOrders=true)
  (h:∀ args,(pf args).Good szs args (evC C₀ 1 Unit noY g args [] ())) (h2:C₀.Y=Fb []:=by rfl) (h3:C₀.S=Fb []:=by rfl) (h4:C₀.Z=Fb []:=by rfl):B2 C₀.P C₀.G g (λargs=>pf (D7 ss args)):=
 B2.fix ss (I7 szs (I3.ok hl hx h2 h3 h4) (D9 ho hb) hm λargs ret Hc hr=>by
  obtain ⟨q1,q2,q3,r,H0,q4,q5⟩:=(h args).res hr
  exact ⟨q1,q2,q3,1,r,H0,q4,q5⟩)
end
section
open Go
def RF (n:Nat) (ret:PV) (H:List Blk):Bool:=ret.nms.all (Nat.blt · n)&&H.all λb=>b.nms.all (Nat.blt · n)
theorem R6.head {C:Cfg} {σ:Type} {I:σ->(Nat->Prop)->(Nat->Prop)->World->Prop} {Γ:Ctx} {H Hc T:List Blk} {w w':World} {Φ:Nat->Prop} {s':σ} {ret:PV} {V:Value}
  (h:R6 C I Γ H w Φ ret (Hc++T) s' V w') (hl:H.length<=Hc.length) (hok:RF Hc.length ret Hc=true):R6 C I Γ H w Φ ret Hc s' V w':=by
 obtain ⟨Γ1,Φ1,hs,hH1,hv,hvn,hi1,hd1⟩:=h
 simp only [RF,Bool.and_eq_true,List.all_eq_true,Nat.blt_eq] at hok
 let Γ2:Ctx:={ Γ1 with nm:=λb=>if b<Hc.length then Γ1.nm b else none }
 have hnm:∀ b g,Γ2.nm b=some g->b<Hc.length/\Γ1.nm b=some g:=λb g h=>by grind
 have get:∀ b (h:b<Hc.length) (h':b<(Hc++T).length),(Hc++T)[b]=Hc[b]:=λb h h'=>List.getElem_append_left h
 have shp:∀ b,b<Hc.length->A1 Hc b=A1 (Hc++T) b:=λb hb=>by
  simp only [A1]
  grind
 have M:P7 Γ1 (A1 (Hc++T)) w' Γ2 (A1 Hc) w' (· < Hc.length):=⟨λ_ _=>rfl,λ_ h=>h,λb hb=>by simp only [Γ2];rw [if_pos hb],λb hb=>shp b hb,λ_ _ _ _=>rfl,rfl⟩
 refine ⟨Γ2,Φ1,⟨hs.os,hs.tape,hs.output,hs.size,hs.sub,hs.stnew,λb g h=>hs.own b g (hnm b g h).2,hs.foot,hs.frame,hs.yv,hl,λb hb hf=>?_⟩,
  ⟨λb b' g h1 h2=>hH1.inj b b' g (hnm b g h1).2 (hnm b' g h2).2,λb g h=>by have:=hH1.lt b g (hnm b g h).2;exact ⟨(hnm b g h).1,this.2⟩,hH1.stlt,λb hb c hc=>hok.2 _ (List.getElem_mem hb) c hc,λb hb=>?_⟩,
  hv.mono M (λb hb=>hok.1 b hb),λc hc=>hok.1 c hc,hi1,λb g h=>hd1 b g (hnm b g h).2⟩
 ·obtain ⟨m1,m2,m3⟩:=hs.keep b hb hf
  have hb2:b<Hc.length:=Nat.lt_of_lt_of_le hb hl
  exact ⟨by simp only [Γ2];rw [if_pos hb2];exact m1,by rw [shp b hb2];exact m2,m3⟩
 ·have hb':b<(Hc++T).length:=by rw [List.length_append];omega
  have:=hH1.blk b hb'
  rw [get b hb hb'] at this
  exact this.mono M (M.nm b hb) (λ_ _=>rfl) (λc hc=>hok.2 _ (List.getElem_mem hb) c hc)
theorem W5 {C₀:Cfg} {g:Nat} {pf:List PV->List Blk->Tr} (hX:XOK C₀) (hO:Cv C₀) (hm:C₀.P.follows .mixedOrders=true)
  (h:∀ args H ret Hc,G2 (pf args H)=some (ret,Hc)->Nat.ble H.length Hc.length=true/\RF Hc.length ret Hc=true/\∀ (σ:Type) (yh:Yh σ) (s:σ),∃ d H0,evC C₀ d σ yh g args H s=some (ret,H0,s)/\H0.take Hc.length=Hc):Jd C₀.P C₀.G g pf:=by
 intro C hP hG σ I yh yv hI hy args H s ret Hc hpf Γ Φ w Vs hyv hH hg hi hd hc hn
 obtain ⟨hl,hok,h1⟩:=h args H ret Hc hpf
 obtain ⟨d,H0,hev,ht⟩:=h1 σ yh s
 rw [<-List.take_append_drop Hc.length H0,ht] at hev
 refine (Eo hX hO hm d σ I yh yv hI hy g args H s ret (Hc++H0.drop Hc.length) s hev Γ Φ w Vs hyv hH (hg.congr hG.symm) hi hd hc hn).mono ?_
 rintro V w' hr
 obtain ⟨Γ1,Φ1,hs,k1,k2,k3,k4,k5⟩:=hr.head (Nat.le_of_ble_eq_true hl) hok
 exact ⟨Γ1,Φ1,hs.congr hP.symm,k1,k2,k3,k4,k5⟩
def PV.snapQ (szc:List Nat) (H:List Blk):PV->PV
 | .ptr b 0 0=>match H[b]? with
  | some (.box cells)=>match Co (Jb szc (I1 H cells)) with
   | some vs=>.s (.sp [vs] 0 0)
   | none=>.bad
  | _=>.bad
 | v=>v.snap H
def PV.stabQ (szs szc:List Nat) (H:List Blk):PV->PV
 | .tup l=>.tup (Jb szs (l.map (PV.snapQ szc H)))
 | v=>Vu (szs.headD 0) (v.snapQ szc H)
theorem VP.snapQ {Γ:Ctx} {H:List Blk} {w:World} (szc:List Nat) (hH:HR Γ H w) {v:PV} {V:Value} (h:VP Γ (A1 H) w v V):VP Γ.all (A1 H) w (v.snapQ szc H) V:=by
 unfold PV.snapQ
 split
 ·rename_i b
  split
  ·rename_i cells hb
   split
   ·rename_i vs hvs
    obtain ⟨g,cur,e,hg,hh,hcur,hcells,_⟩:=hH.box' hb
    have hV:V = .pointer (some ⟨g,0,none⟩):=by
     cases h with
     | ptrA _ _ _ g' v e sz n h' hg'=>simp [A1,hb,Blk.shp] at h'
     | ptrB _ _ g' h' hg'=>rw [hg] at hg';cases hg';rfl
    subst hV
    have hl:(Jb szc (I1 H cells)).length=cells.length:=by rw [Er,N4,List.length_map]
    obtain ⟨f1,f2⟩:=G6 (Γ:=Γ.all) (w:=w) (sh:=A1 H) (As:=cur.toList) hvs (by rw [hl];simpa using hcur.symm) (λj hj=>by
     obtain ⟨U,e1,k⟩:=hcells j (by omega)
     have hj':j<(I1 H cells).length:=by rw [N4,List.length_map];omega
     obtain ⟨n,en⟩:=Hf szc (I1 H cells) j hj' hj
     refine ⟨U,by simpa using e1,?_⟩
     rw [en]
     have e2:(I1 H cells)[j]=(cells[j]'(by omega)).snap H:=by simp only [N4,List.getElem_map]
     rw [e2]
     exact Fp (k.snap hH))
    refine .s _ _ ?_
    have hvl:vs.length=cells.length:=by rw [f1];simpa using hcur
    have:=VS.sp (St:=Γ.all.St) (w:=w) [vs] 0 0 g 0 vs.length (λ_ j=>cur.getD j undef) (.inr ⟨b,hg⟩) (λi hi=>by
      have:i=0:=by simpa using hi
      subst this;rfl) (λi hi j hj=>?_) (λi hi j hj=>?_)
    ·simpa using this
    ·have:i=0:=by simpa using hi
     subst this
     have hj':j<cur.size:=by rw [hcur,<-hvl];exact hj
     simp [World.cell?,hh,hj']
    ·have:i=0:=by simpa using hi
     subst this
     have hj1:j<vs.length:=hj
     obtain ⟨U,e1,k⟩:=f2 j hj1
     have e3:cur.getD j undef=U:=by rw [Array.getD_eq_getD_getElem?,<-Array.getElem?_toList,e1];rfl
     rw [e3]
     exact k
   ·exact .bad _
  ·exact .bad _
 ·exact h.snap hH
theorem VP.stabQ {Γ:Ctx} {H:List Blk} {w:World} (szs szc:List Nat) (hH:HR Γ H w) {v:PV} {V:Value} (h:VP Γ (A1 H) w v V):VP Γ.all (A1 H) w (v.stabQ szs szc H) V:=by
 unfold PV.stabQ
 split
 ·rename_i l
  obtain ⟨A,rfl,hA,hc⟩:=h.inv_tup
  have hl:(Jb szs (l.map (PV.snapQ szc H))).length=l.length:=by rw [Er,List.length_map]
  refine VP.mk_tup (by rw [hl];exact hA) λj hj=>?_
  obtain ⟨U,e,k⟩:=hc j (by omega)
  refine ⟨U,e,?_⟩
  obtain ⟨n,en⟩:=Hf szs (l.map (PV.snapQ szc H)) j (by rw [List.length_map];omega) hj
  rw [en,List.getElem_map]
  exact Fp (k.snapQ szc hH)
 ·exact Fp (h.snapQ szc hH)
theorem Yj (szs szc:List Nat) {C₀:Cfg} {g:Nat} {pf:List PV->Tr} (hX:XOK C₀) (hO:Cv C₀) (hm:C₀.P.follows .mixedOrders=true)
  (h:∀ args ret Hc,G2 (pf args)=some (ret,Hc)->B3 args=[]/\Hc=[]/\ret.nms=[]/\∃ d ret' H0,evC C₀ d Unit noY g args [] ()=some (ret',H0,())/\ret'.stabQ szs szc H0=ret):B2 C₀.P C₀.G g pf:=
 Yi (λH v=>v.stabQ szs szc H) (λhH _ _ h=>h.stabQ szs szc hH) hX hO hm h
def orT:Tr->Tr->Tr
 | .fail,t=>t
 | t,_=>t
theorem Sq {P:Program} {G:GT} {g:Nat} {p q:List PV->Tr} (h:B2 P G g p) (k:B2 P G g q):B2 P G g λa=>orT (p a) (q a):=by
 intro args ret Hc hr
 dsimp only at hr
 cases e:p args with
 | fail=>rw [e] at hr;exact k args ret Hc hr
 | _=>rw [e] at hr;exact h args ret Hc (by rw [e];exact hr)
def Uv (P:Program):List (Nat × (SV->List (List SV)->Bool × List (List SV)))->Prop
 | []=>True
 | (g,pf)::r=>IZ P g pf/\Uv P r
theorem Uv.mem {P:Program}:∀ {l:List (Nat × (SV->List (List SV)->Bool × List (List SV)))} {g:Nat} {pf:SV->List (List SV)->Bool × List (List SV)},Uv P l->(g,pf)∈l->IZ P g pf
 | [],_,_,_,hm=>by simp at hm
 | (n,q)::r,g,pf,h,hm=>by
  rcases List.mem_cons.1 hm with e | hm
  ·cases e;exact h.1
  ·exact Uv.mem h.2 hm
theorem Be1 {C:Cfg} {lx:List (Nat × (List PV->Tr))} {ly:List (Nat × (List PV->List Blk->Tr))} {ls:List (Nat × (List PV->List Blk->Option (Bool × List (List PV))))} {lz:List (Nat × (SV->List (List SV)->Bool × List (List SV)))} (h1:C.X=IL lx) (h2:C.Y=Fb ly) (h3:C.S=Fb ls) (h4:C.Z=Fb lz) (x:I3 C.P C.G lx) (y:Du C.P C.G ly) (s:Dq C.P C.G ls) (z:Uv C.P lz):XOK C:=
 ⟨I3.x1 h1 x,Du.ok h2 y,Dq.ok h3 s,λg pf h=>by rw [h4] at h;exact z.mem (Nm h)⟩
def Oh:List Int:=(List.range 32).map λi=>((if i % 2=0 then Lib.accLo (i / 2) else Lib.accHi (i / 2):Nat):Int)
def GX:GT:=⟨λg=>cond (Nat.beq g 1) (some (.u8,Lib.firstTab)) (cond (Nat.beq g 2) (some (.u8,Oh)) none),λg=>Nat.beq g 0⟩
def Bp2:List (Nat × Nat × Nat × Nat)->Nat->Nat->Nat × Nat
 | [],_,_=>(0,0)
 | (t,j,e,k)::r,t',j'=>cond (Nat.beq t t'&&Nat.beq j j') (e,k) (Bp2 r t' j')
def Bd9:List (Nat × Nat)->Nat->Option Nat
 | [],_=>none
 | (a,b)::r,i=>cond (Nat.beq a i) (some b) (Bd9 r i)
noncomputable def C0 (lf:Nat) (okf:List Nat) (keep:Nat->Option (List Nat)) (X:List (Nat × (List PV->Tr))) (keepR:Nat->Option (List Nat):=λ_=>none) (xp:List Nat:=[]) (keepE:Nat->Option (List Nat):=λ_=>none) (keepT:Option (List Nat):=none) (Y:List (Nat × (List PV->List Blk->Tr)):=[]) (S:List (Nat × (List PV->List Blk->Option (Bool × List (List PV)))):=[]) (lend:List Nat:=[]) (nt:List (Nat × Nat × Nat × Nat):=[]) (rw:List (Nat × Nat):=[]) (Z:List (Nat × (SV->List (List SV)->Bool × List (List SV))):=[]) (fr:List (Nat × List Nat × List Nat):=[]) (sb:List Nat:=[]) (rs:List (Nat × List Nat):=[]):Cfg:=
 { P:=Tryz.prog,G:=GX,X:=IL X,lend:=okL lend,okf:=okL okf,lf:=lf,keep:=keep,keepR:=keepR,xp:=okL xp,keepE:=keepE,keepT:=keepT,Y:=Fb Y,S:=Fb S,nilT:=Bp2 nt,rowR:=Bd9 rw,Z:=Fb Z,farR:=A3 fr,stab:=okL sb,rowsR:=A3 rs }
theorem follows:Tryz.prog.follows .mixedOrders=true:=by kernel_rfl
theorem Ab7 {n:Nat}:Q5 n=true↔n<=68719476736:=by simp [Q5]
theorem V5 {n:Nat} (h:n<=68719476736):Q5 n=true:=Ab7.2 h
theorem H5 {a b:Int} (h:a<b):ltI a b=true:=by rw [Q7];simpa using h
theorem L8 {a b:Int} (h:b<=a):ltI a b=false:=by rw [Q7];simpa using h
theorem A45 {a b:Int}:ltI a b=true↔a<b:=by rw [Q7];simp
theorem R5 {n:Int} (h0:-9223372036854775808<=n) (h1:n<9223372036854775808):A5 n=n:=Ba5 n h0 h1
theorem XE {n:Int} (h0:0<=n) (h1:n<18446744073709551616):Ae3 n=n:=by
 obtain ⟨m,rfl⟩:=Int.eq_ofNat_of_zero_le h0
 unfold Ae3;rw [Ba8,Nat.mod_eq_of_lt (by omega)]
theorem Bb0 {n:Int} (h0:0<=n) (h1:n<4294967296):Bq2 n=n:=by
 obtain ⟨m,rfl⟩:=Int.eq_ofNat_of_zero_le h0
 unfold Bq2;rw [Ba7,Nat.mod_eq_of_lt (by omega)]
theorem Ba9 {n:Int} (h0:0<=n) (h1:n<65536):Bq1 n=n:=by
 obtain ⟨m,rfl⟩:=Int.eq_ofNat_of_zero_le h0
 unfold Bq1;rw [Ba6,Nat.mod_eq_of_lt (by omega)]
theorem Au4 {n:Int} (h0:0<=n) (h1:n<256):wu8 n=n:=by
 obtain ⟨m,rfl⟩:=Int.eq_ofNat_of_zero_le h0
 unfold wu8;rw [Bk2,Nat.mod_eq_of_lt (by omega)]
theorem C7 {a b:Int} (h:a<b:=by omega):ltI a b=true:=H5 h
theorem B6 {a b:Int} (h:b<=a:=by omega):ltI a b=false:=L8 h
theorem B1 {n:Int} (h:-9223372036854775808<=n:=by omega) (g:n<9223372036854775808:=by omega):A5 n=n:=R5 h g
theorem Jn {n:Int} (h:0<=n:=by omega) (g:n<256:=by omega):wu8 n=n:=Au4 h g
theorem Me {α:Sort _} {c:Prop} [Decidable c] {a b:α} (h:c:=by omega):(if c then a else b)=a:=if_pos h
theorem L7 {α:Sort _} {c:Prop} [Decidable c] {a b:α} (h:¬c:=by omega):(if c then a else b)=b:=if_neg h
theorem A87 (k:IntKind) (a m:Nat) (h:m<=k.bits):Ac0 k (a:Int) (m:Int)=((a / 2 ^ m:Nat):Int):=by
 unfold Ac0
 rw [Int.toNat_natCast,Nat.min_eq_left h]
 have:(2:Int) ^ m=((2 ^ m:Nat):Int):=by simp
 rw [this,An6]
theorem Ht {l h:Int} {n:Nat} (h0:0<=l) (h1:l<=h) (h2:h<=n):Cu l h n=true:=by simp [Cu,h0,h1,h2]
theorem Q3 {i:Int} {n:Nat} (h0:0<=i) (h1:i<n):inR i n=true:=by simp [inR,h0,h1]
theorem V9 {l h:Int} {n:Nat} (h0:0<=l:=by omega) (h1:l<=h:=by omega) (h2:h<=n:=by omega):Cu l h n=true:=Ht h0 h1 h2
theorem Ak {i:Int} {n:Nat} (h0:0<=i:=by omega) (h1:i<n:=by omega):inR i n=true:=Q3 h0 h1
end
section
open Go Go.Proofs
def Tv (r:Option (PV × List Blk × Unit)):Bool:=match r with
 | some (.s (.bool true),_,_)=>true
 | _=>false
theorem IB {r:Option (PV × List Blk × Unit)} (h:Tv r=true):∃ H,r=some (.s (.bool true),H,()):=by
 unfold Tv at h
 split at h
 ·exact ⟨_,rfl⟩
 ·cases h
theorem VD {C₀:Cfg} {g d:Nat} (hX:XOK C₀) (hO:Cv C₀) (hm:C₀.P.follows .mixedOrders=true) (h:Tv (evC C₀ d Unit noY g [] [] ())=true):B2 C₀.P C₀.G g (λargs=>match args with | []=>.ret (.s (.bool true)) [] | _=>.fail):=
 IP hX hO hm λargs ret Hc hr=>by
  cases args with
  | nil=>
   obtain ⟨rfl,rfl⟩:=F5 hr
   obtain ⟨H,e⟩:=IB h
   exact ⟨rfl,rfl,rfl,d,_,H,e,rfl⟩
  | cons a r=>cases hr
theorem Ax0 {P:Program} {t:Nat} {v:PV} {ty:Ty} (h:Kx P t v) (e:Ap P 20 t=some [ty]) (ha:Gs P t=false):∃ x,v = .s x/\ty.of x:=by
 obtain ⟨tys,l,h1,h2,h3⟩:=h
 rw [e] at h1
 simp only [Option.some.injEq] at h1
 subst h1
 rcases h3 with ⟨h3,_⟩ | ⟨_,x,rfl,rfl⟩
 ·rw [ha] at h3;cases h3
 ·simp only [Ty.ofL] at h2
  obtain ⟨v,q,h4,h5,rfl⟩:=h2
  simp only [List.cons.injEq,and_true] at h4
  subst h4
  exact ⟨_,rfl,h5⟩
end
section
open Go
def J4 (l:List By):LL:=l.map λs=>[SV.str s]
def Br9 (l:List Nat):LL:=l.map λn=>[SV.int .u16 (Int.ofNat n)]
def F8 (c:UInt8):By->By->List By
 | acc,[]=>[acc]
 | acc,b::r=>if b=c then acc::F8 c [] r else F8 c (acc++[b]) r
def pcs (c:UInt8) (s:By):List By:=F8 c [] s
theorem Dj (c:UInt8):∀ (s acc:By),(F8 c acc s).length=s.count c+1
 | [],acc=>rfl
 | b::r,acc=>by
  simp only [F8,List.count_cons]
  by_cases h:b=c
  ·simp [h,Dj c r]
  ·simp [h,Dj c r]
theorem Bb (c:UInt8):∀ (s acc:By),c∉s->F8 c acc s=[acc++s]
 | [],acc,_=>by simp [F8]
 | b::r,acc,h=>by
  simp only [List.mem_cons,not_or] at h
  simp only [F8]
  rw [if_neg (λe=>h.1 e.symm),Bb c r _ h.2]
  simp
theorem Sa (c:UInt8):∀ (p acc s:By),c∉p->F8 c acc (p++c::s)=(acc++p)::F8 c [] s
 | [],acc,s,_=>by simp [F8]
 | b::r,acc,s,h=>by
  simp only [List.mem_cons,not_or] at h
  simp only [List.cons_append,F8]
  rw [if_neg (λe=>h.1 e.symm),Sa c r _ s h.2]
  simp
theorem UM (c:UInt8) (s acc:By):F8 c acc s≠[]:=by
 intro h
 have:=Dj c s acc
 rw [h] at this
 simp at this
theorem Hs (c:UInt8):∀ (s acc:By),c∉acc->∀ x∈F8 c acc s,c∉x/\x.length<=acc.length+s.length
 | [],acc,h,x,hx=>by
  simp only [F8,List.mem_singleton] at hx
  subst hx
  exact ⟨h,by simp⟩
 | b::r,acc,h,x,hx=>by
  simp only [F8] at hx
  split at hx
  ·rcases List.mem_cons.1 hx with rfl | hx
   ·exact ⟨h,by simp⟩
   ·have:=Hs c r [] (by simp) x hx
    refine ⟨this.1,?_⟩
    have:=this.2
    simp at this ⊢
    omega
  ·rename_i hb
   have:=Hs c r (acc++[b]) (by simp [h,Ne.symm hb]) x hx
   refine ⟨this.1,?_⟩
   have:=this.2
   simp at this ⊢
   omega
def SD (b:UInt8):UInt8:=if 65<=b/\b<=90 then b+32 else b
def Ce (s:By):By:=s.map SD
def dig (b:UInt8):Nat:=
 if 48<=b.toNat/\b.toNat<=57 then b.toNat-48 else if 97<=b.toNat/\b.toNat<=102 then b.toNat-87 else if 65<=b.toNat/\b.toNat<=70 then b.toNat-55 else 99
def IE:Nat:=1099511627776
def L1 (base:Nat):Nat->By->Option Nat
 | n,[]=>some n
 | n,b::r=>if dig b<base then L1 base (min (n*base+dig b) IE) r else none
def Db (s:By):Bool:=s.getD 0 0==48&&(s.getD 1 0==120 || s.getD 1 0==88)
def Yx (s:By):Option Nat:=
 if s=[] then none else if Db s then L1 16 0 (s.drop 2) else if 1<s.length/\s.getD 0 0=48 then L1 8 0 (s.drop 1) else L1 10 0 s
def G0 (s:By):List By:=if 1<(pcs 46 s).length/\(pcs 46 s).getLastD []=[] then (pcs 46 s).dropLast else pcs 46 s
def Cd (s:By):By:=(G0 s).getLastD []
def Ab (s:By):Bool:=if Db (Cd s) then (L1 16 0 ((Cd s).drop 2)).isSome else !(Cd s).isEmpty&&(L1 10 0 (Cd s)).isSome
def Br8 (free:Nat):Nat->List By->Option Nat
 | _,[]=>none
 | v,p::r=>match Yx p with
  | none=>none
  | some n=>match r with
   | []=>if n<2 ^ free then some (v*2 ^ free+n) else none
   | r=>if n<=255 then Br8 free (v*256+n) r else none
def oct (s:By):Option Nat:=match L1 10 0 s with
 | some n=>if n<=255/\Lib.decDigits n=s then some n else none
 | none=>none
def Bp3:Nat->List By->Option Nat
 | v,[]=>some v
 | v,p::r=>match oct p with
  | some n=>Bp3 (v*256+n) r
  | none=>none
def v4B (s:By):Option Nat:=if (pcs 46 s).length=4 then Bp3 0 (pcs 46 s) else none
def Bp8 (v:Nat):By:=Lib.decDigits (v / 16777216)++46::(Lib.decDigits (v / 65536 % 256)++46::(Lib.decDigits (v / 256 % 256)++46::Lib.decDigits (v % 256)))
def Bd7:Nat->By->Option Nat
 | n,[]=>some n
 | n,b::r=>if dig b<16 then Bd7 (n*16+dig b) r else none
def grp (s:By):Option Nat:=if s=[]\/4<s.length then none else Bd7 0 s
def Bo5 (last:Bool):List By->Option (List Nat)
 | []=>some []
 | x::r=>match grp x with
  | some v=>(Bo5 last r).map (v::·)
  | none=>match v4B x with
   | some v=>if last=true/\r=[] then some [v / 65536,v % 65536] else none
   | none=>none
def Bd8 (s:By) (last:Bool):Option (List Nat):=if s=[] then some [] else Bo5 last (pcs 58 s)
def Bp4 (l:List Nat):Nat:=(l.takeWhile (· == 0)).length
def zGo:List Nat->Nat->Nat->Nat->Nat × Nat
 | [],_,z,m=>(z,m)
 | x::r,i,z,m=>if m<Bp4 (x::r) then zGo r (i+1) i (Bp4 (x::r)) else zGo r (i+1) z m
def Bo7 (n:Nat):UInt8:=if n<10 then UInt8.ofNat (48+n) else UInt8.ofNat (87+n)
def Bg3 (v:Nat):By:=if h:v<16 then [Bo7 v] else Bg3 (v / 16)++[Bo7 (v % 16)]
 termination_by v
 decreasing_by omega
def Bo9 (l:List Nat):By:=Lib.join (l.map Bg3) [58]
def Jc (n:Nat):Bool:=Nat.ble n 1114111&&(Nat.blt n 55296 || Nat.blt 57343 n)
def Uw (d k:Nat):Nat:=if h:455<d then Uw (d / 35) (k+36) else k+36*d / (d+38)
 termination_by d
 decreasing_by omega
def Bl (delta count:Nat) (first:Bool):Nat:=
 let d:=if first then delta / 700 else delta / 2
 Uw (d+d / count) 0
def thr (k bias:Nat):Nat:=max 1 (min 26 (36*(k+1)-bias))
theorem Y7 (k bias:Nat):1<=thr k bias/\thr k bias<=26:=by unfold thr;omega
def Ha (d:Nat):UInt8:=if d<26 then UInt8.ofNat (97+d) else UInt8.ofNat (22+d)
def Gm (b:UInt8):Option Nat:=
 if 97<=b.toNat/\b.toNat<=122 then some (b.toNat-97) else if 65<=b.toNat/\b.toNat<=90 then some (b.toNat-65) else if 48<=b.toNat/\b.toNat<=57 then some (b.toNat-22) else none
def N8 (q k bias:Nat):By:=
 if h:q<thr k bias then [Ha q] else Ha (thr k bias+(q-thr k bias) % (36-thr k bias))::N8 ((q-thr k bias) / (36-thr k bias)) (k+1) bias
 termination_by q
 decreasing_by
  have:=Y7 k bias
  exact Nat.lt_of_le_of_lt (Nat.div_le_self _ _) (by omega)
structure XL where
 delta:Nat
 bias:Nat
 done:Nat
 out:By
def L6 (n basic:Nat):List Nat->XL->XL
 | [],s=>s
 | p::r,s=>if p<n then L6 n basic r { s with delta:=s.delta+1 }
  else if p=n then L6 n basic r { delta:=0,bias:=Bl s.delta (s.done+1) (s.done==basic),done:=s.done+1,out:=s.out++N8 s.delta 0 s.bias }
  else L6 n basic r s
def N9 (n:Nat):List Nat->Nat->Nat
 | [],m=>m
 | p::r,m=>N9 n r (if n<=p then min m p else m)
def Fo (pts:List Nat) (basic:Nat):Nat->Nat->XL->XL
 | 0,_,s=>s
 | f+1,n,s=>if s.done<pts.length then
   let m:=N9 n pts 1114112
   let s':=L6 m basic pts { s with delta:=s.delta+(m-n)*(s.done+1) }
   Fo pts basic f (m+1) { s' with delta:=s'.delta+1 }
  else s
def J0 (pts:List Nat):By:=(pts.filter (· < 128)).map UInt8.ofNat
def Vn (pts:List Nat):By × Nat:=
 if 256<pts.length then ([],3) else if !(pts.all Jc) then ([],2)
 else ((Fo pts (J0 pts).length 256 128 { delta:=0,bias:=72,done:=(J0 pts).length,out:=if (J0 pts).isEmpty then [] else J0 pts++[45] }).out,0)
def C4 (bias:Nat):By->Nat->Nat->Nat->Nat × By × Nat
 | [],i,w,k=>(0,[],4)
 | b::r,i,w,k=>match Gm b with
  | none=>(0,[],4)
  | some x=>if IE<i+x*w then (0,[],19) else if x<thr k bias then (i+x*w,r,0)
   else if IE<w*(36-thr k bias) then (0,[],19) else C4 bias r (i+x*w) (w*(36-thr k bias)) (k+1)
theorem Pi (bias:Nat):∀ (s:By) (i w k:Nat),(C4 bias s i w k).2.2=0->(C4 bias s i w k).2.1.length<s.length
 | [],i,w,k,h=>by simp [C4] at h
 | b::r,i,w,k,h=>by
  unfold C4 at h ⊢
  cases hv:Gm b with
  | none=>simp [hv] at h
  | some x=>
   simp only [hv] at h ⊢
   split at h
   ·simp at h
   ·rename_i h1
    rw [if_neg h1]
    split at h
    ·rename_i h2
     rw [if_pos h2]
     simp
    ·rename_i h2
     rw [if_neg h2]
     split at h
     ·simp at h
     ·rename_i h3
      rw [if_neg h3]
      have:=Pi bias r _ _ _ h
      simp only [List.length_cons]
      omega
def Re (l:List Nat) (i n:Nat):List Nat:=l.take i++n::l.drop i
def M9 (s:By) (pts:List Nat) (n i bias:Nat) (first:Bool):List Nat × Nat:=
 if hs:s=[] then (pts,0) else
  let q:=C4 bias s i 1 0
  if hq:q.2.2=0 then
   let count:=pts.length+1
   let n':=n+q.1 / count
   if Jc n' then (if 256<count then ([],3) else M9 q.2.1 (Re pts (q.1 % count) n') n' (q.1 % count+1) (Bl (q.1-i) count first) false)
   else ([],2)
  else ([],q.2.2)
 termination_by s.length
 decreasing_by exact Pi bias s i 1 0 hq
def K5:By->Nat
 | []=>0
 | b::r=>if 45∈r then K5 r+1 else 0
def Q0 (s:By):List Nat × Nat:=
 if 1024<s.length then ([],3) else if s.any (λb=>Nat.ble 128 b.toNat) then ([],4)
 else if 256<K5 s then ([],3)
 else M9 (if K5 s=0 then s else s.drop (K5 s+1)) ((s.take (K5 s)).map (·.toNat)) 128 0 72 true
def Ix (s:By):Bool:=
 (Q0 s).2==0 && !((Q0 s).1.any λp=>Nat.ble 65 p&&Nat.ble p 90)&&((Q0 s).1.any λp=>Nat.ble 128 p)&&(Vn (Q0 s).1).2==0&&(Vn (Q0 s).1).1==s
def U7 (b:UInt8):Bool:=(Nat.ble 97 b.toNat&&Nat.ble b.toNat 122) || (Nat.ble 48 b.toNat&&Nat.ble b.toNat 57) || b==45 || b==95
def xnB:By:=[120,110,45,45]
def Cq (s:By):Bool:=
 !s.isEmpty&&Nat.ble s.length 63&&s.getD 0 0 != 45&&s.getD (s.length-1) 0 != 45&&s.all U7&&(!(xnB.isPrefixOf s) || Ix (s.drop 4))
structure Af2 where
 kind:Nat
 name:By
 v4:Nat
 v6:List Nat
 deriving DecidableEq
def z8:List Nat:=[0,0,0,0,0,0,0,0]
def E2 (s:By):Bool:=Nat.ble s.length 253 && !(Ab s)&&(pcs 46 s).all Cq
def Q9 (h:Af2):Bool:=
 if h.kind=1 then E2 h.name&&h.v4==0&&h.v6==z8 else if h.kind=2 then h.name.isEmpty&&h.v6==z8 else if h.kind=3 then h.name.isEmpty&&h.v4==0 else false
def W0:List By->List By
 | []=>[]
 | [_]=>[]
 | _::r=>Lib.join r [46]::W0 r
def E3 (s:By):List By:=if E2 s then W0 (pcs 46 s) else []
def E9 (a b:By):Bool:=E2 a&&E2 b&&(a==b || (46::a).isSuffixOf b)
def A2 (n:Nat):Bool:=decide (n<=1000000000)
theorem CG {n:Nat}:A2 n=true↔n<=1000000000:=by simp [A2]
def isS:List SV->Bool | [.str _]=>true | _=>false
def elS (el:List SV):By:=(el.getD 0 .nilp).gS
def Yz (o:Option Nat):Nat:=o.getD 0
def u8n (c:Int):UInt8:=UInt8.ofNat c.toNat
def Vk (s p:By):By:=if p.isPrefixOf s then s.drop p.length else s
def ltN (v:Int) (n:Nat):Bool:=match v with
 | .ofNat m=>Nat.ble (m+1) n
 | .negSucc _=>false
theorem G4 {v:Int} {n:Nat}:ltN v n=true↔0<=v/\v<(n:Int):=by
 cases v with
 | ofNat m=>
  simp only [ltN,Nat.ble_eq,Int.ofNat_eq_natCast]
  omega
 | negSucc m=>
  refine ⟨λh=>(by cases h),λh=>?_⟩
  have:=Int.negSucc_lt_zero m
  omega
def Md (n:Int):Bool:=ltN (n+9223372036854775808) 18446744073709551616
theorem KZ {n:Int}:Md n=true↔-9223372036854775808<=n/\n<9223372036854775808:=by
 unfold Md
 rw [G4]
 constructor<;>rintro ⟨h1,h2⟩<;>constructor<;>omega
def Bd0 (b:Nat):List PV->Tr
 | [.s (.int .i64 n)]=>.need (ltN n b) (.ret (.s (.str (Lib.decDigits (Int.toNat n)))) [])
 | _=>.fail
def gvs (s:By) (last:Bool):List Nat:=(Bd8 s last).getD []
def n8 (a b c d e f g h:Int):List Nat:=[a.toNat,b.toNat,c.toNat,d.toNat,e.toNat,f.toNat,g.toNat,h.toNat]
def ok8 (a b c d e f g h:Int):Bool:=[a,b,c,d,e,f,g,h].all λx=>ltN x 65536
def Bo8:List SV->Bool | [.int .u16 n]=>ltN n 65536 | _=>false
def elN (el:List SV):Nat:=(el.getD 0 .nilp).gI.toNat
def ptI (n:Int):Bool:=match n with | .ofNat m=>Jc m | .negSucc _=>false
def G1 (b:UInt8):Int:=match Gm b with | some n=>n | none=>-1
def S9 (k b:Int):Int:=max 1 (min 26 (k+36-b))
def BD:List SV->Bool | [.int .i64 _]=>true | _=>false
def elI (el:List SV):Int:=(el.getD 0 .nilp).gI
def Kl (l:List Int):By × Nat:=if 256<l.length then ([],3) else if l.all ptI then Vn (l.map Int.toNat) else ([],2)
def Em (b:Int):By->Int->Int->Int->Int × By × Int
 | [],i,w,k=>(4,[],i)
 | c::r,i,w,k=>if G1 c<0 then (4,c::r,i) else if 1099511627776<i+G1 c*w then (19,r,i+G1 c*w)
  else if G1 c<S9 k b then (0,r,i+G1 c*w) else if 1099511627776<w*(36-S9 k b) then (19,r,i+G1 c*w)
  else Em b r (i+G1 c*w) (w*(36-S9 k b)) (k+36)
def Wu (b:Int) (s:By) (i:Int):Int:=(Em b s i 1 0).1
def Wv (b:Int) (s:By) (i:Int):By:=(Em b s i 1 0).2.1
def Kp (b:Int) (s:By) (i:Int):Int:=(Em b s i 1 0).2.2
def Fs (l:List (List SV)) (i:Nat) (n:Int):List (List SV):=l.take i++[SV.int .i64 n]::l.drop i
structure DS where
 rest:By
 n:Int
 i:Int
 b:Int
 st:Bool
 l:List (List SV)
def C9 (s:DS):Int × DS:=
 if Wu s.b s.rest s.i=0 then
  let c:Int:=s.l.length+1
  let x:=Kp s.b s.rest s.i
  let d:DS:={ rest:=Wv s.b s.rest s.i,n:=s.n+Int.tdiv x c,i:=Int.tmod x c,b:=Bl (x-s.i).toNat c.toNat (!s.st),st:=true,l:=s.l }
  if ptI d.n then (if 256<c then (3,d) else (0,{ d with i:=d.i+1,l:=Fs s.l d.i.toNat d.n })) else (2,d)
 else (Wu s.b s.rest s.i,{ s with rest:=Wv s.b s.rest s.i,i:=Kp s.b s.rest s.i })
def E5 (c:UInt8):By->Int
 | []=>-1
 | b::r=>if E5 c r<0 then (if b=c then 0 else -1) else E5 c r+1
def SP (l:List Nat):List (List SV):=l.map λx:Nat=>[SV.int .i64 (x:Int)]
def mkH (kd:Int) (nm:By) (v4:Int) (a:List Nat):Af2:=⟨if ltN kd 4 then kd.toNat else 0,nm,v4.toNat,a⟩
def Gd (n:Int) (l:List By):Bool:=l.all λs=>!(ltI n (s.length:Int))
attribute [simp] H5 L8 R5 XE Bb0 Ba9 Au4 Ht Q3 V5
attribute [simp] vl
@[simp] theorem I5 {n:Nat} (h:n<=1000000000):A2 n=true:=CG.2 h
@[simp] theorem WK {v:Int} {n:Nat} (h:0<=v) (h1:v<n):ltN v n=true:=G4.2 ⟨h,h1⟩
theorem WZ {n:Nat} (h:n<=1000000000:=by omega):A2 n=true:=I5 h
theorem Al {v:Int} {n:Nat} (h:0<=v:=by omega) (g:v<n:=by omega):ltN v n=true:=WK h g
@[simp] theorem Br2 {m n:Nat} (h:m+n<4611686018427387904):Bd6 m n=true:=by simp [Bd6,h]
abbrev rv (v:PV) (H:List Blk):Option (PV × List Blk × Unit):=some (v,H,())
theorem U0 {n:Nat} (h:A2 n=true):n<=1000000000:=CG.1 h
theorem Ii (s:By) (i:Nat) (h:i<s.length):s.drop i=s.getD i 0::s.drop (i+1):=by
 rw [List.getD_eq_getElem?_getD,List.getElem?_eq_getElem h,Option.getD_some,List.getElem_cons_drop]
theorem SE (b:UInt8):(b.toNat<65/\SD b=b)\/(90<b.toNat/\SD b=b)\/(65<=b.toNat/\b.toNat<=90/\((SD b).toNat=b.toNat+32)):=by
 unfold SD
 by_cases h1:b.toNat<65
 ·refine .inl ⟨h1,if_neg ?_⟩
  intro h
  have:=UInt8.le_iff_toNat_le.1 h.1
  simp at this
  omega
 ·by_cases h2:90<b.toNat
  ·refine .inr (.inl ⟨h2,if_neg ?_⟩)
   intro h
   have:=UInt8.le_iff_toNat_le.1 h.2
   simp at this
   omega
  ·refine .inr (.inr ⟨by omega,by omega,?_⟩)
   rw [if_pos (by constructor<;>(rw [UInt8.le_iff_toNat_le];simp;omega)),UInt8.toNat_add]
   simp
   omega
@[simp] theorem Ia (s:By) (i:Nat):bAt s (i:Int)=((s.getD i 0).toNat:Int):=by simp [bAt]
@[simp] theorem Va (s:By):bAt s 0=((s.getD 0 0).toNat:Int):=by simp [bAt]
@[simp] theorem Br1 (s:By):bAt s 1=((s.getD 1 0).toNat:Int):=by simp [bAt]
theorem VY {α:Type} (s:List α) (a b:Nat):cut s (a:Int) (b:Int)=(s.take b).drop a:=by simp [cut]
@[simp] theorem P9 {α:Type} (s:List α) (a:Int):cut s a (s.length:Int)=s.drop a.toNat:=by simp [cut]
@[simp] theorem Gz {α:Type} (s:List α) (b:Int):cut s 0 b=s.take b.toNat:=by simp [cut]
@[simp] theorem Fa (l:List By):(J4 l).length=l.length:=by simp [J4]
@[simp] theorem GD (l:List By) (i:Nat):gX (J4 l) i 0=l.getD i []:=by
 unfold gX gC J4
 by_cases h:i<l.length
 ·simp [List.getD_eq_getElem?_getD,List.getElem?_eq_getElem h,SV.gS]
 ·simp [List.getD_eq_getElem?_getD,List.getElem?_eq_none (show l.length<=i by omega),SV.gS]
@[simp] theorem Ww {l:List By} {i:Nat} (h:i<l.length):okE Qm (J4 l) i 0=true:=by
 unfold okE J4
 simp [List.getD_eq_getElem?_getD,List.getElem?_eq_getElem h,h,Qm,okS,SV.has]
theorem As4 (a b:List By):J4 (a++b)=J4 a++J4 b:=by simp [J4]
theorem Bp7 {a b:UInt8}:((a.toNat:Int)==(b.toNat:Int))=(a==b):=by
 rw [Bool.eq_iff_iff]
 simp only [beq_iff_eq]
 constructor
 ·intro h;exact UInt8.toNat_inj.1 (by omega)
 ·intro h;rw [h]
theorem Yc (a:UInt8) (n:Nat) (h:n<256):((a.toNat:Int)==(n:Int))=(a==UInt8.ofNat n):=by
 rw [<-Bp7]
 simp [Nat.mod_eq_of_lt h]
theorem Gh (p s:By):p.isPrefixOf s=(decide (p.length<=s.length)&&(s.take p.length==p)):=by
 rw [Bool.eq_iff_iff]
 simp only [List.isPrefixOf_iff_prefix,Bool.and_eq_true,decide_eq_true_eq,beq_iff_eq]
 constructor
 ·intro h;exact ⟨h.length_le,(List.prefix_iff_eq_take.1 h).symm⟩
 ·rintro ⟨_,h⟩;exact List.prefix_iff_eq_take.2 h.symm
end
section
open Go Go.ChangeAt Go.ChangeShapes Go.Proofs Go.RowKit Go.WideShapes
set_option maxRecDepth 100000
theorem own:ownKnob Tryz.prog.godebug=none:=by kernel_rfl
theorem A27:laidOutB Tryz.prog=true:=by kernel_rfl
noncomputable def gTy (g:Nat):Nat:=match Tryz.prog.globals[g]? with | some x=>x.type | none=>0
noncomputable def EV:Nat:=gTy 2
noncomputable def A11:Nat:=gTy 1
noncomputable def EU:Nat:=match Tryz.prog.underlying EV with | some (.array _ e)=>e | _=>0
noncomputable def Og:Array Field:=match Tryz.prog.underlying EU with | some (.struct fs)=>fs | _=>#[]
noncomputable def Zl:Field:=match Og.toList with | a::_=>a | _=>default
noncomputable def Zm:Field:=match Og.toList with | _::a::_=>a | _=>default
theorem Be6:Og[0]? = some Zl:=by unfold Zl Og EU EV gTy;kernel_rfl
theorem Be7:Og[1]? = some Zm:=by unfold Zm Og EU EV gTy;kernel_rfl
def Dc:List (String × DataW Unit):=[("unicode/utf8.acceptRanges", Rows.laid_unicode_utf8_acceptRanges), ("unicode/utf8.first", Rows.laid_unicode_utf8_first)]
theorem CN {W:World} {n:String} {g:Nat} {cs:Array Value} (hg:Tryz.prog.globalNamed n=some g) (h:W.var? Tryz.prog n=some cs):∃ e x,W.heap[g]? = some (.cells cs e x):=by
 unfold World.var? at h
 rw [hg,Option.bind_some] at h
 split at h
 ·rename_i c e x hh
  simp only [Option.some.injEq] at h
  subst h
  exact ⟨e,x,hh⟩
 ·cases h
theorem Ad1 {W:World} {n:String} {g t e m:Nat} {k:IntKind} {zs:List Int} (hg:Tryz.prog.globalNamed n=some g) (hty:(Tryz.prog.globals[g]?).map (·.type)=some t) (ht:Tryz.prog.underlying t=some (.array m e)) (he:Tryz.prog.underlying e=some (.int k)) (hce:Tryz.prog.cellsOf e=1) (hct:Tryz.prog.cellsOf t=m)
  (h:Lib.VarReads Tryz.prog W n (Lib.tabData k zs)):∃ e x,W.heap[g]? = some (.cells (zs.map λz=>Value.int k z).toArray e x):=by
 obtain ⟨g',t',cs,fuel,p,h1,h2,h3,h4⟩:=h
 obtain rfl:=Option.some.inj (hg.symm.trans h1)
 obtain rfl:=Option.some.inj (hty.symm.trans h2)
 have hcs:=Lib.cells_of_tab ht he hce hct h4
 have:cs=(zs.map λz=>Value.int k z).toArray:=by rw [<-hcs]
 rw [this] at h3
 exact CN hg h3
theorem Ya {H:Type} {enc:TypeId × Value->H} {P:Program} {w:World} {base:Nat} {sp:Nat->Bool} {held:Bool} {fuel:Nat} {t e:TypeId} {n:Nat} {cs:List Value} {d:DataW H} {p:List MemPlace} (ht:P.underlying t=some (.array n e))
  (h:DataW.trod enc P w base sp held fuel t cs=some (d,p)):cs.length=P.cellsOf t:=by
 cases fuel with
 | zero=>simp [DataW.trod] at h
 | succ fuel=>
  simp only [DataW.trod,ht] at h
  split at h
  ·rename_i hl
   simpa using hl
  ·cases h
theorem XM {W:World} (hg : Tryz.prog.globalNamed "unicode/utf8.acceptRanges" = some 2) (h:Lib.VarReads Tryz.prog W "unicode/utf8.acceptRanges" Lib.acceptData) :
  ∃ e x,W.heap[2]? = some (.cells (Oh.map λz=>Value.int .u8 z).toArray e x):=by
 obtain ⟨g',t,cs,fuel,p,h1,h2,h3,h4⟩:=h
 obtain rfl:=Option.some.inj (hg.symm.trans h1)
 have hty:(Tryz.prog.globals[2]?).map (·.type)=some EV:=by unfold EV;kernel_rfl
 obtain rfl:=Option.some.inj (hty.symm.trans h2)
 have ht:Tryz.prog.underlying EV=some (.array 16 EU):=by unfold EV EU;kernel_rfl
 have hl:=Ya ht h4
 have hct:Tryz.prog.cellsOf EV=32:=by unfold EV;kernel_rfl
 have hce:Tryz.prog.cellsOf EU=2:=by unfold EU;kernel_rfl
 have hu:∃ fs,Tryz.prog.underlying EU=some (.struct fs)/\fs.size=2/\∀ (i:Nat) (f:Field),fs[i]? = some f->Tryz.prog.underlying f.type=some (.int .u8)/\f.offset=i/\Tryz.prog.cellsOf f.type=1:=by
  refine ⟨Og,by unfold EU Og;kernel_rfl,by unfold Og;kernel_rfl,λi f hf=>?_⟩
  have:i<2:=by
   have:=(Array.getElem?_eq_some_iff.1 hf).1
   rwa [show Og.size=2 by unfold Og;kernel_rfl] at this
  match i,this with
  | 0,_=>
   obtain rfl:=Option.some.inj (hf.symm.trans (show Og[0]? = some Zl from Be6))
   exact ⟨by unfold Zl;kernel_rfl,by unfold Zl;kernel_rfl,by unfold Zl;kernel_rfl⟩
  | 1,_=>
   obtain rfl:=Option.some.inj (hf.symm.trans (show Og[1]? = some Zm from Be7))
   exact ⟨by unfold Zm;kernel_rfl,by unfold Zm;kernel_rfl,by unfold Zm;kernel_rfl⟩
 obtain ⟨fs,hu1,hu2,hu3⟩:=hu
 have hcs:cs.toList=Oh.map λz=>Value.int .u8 z:=by
  have hlen:(Oh.map λz=>Value.int .u8 z).length=32:=by rw [List.length_map];rfl
  apply List.ext_getElem?
  intro q
  by_cases hq:q<32
  ·obtain ⟨fuel',d,q',hdi,he⟩:=Lib.array_elem ht h4 (q / 2) (by omega)
   simp only [List.getElem?_map,List.getElem?_range (show q / 2<16 by omega),Option.map_some,Option.some.injEq] at hdi
   subst hdi
   rw [hce] at he
   have hz:=Lib.ints_of_struct hu1 hu3 (by rw [hce,hu2]) he
   have e0:=congrArg (·[q % 2]?) hz
   simp only [List.getElem?_take,List.getElem?_drop] at e0
   rw [Me,show q / 2*2+q % 2=q by omega] at e0
   rw [e0]
   unfold Oh
   have er:∀ g:Nat->Value,(List.map g (List.range 32))[q]? = some (g q):=λg=>by
    rw [List.getElem?_map,List.getElem?_range hq]
    rfl
   rw [List.map_map,er]
   rcases Nat.mod_two_eq_zero_or_one q with h2 | h2
   ·simp [h2]
   ·simp [h2]
  ·rw [List.getElem?_eq_none (by omega),List.getElem?_eq_none (by omega)]
 have:cs=(Oh.map λz=>Value.int .u8 z).toArray:=by rw [<-hcs]
 rw [this] at h3
 exact CN hg h3
theorem RE {C:Cfg} (hC:C.G=GX) {W:World} (hL:laidMet Tryz.prog Dc W) (hsh:W.ShapedOpen Tryz.prog):GOK C (· < W.heap.size) W:=by
 have lt:∀ {g:Nat} {o:Obj},W.heap[g]? = some o->g<W.heap.size:=λh=>(Array.getElem?_eq_some_iff.1 h).1
 have r3:Lib.VarReads Tryz.prog W "unicode/utf8.acceptRanges" Lib.acceptData:=Lib.laidMet.reads hL (by rw [show Lib.acceptData=Rows.laid_unicode_utf8_acceptRanges by kernel_rfl];simp [Dc])
 have r4:Lib.VarReads Tryz.prog W "unicode/utf8.first" (Lib.tabData .u8 Lib.firstTab):=Lib.laidMet.reads hL (by rw [show (Lib.tabData .u8 Lib.firstTab:DataW Unit)=Rows.laid_unicode_utf8_first by kernel_rfl];simp [Dc])
 have c3:=XM (by kernel_rfl) r3
 have c4:=Ad1 (g:=1) (t:=A11) (e:=5) (m:=256) (by kernel_rfl) (by unfold A11;kernel_rfl) (by unfold A11;kernel_rfl) (by kernel_rfl) (by kernel_rfl) (by unfold A11;kernel_rfl) r4
 have c5:=cell_of_shapedOpen_int (k:=.i64) (g:=0) (t:=3) (zero:=#[.int .i64 0]) hsh (of_decide_eq_true (by kernel_rfl)) (by kernel_rfl) rfl (by kernel_rfl) (by kernel_rfl) (by kernel_rfl)
 refine ⟨λg k zs h=>?_,λg h=>?_⟩
 ·rw [hC] at h
  simp only [GX] at h
  have key:∀ {g0:Nat} {k0:IntKind} {zs0:List Int},(∃ e x,W.heap[g0]? = some (.cells (zs0.map λz=>Value.int k0 z).toArray e x))->g=g0->(k0,zs0)=(k,zs)->g<W.heap.size/\∃ e x,W.heap[g]? = some (.cells (zs.map λz=>Value.int k z).toArray e x):=λhx e1 e2=>by
   subst e1
   cases e2
   obtain ⟨e,x,hx⟩:=hx
   exact ⟨lt hx,e,x,hx⟩
  cases b1:Nat.beq g 1 with
  | true=>rw [b1,cond_true] at h;exact key c4 (Nat.eq_of_beq_eq_true b1) (Option.some.inj h)
  | false=>
   rw [b1,cond_false] at h
   cases b2:Nat.beq g 2 with
   | true=>rw [b2,cond_true] at h;exact key c3 (Nat.eq_of_beq_eq_true b2) (Option.some.inj h)
   | false=>
    rw [b2,cond_false] at h;cases h
 ·rw [hC] at h
  have e:=Nat.eq_of_beq_eq_true h
  subst e
  obtain ⟨m,hm⟩:=c5
  refine ⟨?_,m,hm⟩
  apply Classical.byContradiction
  intro hge
  simp [World.cell?,Array.getElem?_eq_none (Nat.le_of_not_lt hge)] at hm
theorem Pv (os:Os) (args:Array Value):((World.laidAll Tryz.prog os Dc).forCall (λ_ _=>0) ⟨#[],args,[]⟩).Shaped Tryz.prog:=
 World.shaped_of_ZipB (by kernel_rfl) (by kernel_rfl)
theorem Yq (os:Os) (args:Array Value):laidMetH Tryz.prog Dc ((World.laidAll Tryz.prog os Dc).forCall (λ_ _=>0) ⟨#[],args,[]⟩).memory:=by
 rw [MakeChecks.laidMetH_plain _ _ _ (by kernel_rfl)]
 exact laidMet_laidAll _ (by kernel_rfl) (by kernel_rfl)
theorem RR {H:Type} {enc:TypeId × Value->H} {os:Os} (started:os.Started) {C:Cfg} (hCP:C.P=Tryz.prog) (hCG:C.G=GX) (hX:XOK C) (hO:Cv C) {f tb:Nat} {fn:Func} {c:Code} {s:ChangeSpec} {conds:List PathCond} {apart fresh handsOn again:Bool} (noInit:Tryz.prog.inits.idxOf? f=none) (hfn:Tryz.prog.funcs[f]? = some fn) (hb:fn.body=some c) (hname:(fn.name == "runtime.NumGoroutine")=false)
  (hp:∀ t∈fn.params.toList,(Tryz.prog.readableRec t=true/\t<Tryz.prog.types.size)/\(Ap Tryz.prog 20 t).isSome=true) (hres:fn.resultTypes = #[tb]) (hbool:Tryz.prog.underlying tb=some .bool) (hvars:s.vars=[])
  (hspec:∀ ds:List (DataW H),ds.length=fn.params.toList.length->s.fn H ds = { results:=[.lit (.bool true)],args:=ds })
  (wit:Array Value) (fuel:Nat) (hok:Input.okWideB Tryz.prog ((World.laidAll Tryz.prog os Dc).forCall (λ_ _=>0) ⟨#[],wit,[]⟩) f ⟨#[],wit,[]⟩=true)
  (Vy:s.preB enc Tryz.prog fn conds apart ((World.laidAll Tryz.prog os Dc).forCall (λ_ _=>0) ⟨#[],wit,[]⟩).memory wit fuel=true)
  (hsz:s.sizedB enc Tryz.prog fn apart ((World.laidAll Tryz.prog os Dc).forCall (λ_ _=>0) ⟨#[],wit,[]⟩).memory wit fuel=true)
  (hev:∀ args,Fg Tryz.prog fn.params.toList args->∃ d Hc,evC C d Unit noY f args [] ()=some (.s (.bool true),Hc,())) :
  ReturnsInHanded {} Tryz.checked os f .any (λw args=>(s.pre enc Tryz.prog fn conds apart w args/\laidMetH Tryz.prog Dc w)/\sizedMet enc Tryz.prog fn (OpenSpec.ofChange s) apart w args) (s.post enc Tryz.prog fn apart fresh handsOn again):=by
 obtain ⟨P,G,X,lend,okf,lf,keep,keepR,xp,keepE,keepT,Y,S,nt,rw0⟩:=C
 simp only at hCP hCG
 subst hCP
 refine returnsInHanded_of_calls (C:=Tryz.checked) own started noInit
  (ChangeSpec.witness_shaped (enc:=enc) (C:=Tryz.checked) (os:=os) (X:=λw _=>laidMetH Tryz.prog Dc w) false (World.laidAll Tryz.prog os Dc) wit fuel (World.laidAll_os _ _ _) (Pv os wit) hok Vy hsz (Yq os wit)) ?_
 intro w tape i _ hsh _ hok Vy hholds
 obtain ⟨_,_,_,fn',hfn',_,_,_,_,Gn⟩:=hok
 have e:fn'=fn:=Option.some.inj (hfn'.symm.trans hfn)
 subst e
 obtain ⟨⟨⟨ds,gs,before,hw,hc⟩,hx⟩,hz⟩:=Vy
 have hw':=DataW.Whole.of_heap (w':=w.forCall tape i) (by rfl) hw
 have hL:laidMet Tryz.prog Dc (w.forCall tape i):=by
  rw [MakeChecks.laidMetH_plain _ _ _ (by kernel_rfl)] at hx
  exact laidMet.of_heap (w':=w.forCall tape i) (by rfl) hx
 refine (Am1 (apart:=apart) (fresh:=fresh) (handsOn:=handsOn) (again:=again) hX hO follows A27 hfn hb hname hp hres hbool hvars hspec hev (w.forCall tape i) (RE hCG hL hsh) w.heap.size i.args ds gs before Gn hw').mono λe W' ⟨v,he,hp⟩=>?_
 subst he
 exact ChangeSpec.post_blind hp
end
section
open Go Go.Proofs
set_option maxRecDepth 100000
section
def Be4:List PV->Tr
 | [.s (.str s),.s (.str p),.s (.int .i64 v),.s (.int .i64 n)]=>.need (A2 (List.length s)) (.need ((List.length p)==1) (.need (v==(0:Int)) (.need (n==((-1):Int)) (.ret (.vw 0 0 (List.length (pcs (List.getD p 0 0) s))) [.arr false 9 1 (J4 (pcs (List.getD p 0 0) s))]))))
 | _=>.fail
def Be5:List PV->Tr
 | [.s (.str s),.s (.str p)]=>.need (A2 (List.length s)) (.need ((List.length p)==1) (.ret (.vw 0 0 (List.length (pcs (List.getD p 0 0) s))) [.arr false 9 1 (J4 (pcs (List.getD p 0 0) s))]))
 | _=>.fail
def DP:List PV->Tr
 | [.s (.str s),.s (.str p)]=>.need (A2 (List.length s)) (.ret (.s (.bool (List.isPrefixOf p s))) [])
 | _=>.fail
def NT (args:List PV):Tr:=DP (D7 [[0],[0]] args)
def DD:List PV->Tr
 | [.s (.str s),.s (.str p)]=>.need (A2 (List.length s)) (.ret (.s (.bool (List.isPrefixOf p s))) [])
 | _=>.fail
def Ag5 (args:List PV):Tr:=DD (D7 [[0],[0]] args)
def Uf:List PV->Tr
 | [.s (.str s),.s (.str p)]=>.need (A2 (List.length s)) (.ret (.tup [.s (.str (Vk s p)),.s (.bool (List.isPrefixOf p s))]) [])
 | _=>.fail
def VG (args:List PV):Tr:=Uf (D7 [[0],[0]] args)
def CY:List PV->Tr
 | [.s (.str s),.s (.str p)]=>.need (A2 (List.length s)) (.ret (.tup [.s (.str (Vk s p)),.s (.bool (List.isPrefixOf p s))]) [])
 | _=>.fail
def Ag4 (args:List PV):Tr:=CY (D7 [[0],[0]] args)
def EL:List PV->Tr
 | [.s (.str s),.s (.str p)]=>.need (A2 (List.length s)) (.ret (.s (.int .i64 (Lib.index s p))) [])
 | _=>.fail
def EK (args:List PV):Tr:=EL (D7 [[0],[0]] args)
def EG:List PV->Tr
 | [.s (.str s),.s (.str p)]=>.need ((List.length p)==1) (.ret (.s (.int .i64 (↑(List.count (List.getD p 0 0) s):Int))) [])
 | _=>.fail
def Ah2 (args:List PV):Tr:=EG (D7 [[0],[0]] args)
def Uc:List PV->Tr
 | [.s (.str s),.s (.int .i64 n)]=>.fail
 | _=>.fail
def Hx (args:List PV):Tr:=Uc (D7 [[0],[0]] args)
def Nv:List PV->Tr
 | [.s (.str s),.s (.str p),.s (.int .i64 v),.s (.int .i64 n)]=>.need (A2 (List.length s)) (.need ((List.length p)==1) (.need (v==(0:Int)) (.need (n==((-1):Int)) (.ret (.s (.sl false false 1 (J4 (pcs (List.getD p 0 0) s)))) []))))
 | _=>.fail
def IW (args:List PV):Tr:=Nv (D7 [[0],[0],[0],[0]] args)
def Of:List PV->Tr
 | [.s (.str s),.s (.str p)]=>.need (A2 (List.length s)) (.need ((List.length p)==1) (.ret (.s (.sl false false 1 (J4 (pcs (List.getD p 0 0) s)))) []))
 | _=>.fail
def IY (args:List PV):Tr:=Of (D7 [[0],[0]] args)
def Bq8:List PV->Tr
 | [.s (.int .i64 n)]=>.need (ltN n 4294967296) (.ret (.s (.str (Lib.decDigits (Int.toNat n)))) [])
 | _=>.fail
def Bq9:List PV->Tr
 | [.s (.str s)]=>.need (A2 (List.length s)) (.ret (.s (.str (Ce s))) [])
 | _=>.fail
def DB:List PV->Tr
 | [.s (.str s)]=>.need (A2 (List.length s)) (.ret (.s (.bool (Db s))) [])
 | _=>.fail
def NN (args:List PV):Tr:=DB (D7 [[0]] args)
def CZ:List PV->Tr
 | [.s (.str s),.s (.int .i64 base)]=>.need (A2 (List.length s)) (.need (ltN base 17) (.ret (.tup [.s (.int .i64 (↑(Yz (L1 (Int.toNat base) 0 s)):Int)),.s (.bool (Option.isSome (L1 (Int.toNat base) 0 s)))]) []))
 | _=>.fail
def NM (args:List PV):Tr:=CZ (D7 [[0],[0]] args)
def NV:List PV->Tr
 | [.s (.str s)]=>.need (A2 (List.length s)) (.ret (.tup [.s (.int .i64 (↑(Yz (Yx s)):Int)),.s (.bool (Option.isSome (Yx s)))]) [])
 | _=>.fail
def Bd2 (args:List PV):Tr:=NV (D7 [[0]] args)
def Um:List PV->Tr
 | [.s (.str s)]=>.need (A2 (List.length s)) (.ret (.s (.sl false false 1 (J4 (G0 s)))) [])
 | _=>.fail
def VK (args:List PV):Tr:=Um (D7 [[0]] args)
def Jw:List PV->Tr
 | [.s (.str s)]=>.need (A2 (List.length s)) (.ret (.s (.bool (Ab s))) [])
 | _=>.fail
def Nz (args:List PV):Tr:=Jw (D7 [[0]] args)
def Br3:List PV->Tr
 | [.s (.int .u32 v)]=>.need (ltN v 4294967296) (.ret (.s (.str (Bp8 (Int.toNat v)))) [])
 | _=>.fail
def Bn4:List PV->Tr
 | [.s (.str s),.s (.int .u8 c)]=>.need (A2 (List.length s)) (.need (inR c 256) (.ret (.s (.sl false false 1 (J4 (pcs (u8n c) s)))) []))
 | _=>.fail
def Br0:List PV->Tr
 | [.s (.int .u8 b)]=>.need (inR b 256) (.ret (.s (.int .i64 (↑(dig (u8n b)):Int))) [])
 | _=>.fail
def Bo0:List PV->Tr
 | [.s (.str s),.s (.bool last)]=>.need (A2 (List.length s)) (.ret (.tup [.s (.sl (List.isEmpty (gvs s last)) (List.isEmpty (gvs s last)) 1 (Br9 (gvs s last))),.s (.bool (Option.isSome (Bd8 s last)))]) [])
 | _=>.fail
def Bo1:List PV->Tr
 | [.agg [.s (.int .u16 a0),.s (.int .u16 a1),.s (.int .u16 a2),.s (.int .u16 a3),.s (.int .u16 a4),.s (.int .u16 a5),.s (.int .u16 a6),.s (.int .u16 a7)]]=>.need (ok8 a0 a1 a2 a3 a4 a5 a6 a7) (.ret (.tup [.s (.int .i64 (↑((zGo (n8 a0 a1 a2 a3 a4 a5 a6 a7) 0 0 0)).1:Int)),.s (.int .i64 (↑((zGo (n8 a0 a1 a2 a3 a4 a5 a6 a7) 0 0 0)).2:Int))]) [])
 | _=>.fail
def Bn9:List PV->Tr
 | [.s (.sl ds_z ds_t 0 ds),.s (.int .u64 v),.s (.int .i64 b),.s (.bool neg),.s (.bool app)]=>.need (ltN v 65536) (.need (b==(16:Int)) (.need (not neg) (.need (not app) (.ret (.tup [.s (.sl true true 1 List.nil),.s (.str (Bg3 (Int.toNat v)))]) []))))
 | _=>.fail
def EH:List PV->Tr
 | [.s (.str s),.s (.str p)]=>.need (A2 (List.length s)) (.ret (.tup [.s (.str ((Lib.cut s p)).1),.s (.str (((Lib.cut s p)).2).1),.s (.bool (((Lib.cut s p)).2).2)]) [])
 | _=>.fail
def NY (args:List PV):Tr:=EH (D7 [[0],[0]] args)
def Br4:List PV->Tr
 | [.s (.sl l_z l_t 1 l)]=>.need (List.all l Bo8) (.need (Nat.ble (List.length l) 8) (.ret (.s (.str (Bo9 (List.map elN l)))) []))
 | _=>.fail
def Od:List PV->Tr
 | [.s (.int .i64 n)]=>.ret (.s (.bool (ptI n))) []
 | _=>.fail
def Gr (args:List PV):Tr:=Od (D7 [[0]] args)
def Oa:List PV->Tr
 | [.s (.int .i64 d),.s (.int .i64 c),.s (.bool f)]=>.need (ltN d 1152921504606846976) (.need (ltN c 1000000) (.need (ltI (0:Int) c) (.ret (.s (.int .i64 (↑(Bl (Int.toNat d) (Int.toNat c) f):Int))) [])))
 | _=>.fail
def Gq (args:List PV):Tr:=Oa (D7 [[0],[0],[0]] args)
def EA:List PV->Tr
 | [.s (.int .i64 d)]=>.need (ltN d 36) (.ret (.s (.int .u8 (↑(UInt8.toNat (Ha (Int.toNat d))):Int))) [])
 | _=>.fail
def NW (args:List PV):Tr:=EA (D7 [[0]] args)
def EF:List PV->Tr
 | [.s (.int .u8 b)]=>.need (inR b 256) (.ret (.s (.int .i64 (G1 (u8n b)))) [])
 | _=>.fail
def NX (args:List PV):Tr:=EF (D7 [[0]] args)
def ED:List PV->Tr
 | [.s (.int .i64 b)]=>.ret (.fnr (Fn.func 112) [] [.ptr 1 0 0,.ptr 0 0 0]) [.box [.s (.int .i64 b)],.box [.s (.int .i64 (0:Int))]]
 | _=>.fail
def Un (args:List PV):Tr:=ED (D7 [[0]] args)
def Hy:List PV->List Blk->Tr
 | [.ptr 0 0 0,.ptr 1 0 0],[.box [.s (.int .i64 k)],.box [.s (.int .i64 b)]]=>.need (ltN k 1000000000000) (.need (ltN b 1000000) (.ret (.s (.int .i64 (S9 k b))) [.box [.s (.int .i64 (Int.add k (36:Int)))],.box [.s (.int .i64 b)]]))
 | _,_=>.fail
def DW:List PV->List Blk->Tr
 | [.fl 0,.s (.int .i64 q),.s (.int .i64 b)],[.arr z 5 1 l]=>.need (ltN q 1152921504606846976) (.need (ltN b 1000000) (.need (Nat.ble (List.length l) 100000) (.ret (.fl 0) [.arr z 5 1 (List.append l (List.map I8 (N8 (Int.toNat q) 0 (Int.toNat b))))])))
 | _,_=>.fail
def EB:List PV->Tr
 | [.s (.sl p_z p_t 1 p)]=>.need (List.all p BD) (.ret (.tup [.s (.str ((Kl (List.map elI p))).1),.s (.int .i64 (↑((Kl (List.map elI p))).2:Int))]) [])
 | _=>.fail
def Ah1 (args:List PV):Tr:=EB (D7 [[1]] args)
def EM:List PV->List Blk->Tr
 | [.fl 0,.s (.int .i64 i),.fl 1],[.arr z 3 1 l,.arr false 3 1 [[.int .i64 n]]]=>.need (ltN i (Nat.add (List.length l) 1)) (.need (Nat.ble (List.length l) 100000) (.ret (.fl 0) [.arr z 3 1 (Fs l (Int.toNat i) n),.arr false 3 1 [[.int .i64 n]]]))
 | _,_=>.fail
def DA:List PV->List Blk->Tr
 | [.ptr 0 0 0],[.box [.s (.str rest),.fl 1,.s (.int .i64 n),.s (.int .i64 i),.s (.int .i64 b),.s (.bool st)],.arr z 3 1 l]=>.need (A2 (List.length rest)) (.need (ltN b 1000000) (.need (ltN i 1099511627777) (.ret (.s (.int .i64 (Wu b rest i))) [.box [.s (.str (Wv b rest i)),.fl 1,.s (.int .i64 n),.s (.int .i64 (Kp b rest i)),.s (.int .i64 b),.s (.bool st)],.arr z 3 1 l])))
 | _,_=>.fail
def Ss:List PV->List Blk->Tr
 | [.ptr 0 0 0],[.box [.s (.str rest),.fl 1,.s (.int .i64 n),.s (.int .i64 i),.s (.int .i64 b),.s (.bool st)],.arr z 3 1 l]=>.need (A2 (List.length rest)) (.need (ltN b 1000000) (.need (ltN i 1099511627777) (.need (ltN n 1152921504606846976) (.need (Nat.ble (List.length l) 100000) (.ret (.s (.int .i64 ((C9 (DS.mk rest n i b st l))).1)) [.box [.s (.str (DS.rest ((C9 (DS.mk rest n i b st l))).2)),.fl 1,.s (.int .i64 (DS.n ((C9 (DS.mk rest n i b st l))).2)),.s (.int .i64 (DS.i ((C9 (DS.mk rest n i b st l))).2)),.s (.int .i64 (DS.b ((C9 (DS.mk rest n i b st l))).2)),.s (.bool (DS.st ((C9 (DS.mk rest n i b st l))).2))],.arr z 3 1 (DS.l ((C9 (DS.mk rest n i b st l))).2)])))))
 | _,_=>.fail
def Nw:List PV->Tr
 | [.s (.str s),.s (.int .u8 c)]=>.need (A2 (List.length s)) (.need (inR c 256) (.ret (.s (.int .i64 (E5 (u8n c) s))) []))
 | _=>.fail
def IX (args:List PV):Tr:=Nw (D7 [[0],[0]] args)
def Ue:List PV->Tr
 | [.s (.str s),.s (.int .u8 c)]=>.need (A2 (List.length s)) (.need (inR c 256) (.ret (.s (.int .i64 (E5 (u8n c) s))) []))
 | _=>.fail
def Su (args:List PV):Tr:=Ue (D7 [[0],[0]] args)
def DZ:List PV->Tr
 | [.s (.str s)]=>.need (A2 (List.length s)) (.ret (.tup [.s (.sl (List.isEmpty ((Q0 s)).1) (List.isEmpty ((Q0 s)).1) 1 (SP ((Q0 s)).1)),.s (.int .i64 (↑((Q0 s)).2:Int))]) [])
 | _=>.fail
def Ah0 (args:List PV):Tr:=DZ (D7 [[0]] args)
def IV:List PV->Tr
 | [.s (.str t)]=>.fail
 | _=>.fail
def Lb (args:List PV):Tr:=IV (D7 [[0]] args)
def Uk:List PV->Tr
 | [.s (.str t),.s (.str p),.s (.int .i64 n)]=>.ret (.fnr (Fn.func 75) [] [.ptr 1 0 0,.ptr 0 0 0,.ptr 2 0 0]) [.box [.s (.str t)],.box [.s (.str p)],.box [.s (.int .i64 n)]]
 | _=>.fail
def DQ (args:List PV):Tr:=Uk (D7 [[0],[0],[0]] args)
def EN:List PV->Tr
 | [.s (.str t),.s (.str p)]=>.ret (.fnr (Fn.func 75) [] [.ptr 1 0 0,.ptr 0 0 0,.ptr 2 0 0]) [.box [.s (.str t)],.box [.s (.str p)],.box [.s (.int .i64 (0:Int))]]
 | _=>.fail
def NZ (args:List PV):Tr:=EN (D7 [[0],[0]] args)
def Sv:List PV->List Blk->Option (Bool × List (List PV))
 | [.yd,.ptr 0 0 0,.ptr 1 0 0,.ptr 2 0 0],[.box [.s (.str p)],.box [.s (.str t)],.box [.s (.int .i64 n)]]=>some (((A2 (List.length t))&&(((List.length p)==1)&&(n==(0:Int)))),List.map (λ(x:By)=>([.s (.str x)]:List PV)) (pcs (List.getD p 0 0) t))
 | _,_=>none
def DE:List PV->Tr
 | [.s (.str t)]=>.ret (.fnr (Fn.func 46) [] [.ptr 0 0 0]) [.box [.s (.str t)]]
 | _=>.fail
def Dr (args:List PV):Tr:=DE (D7 [[0]] args)
def U3:List PV->List Blk->Option (Bool × List (List PV))
 | [.yd,.ptr 0 0 0],[.box [.s (.str t)]]=>some ((A2 (List.length t)),List.map (λ(x:By)=>([.s (.str x)]:List PV)) (E3 t))
 | _,_=>none
def Uj:List PV->Tr
 | [.s (.str s)]=>.need (A2 (List.length s)) (.ret (.s (.bool (Ix s))) [])
 | _=>.fail
def VJ (args:List PV):Tr:=Uj (D7 [[0]] args)
def DT:List PV->Tr
 | [.s (.str s)]=>.need (A2 (List.length s)) (.ret (.s (.bool (Cq s))) [])
 | _=>.fail
def NU (args:List PV):Tr:=DT (D7 [[0]] args)
def NO:List PV->Tr
 | [.s (.str s)]=>.need (A2 (List.length s)) (.ret (.s (.bool (E2 s))) [])
 | _=>.fail
def Zk (args:List PV):Tr:=NO (D7 [[0]] args)
def DF:List PV->Tr
 | [.agg [.s (.int .i64 kd),.s (.str nm),.s (.int .u32 v4),.s (.int .u16 a0),.s (.int .u16 a1),.s (.int .u16 a2),.s (.int .u16 a3),.s (.int .u16 a4),.s (.int .u16 a5),.s (.int .u16 a6),.s (.int .u16 a7)]]=>.need (A2 (List.length nm)) (.need (ltN v4 4294967296) (.need (ok8 a0 a1 a2 a3 a4 a5 a6 a7) (.ret (.s (.bool (Q9 (mkH kd nm v4 (n8 a0 a1 a2 a3 a4 a5 a6 a7))))) [])))
 | _=>.fail
def Dt (args:List PV):Tr:=DF (D7 [[0,0,0,0,0,0,0,0,0,0,0]] args)
def Nx:List PV->Tr
 | [.s (.int .i64 n),.s (.sl l_z l_t 1 l)]=>.need (List.all l isS) (.need (A2 (List.length l)) (.ret (.s (.bool (Gd n (List.map elS l)))) []))
 | _=>.fail
def Ud (args:List PV):Tr:=Nx (D7 [[0],[1]] args)
end
section
variable {σ R : Type} (lf : Nat) (cl : D0) (yh : Yh σ) (s : σ) (k : Out -> St σ -> Option R)
noncomputable def OY (lf:Nat):Cfg:=C0 lf [88] (A3 []) [] (A3 [(1,[4]),(0,[0,0])]) [] (A3 []) (some [4]) [] [] []
noncomputable def A43 {R:Type} (lf:Nat) (s0 prefix1:By) (k0:Bool->Option R):Option R:=cond (not (ltI (s0.length:Int) (prefix1.length:Int))) (cond (Cu 0 (prefix1.length:Int) s0.length) (vl (cut s0 0 (prefix1.length:Int)) λs'0=>k0 (s'0==prefix1)) none) (k0 false)
theorem A44 (d:Nat) (s0 prefix1):evC (OY lf) (d+1) σ yh 88 [pS s0,pS prefix1] [] s=A43 lf s0 prefix1 (λr0=>some (pB r0,[],s)):=by
 refine (evE (fn:=Tryz.f88) (by kernel_rfl)).trans ?_
 generalize evC (OY lf) d=cl
 unfold A43;kernel_rfl
noncomputable def OR (lf:Nat):Cfg:=C0 lf [74] (A3 []) [(88,NT)] (A3 [(1,[4]),(0,[0,0])]) [88] (A3 []) (some [4]) [] [] []
noncomputable def Vy {R:Type} (lf:Nat) (s0 prefix1:By) (k0:Bool->Option R):Option R:=cond (A2 s0.length) (k0 (List.isPrefixOf prefix1 s0)) none
theorem A19 (d:Nat) (s0 prefix1):evC (OR lf) (d+1) σ yh 74 [pS s0,pS prefix1] [] s=Vy lf s0 prefix1 (λr0=>some (pB r0,[],s)):=by
 refine (evE (fn:=Tryz.f74) (by kernel_rfl)).trans ?_
 generalize evC (OR lf) d=cl
 unfold Vy;kernel_rfl
noncomputable def FH (lf:Nat):Cfg:=C0 lf [78] (A3 []) [(88,NT)] (A3 [(3,[4,0]),(2,[4,0]),(1,[0,0,7]),(0,[0,0])]) [88] (A3 []) (some [4,0]) [] [] []
noncomputable def WC {R:Type} (lf:Nat) (s0 prefix1:By) (k0:By->Bool->Option R):Option R:=cond (A2 s0.length) (cond (not (List.isPrefixOf prefix1 s0)) (k0 s0 false) (cond (Cu (prefix1.length:Int) (s0.length:Int) s0.length) (vl (cut s0 (prefix1.length:Int) (s0.length:Int)) λs'0=>k0 s'0 true) none)) none
theorem Ap0 (d:Nat) (s0 prefix1):evC (FH lf) (d+1) σ yh 78 [pS s0,pS prefix1] [] s=WC lf s0 prefix1 (λr0 r1=>some (.tup [pS r0,pB r1],[],s)):=by
 refine (evE (fn:=Tryz.f78) (by kernel_rfl)).trans ?_
 generalize evC (FH lf) d=cl
 unfold WC;kernel_rfl
noncomputable def OP (lf:Nat):Cfg:=C0 lf [57] (A3 []) [(78,VG)] (A3 [(1,[4,0]),(0,[0,0])]) [78] (A3 []) (some [4,0]) [] [] []
noncomputable def A01 {R:Type} (lf:Nat) (s0 prefix1:By) (k0:By->Bool->Option R):Option R:=cond (A2 s0.length) (k0 (Vk s0 prefix1) (List.isPrefixOf prefix1 s0)) none
theorem A02 (d:Nat) (s0 prefix1):evC (OP lf) (d+1) σ yh 57 [pS s0,pS prefix1] [] s=A01 lf s0 prefix1 (λr0 r1=>some (.tup [pS r0,pB r1],[],s)):=by
 refine (evE (fn:=Tryz.f57) (by kernel_rfl)).trans ?_
 generalize evC (OP lf) d=cl
 unfold A01;kernel_rfl
noncomputable abbrev JH:Code:=E6 Tryz.f87
noncomputable def Br (lf:Nat):Cfg:=C0 lf [87] (A3 [(11,[0,0,0,0,4,0,0])]) [(99,Hx),(100,Ah2),(77,EK)] (A3 [(18,[8]),(17,[9,0]),(16,[0,0,0,0,5,0]),(15,[0,0,0,0,5,0]),(14,[0,0,0,0,5,0,0]),(13,[0,0,0,0,5,0,0,29]),(12,[0,0,0,0,5,0,0]),(11,[0,0,0,0,5,0,25]),(10,[0,0,0,0,5,0]),(9,[0,0,0,0,5]),(8,[0,0,0,0,5]),(7,[0,0,0,0]),(6,[0,0,0,0]),(5,[0,0,0,0,16]),(4,[8]),(3,[0,0,0,0,11]),(2,[8]),(1,[0,0,0,0,9]),(0,[0,0,0,0])]) [100,77] (A3 [(0,[0,8,0]),(1,[0,0,0,0,5,0])]) (some [8]) [] [] []
noncomputable def T4 {R:Type} (lf n:Nat) (s0 sep1:By) (sepSave2 n3 i4:Int) (l5:LL) (k0:By->Int->LL->Option R):Option R:=match n with | 0=>none | n+1=>cond (ltI i4 n3) (cond (A2 s0.length) (cond (ltI (Lib.index s0 sep1) (0:Int)) (k0 s0 i4 l5) (vl (A5 ((Lib.index s0 sep1)+sepSave2)) λn'12=>cond (Cu 0 n'12 s0.length) (cond (inR i4 l5.length) (cond (decide ((Int.toNat i4)<l5.length)) (vl (List.set l5 (Int.toNat i4) (D3 (List.getD l5 (Int.toNat i4) []) 0 [(SV.str (cut s0 0 n'12))])) λl'13=>vl (A5 ((Lib.index s0 sep1)+(sep1.length:Int))) λn'14=>cond (Cu n'14 (s0.length:Int) s0.length) (vl (cut s0 n'14 (s0.length:Int)) λs'15=>T4 lf n s'15 sep1 sepSave2 n3 (A5 (i4+1)) l'13 k0) none) none) none) none)) none) (k0 s0 i4 l5)
theorem Mc (n s0 sep1 sepSave2 n3 i4 l5):H4 1 ((Br lf).keep 11) (bd (Br lf) cl yh (cd [1,1,1,1,1,1,1,1,0,0,0] JH)) n ⟨gp [(0,pS s0),(0,pS sep1),(0,pI sepSave2),(0,pI n3),(5,.fl 0),(0,pI i4)] 55,[.arr false 9 1 l5],s⟩ k =
 T4 lf n s0 sep1 sepSave2 n3 i4 l5 (λs0 i1 l2=>k (.exit 0) ⟨gp [(0,pS s0),(8,.fl 0),(0,pI i1)] 55,[.arr false 9 1 l2],s⟩):=by
 induction n generalizing s0 sep1 sepSave2 n3 i4 l5 with
 | zero=>rfl
 | succ n ih=>rw [T4];simp only [<-ih];kernel_rfl
noncomputable def Vx {R:Type} (lf:Nat) (s0 sep1:By) (sepSave2 n3:Int) (k0:Unit->Option R) (k1:Nat->LL->Option R):Option R:=cond (n3==0) (k0 ()) (cond (sep1==[]) none (cond (ltI n3 0) (cond (sep1.length==1) (vl (↑(List.count (List.getD sep1 0 0) s0):Int) λn'1=>vl (A5 ((s0.length:Int)+1)) λn'4=>vl (if (n'4<(A5 (n'1+1))) then n'4 else (A5 (n'1+1))) λn'5=>cond (((decide ((0:Int)<=n'5))&&(decide (n'5<=n'5)))&&(Q5 (Int.toNat n'5))) (T4 lf lf s0 sep1 sepSave2 (A5 (n'5-1)) 0 (List.replicate (Int.toNat n'5) [(SV.str ([]:List UInt8))]) (λs'16 i'17 l'18=>cond (inR i'17 l'18.length) (cond (decide ((Int.toNat i'17)<l'18.length)) (vl (List.set l'18 (Int.toNat i'17) (D3 (List.getD l'18 (Int.toNat i'17) []) 0 [(SV.str s'16)])) λl'19=>vl (A5 (i'17+1)) λn'20=>cond (Cu 0 n'20 l'19.length) (k1 ((Int.toNat n'20)-0) l'19) none) none) none)) none) none) (vl (A5 ((s0.length:Int)+1)) λn'8=>vl (if (n'8<n3) then n'8 else n3) λn'9=>cond (((decide ((0:Int)<=n'9))&&(decide (n'9<=n'9)))&&(Q5 (Int.toNat n'9))) (T4 lf lf s0 sep1 sepSave2 (A5 (n'9-1)) 0 (List.replicate (Int.toNat n'9) [(SV.str ([]:List UInt8))]) (λs'21 i'22 l'23=>cond (inR i'22 l'23.length) (cond (decide ((Int.toNat i'22)<l'23.length)) (vl (List.set l'23 (Int.toNat i'22) (D3 (List.getD l'23 (Int.toNat i'22) []) 0 [(SV.str s'21)])) λl'24=>vl (A5 (i'22+1)) λn'25=>cond (Cu 0 n'25 l'24.length) (k1 ((Int.toNat n'25)-0) l'24) none) none) none)) none)))
theorem YG (d:Nat) (s0 sep1 sepSave2 n3):evC (Br lf) (d+1) σ yh 87 [pS s0,pS sep1,pI sepSave2,pI n3] [] s=Vx lf s0 sep1 sepSave2 n3 (λ_=>some (.fl 0,[.arr true 9 1 []],s)) (λr_m0 l1=>some (.vw 0 0 r_m0,[.arr false 9 1 l1],s)):=by
 refine (evE (fn:=Tryz.f87) (by kernel_rfl)).trans ?_
 generalize evC (Br lf) d=cl
 unfold Vx;exact let K0:=(O4 0 (P3 (Br lf) cl yh (cd [1,1,1,1,1,1,1,1,1] JH) (J6 (Br lf) Tryz.f87)));(Eq.trans (by kernel_rfl) (A0 rfl (A0 rfl (A0 (A0 (B9 λn'1=>(B9 λn'4=>(B9 λn'5=>(A0 ((Mc lf cl yh s K0 lf s0 sep1 sepSave2 (A5 (n'5-1)) 0 (List.replicate (Int.toNat n'5) [(SV.str ([]:List UInt8))])).trans (by kernel_rfl)) rfl)))) rfl) (B9 λn'8=>(B9 λn'9=>(A0 ((Mc lf cl yh s K0 lf s0 sep1 sepSave2 (A5 (n'9-1)) 0 (List.replicate (Int.toNat n'9) [(SV.str ([]:List UInt8))])).trans (by kernel_rfl)) rfl)))))))
noncomputable def Vf (lf:Nat):Cfg:=C0 lf [73] (A3 []) [(87,IW)] (A3 [(1,[4]),(0,[0,0])]) [] (A3 []) (some [4]) [] [] []
noncomputable def IH {R:Type} (lf:Nat) (s0 sep1:By) (k0:LL->Option R):Option R:=cond (A2 s0.length) (cond (sep1.length==1) (cond ((0:Int)==0) (cond (((-1):Int)==((-1):Int)) (vl (J4 (pcs (List.getD sep1 0 0) s0)) λl'0=>k0 l'0) none) none) none) none
theorem Ac7 (d:Nat) (s0 sep1):evC (Vf lf) (d+1) σ yh 73 [pS s0,pS sep1] [] s=IH lf s0 sep1 (λr0=>some (.s (.sl false false 1 r0),[],s)):=by
 refine (evE (fn:=Tryz.f73) (by kernel_rfl)).trans ?_
 generalize evC (Vf lf) d=cl
 unfold IH;kernel_rfl
noncomputable def OQ (lf:Nat):Cfg:=C0 lf [53] (A3 []) [(74,Ag5)] (A3 [(1,[2]),(0,[0])]) [74] (A3 []) (some [2]) [] [] []
noncomputable def A17 {R:Type} (lf:Nat) (s0:By) (k0:Bool->Option R):Option R:=cond (A2 s0.length) (cond (List.isPrefixOf ([48,120]:List UInt8) s0) (k0 true) (cond (A2 s0.length) (k0 (List.isPrefixOf ([48,88]:List UInt8) s0)) none)) none
theorem A18 (d:Nat) (s0):evC (OQ lf) (d+1) σ yh 53 [pS s0] [] s=A17 lf s0 (λr0=>some (pB r0,[],s)):=by
 refine (evE (fn:=Tryz.f53) (by kernel_rfl)).trans ?_
 generalize evC (OQ lf) d=cl
 unfold A17;kernel_rfl
noncomputable abbrev Ae:Code:=E6 Tryz.f55
noncomputable def N7 (lf:Nat):Cfg:=C0 lf [55] (A3 [(3,[0,0,2,0,0,4,0])]) [] (A3 [(18,[4,0]),(17,[0,0,4,4,0]),(16,[0,0,4,4,0]),(15,[4,0]),(14,[0,0,4,1,2,0,39]),(9,[0,0,4,1,2,0]),(11,[0,0,4,1,2,0]),(13,[0,0,4,1,2,0]),(7,[4,0]),(12,[0,0,4,2,1,0,26]),(10,[0,0,4,2,1,0,15]),(8,[0,0,4,2,1,0,5]),(6,[0,0,4,2,1,0]),(5,[0,0,4,0,3,0]),(4,[0,0,4,0,3,0]),(3,[0,0,4,4,0,0]),(2,[0,0,4,4,0]),(1,[0,0,4]),(0,[0,0])]) [] (A3 [(0,[6]),(1,[0,0,4,4,0]),(2,[0,0,4,1,2,0])]) (some [4,0]) [] [] []
noncomputable def Lu {R:Type} (s0:By) (base1 n2 b3 n4 n5:Int) (b6:Bool) (k0:By->Int->Int->Int->Int->Int->Option R) (k1:Unit->Option R):Option R:=cond b6 (vl (A5 (wu8 (b3-97))) λn'1=>vl (A5 (n'1+10)) λn'2=>k0 s0 base1 n2 n'2 n4 n5) (cond (not (ltI b3 65)) (cond (not (ltI 70 b3)) (vl (A5 (wu8 (b3-65))) λn'3=>vl (A5 (n'3+10)) λn'4=>k0 s0 base1 n2 n'4 n4 n5) (k1 ())) (k1 ()))
abbrev AT (b:Code):Prop:=∀ (k:Out->St σ->Option R) s0 base1 n2 b3 n4 n5 b6,B0 (N7 lf) cl yh b ⟨gp [(0,pS s0),(0,pI base1),(4,pI n2),(2,p8 b3),(1,pI n4),(0,pI n5),(15,pB b6)] 32,[],s⟩ k=Lu s0 base1 n2 b3 n4 n5 b6 (λs0 base1 n2 d3 n4 n5=>k .normal ⟨gp [(0,pS s0),(0,pI base1),(4,pI n2),(1,pI d3),(2,pI n4),(0,pI n5)] 48,[],s⟩) (λ_=>k .ret ⟨gp [(4,pI (0:Int)),(0,pB false)] 55,[],s⟩)
theorem QO:AT (R:=R) lf cl yh s (cd [1,1,0,1,0,0,1,1,0,0,1,1,0,1,0,1,1,1] Ae):=by
 intro k s0 base1 n2 b3 n4 n5 b6;unfold Lu;kernel_rfl
noncomputable def Lv {R:Type} (s0:By) (base1 n2 b3 n4 n5:Int) (b6:Bool) (k0:By->Int->Int->Int->Int->Int->Option R) (k1:Unit->Option R):Option R:=cond b6 (vl (A5 (wu8 (b3-48))) λn'0=>k0 s0 base1 n2 n'0 n4 n5) (cond (not (ltI b3 97)) (Lu s0 base1 n2 b3 n4 n5 (not (ltI 102 b3)) (λs'5 base'6 n'7 d'8 n'9 n'10=>k0 s'5 base'6 n'7 d'8 n'9 n'10) (λ_=>k1 ())) (Lu s0 base1 n2 b3 n4 n5 false (λs'11 base'12 n'13 d'14 n'15 n'16=>k0 s'11 base'12 n'13 d'14 n'15 n'16) (λ_=>k1 ())))
abbrev Ih (b:Code):Prop:=∀ (k:Out->St σ->Option R) s0 base1 n2 b3 n4 n5 b6,B0 (N7 lf) cl yh b ⟨gp [(0,pS s0),(0,pI base1),(4,pI n2),(2,p8 b3),(1,pI n4),(0,pI n5),(5,pB b6)] 42,[],s⟩ k=Lv s0 base1 n2 b3 n4 n5 b6 (λs0 base1 n2 d3 n4 n5=>k .normal ⟨gp [(0,pS s0),(0,pI base1),(4,pI n2),(1,pI d3),(2,pI n4),(0,pI n5)] 48,[],s⟩) (λ_=>k .ret ⟨gp [(4,pI (0:Int)),(0,pB false)] 55,[],s⟩)
theorem QP (b_110100110011010111:Code) (h_digs_j0:AT (R:=R) lf cl yh s b_110100110011010111):Ih (R:=R) lf cl yh s (cd [1,1,0,1,0,0,1,1,0,0,1,1,0,1,0,1] (U1 [1,1,0,1,0,0,1,1,0,0,1,1,0,1,0,1,1,1] b_110100110011010111 Ae)):=by
 intro k s0 base1 n2 b3 n4 n5 b6;unfold Lv;simp only [<-h_digs_j0 k];kernel_rfl
theorem QQ:Ih (R:=R) lf cl yh s (cd [1,1,0,1,0,0,1,1,0,0,1,1,0,1,0,1] Ae):=by
 intro k s0 base1 n2 b3 n4 n5 b6;exact Eq.trans (by kernel_rfl) (QP lf cl yh s (cd [1,1,0,1,0,0,1,1,0,0,1,1,0,1,0,1,1,1] Ae) (QO lf cl yh s) k s0 base1 n2 b3 n4 n5 b6)
noncomputable def Lw {R:Type} (s0:By) (base1 n2 d3 n4 n5:Int) (k0:Unit->Option R) (k1:By->Int->Int->Int->Int->Option R):Option R:=cond (not (ltI d3 base1)) (k0 ()) (vl (A5 ((A5 (n2*base1))+d3)) λn'23=>vl (if ((1099511627776:Int)<n'23) then (1099511627776:Int) else n'23) λn'24=>k1 s0 base1 n'24 n4 n5)
abbrev Pj (b:Code):Prop:=∀ (k:Out->St σ->Option R) s0 base1 n2 d3 n4 n5,B0 (N7 lf) cl yh b ⟨gp [(0,pS s0),(0,pI base1),(4,pI n2),(1,pI d3),(2,pI n4),(0,pI n5)] 48,[],s⟩ k=Lw s0 base1 n2 d3 n4 n5 (λ_=>k .ret ⟨gp [(4,pI (0:Int)),(0,pB false)] 55,[],s⟩) (λs0 base1 n2 n3 n4=>k .normal ⟨gp [(0,pS s0),(0,pI base1),(4,pI n2),(4,pI n3),(0,pI n4)] 48,[],s⟩)
theorem QR:Pj (R:=R) lf cl yh s (cd [1,1,0,1,0,0,1,1,0,0,1,1,1] Ae):=by
 intro k s0 base1 n2 d3 n4 n5;unfold Lw;kernel_rfl
noncomputable def Da {R:Type} (lf n:Nat) (s0:By) (base1 n2 n3 n4:Int) (k0:Unit->Option R) (k1:Int->Option R):Option R:=match n with | 0=>none | n+1=>cond (ltI n4 n3) (cond (inR n4 s0.length) (cond (not (ltI (bAt s0 n4) (48:Int))) (Lv s0 base1 n2 (bAt s0 n4) n3 n4 (not (ltI 57 (bAt s0 n4))) (λs'17 base'18 n'19 d'20 n'21 n'22=>Lw s'17 base'18 n'19 d'20 n'21 n'22 (λ_=>k0 ()) (λs'25 base'26 n'27 n'28 n'29=>vl (A5 (n'29+1)) λn'30=>Da lf n s'25 base'26 n'27 n'28 n'30 k0 k1)) (λ_=>k0 ())) (Lv s0 base1 n2 (bAt s0 n4) n3 n4 false (λs'31 base'32 n'33 d'34 n'35 n'36=>Lw s'31 base'32 n'33 d'34 n'35 n'36 (λ_=>k0 ()) (λs'37 base'38 n'39 n'40 n'41=>vl (A5 (n'41+1)) λn'42=>Da lf n s'37 base'38 n'39 n'40 n'42 k0 k1)) (λ_=>k0 ()))) none) (k1 n2)
theorem QS (b_1101001100110101:Code) (h_digs_j1:Ih (R:=R) lf cl yh s b_1101001100110101) (b_1101001100111:Code) (h_digs_j2:Pj (R:=R) lf cl yh s b_1101001100111) (n:Nat) (s0:By) (base1 n2 n3 n4:Int):H4 0 ((N7 lf).keep 3) (bd (N7 lf) cl yh (cd [1,1,0,1,0,0] (U1 [1,1,0,1,0,0,1,1,0,0,1,1,1] b_1101001100111 (U1 [1,1,0,1,0,0,1,1,0,0,1,1,0,1,0,1] b_1101001100110101 Ae)))) n ⟨gp [(0,pS s0),(0,pI base1),(4,pI n2),(4,pI n3),(0,pI n4)] 48,[],s⟩ k =
 Da lf n s0 base1 n2 n3 n4 (λ_=>k .ret ⟨gp [(4,pI (0:Int)),(0,pB false)] 55,[],s⟩) (λn0=>k (.exit 0) ⟨gp [(6,pI n0)] 54,[],s⟩):=by
 induction n generalizing s0 base1 n2 n3 n4 with
 | zero=>rfl
 | succ n ih=>rw [Da];exact let K0:=(O4 1 (P3 (N7 lf) cl yh (cd [1,1,0,1,0,0,1,1,1] Ae) (lpK 0 ((N7 lf).keep 3) (bd (N7 lf) cl yh (cd [1,1,0,1,0,0] (U1 [1,1,0,1,0,0,1,1,0,0,1,1,1] b_1101001100111 (U1 [1,1,0,1,0,0,1,1,0,0,1,1,0,1,0,1] b_1101001100110101 Ae)))) n k)));let K1:=(O4 2 (P3 (N7 lf) cl yh b_1101001100111 K0));(Eq.trans (by kernel_rfl) (A0 (A0 (A0 ((h_digs_j1 K1 s0 base1 n2 (bAt s0 n4) n3 n4 (not (ltI 57 (bAt s0 n4)))).trans (congr (congr rfl (fx6 λs'17 base'18 n'19 d'20 n'21 n'22=>(Eq.trans (by kernel_rfl) ((h_digs_j2 K0 s'17 base'18 n'19 d'20 n'21 n'22).trans (congr (congr rfl (by kernel_rfl)) (fx5 λs'25 base'26 n'27 n'28 n'29=>(Eq.trans (by kernel_rfl) (B9 λn'30=>(ih s'25 base'26 n'27 n'28 n'30))))))))) (by kernel_rfl))) ((h_digs_j1 K1 s0 base1 n2 (bAt s0 n4) n3 n4 false).trans (congr (congr rfl (fx6 λs'31 base'32 n'33 d'34 n'35 n'36=>(Eq.trans (by kernel_rfl) ((h_digs_j2 K0 s'31 base'32 n'33 d'34 n'35 n'36).trans (congr (congr rfl (by kernel_rfl)) (fx5 λs'37 base'38 n'39 n'40 n'41=>(Eq.trans (by kernel_rfl) (B9 λn'42=>(ih s'37 base'38 n'39 n'40 n'42))))))))) (by kernel_rfl)))) rfl) rfl))
noncomputable def Am7 {R:Type} (lf:Nat) (s0:By) (base1:Int) (k0:Int->Bool->Option R):Option R:=Da lf lf s0 base1 0 (s0.length:Int) 0 (λ_=>k0 0 false) (λn'43=>k0 n'43 true)
theorem A06 (b_1101001100110101:Code) (h_digs_j1:Ih (R:=PV × List Blk × σ) lf cl yh s b_1101001100110101) (b_1101001100111:Code) (h_digs_j2:Pj (R:=PV × List Blk × σ) lf cl yh s b_1101001100111) (s0:By) (base1:Int):B0 (N7 lf) cl yh (cd [] (U1 [1,1,0,1,0,0,1,1,0,0,1,1,1] b_1101001100111 (U1 [1,1,0,1,0,0,1,1,0,0,1,1,0,1,0,1] b_1101001100110101 Ae))) ⟨[pS s0,pI base1]++tps 59,[],s⟩ (J6 (N7 lf) Tryz.f55)=Am7 lf s0 base1 (λr0 r1=>some (.tup [pI r0,pB r1],[],s)):=by
 unfold Am7;exact (Eq.trans (by kernel_rfl) ((QS lf cl yh s (O4 0 (P3 (N7 lf) cl yh (cd [1,1,1] Ae) (J6 (N7 lf) Tryz.f55))) b_1101001100110101 h_digs_j1 b_1101001100111 h_digs_j2 lf s0 base1 0 (s0.length:Int) 0).trans (by kernel_rfl)))
theorem A07 (d:Nat) (s0 base1):evC (N7 lf) (d+1) σ yh 55 [pS s0,pI base1] [] s=Am7 lf s0 base1 (λr0 r1=>some (.tup [pI r0,pB r1],[],s)):=
 (evE (fn:=Tryz.f55) (by kernel_rfl)).trans (Eq.trans (by kernel_rfl) (A06 lf (evC (N7 lf) d) yh s (cd [1,1,0,1,0,0,1,1,0,0,1,1,0,1,0,1] Ae) (QQ lf (evC (N7 lf) d) yh s) (cd [1,1,0,1,0,0,1,1,0,0,1,1,1] Ae) (QR lf (evC (N7 lf) d) yh s) s0 base1))
noncomputable def Aj8 (lf:Nat):Cfg:=C0 lf [54] (A3 []) [(53,NN),(55,NM)] (A3 [(7,[2,0]),(2,[2,0]),(4,[2,0]),(6,[2,0]),(5,[0,14]),(3,[0,6]),(1,[0,3]),(0,[0])]) [53,55] (A3 [(0,[0])]) (some [2,0]) [] [] []
noncomputable def num {R:Type} (lf:Nat) (s0:By) (k0:Int->Bool->Option R):Option R:=cond (s0==[]) (k0 0 false) (cond (A2 s0.length) (cond (Db s0) (cond (Cu 2 (s0.length:Int) s0.length) (vl (cut s0 2 (s0.length:Int)) λs'0=>cond (A2 s'0.length) (cond (ltN 16 17) (vl (↑(Yz (L1 16 0 s'0)):Int) λn'1=>k0 n'1 (Option.isSome (L1 16 0 s'0))) none) none) none) (cond (ltI 1 (s0.length:Int)) (cond (inR 0 s0.length) (cond ((bAt s0 (0:Int))==48) (cond (Cu 1 (s0.length:Int) s0.length) (vl (cut s0 1 (s0.length:Int)) λs'2=>cond (A2 s'2.length) (cond (ltN 8 17) (vl (↑(Yz (L1 8 0 s'2)):Int) λn'3=>k0 n'3 (Option.isSome (L1 8 0 s'2))) none) none) none) (cond (A2 s0.length) (cond (ltN 10 17) (vl (↑(Yz (L1 10 0 s0)):Int) λn'4=>k0 n'4 (Option.isSome (L1 10 0 s0))) none) none)) none) (cond (A2 s0.length) (cond (ltN 10 17) (vl (↑(Yz (L1 10 0 s0)):Int) λn'5=>k0 n'5 (Option.isSome (L1 10 0 s0))) none) none))) none)
theorem Bh7 (d:Nat) (s0):evC (Aj8 lf) (d+1) σ yh 54 [pS s0] [] s=num lf s0 (λr0 r1=>some (.tup [pI r0,pB r1],[],s)):=by
 refine (evE (fn:=Tryz.f54) (by kernel_rfl)).trans ?_
 generalize evC (Aj8 lf) d=cl
 unfold num;kernel_rfl
noncomputable def FM (lf:Nat):Cfg:=C0 lf [52] (A3 []) [(73,IY)] (A3 [(5,[2]),(4,[3]),(3,[3,0,13]),(2,[3,0]),(1,[3]),(0,[0])]) [] (A3 []) (some [2]) [] [] []
noncomputable def parts {R:Type} (lf:Nat) (s0:By) (k0:LL->Option R):Option R:=cond (A2 s0.length) (cond (1==1) (vl (J4 (pcs (List.getD ([46]:List UInt8) 0 0) s0)) λl'1=>vl (A5 ((l'1.length:Int)-1)) λn'3=>cond (ltI 0 n'3) (cond (inR n'3 l'1.length) (cond (okE Qm l'1 (Int.toNat n'3) 0) (vl (gX l'1 (Int.toNat n'3) 0) λs'4=>cond (s'4==[]) (cond (Cu 0 n'3 l'1.length) (k0 (cut l'1 0 n'3)) none) (k0 l'1)) none) none) (k0 l'1)) none) none
theorem Aq8 (d:Nat) (s0):evC (FM lf) (d+1) σ yh 52 [pS s0] [] s=parts lf s0 (λr0=>some (.s (.sl false false 1 r0),[],s)):=by
 refine (evE (fn:=Tryz.f52) (by kernel_rfl)).trans ?_
 generalize evC (FM lf) d=cl
 unfold parts;kernel_rfl
noncomputable def Pb (lf:Nat):Cfg:=C0 lf [39] (A3 []) [(52,VK),(53,NN),(54,Bd2),(55,NM)] (A3 [(7,[2]),(6,[4,3]),(5,[2]),(4,[6]),(3,[4,13]),(2,[4]),(1,[3]),(0,[0])]) [53,54,55] (A3 []) (some [2]) [] [] []
noncomputable def Tn {R:Type} (lf:Nat) (s0:By) (k0:Bool->Option R):Option R:=cond (A2 s0.length) (vl (A5 ((↑(List.length (J4 (G0 s0))):Int)-1)) λn'2=>cond (inR n'2 (List.length (J4 (G0 s0)))) (cond (okE Qm (J4 (G0 s0)) (Int.toNat n'2) 0) (vl (gX (J4 (G0 s0)) (Int.toNat n'2) 0) λs'3=>cond (A2 s'3.length) (cond (Db s'3) (cond (A2 s'3.length) (vl (↑(Yz (Yx s'3)):Int) λn'5=>k0 (Option.isSome (Yx s'3))) none) (cond (A2 s'3.length) (cond (ltN 10 17) (vl (↑(Yz (L1 10 0 s'3)):Int) λn'6=>cond (Option.isSome (L1 10 0 s'3)) (k0 (not (s'3==[]))) (k0 false)) none) none)) none) none) none) none
theorem SZ (d:Nat) (s0):evC (Pb lf) (d+1) σ yh 39 [pS s0] [] s=Tn lf s0 (λr0=>some (pB r0,[],s)):=by
 refine (evE (fn:=Tryz.f39) (by kernel_rfl)).trans ?_
 generalize evC (Pb lf) d=cl
 unfold Tn;kernel_rfl
end
end
section
open Go
theorem XV (b:UInt8):(48<=b.toNat/\b.toNat<=57/\dig b=b.toNat-48)\/(97<=b.toNat/\b.toNat<=102/\dig b=b.toNat-87)\/(65<=b.toNat/\b.toNat<=70/\dig b=b.toNat-55)\/(¬(48<=b.toNat/\b.toNat<=57)/\¬(97<=b.toNat/\b.toNat<=102)/\¬(65<=b.toNat/\b.toNat<=70)/\dig b=99):=by
 unfold dig
 split
 ·rename_i h;exact .inl ⟨h.1,h.2,rfl⟩
 ·split
  ·rename_i h;exact .inr (.inl ⟨h.1,h.2,rfl⟩)
  ·split
   ·rename_i h;exact .inr (.inr (.inl ⟨h.1,h.2,rfl⟩))
   ·exact .inr (.inr (.inr ⟨by assumption,by assumption,by assumption,rfl⟩))
theorem Bi5 (m:Nat):(if (1099511627776:Int)<(m:Int) then (1099511627776:Int) else (m:Int))=((min m IE:Nat):Int):=by
 unfold IE
 split<;>omega
theorem Ho {c:UInt8} {s:By} (h:c∉s):pcs c s=[s]:=by
 unfold pcs;rw [Bb c s [] h];rfl
theorem Ts {c:UInt8} {p r:By} (h:c∉p):pcs c (p++c::r)=p::pcs c r:=by
 unfold pcs;rw [Sa c p [] r h];rfl
theorem Mu (c:UInt8) (s:By):(pcs c s).length=s.count c+1:=Dj c s []
theorem Kr (c:UInt8) (s:By):pcs c s≠[]:=UM c s []
theorem Mv {c:UInt8} {s x:By} (h:x∈pcs c s):c∉x/\x.length<=s.length:=by
 have:=Hs c s [] (by simp) x h
 simpa using this
theorem Ls (c:UInt8) (s:By):s.count c<=s.length:=List.count_le_length
theorem Dk (c:UInt8):∀ s:By,c∉s\/∃ p r,s=p++c::r/\c∉p
 | []=>.inl (by simp)
 | b::s=>by
  by_cases h:b=c
  ·subst h;exact .inr ⟨[],s,rfl,by simp⟩
  ·rcases Dk c s with h1 | ⟨p,r,rfl,h2⟩
   ·exact .inl (by simp [h1,Ne.symm h])
   ·exact .inr ⟨b::p,r,rfl,by simp [h2,Ne.symm h]⟩
theorem Km {c:UInt8} {s:By} (h:c∉s):Lib.index s [c] = -1:=by
 rcases Lib.index_spec s [c] with h1 | ⟨i,h1,h2,h3,h4⟩
 ·exact h1.1
 ·exfalso
  simp only [Lib.occAt,List.isPrefixOf_iff_prefix] at h3
  obtain ⟨t,ht⟩:=h3
  have:c∈s.drop i:=by rw [<-ht];simp
  exact h (List.mem_of_mem_drop this)
theorem Pt {c:UInt8} {p r:By} (h:c∉p):Lib.index (p++c::r) [c]=(p.length:Int):=by
 rcases Lib.index_spec (p++c::r) [c] with h1 | ⟨i,h1,h2,h3,h4⟩
 ·exfalso
  have:=h1.2 p.length (by simp)
  simp [Lib.occAt] at this
 ·rw [h1]
  have hi:¬ p.length<i:=by
   intro hlt
   have:=h4 p.length hlt
   simp [Lib.occAt] at this
  have hi2:¬ i<p.length:=by
   intro hlt
   simp only [Lib.occAt,List.isPrefixOf_iff_prefix] at h3
   obtain ⟨t,ht⟩:=h3
   have h5:(p++c::r).drop i=p.drop i++c::r:=by rw [List.drop_append_of_le_length (by omega)]
   rw [h5] at ht
   cases hd:p.drop i with
   | nil=>have:=List.length_drop (i:=i) (l:=p);rw [hd] at this;simp at this;omega
   | cons x y=>
    rw [hd] at ht
    simp at ht
    have:x∈p:=List.mem_of_mem_drop (i:=i) (by rw [hd];simp)
    rw [<-ht.1] at this
    exact h this
  omega
theorem Aa0 (s:By):G0 s≠[]:=by
 unfold G0
 split
 ·rename_i h
  intro e
  have:=congrArg List.length e
  simp at this
  omega
 ·exact Kr _ _
theorem TF {s x:By} (h:x∈G0 s):x.length<=s.length:=by
 unfold G0 at h
 split at h
 ·exact (Mv ((List.dropLast_sublist _).subset h)).2
 ·exact (Mv h).2
theorem Xc (s:By):1<=(G0 s).length/\(G0 s).length<=s.length+1:=by
 have h1:=List.length_pos_iff.2 (Aa0 s)
 have h2:=Mu 46 s
 have h3:=Ls 46 s
 refine ⟨h1,?_⟩
 unfold G0
 split
 ·rw [List.length_dropLast];omega
 ·omega
theorem BH (s:By):(G0 s).getD ((G0 s).length-1) []=Cd s:=by
 unfold Cd
 rw [List.getLastD_eq_getLast?,List.getLast?_eq_getElem?,List.getD_eq_getElem?_getD]
theorem YU (s:By):Cd s∈G0 s:=by
 have h:=(Xc s).1
 rw [<-BH,List.getD_eq_getElem?_getD,List.getElem?_eq_getElem (by omega)]
 exact List.getElem_mem _
theorem YO (s:By):Db s=true↔s.getD 0 0=48/\(s.getD 1 0=120\/s.getD 1 0=88):=by
 simp [Db]
theorem BC {s:By} (h:Db s=true):2<=s.length:=by
 rw [YO] at h
 match s with
 | []=>simp at h
 | [a]=>simp at h
 | a::b::r=>simp
end
section
open Go Go.Proofs
theorem ZP {R:Type} {k0:Bool->Option R} (s p:By) (h0:A2 s.length=true):A43 LF s p k0=k0 (p.isPrefixOf s):=by
 have:=U0 h0
 unfold A43
 rw [Gh]
 by_cases h:p.length<=s.length
 ·simp_all
 ·simp (disch:=omega) [h]
theorem YJ {R:Type} {k0:Bool->Option R} (s p:By) (h0:A2 s.length=true):Vy LF s p k0=k0 (p.isPrefixOf s):=by
 unfold Vy;rw [h0];rfl
theorem RW {R:Type} {k0:By->Bool->Option R} (s p:By) (h0:A2 s.length=true):WC LF s p k0=k0 (Vk s p) (p.isPrefixOf s):=by
 have:=U0 h0
 unfold WC Vk
 rw [h0]
 cases h:p.isPrefixOf s with
 | false=>simp
 | true=>
  have:p.length<=s.length:=by rw [Gh] at h;simp at h;exact h.1
  simp_all
theorem XS {R:Type} {k0:By->Bool->Option R} (s p:By) (h0:A2 s.length=true):A01 LF s p k0=k0 (Vk s p) (p.isPrefixOf s):=by
 unfold A01;rw [h0];rfl
theorem MS {R:Type} {k0:LL->Option R} (s p:By) (h0:A2 s.length=true) (h1:(p.length==1)=true):IH LF s p k0=k0 (J4 (pcs (p.getD 0 0) s)):=by
 unfold IH;rw [h0,h1];rfl
theorem YH {R:Type} {k0:Bool->Option R} (s:By) (h0:A2 s.length=true):A17 LF s k0=k0 (Db s):=by
 unfold A17
 have key:Db s=(([48,120]:By).isPrefixOf s || ([48,88]:By).isPrefixOf s):=by
  match s with
  | []=>rfl
  | [a]=>simp [Db,List.isPrefixOf]
  | a::b::r=>
   simp only [Db,List.isPrefixOf,List.getD_cons_zero,List.getD_cons_succ,Bool.and_true]
   rw [BEq.comm (a:=(48:UInt8)),BEq.comm (a:=(120:UInt8)),BEq.comm (a:=(88:UInt8))]
   cases (a==48)<;>simp
 grind
theorem XW {R:Type} {k0:Unit->Option R} {k1:Int->Option R} (s:By) (hs:s.length<=1000000000) (base:Nat) (hb:base<=16):∀ (r i acc n:Nat),i+r=s.length->r<n->acc<=IE->
  Da LF n s (base:Int) (acc:Int) (s.length:Int) (i:Int) k0 k1=match L1 base acc (s.drop i) with | some v=>k1 (v:Int) | none=>k0 ():=by
 intro r
 induction r with
 | zero=>
  intro i acc n hi hn ha
  obtain ⟨n,rfl⟩:∃ m,n=m+1:=⟨n-1,by omega⟩
  rw [Da]
  rw [B6,List.drop_of_length_le (by omega)]
  rfl
 | succ r ih=>
  intro i acc n hi hn ha
  obtain ⟨n,rfl⟩:∃ m,n=m+1:=⟨n-1,by omega⟩
  rw [Da,Ii s i (by omega)]
  rw [Ia]
  have hbt:=(s.getD i 0).toNat_lt
  generalize s.getD i 0=b at *
  have hn1:((i:Int)+1)=((i+1:Nat):Int):=by omega
  have hsat:IE=1099511627776:=rfl
  have step:∀ d:Nat,d<base->(acc*base+d<100000000000000/\A5 (A5 ((acc:Int)*(base:Int))+(d:Int))=((acc*base+d:Nat):Int)):=by
   intro d hd
   have h1:acc*base<=1099511627776*16:=Nat.mul_le_mul (by omega) (by omega)
   refine ⟨by omega,?_⟩
   have e1:A5 ((acc*base:Nat):Int)=((acc*base:Nat):Int):=B1
   rw [<-Int.natCast_mul,e1,B1]
   rfl
  simp (disch:=omega) only [H5,Q3,cond_true,vl,R5,Lw,Lv,Lu]
  rw [hn1]
  simp only [L1]
  rcases XV b with ⟨h1,h2,e⟩ | ⟨h1,h2,e⟩ | ⟨h1,h2,e⟩ | ⟨h1,h2,h3,e⟩
  ·have e2:wu8 ((b.toNat:Int)-48)=((dig b:Nat):Int):=by rw [Jn];omega
   simp (disch:=omega) only [H5,L8,Bool.not_true,Bool.not_false,cond_false,cond_true,e2,R5]
   by_cases hd:dig b<base
   ·rw [if_pos hd,C7,(step _ hd).2,Bi5]
    exact ih (i+1) _ n (by omega) (by omega) (by omega)
   ·rw [if_neg hd,B6];rfl
  ·have e2:wu8 ((b.toNat:Int)-97)+10=((dig b:Nat):Int):=by rw [Jn];omega
   have e3:wu8 ((b.toNat:Int)-97)=((b.toNat:Int)-97):=Jn
   rw [e3] at e2
   simp (disch:=omega) only [H5,L8,Bool.not_true,Bool.not_false,cond_false,cond_true,e3,R5,e2]
   by_cases hd:dig b<base
   ·rw [if_pos hd,C7,(step _ hd).2,Bi5]
    exact ih (i+1) _ n (by omega) (by omega) (by omega)
   ·rw [if_neg hd,B6];rfl
  ·have e2:wu8 ((b.toNat:Int)-65)+10=((dig b:Nat):Int):=by rw [Jn];omega
   have e3:wu8 ((b.toNat:Int)-65)=((b.toNat:Int)-65):=Jn
   rw [e3] at e2
   simp (disch:=omega) only [H5,L8,Bool.not_true,Bool.not_false,cond_false,cond_true,e3,R5,e2]
   by_cases hd:dig b<base
   ·rw [if_pos hd,C7,(step _ hd).2,Bi5]
    exact ih (i+1) _ n (by omega) (by omega) (by omega)
   ·rw [if_neg hd,B6];rfl
  ·rw [if_neg (show ¬ dig b<base by omega)]
   by_cases c1:b.toNat<48
   ·simp (disch:=omega) only [H5,L8,Bool.not_true,Bool.not_false,cond_false,cond_true]
   ·by_cases c2:b.toNat<65
    ·simp (disch:=omega) only [H5,L8,Bool.not_true,Bool.not_false,cond_false,cond_true]
    ·by_cases c3:b.toNat<97
     ·simp (disch:=omega) only [H5,L8,Bool.not_true,Bool.not_false,cond_false,cond_true]
     ·simp (disch:=omega) only [H5,L8,Bool.not_true,Bool.not_false,cond_false,cond_true]
theorem XX {R:Type} {k0:Int->Bool->Option R} (s:By) (base:Int) (h0:A2 s.length=true) (h1:ltN base 17=true):Am7 LF s base k0=k0 (Yz (L1 base.toNat 0 s):Int) (L1 base.toNat 0 s).isSome:=by
 have hs:=U0 h0
 have:=K9
 obtain ⟨hb0,hb1⟩:=G4.1 h1
 obtain ⟨bn,rfl⟩:=Int.eq_ofNat_of_zero_le hb0
 unfold Am7
 have:=XW (k0:=λ_=>k0 0 false) (k1:=λn=>k0 n true) s hs bn (by omega) s.length 0 0 LF (by omega) (by omega) (by unfold IE;omega)
 refine Eq.trans this ?_
 rw [List.drop_zero,Int.toNat_natCast]
 cases L1 bn 0 s<;>rfl
theorem Aq6 {R:Type} {k0:Int->Bool->Option R} (s:By) (h0:A2 s.length=true):num LF s k0=k0 (Yz (Yx s):Int) (Yx s).isSome:=by
 have hs:=U0 h0
 unfold num Yx
 rw [h0]
 by_cases h1:s=[]
 ·subst h1;rfl
 have h1':(s==([]:By))=false:=by simpa using h1
 have hl:0<s.length:=List.length_pos_iff.2 h1
 rw [if_neg h1,h1']
 simp only [cond_true,cond_false,vl]
 cases hx:Db s with
 | true=>
  have:=BC hx
  simp (disch:=first | omega | (simp;omega)) only [cond_true,if_true,Ht,P9,I5,WK]
  rfl
 | false=>
  simp only [cond_false,Bool.false_eq_true,if_false]
  have hd:(L1 10 0 s)=L1 10 0 s:=rfl
  by_cases h2:1<s.length
  ·simp (disch:=omega) only [H5,Q3,cond_true,Va,h2,true_and]
   have e:=Yc (s.getD 0 0) 48 (by omega)
   rw [show ((48:Nat):Int)=48 from rfl] at e
   rw [e]
   by_cases h3:s.getD 0 0=48
   ·rw [if_pos h3,h3,show ((48:UInt8)==UInt8.ofNat 48)=true from rfl]
    simp (disch:=first | omega | (simp;omega)) only [Ht,P9,I5,WK,cond_true]
    rfl
   ·rw [if_neg h3,show (s.getD 0 0==UInt8.ofNat 48)=false from beq_eq_false_iff_ne.2 h3]
    rfl
  ·rw [B6,L7]
   rfl
theorem HM {R:Type} {k0:Bool->Option R} (s:By) (h0:A2 s.length=true):Tn LF s k0=k0 (Ab s):=by
 have hs:=U0 h0
 have hp:=Xc s
 have hm:=TF (YU s)
 have hg:=BH s
 have e1:((G0 s).length:Int)-1=(((G0 s).length-1:Nat):Int):=by omega
 unfold Tn Ab
 rw [h0]
 simp (disch:=omega) only [cond_true,vl,Fa,e1,R5,Q3,Int.toNat_natCast,Ww,GD,hg,I5]
 cases hx:Db (Cd s) with
 | true=>
  have:=BC hx
  have hn:Yx (Cd s)=L1 16 0 ((Cd s).drop 2):=by
   unfold Yx
   grind
  simp [hn]
 | false=>
  simp only [cond_false,Bool.false_eq_true,if_false]
  cases L1 10 0 (Cd s) with
  | none=>simp
  | some v=>cases Cd s<;>rfl
theorem Ar9 (d:List By) (x:By) (m:Nat):List.set (J4 (d++List.replicate (m+1) [])) d.length (D3 (List.getD (J4 (d++List.replicate (m+1) [])) d.length []) 0 [SV.str x])=J4 ((d++[x])++List.replicate m []):=by
 have hg:List.getD (J4 (d++List.replicate (m+1) [])) d.length []=[SV.str []]:=by
  unfold J4
  grind
 rw [hg]
 simp only [D3,List.set_cons_zero,As4]
 rw [show d.length=(J4 d).length by simp,List.set_append_right _ _ (by omega),Nat.sub_self,List.replicate_succ]
 simp [J4]
theorem KQ {R:Type} {k0:By->Int->LL->Option R} (c:UInt8):∀ (m n:Nat) (s:By) (d:List By),s.length<=1000000000->m=s.count c->d.length+m<=1000000000->m<n->
  ∃ (d':List By) (s':By),pcs c s=d'++[s']/\s'.length<=s.length/\T4 LF n s [c] 0 ((d.length+m:Nat):Int) (d.length:Int) (J4 (d++List.replicate (m+1) [])) k0=k0 s' ((d.length+m:Nat):Int) (J4 ((d++d')++[[]])):=by
 intro m
 induction m with
 | zero=>
  intro n s d hs hm hd hn
  obtain ⟨n,rfl⟩:∃ m,n=m+1:=⟨n-1,by omega⟩
  have hc:c∉s:=List.count_eq_zero.1 hm.symm
  refine ⟨[],s,Ho hc,Nat.le_refl _,?_⟩
  rw [T4]
  rw [B6]
  simp
 | succ m ih=>
  intro n s d hs hm hd hn
  obtain ⟨n,rfl⟩:∃ m,n=m+1:=⟨n-1,by omega⟩
  rcases Dk c s with hc | ⟨p,r,rfl,hc⟩
  ·rw [List.count_eq_zero.2 hc] at hm;omega
  ·have hm':m=r.count c:=by
    rw [List.count_append,List.count_cons,List.count_eq_zero.2 hc] at hm
    simp at hm
    omega
   simp only [List.length_append,List.length_cons] at hs
   obtain ⟨d',s',h1,h2,h3⟩:=ih n r (d++[p]) (by omega) hm' (by simp<;>omega) (by omega)
   refine ⟨p::d',s',by rw [Ts hc,h1];rfl,by simp<;>omega,?_⟩
   rw [T4]
   have e1:((p.length:Int)+1)=((p.length+1:Nat):Int):=by omega
   have e2:(d.length:Int)+1=((d.length+1:Nat):Int):=by omega
   have e3:((p.length+1:Nat):Int).toNat=p.length+1:=by omega
   have e4:(((p++c::r).length:Nat):Int)=((p.length+(r.length+1):Nat):Int):=by simp
   have e5:(p++c::r).take p.length=p:=List.take_left' rfl
   have e6:(p++c::r).drop (p.length+1)=r:=by
    rw [show p++c::r=(p++[c])++r by simp,List.drop_left' (by simp)]
   rw [Pt hc]
   have el:(J4 (d++List.replicate (m+1+1) [])).length=d.length+(m+2):=by simp<;>omega
   simp (disch:=first | omega | (simp;omega)) only [H5,L8,I5,cond_true,cond_false,vl,Int.add_zero,R5,Ht,Q3,el,Int.toNat_natCast,List.length_singleton,P9,Gz,e5,Ar9]
   rw [decide_eq_true (show d.length<d.length+(m+2) by omega),cond_true,show ((1:Nat):Int)=1 from rfl,e1]
   simp (disch:=first | omega | (simp;omega)) only [R5,Ht,cond_true,P9,e3,e6,e2]
   have h3':((((d++[p]).length+m:Nat):Int))=((d.length+(m+1):Nat):Int):=by simp<;>omega
   have h4':(((d++[p]).length:Nat):Int)=((d.length+1:Nat):Int):=by simp
   rw [h3',h4'] at h3
   rw [h3]
   simp
theorem RD {R:Type} {k0:Unit->Option R} {k1:Nat->LL->Option R} (s p:By) (v n:Int) (h0:A2 s.length=true) (h1:(p.length==1)=true) (h2:(v==0)=true) (h3:(n==(-1))=true) :
  Vx LF s p v n k0 k1=k1 (pcs (p.getD 0 0) s).length (J4 (pcs (p.getD 0 0) s)):=by
 have hs:=U0 h0
 have:=K9
 obtain ⟨c,rfl⟩:∃ c,p=[c]:=by
  match p,h1 with
  | [c],_=>exact ⟨c,rfl⟩
 have:v=0:=by simpa using h2
 subst this
 have:n = -1:=by simpa using h3
 subst this
 have hc:=Ls c s
 have hpl:=Mu c s
 obtain ⟨d',s',g1,g2,g3⟩:=KQ (R:=R) (k0:=λs'14 i'15 l'16=>cond (inR i'15 (List.length l'16))
     (cond (decide ((Int.toNat i'15)<(List.length l'16)))
      (vl (A5 (i'15+(1))) λn'17=>
      cond (Cu (0) n'17 (List.length (List.set l'16 (Int.toNat i'15) (D3 (List.getD l'16 (Int.toNat i'15) []) 0 [(SV.str s'14)]))))
       (k1 ((Int.toNat n'17)-0) (List.set l'16 (Int.toNat i'15) (D3 (List.getD l'16 (Int.toNat i'15) []) 0 [(SV.str s'14)])))
       (none))
      (none))
     (none)) c (s.count c) LF s [] hs rfl (by simp<;>omega) (by omega)
 unfold Vx
 have e1:A5 ((s.count c:Int)+1)=((s.count c+1:Nat):Int):=B1
 have e2:A5 ((s.length:Int)+1)=((s.length+1:Nat):Int):=B1
 have e3:(if ((s.length+1:Nat):Int)<((s.count c+1:Nat):Int) then ((s.length+1:Nat):Int) else ((s.count c+1:Nat):Int))=((s.count c+1:Nat):Int):=L7
 have e4:((s.count c+1:Nat):Int)-1=(s.count c:Int):=by omega
 have e5:(List.replicate (s.count c+1) [SV.str ([]:By)])=J4 ([]++List.replicate (s.count c+1) []):=by simp [J4]
 simp only [List.getD_cons_zero,vl,List.length_singleton,e1,e2,e3,Int.toNat_natCast,e5]
 rw [show ((-1:Int)==0)=false from rfl,show ([c]==([]:By))=false from rfl,show ltI (-1) 0=true from rfl,decide_eq_true (show (0:Int)<=((s.count c+1:Nat):Int) by omega),decide_eq_true (show ((s.count c+1:Nat):Int)<=((s.count c+1:Nat):Int) by omega),V5 (by omega),e4,B1]
 simp only [cond_true,cond_false,beq_self_eq_true,Bool.and_self]
 simp only [List.length_nil,Nat.zero_add] at g3
 refine Eq.trans g3 ?_
 have e6:(J4 ((([]:List By)++d')++[[]]))=J4 (d'++List.replicate (0+1) []):=by simp
 have hd:d'.length=s.count c:=by grind
 have e7:=Ar9 d' s' 0
 rw [<-hd,e6]
 have el:(J4 (d'++List.replicate (0+1) ([]:By))).length=d'.length+1:=by simp
 have e8:A5 ((d'.length:Int)+1)=((d'.length+1:Nat):Int):=B1
 simp only [Int.toNat_natCast,e7,el,vl,e8]
 rw [Ak,decide_eq_true (show d'.length<d'.length+1 by omega),Ht (by omega) (by omega) (by simp),g1]
 simp
theorem KR (s p:By) (v n:Int) (h0:A2 s.length=true) (h1:(p.length==1)=true) (h2:(v==0)=true) (h3:(n==(-1))=true) :
  ∃ r H,Vx LF s p v n (λ_=>rv (.fl 0) [.arr true 9 1 []]) (λi l=>rv (.vw 0 0 i) [.arr false 9 1 l])=rv r H/\r.stab [1] H = .s (.sl false false 1 (J4 (pcs (p.getD 0 0) s))):=by
 refine ⟨_,_,RD s p v n h0 h1 h2 h3,?_⟩
 simp [PV.stab,Vu,PV.snap,List.take_of_length_le]
theorem TG {R:Type} {k0:LL->Option R} (s:By) (h0:A2 s.length=true):parts LF s k0=k0 (J4 (G0 s)):=by
 have hs:=U0 h0
 have hpl:=Mu 46 s
 have hc:=Ls 46 s
 unfold parts
 rw [h0]
 have e1:A5 (((pcs 46 s).length:Int)-1)=(((pcs 46 s).length-1:Nat):Int):=by rw [B1];omega
 simp only [cond_true,vl,List.getD_cons_zero,show ((1:Nat)==1)=true from rfl,Fa,e1,Int.toNat_natCast]
 by_cases h1:1<(pcs 46 s).length
 ·rw [C7,Ak,Ww (by omega),GD]
  have hg:(pcs 46 s).getD ((pcs 46 s).length-1) []=(pcs 46 s).getLastD []:=by grind
  rw [hg]
  by_cases h2:(pcs 46 s).getLastD []=[]
  ·rw [h2,show (([]:By)==[])=true from rfl,V9]
   have:G0 s=(pcs 46 s).dropLast:=by unfold G0;rw [if_pos ⟨h1,h2⟩]
   rw [this,List.dropLast_eq_take,Gz,Int.toNat_natCast]
   simp [J4]
  ·rw [show ((pcs 46 s).getLastD []==[])=false from beq_eq_false_iff_ne.2 h2]
   have:G0 s=pcs 46 s:=by unfold G0;rw [if_neg (λh=>h2 h.2)]
   grind
 ·rw [B6]
  have:G0 s=pcs 46 s:=by unfold G0;rw [if_neg (λh=>h1 h.1)]
  grind
end
end Go.Proofs.YtbpokbigoebocaaGreatDoor.E
namespace Go.Proofs
open Go.Shelf
def Tryz.lays143_ren:Go.Shelf.Ren:=⟨fun | 143=>77 | 219=>86 | 217=>95 | 225=>96 | 224=>97 | 267=>98 | 266=>105 | 314=>106 | n=>n,fun | 9=>9 | 3=>3 | 4=>4 | 5=>5 | 46=>89 | 146=>149 | 51=>26 | n=>n,fun | 1=>0 | n=>n⟩
theorem Tryz.lays143:Go.Proofs.Lays.n143 Tryz.prog Tryz.lays143_ren:={
 mixed:=by kernel_rfl
 f143:=Tryz.func77.trans (congrArg some (by kernel_rfl))
 f217:=Tryz.func95.trans (congrArg some (by kernel_rfl))
 f219:=Tryz.func86.trans (congrArg some (by kernel_rfl))
 f224:=Tryz.func97.trans (congrArg some (by kernel_rfl))
 f225:=Tryz.func96.trans (congrArg some (by kernel_rfl))
 f266:=Tryz.func105.trans (congrArg some (by kernel_rfl))
 f267:=Tryz.func98.trans (congrArg some (by kernel_rfl))
 f314:=Tryz.func106.trans (congrArg some (by kernel_rfl))
 t3:=Tryz.underlying3
 a3:=Tryz.isAgg3
 z3:=Tryz.sizeOf3
 v3:=Tryz.zeroValue3
 t4:=Tryz.underlying4
 a4:=Tryz.isAgg4
 z4:=Tryz.sizeOf4
 v4:=Tryz.zeroValue4
 t5:=Tryz.underlying5
 a5:=Tryz.isAgg5
 z5:=Tryz.sizeOf5
 v5:=Tryz.zeroValue5
 t9:=Tryz.underlying9
 a9:=Tryz.isAgg9
 z9:=Tryz.sizeOf9
 v9:=Tryz.zeroValue9
 t46:=Tryz.underlying89
 a46:=Tryz.isAgg89
 z46:=Tryz.sizeOf89
 v46:=Tryz.zeroValue89
 t51:=Tryz.underlying26
 a51:=Tryz.isAgg26
 z51:=Tryz.sizeOf26
 v51:=Tryz.zeroValue26
 t146:=Tryz.underlying149
 a146:=Tryz.isAgg149
 z146:=Tryz.sizeOf149
 v146:=Tryz.zeroValue149
 g1:=by kernel_rfl }
def Tryz.lays145_ren:Go.Shelf.Ren:=⟨fun | 145=>47 | 220=>71 | 219=>86 | 217=>95 | 225=>96 | 224=>97 | 267=>98 | 266=>105 | 314=>106 | n=>n,fun | 9=>9 | 4=>4 | 59=>93 | 3=>3 | 5=>5 | 46=>89 | 146=>149 | 51=>26 | n=>n,fun | 1=>0 | n=>n⟩
theorem Tryz.lays145:Go.Proofs.Lays.n145 Tryz.prog Tryz.lays145_ren:={
 mixed:=by kernel_rfl
 f145:=Tryz.func47.trans (congrArg some (by kernel_rfl))
 f217:=Tryz.func95.trans (congrArg some (by kernel_rfl))
 f219:=Tryz.func86.trans (congrArg some (by kernel_rfl))
 f220:=Tryz.func71.trans (congrArg some (by kernel_rfl))
 f224:=Tryz.func97.trans (congrArg some (by kernel_rfl))
 f225:=Tryz.func96.trans (congrArg some (by kernel_rfl))
 f266:=Tryz.func105.trans (congrArg some (by kernel_rfl))
 f267:=Tryz.func98.trans (congrArg some (by kernel_rfl))
 f314:=Tryz.func106.trans (congrArg some (by kernel_rfl))
 t3:=Tryz.underlying3
 a3:=Tryz.isAgg3
 z3:=Tryz.sizeOf3
 v3:=Tryz.zeroValue3
 t4:=Tryz.underlying4
 a4:=Tryz.isAgg4
 z4:=Tryz.sizeOf4
 v4:=Tryz.zeroValue4
 t5:=Tryz.underlying5
 a5:=Tryz.isAgg5
 z5:=Tryz.sizeOf5
 v5:=Tryz.zeroValue5
 t9:=Tryz.underlying9
 a9:=Tryz.isAgg9
 z9:=Tryz.sizeOf9
 v9:=Tryz.zeroValue9
 t46:=Tryz.underlying89
 a46:=Tryz.isAgg89
 z46:=Tryz.sizeOf89
 v46:=Tryz.zeroValue89
 t51:=Tryz.underlying26
 a51:=Tryz.isAgg26
 z51:=Tryz.sizeOf26
 v51:=Tryz.zeroValue26
 t59:=Tryz.underlying93
 a59:=Tryz.isAgg93
 z59:=Tryz.sizeOf93
 v59:=Tryz.zeroValue93
 t146:=Tryz.underlying149
 a146:=Tryz.isAgg149
 z146:=Tryz.sizeOf149
 v146:=Tryz.zeroValue149
 g1:=by kernel_rfl }
def Tryz.lays138_ren:Go.Shelf.Ren:=⟨fun | 138=>100 | 195=>107 | 218=>108 | 143=>77 | 219=>86 | 217=>95 | 225=>96 | 224=>97 | 267=>98 | 266=>105 | 314=>106 | n=>n,fun | 9=>9 | 3=>3 | 4=>4 | 5=>5 | 0=>0 | 46=>89 | 146=>149 | 51=>26 | n=>n,fun | 1=>0 | n=>n⟩
theorem Tryz.lays138:Go.Proofs.Lays.n138 Tryz.prog Tryz.lays138_ren:={
 mixed:=by kernel_rfl
 f138:=Tryz.func100.trans (congrArg some (by kernel_rfl))
 f143:=Tryz.func77.trans (congrArg some (by kernel_rfl))
 f195:=Tryz.func107.trans (congrArg some (by kernel_rfl))
 f217:=Tryz.func95.trans (congrArg some (by kernel_rfl))
 f218:=Tryz.func108.trans (congrArg some (by kernel_rfl))
 f219:=Tryz.func86.trans (congrArg some (by kernel_rfl))
 f224:=Tryz.func97.trans (congrArg some (by kernel_rfl))
 f225:=Tryz.func96.trans (congrArg some (by kernel_rfl))
 f266:=Tryz.func105.trans (congrArg some (by kernel_rfl))
 f267:=Tryz.func98.trans (congrArg some (by kernel_rfl))
 f314:=Tryz.func106.trans (congrArg some (by kernel_rfl))
 t0:=Tryz.underlying0
 a0:=Tryz.isAgg0
 z0:=Tryz.sizeOf0
 v0:=Tryz.zeroValue0
 t3:=Tryz.underlying3
 a3:=Tryz.isAgg3
 z3:=Tryz.sizeOf3
 v3:=Tryz.zeroValue3
 t4:=Tryz.underlying4
 a4:=Tryz.isAgg4
 z4:=Tryz.sizeOf4
 v4:=Tryz.zeroValue4
 t5:=Tryz.underlying5
 a5:=Tryz.isAgg5
 z5:=Tryz.sizeOf5
 v5:=Tryz.zeroValue5
 t9:=Tryz.underlying9
 a9:=Tryz.isAgg9
 z9:=Tryz.sizeOf9
 v9:=Tryz.zeroValue9
 t46:=Tryz.underlying89
 a46:=Tryz.isAgg89
 z46:=Tryz.sizeOf89
 v46:=Tryz.zeroValue89
 t51:=Tryz.underlying26
 a51:=Tryz.isAgg26
 z51:=Tryz.sizeOf26
 v51:=Tryz.zeroValue26
 t146:=Tryz.underlying149
 a146:=Tryz.isAgg149
 z146:=Tryz.sizeOf149
 v146:=Tryz.zeroValue149
 g1:=by kernel_rfl }
def Tryz.lays2_21_ren:Go.Shelf.Ren:=⟨fun | 21=>102 | 27=>110 | 28=>111 | 35=>113 | 39=>114 | n=>n,fun | 22=>118 | 3=>3 | 4=>4 | 0=>0 | n=>n,fun | n=>n⟩
theorem Tryz.lays2_21:Go.Proofs.Lays2.n21 Tryz.prog Tryz.lays2_21_ren:={
 mixed:=by kernel_rfl
 f21:=Tryz.func102.trans (congrArg some (by kernel_rfl))
 f27:=Tryz.func110.trans (congrArg some (by kernel_rfl))
 f28:=Tryz.func111.trans (congrArg some (by kernel_rfl))
 f35:=Tryz.func113.trans (congrArg some (by kernel_rfl))
 f39:=Tryz.func114.trans (congrArg some (by kernel_rfl))
 t0:=Tryz.underlying0
 a0:=Tryz.isAgg0
 z0:=Tryz.sizeOf0
 v0:=Tryz.zeroValue0
 t3:=Tryz.underlying3
 a3:=Tryz.isAgg3
 z3:=Tryz.sizeOf3
 v3:=Tryz.zeroValue3
 t4:=Tryz.underlying4
 a4:=Tryz.isAgg4
 z4:=Tryz.sizeOf4
 v4:=Tryz.zeroValue4
 t22:=Tryz.underlying118
 a22:=Tryz.isAgg118
 z22:=Tryz.sizeOf118
 v22:=Tryz.zeroValue118
 i3:=by kernel_rfl }
def Tryz.lays149_ren:Go.Shelf.Ren:=⟨fun | 149=>35 | 222=>49 | n=>n,fun | 9=>9 | 5=>5 | 3=>3 | 4=>4 | n=>n,fun | n=>n⟩
theorem Tryz.lays149:Go.Proofs.Lays.n149 Tryz.prog Tryz.lays149_ren:={
 mixed:=by kernel_rfl
 f149:=Tryz.func35.trans (congrArg some (by kernel_rfl))
 f222:=Tryz.func49.trans (congrArg some (by kernel_rfl))
 t3:=Tryz.underlying3
 a3:=Tryz.isAgg3
 z3:=Tryz.sizeOf3
 v3:=Tryz.zeroValue3
 t4:=Tryz.underlying4
 a4:=Tryz.isAgg4
 z4:=Tryz.sizeOf4
 v4:=Tryz.zeroValue4
 t5:=Tryz.underlying5
 a5:=Tryz.isAgg5
 z5:=Tryz.sizeOf5
 v5:=Tryz.zeroValue5
 t9:=Tryz.underlying9
 a9:=Tryz.isAgg9
 z9:=Tryz.sizeOf9
 v9:=Tryz.zeroValue9 }
end Go.Proofs
namespace Go.Proofs.YtbpokbigoebocaaGreatDoor.E
set_option linter.all false
section
open Go Go.Proofs Go.Sort
set_option maxRecDepth 100000
theorem Ao0 {C:Cfg} {St:Nat->Prop} {w:World} (hG:GOK C St w) (hc:C.G=GX):∃ m,w.cell? ⟨0,0,none⟩=some (.int .i64 m):=(hG.2 _ (by rw [hc];rfl)).2
theorem Av6:B2 Tryz.prog GX 77 EK:=by
 refine B2.fix (pf:=EL) _ (Cs (fn:=Tryz.f77) (by kernel_rfl) (by kernel_rfl) (by kernel_rfl) ?_)
 intro args ret Hc h
 unfold EL at h
 split at h
 ·rename_i s p
  obtain ⟨h0,h⟩:=A9 h
  obtain ⟨rfl,rfl⟩:=F5 h
  refine ⟨rfl,rfl,λC hP hCG Γ w Vs hG hlt hc=>?_⟩
  obtain ⟨U,V,rfl,hu,hv⟩:=hc.arr2
  obtain ⟨s',rfl,rfl⟩:=hu.inv_str
  obtain ⟨p',rfl,rfl⟩:=hv.inv_str
  obtain ⟨m,hm⟩:=Ao0 hG hCG
  have hs:=U0 h0
  refine (Any.strings_Index Tryz.lays143 s' p' m w (by simp at hs;omega) hm).mono ?_
  rintro e w' ⟨rfl,rfl⟩
  exact ⟨_,rfl,RowKit.Below.refl _ _,VP.mk_int _ _⟩
 ·cases h
theorem Bm5:B2 Tryz.prog GX 47 NY:=by
 refine B2.fix (pf:=EH) _ (Cs (fn:=Tryz.f47) (by kernel_rfl) (by kernel_rfl) (by kernel_rfl) ?_)
 intro args ret Hc h
 unfold EH at h
 split at h
 ·rename_i s p
  obtain ⟨h0,h⟩:=A9 h
  obtain ⟨rfl,rfl⟩:=F5 h
  refine ⟨rfl,rfl,λC hP hCG Γ w Vs hG hlt hc=>?_⟩
  obtain ⟨U,V,rfl,hu,hv⟩:=hc.arr2
  obtain ⟨s',rfl,rfl⟩:=hu.inv_str
  obtain ⟨p',rfl,rfl⟩:=hv.inv_str
  obtain ⟨m,hm⟩:=Ao0 hG hCG
  have hs:=U0 h0
  refine (Any.strings_Cut Tryz.lays145 s' p' m w (by simp at hs;omega) hm).mono ?_
  rintro e w' ⟨rfl,n,rfl⟩
  exact ⟨_,rfl,JM _ _,VP.mk_tup3 (VP.mk_str _) (VP.mk_str _) (VP.mk_bool _)⟩
 ·cases h
theorem Bm4:B2 Tryz.prog GX 100 Ah2:=by
 refine B2.fix (pf:=EG) _ (Cs (fn:=Tryz.f100) (by kernel_rfl) (by kernel_rfl) (by kernel_rfl) ?_)
 intro args ret Hc h
 unfold EG at h
 split at h
 ·rename_i s p
  obtain ⟨h0,h⟩:=A9 h
  obtain ⟨rfl,rfl⟩:=F5 h
  refine ⟨rfl,rfl,λC hP hCG Γ w Vs hG hlt hc=>?_⟩
  obtain ⟨U,V,rfl,hu,hv⟩:=hc.arr2
  obtain ⟨s',rfl,rfl⟩:=hu.inv_str
  obtain ⟨p',rfl,hp⟩:=hv.inv_str
  obtain ⟨c,rfl⟩:∃ c,p=[c]:=by
   match p,h0 with
   | [c],_=>exact ⟨c,rfl⟩
  have hp':p'=⟨#[c]⟩:=by
   cases p' with
   | mk d=>congr 1;exact Array.toList_inj.1 hp
  subst hp'
  refine (Any.strings_Count_one Tryz.lays138 s' c w).mono ?_
  rintro e w' ⟨rfl,rfl⟩
  exact ⟨_,rfl,RowKit.Below.refl _ _,VP.mk_int _ _⟩
 ·cases h
theorem A91 {l:LL} (h:l.all isS=true):l=J4 (l.map elS):=by
 unfold J4
 rw [List.map_map]
 symm
 rw [List.map_congr_left (g:=id)]
 ·simp
 ·intro x hx
  have:=List.all_eq_true.1 h x hx
  unfold isS at this
  split at this
  ·rfl
  grind
end
section
open Go Go.Proofs
set_option maxRecDepth 100000
section
variable {σ R : Type} (lf : Nat) (cl : D0) (yh : Yh σ) (s : σ) (k : Out -> St σ -> Option R)
noncomputable def Ve (lf:Nat):Cfg:=C0 lf [91] (A3 []) [] (A3 [(1,[2]),(0,[0])]) [] (A3 []) (some [2]) [] [] []
noncomputable def HX {R:Type} (lf:Nat) (n0:Int) (k0:Bool->Option R):Option R:=cond (not (ltI n0 0)) (cond (not (ltI 1114111 n0)) (cond (ltI n0 55296) (k0 true) (k0 (ltI 57343 n0))) (k0 false)) (k0 false)
theorem Aa6 (d:Nat) (n0):evC (Ve lf) (d+1) σ yh 91 [pI n0] [] s=HX lf n0 (λr0=>some (pB r0,[],s)):=by
 refine (evE (fn:=Tryz.f91) (by kernel_rfl)).trans ?_
 generalize evC (Ve lf) d=cl
 unfold HX;kernel_rfl
noncomputable abbrev Gt:Code:=E6 Tryz.f93
noncomputable def O5 (lf:Nat):Cfg:=C0 lf [93] (A3 [(6,[0,5,0])]) [] (A3 [(9,[6]),(8,[0,6]),(7,[0,6]),(6,[0,6,11]),(5,[0,6]),(4,[0]),(2,[0,0]),(3,[0,0]),(1,[0,0,6]),(0,[0,0,0])]) [] (A3 [(0,[0,6]),(1,[0,6])]) (some [6]) [] [] []
noncomputable def Bi {R:Type} (lf n:Nat) (delta0 kk1:Int) (k0:Int->Int->Option R):Option R:=match n with | 0=>none | n+1=>cond (ltI 455 delta0) (vl (A5 (Int.tdiv delta0 (35:Int))) λn'6=>vl (A5 (kk1+36)) λn'7=>Bi lf n n'6 n'7 k0) (k0 delta0 kk1)
theorem HU (n delta0 kk1):H4 0 ((O5 lf).keep 6) (bd (O5 lf) cl yh (cd [1,1,1,1,0,0,0] Gt)) n ⟨gp [(0,pI delta0),(6,pI kk1)] 23,[],s⟩ k =
 Bi lf n delta0 kk1 (λdelta0 kk1=>k (.exit 0) ⟨gp [(0,pI delta0),(6,pI kk1)] 23,[],s⟩):=by
 induction n generalizing delta0 kk1 with
 | zero=>rfl
 | succ n ih=>rw [Bi];simp only [<-ih];kernel_rfl
noncomputable def Bh {R:Type} (lf:Nat) (delta0 count1:Int) (k0:Int->Option R):Option R:=cond (count1 != 0) (vl (A5 (Int.tdiv delta0 count1)) λn'5=>Bi lf lf (A5 (delta0+n'5)) 0 (λdelta'8 kk'9=>vl (A5 ((36:Int)*delta'8)) λn'10=>vl (A5 (delta'8+38)) λn'11=>cond (n'11 != 0) (vl (A5 (Int.tdiv n'10 n'11)) λn'12=>k0 (A5 (kk'9+n'12))) none)) none
abbrev Rq (b:Code):Prop:=∀ (k:Out->St σ->Option R) delta0 count1,B0 (O5 lf) cl yh b ⟨gp [(0,pI delta0),(0,pI count1)] 29,[],s⟩ k=Bh lf delta0 count1 (λn0=>k .ret ⟨gp [(6,pI n0)] 24,[],s⟩)
theorem HT:Rq (R:=R) lf cl yh s (cd [1,1] Gt):=by
 intro k delta0 count1;unfold Bh;exact (Eq.trans (by kernel_rfl) (A0 (B9 λn'5=>((HU lf cl yh s (O4 0 (P3 (O5 lf) cl yh (cd [1,1,1,1,1] Gt) k)) lf (A5 (delta0+n'5)) 0).trans (by kernel_rfl))) rfl))
noncomputable def Xb {R:Type} (lf:Nat) (delta0 count1:Int) (first2:Bool) (k0:Int->Option R):Option R:=cond first2 (vl (A5 (Int.tdiv delta0 (700:Int))) λn'2=>Bh lf n'2 count1 (λn'13=>k0 n'13)) (vl (A5 (Int.tdiv delta0 (2:Int))) λn'3=>Bh lf n'3 count1 (λn'14=>k0 n'14))
theorem ZW (b_11:Code) (h_padapt_j0:Rq (R:=PV × List Blk × σ) lf cl yh s b_11) (delta0 count1:Int) (first2:Bool):B0 (O5 lf) cl yh (cd [] (U1 [1,1] b_11 Gt)) ⟨[pI delta0,pI count1,pB first2]++tps 28,[],s⟩ (J6 (O5 lf) Tryz.f93)=Xb lf delta0 count1 first2 (λr0=>some (pI r0,[],s)):=by
 unfold Xb;exact let K0:=(J6 (O5 lf) Tryz.f93);(Eq.trans (by kernel_rfl) (A0 (B9 λn'2=>((h_padapt_j0 K0 n'2 count1).trans (by kernel_rfl))) (B9 λn'3=>((h_padapt_j0 K0 n'3 count1).trans (by kernel_rfl)))))
theorem ZX (d:Nat) (delta0 count1 first2):evC (O5 lf) (d+1) σ yh 93 [pI delta0,pI count1,pB first2] [] s=Xb lf delta0 count1 first2 (λr0=>some (pI r0,[],s)):=
 (evE (fn:=Tryz.f93) (by kernel_rfl)).trans (Eq.trans (by kernel_rfl) (ZW lf (evC (O5 lf) d) yh s (cd [1,1] Gt) (HT lf (evC (O5 lf) d) yh s) delta0 count1 first2))
noncomputable def PB (lf:Nat):Cfg:=C0 lf [104] (A3 []) [] (A3 [(3,[2]),(2,[2]),(1,[0,3]),(0,[0])]) [] (A3 []) (some [2]) [] [] []
noncomputable def A63 {R:Type} (lf:Nat) (d0:Int) (k0:Int->Option R):Option R:=cond (ltI d0 26) (vl (wu8 (A5 ((97:Int)+d0))) λn'0=>k0 n'0) (vl (A5 ((A5 ((48:Int)+d0))-26)) λn'1=>k0 (wu8 n'1))
theorem A64 (d:Nat) (d0):evC (PB lf) (d+1) σ yh 104 [pI d0] [] s=A63 lf d0 (λr0=>some (p8 r0,[],s)):=by
 refine (evE (fn:=Tryz.f104) (by kernel_rfl)).trans ?_
 generalize evC (PB lf) d=cl
 unfold A63;kernel_rfl
noncomputable abbrev Kc:Code:=E6 Tryz.f109
noncomputable def Dz (lf:Nat):Cfg:=C0 lf [109] (A3 []) [] (A3 [(7,[2]),(2,[2]),(4,[2]),(6,[2]),(5,[0,22]),(3,[0,12]),(1,[0,2]),(0,[0])]) [] (A3 [(0,[])]) (some [2]) [] [] []
noncomputable def Mx {R:Type} (b0:Int) (b1:Bool) (k0:Int->Option R) (k1:Int->Bool->Option R):Option R:=cond b1 (vl (A5 (wu8 (b0-65))) λn'1=>k0 n'1) (cond (not (ltI b0 48)) (cond (not (ltI 57 b0)) (vl (A5 (wu8 (b0-48))) λn'2=>vl (A5 (n'2+26)) λn'3=>k0 n'3) (k1 b0 (not (ltI 57 b0)))) (k1 b0 false))
abbrev BZ (b:Code):Prop:=∀ (k:Out->St σ->Option R) b0 b1,B0 (Dz lf) cl yh b ⟨gp [(0,p8 b0),(12,pB b1)] 20,[],s⟩ k=Mx b0 b1 (λn0=>k .ret ⟨gp [(2,pI n0)] 31,[],s⟩) (λb0 b1=>k .normal ⟨gp [(0,p8 b0),(22,pB b1)] 10,[],s⟩)
theorem TY:BZ (R:=R) lf cl yh s (cd [1,0,0,1,1,1] Kc):=by
 intro k b0 b1;unfold Mx;kernel_rfl
noncomputable def My {R:Type} (b0:Int) (b1:Bool) (k0:Int->Option R) (k1:Int->Bool->Option R):Option R:=cond b1 (vl (A5 (wu8 (b0-97))) λn'0=>k0 n'0) (cond (not (ltI b0 65)) (Mx b0 (not (ltI 90 b0)) (λn'4=>k0 n'4) (λb'5 b'6=>k1 b'5 b'6)) (Mx b0 false (λn'7=>k0 n'7) (λb'8 b'9=>k1 b'8 b'9)))
abbrev Qg (b:Code):Prop:=∀ (k:Out->St σ->Option R) b0 b1,B0 (Dz lf) cl yh b ⟨gp [(0,p8 b0),(2,pB b1)] 30,[],s⟩ k=My b0 b1 (λn0=>k .ret ⟨gp [(2,pI n0)] 31,[],s⟩) (λb0 b1=>k .normal ⟨gp [(0,p8 b0),(22,pB b1)] 10,[],s⟩)
theorem TZ (b_100111:Code) (h_pval_j0:BZ (R:=R) lf cl yh s b_100111):Qg (R:=R) lf cl yh s (cd [1,0,0,1] (U1 [1,0,0,1,1,1] b_100111 Kc)):=by
 intro k b0 b1;unfold My;simp only [<-h_pval_j0 k];kernel_rfl
theorem UA:Qg (R:=R) lf cl yh s (cd [1,0,0,1] Kc):=by
 intro k b0 b1;exact Eq.trans (by kernel_rfl) (TZ lf cl yh s (cd [1,0,0,1,1,1] Kc) (TY lf cl yh s) k b0 b1)
noncomputable def Ar5 {R:Type} (lf:Nat) (b0:Int) (k0:Int->Option R):Option R:=cond (not (ltI b0 97)) (My b0 (not (ltI 122 b0)) (λn'10=>k0 n'10) (λb'11 b'12=>k0 (-1))) (My b0 false (λn'13=>k0 n'13) (λb'14 b'15=>k0 (-1)))
theorem A78 (b_1001:Code) (h_pval_j1:Qg (R:=PV × List Blk × σ) lf cl yh s b_1001) (b0:Int):B0 (Dz lf) cl yh (cd [] (U1 [1,0,0,1] b_1001 Kc)) ⟨[p8 b0]++tps 33,[],s⟩ (J6 (Dz lf) Tryz.f109)=Ar5 lf b0 (λr0=>some (pI r0,[],s)):=by
 unfold Ar5;exact let K0:=(O4 0 (P3 (Dz lf) cl yh (cd [1,1] Kc) (J6 (Dz lf) Tryz.f109)));(Eq.trans (by kernel_rfl) (A0 ((h_pval_j1 K0 b0 (not (ltI 122 b0))).trans (by kernel_rfl)) ((h_pval_j1 K0 b0 false).trans (by kernel_rfl))))
theorem A79 (d:Nat) (b0):evC (Dz lf) (d+1) σ yh 109 [p8 b0] [] s=Ar5 lf b0 (λr0=>some (pI r0,[],s)):=
 (evE (fn:=Tryz.f109) (by kernel_rfl)).trans (Eq.trans (by kernel_rfl) (A78 lf (evC (Dz lf) d) yh s (cd [1,0,0,1] Kc) (UA lf (evC (Dz lf) d) yh s) b0))
end
def r8 (n:Nat):LL:=List.replicate n [SV.int .u16 0]
end
end Go.Proofs.YtbpokbigoebocaaGreatDoor.E
