/-
  Parts of the proof, merged by a program of the prover's own; no condition.
-/
import Derived.Test.YtelhbgonncceeaaGreatDoorKCE2
import Derived.Deep.Draws
import Derived.KernelRfl
import Derived.LaidMore
import Derived.LaidSub
import Derived.Laws.RangeString
import Derived.Lay
import Derived.Lib.IndexMore
import Derived.Lib.ItoaNum
import Derived.Lib.Join
import Derived.Lib.LaidTab
import Derived.Lib.LaidU8
import Derived.Lib.LastIndexLaws
import Derived.Lib.RuneCount
import Derived.Lib.TrailingZeros
import Derived.Lib.ValidU
import Derived.OpenShut
import Derived.ProofKit
import Derived.Shelf.Vars
import Derived.Sort.Grow
import Derived.Test.YtelhbgonncceeaaGreatDoorChecked
import Derived.Test.YtelhbgonncceeaaGreatDoorProg
import Derived.Test.YtelhbgonncceeaaGreatDoorRows
namespace Go.Proofs.YtelhbgonncceeaaGreatDoor.E
set_option linter.all false
section
open Go Go.ChangeShapes Go.RowKit Go.WideShapes
def Wk (P:Program) (t:Nat):Bool:=match P.underlying t with
 | some (.struct _)=>true
 | some (.array _ _)=>true
 | _=>false
def ER (P:Program) (t:Nat) (v:PV):Prop:=∃ tys l,Io P 20 t=some tys/\Ty.ofL tys l/\((Wk P t=true/\v = .agg (l.map .s))\/(Wk P t=false/\∃ x,l=[x]/\v = .s x))
def It (P:Program):List Nat->List PV->Prop
 | [],l=>l=[]
 | t::r,l=>∃ v q,l=v::q/\ER P t v/\It P r q
theorem ER.nms {P:Program} {t:Nat} {v:PV} (h:ER P t v):v.nms=[]:=by
 obtain ⟨tys,l,_,_,h⟩:=h
 rcases h with ⟨_,rfl⟩ | ⟨_,x,_,rfl⟩
 ·simp only [PV.nms]
  rw [List.eq_nil_iff_forall_not_mem]
  intro c hc
  obtain ⟨j,hj,hc⟩:=C3.1 hc
  simp [PV.nms] at hc
 ·rfl
theorem It.nms {P:Program}:∀ {ts:List Nat} {l:List PV},It P ts l->C9 l=[]
 | [],l,h=>by simp only [It] at h;subst h;rfl
 | t::r,l,h=>by
  simp only [It] at h
  obtain ⟨v,q,rfl,h1,h2⟩:=h
  simp [C9,h1.nms,h2.nms]
section
variable {H : Type} {enc : TypeId × Value -> H} {P : Program} {w : World}
theorem Bx4 {v:Value} {r:Reach} {b:Nat} {t:Nat} (ha:Wk P t=false) (Rg:Value.okWide P w r b t v):∀ cs,v = .agg cs->False:=by
 rintro cs rfl
 simp only [Value.okWide,Cell.okWide] at Rg
 unfold Wk at ha
 split at Rg
 ·grind
 ·grind
 ·revert Rg
  cases hu:P.underlying t with
  | none=>simp [Cell.ok,hu]
  | some d=>cases d<;>simp [Cell.ok,hu]
theorem Bi4 {Γ:Ctx} {sh:Nat->Option Shp} {sp:Nat->Bool} {held:Bool} {r:Reach} {b b' t:Nat} {v:Value} {d:DataW H} {ps:List MemPlace} (hΓ:∀ g,g<w.heap.size->Γ.St g) (htys:(Io P 20 t).isSome=true) (Rg:Value.okWide P w r b t v) (hd:DataW.Trod enc P w b' sp held t v d ps) :
  ∃ pv,ER P t pv/\VP Γ sh w pv v:=by
 obtain ⟨tys,ht⟩:=Option.isSome_iff_exists.1 htys
 obtain ⟨m,hm⟩:=hd
 obtain ⟨svs,h1,h2⟩:=Ym 20 t tys m _ _ ht hm
 have lift:∀ {x:SV} {V:Value},VS (· < w.heap.size) w x V->VS Γ.St w x V:=λh=>h.mono (λ_ _=>rfl) hΓ
 cases ha:Wk P t with
 | true=>
  refine ⟨.agg (svs.map .s),⟨tys,svs,ht,h1,.inl ⟨ha,rfl⟩⟩,?_⟩
  have:∃ cs,v = .agg cs:=by
   unfold Wk at ha
   simp only [Value.okWide] at Rg
   grind
  obtain ⟨cs,rfl⟩:=this
  simp only [Value.cells] at h2
  refine VP.mk_agg (by simpa using h2.1) λj hj=>?_
  have hj':j<svs.length:=by simpa using hj
  obtain ⟨U,e,k⟩:=h2.2 j hj'
  exact ⟨U,by simpa using e,by rw [List.getElem_map];exact .s _ _ (lift k)⟩
 | false=>
  have hc:v.cells = #[v]:=by
   have:=Bx4 ha Rg
   cases v with
   | agg cs=>exact (this cs rfl).elim
   | _=>rfl
  rw [hc] at h2
  have hl:svs.length=1:=by have:=h2.1;simpa using this.symm
  obtain ⟨x,rfl⟩:∃ x,svs=[x]:=by
   match svs,hl with
   | [x],_=>exact ⟨x,rfl⟩
  obtain ⟨U,e,k⟩:=h2.2 0 (by simp)
  simp only [List.getElem?_cons_zero,Option.some.injEq] at e
  subst e
  exact ⟨.s x,⟨tys,[x],ht,h1,.inr ⟨ha,x,rfl,rfl⟩⟩,.s _ _ (lift k)⟩
theorem GZ {Γ:Ctx} {sh:Nat->Option Shp} {sp:Nat->Bool} {held:Bool} {r:Reach} {b b':Nat} (hΓ:∀ g,g<w.heap.size->Γ.St g):∀ (ts:List Nat) (vs:List Value) (ds:List (DataW H)) (ps:List MemPlace),(∀ t∈ts,(Io P 20 t).isSome=true)->(∀ (j:Nat) t v,ts[j]? = some t->vs[j]? = some v->Value.okWide P w r b t v)->DataW.TrodAll enc P w b' sp held ts vs ds ps->
  ∃ pvs,It P ts pvs/\vs.length=pvs.length/\ds.length=ts.length/\∀ j (h:j<pvs.length),∃ U,vs[j]? = some U/\VP Γ sh w (pvs[j]) U
 | [],vs,ds,ps,_,_,h=>by
  obtain ⟨rfl,rfl,_⟩:=trodAll_nil h
  exact ⟨[],rfl,rfl,rfl,λj hj=>by simp at hj⟩
 | t::ts,vs,ds,ps,htys,Rg,h=>by
  obtain ⟨v,vs',d,ds',p,q,rfl,rfl,rfl,h1,h2⟩:=trodAll_cons h
  obtain ⟨pv,k1,k2⟩:=Bi4 (Γ:=Γ) (sh:=sh) hΓ (htys t (by simp)) (Rg 0 t v rfl rfl) h1
  obtain ⟨pvs,g1,g2,g3,g4⟩:=GZ (Γ:=Γ) (sh:=sh) hΓ ts vs' ds' q (λt ht=>htys t (by simp [ht])) (λj t v hj hv=>Rg (j+1) t v (by simpa using hj) (by simpa using hv)) h2
  refine ⟨pv::pvs,⟨pv,pvs,rfl,k1,g1⟩,by simp [g2],by simp [g3],λj hj=>?_⟩
  cases j with
  | zero=>exact ⟨v,rfl,k2⟩
  | succ j=>
   obtain ⟨U,e,k⟩:=g4 j (by simpa using hj)
   grind
theorem Zz (hl:laidOutB P=true) {w':World} {ts:List Nat} {vs:List Value} {ds:List (DataW H)} {ps:List MemPlace}:∀ {ts:List Nat} {vs:List Value} {ds:List (DataW H)} {ps:List MemPlace},(∀ t∈ts,P.readableRec t=true/\t<P.types.size)->DataW.TrodAll enc P w 0 (λ_=>true) true ts vs ds ps->(∀ x∈ps,w.sameAt w' x)->∀ sp:Nat->Bool,(∀ x∈ps,sp x.block=true)->
  DataW.TrodAll enc P w' 0 sp true ts vs ds ps
 | [],vs,ds,ps,_,h,_,sp,_=>by
  obtain ⟨rfl,rfl,rfl⟩:=trodAll_nil h
  exact trodAll_mk0
 | t::ts,vs,ds,ps,hr,h,hs,sp,hsp=>by
  obtain ⟨v,vs',d,ds',p,q,rfl,rfl,rfl,h1,h2⟩:=trodAll_cons h
  refine ⟨p,q,WideElems.Trod_stays hl (hr t (by simp)).1 (hr t (by simp)).2 h1 (λx hx=>hs x (by simp [hx])) (λx hx=>hsp x (by simp [hx])),Zz hl (w':=w') (ts:=ts) (vs:=vs') (ds:=ds') (ps:=q) (λt ht=>hr t (by simp [ht])) h2 (λx hx=>hs x (by simp [hx])) sp (λx hx=>hsp x (by simp [hx])),rfl⟩
theorem ED {f:Func} {s:ChangeSpec} {apart fresh handsOn again:Bool} {W W':World} {args:Array Value} {v:Value} {ds gs:List (DataW H)} {before pa pv:List MemPlace}
  (hW:DataW.Whole enc P f.params.toList s.vars apart W args.toList ds gs before)
  (hres:∀ (b:Nat) (sp:Nat->Bool) (hd:Bool),DataW.TrodAll enc P W' b sp hd f.resultTypes.toList (v.resultList f.resultTypes.size) (s.fn H (ds++gs)).results [])
  (hargs:∀ sp:Nat->Bool,(∀ p∈before,sp p.block=true)->DataW.TrodAll enc P W' 0 sp true f.params.toList args.toList (s.fn H (ds++gs)).args pa)
  (hvars:∀ sp:Nat->Bool,(∀ p∈before,sp p.block=true)->DataW.TrodVars enc P W' sp s.vars (s.fn H (ds++gs)).vars pv)
  (hps:before=pa++pv) (hb:Below W.heap.size W W')
  (hok:∀ (j:Nat) (t:TypeId) (r:Value),f.resultTypes[j]? = some t->(v.resultList f.resultTypes.size)[j]? = some r->Value.okWide P W' .any 0 t r) :
  s.post enc P f apart fresh handsOn again W args v W':=by
 have hold:∀ p∈before,(λb=>decide (b<W.heap.size)) p.block=true:=λp hp=>by simpa using hW.lt p hp
 refine ⟨ds,gs,before,[],pa,pv,hW,hres _ _ _,hargs _ hold,hvars _ hold,hb.frame _,λ_=>?_⟩
 have hlt:=hW.lt
 obtain ⟨_,_,_,_,_,hz,hn⟩:=hW
 refine ⟨hok,_,_,([]++pa)++pv,⟨[]++pa,pv,trodAll_append (hargs _ (λ_ _=>rfl)) (hres _ _ _),hvars _ (λ_ _=>rfl),rfl,?_,?_⟩,?_⟩
 ·intro b off hp
  have hp':MemPlace.cell b off∈before:=by rw [hps];simpa using hp
  rw [hb.frozen (hlt _ hp')]
  exact hz b off hp'
 ·intro ha
  have:=hn ha
  rw [hps] at this
  simpa using this
 ·intro p hp _
  rw [hps]
  simpa using hp
end
theorem Ak2 {P:Program} {f:Nat} {Vs:Array Value} {w:World} {R:Value->World->Prop} (hrun:(callFunc f Vs).run P w = .ok (.enter f Vs) w) (h:O4 P ((callFunc f Vs).run P w) R):Calls P f Vs w λe w'=>∃ V,e = .returned V/\R V w':=by
 rw [hrun] at h
 have:=h none 1 { op:=.move (.const undef),dst:=some 0,guard:=none,type:=0,after:=#[],pos:=default } { tmps:=#[undef],defers:=[] } (λa' w'=>∃ V,a'.tmps[0]? = some V/\R V w') (λ_ _ _=>False) (λV w' hR=>⟨V,by simp [Act.put],hR⟩)
 rw [Oper.uponIn_enter] at this
 have h2:CallsIn Fence.wide 0 P f Vs w _:=this.2
 refine (callsIn_wide.1 h2).mono λe w' he=>?_
 cases e with
 | returned v=>
  obtain ⟨V,e1,e2⟩:=he
  simp [Act.put] at e1
  grind
 | panicked c=>exact he.elim
 | outgrown=>obtain ⟨_,_,h⟩:=he;exact h.elim
def noY:Yh Unit:=λ_ _=>none
theorem Bc4 {H:Type} {enc:TypeId × Value->H} {C:Cfg} {f tb:Nat} {fn:Func} {c:Code} {s:ChangeSpec} {apart fresh handsOn again:Bool} (hX:XOK C) (hO:Gd C) (hm:C.P.follows .mixedOrders=true) (hl:laidOutB C.P=true) (hfn:C.P.funcs[f]? = some fn) (hb:fn.body=some c) (hname:(fn.name == "runtime.NumGoroutine")=false)
  (hp:∀ t∈fn.params.toList,(C.P.readableRec t=true/\t<C.P.types.size)/\(Io C.P 20 t).isSome=true) (hres:fn.resultTypes = #[tb]) (hbool:C.P.underlying tb=some .bool) (hvars:s.vars=[])
  (hspec:∀ ds:List (DataW H),ds.length=fn.params.toList.length->s.fn H ds = { results:=[.lit (.bool true)],args:=ds })
  (hev:∀ args,It C.P fn.params.toList args->∃ d Hc,evC C d Unit noY f args [] ()=some (.s (.bool true),Hc,()))
  (W:World) (hG:GOK C (· < W.heap.size) W) (base:Nat) (args:Array Value) (ds gs:List (DataW H)) (before:List MemPlace)
  (Rg:∀ (j:Nat) t v,fn.params[j]? = some t->args[j]? = some v->Value.okWide C.P W .any base t v)
  (hW:DataW.Whole enc C.P fn.params.toList s.vars apart W args.toList ds gs before) :
  Calls C.P f args W λe W'=>∃ v,e = .returned v/\s.post enc C.P fn apart fresh handsOn again W args v W':=by
 have hW':=hW
 obtain ⟨p,q,hA,hV,rfl,hfz,hnd⟩:=hW
 rw [hvars] at hV
 obtain ⟨rfl,rfl⟩:=trodVars_none hV
 let Γ:Ctx:={ St:=(· < W.heap.size),nm:=λ_=>none,yv:=.nilFunc,yv1:=rfl }
 obtain ⟨pvs,h1,h2,h3,h4⟩:=GZ (Γ:=Γ) (sh:=A2 []) (λ_ h=>h) fn.params.toList args.toList ds p (λt ht=>(hp t ht).2) (λj t v hj hv=>Rg j t v (by simpa using hj) (by simpa using hv)) hA
 obtain ⟨d,Hc,hd⟩:=hev pvs h1
 have hS:=Hy hX hO hm d Unit I0 noY .nilFunc A69 A70 f pvs [] () _ Hc () hd Γ noΦ W args rfl (Ja (λ_=>rfl) (λ_ h=>h)) hG (λ_ h=>h) (λb g h=>by cases h)
  ⟨by rw [<-Array.length_toList];exact h2,λj hj=>by obtain ⟨U,e,k⟩:=h4 j hj;exact ⟨U,by simpa using e,k⟩⟩ (by rw [h1.nms];simp)
 refine (Ak2 (Lp hfn hb hname) hS).mono ?_
 rintro e W' ⟨V,rfl,Γ',Φ',hs,hH,hv,_⟩
 have hV:=hv.inv_bool
 subst hV
 have hbel:Below W.heap.size W W':=⟨hs.os,hs.tape,hs.output,hs.size,λk hk=>hs.frame k hk (λb=>by simp [Γ]) (λx=>x)⟩
 simp only [List.append_nil] at hW'
 refine ⟨_,rfl,?_⟩
 have hsp:=hspec ds h3
 have hlt:=hW'.lt
 refine ED (pa:=p) (pv:=[]) hW' (λb sp hd=>?_) (λsp hsp'=>?_) (λsp _=>?_) (by simp) hbel ?_
 ·rw [List.append_nil,hsp,hres]
  exact trodAll_cons_mk (shut_bool hbool _) trodAll_mk0
 ·rw [List.append_nil,hsp]
  exact Zz hl (w:=W) (ts:=fn.params.toList) (vs:=args.toList) (ds:=ds) (ps:=p) (λt ht=>(hp t ht).1) hA (λx hx=>hbel.same (hlt x hx)) sp hsp'
 ·rw [List.append_nil,hsp,hvars]
  rfl
 ·exact ok_one hres rfl (okWide_bool_mk hbool _)
end
section
open Go
def C0 (P:Program) (G:GT) (g:Nat) (pf:List PV->Tr):Prop:=
 ∀ args ret Hc,M0 (pf args)=some (ret,Hc)->∀ C:Cfg,C.P=P->C.G=G->∀ Γ w Vs,(∀ b,Γ.nm b=none)->HR Γ [] w->GOK C Γ.St w->CR Γ (A2 []) w args Vs->
  O4 P ((callFunc g Vs).run P w) (Ck C I0 Γ [] w noΦ ret Hc ())
theorem Gx {C₀:Cfg} {g:Nat} {pf:List PV->Tr} (hX:XOK C₀) (hO:Gd C₀) (hm:C₀.P.follows .mixedOrders=true)
  (h:∀ args ret Hc,M0 (pf args)=some (ret,Hc)->C9 args=[]/\∃ d,evC C₀ d Unit noY g args [] ()=some (ret,Hc,())):C0 C₀.P C₀.G g pf:=by
 intro args ret Hc hpf C hP hGe Γ w Vs hnm hH hG hc
 obtain ⟨hna,d,hev⟩:=h args ret Hc hpf
 have hG0:GOK C₀ Γ.St w:=hG.congr hGe.symm
 refine (Hy hX hO hm d Unit I0 noY Γ.yv A69 A70 g args [] () ret Hc () hev Γ noΦ w Vs rfl hH hG0 (λ_ h=>h) (λb g h=>by rw [hnm] at h;cases h) hc (by rw [hna];simp)).mono ?_
 rintro V w' ⟨Γ1,Φ1,hs,hH1,hv,hvn,hi1,hd1⟩
 exact ⟨Γ1,Φ1,⟨hs.os,hs.tape,hs.output,hs.size,hs.sub,hs.stnew,hs.own,hs.foot,hs.frame,hs.yv,hs.len,λb hb=>by simp at hb⟩,hH1,hv,hvn,hi1,hd1⟩
def Tr.snap:Tr->Tr
 | .ret v H=>cond (v.snap H).nms.isEmpty (.ret (v.snap H) []) .fail
 | .need c t=>.need c t.snap
 | .split c a b=>.split c a.snap b.snap
 | .fail=>.fail
theorem Tr.snap_res:∀ {t:Tr} {v:PV} {H:List Blk},M0 t.snap=some (v,H)->∃ v' H',M0 t=some (v',H')/\v=v'.snap H'/\H=[]/\v.nms=[]
 | .ret v' H',v,H,h=>by
  simp only [Tr.snap] at h
  cases he:(v'.snap H').nms.isEmpty with
  | false=>rw [he] at h;cases h
  | true=>
   rw [he] at h
   simp only [cond_true,M0,Fr,Option.some.injEq,Prod.mk.injEq] at h
   obtain ⟨rfl,rfl⟩:=h
   exact ⟨v',H',rfl,rfl,rfl,List.isEmpty_iff.1 he⟩
 | .need c t,v,H,h=>by
  cases c with
  | true=>exact Tr.snap_res (t:=t) h
  | false=>cases h
 | .split c a b,v,H,h=>by
  cases c with
  | true=>exact Tr.snap_res (t:=a) h
  | false=>exact Tr.snap_res (t:=b) h
 | .fail,_,_,h=>by cases h
theorem C0.snap {P:Program} {G:GT} {g:Nat} {pf:List PV->Tr} (h:C0 P G g pf):C0 P G g (λargs=>(pf args).snap):=by
 intro args ret Hc hpf C hP hGe Γ w Vs hnm hH hG hc
 obtain ⟨ret',Hc',hpf',rfl,rfl,hnr⟩:=Tr.snap_res hpf
 refine (h args ret' Hc' hpf' C hP hGe Γ w Vs hnm hH hG hc).mono ?_
 rintro V w' ⟨Γ1,Φ1,hs,hH1,hv,hvn,hi1,hd1⟩
 let Γ2:Ctx:={ Γ1.all with nm:=λ_=>none }
 have hlt:∀ g,Γ2.St g->g<w'.heap.size:=λg hg=>by
  rcases hg with hg | ⟨b,hb⟩
  ·exact hH1.stlt g hg
  ·exact (hH1.lt b g hb).2.1
 refine ⟨Γ2,Φ1,⟨hs.os,hs.tape,hs.output,hs.size,λg hg=>.inl (hs.sub g hg),λg hg=>?_,λb g h=>by simp [Γ2] at h,hs.foot,hs.frame,hs.yv,Nat.le_refl _,λb hb=>by simp at hb⟩,
  Ja (λ_=>rfl) hlt,?_,by rw [hnr];simp,hi1,λb g h=>by simp [Γ2] at h⟩
 ·rcases hg with hg | ⟨b,hb⟩
  ·exact hs.stnew g hg
  ·rcases hs.own b g hb with ⟨h',_⟩ | h'
   all_goals grind
 ·exact VP.mono (Γ:=Γ1.all) (Γ':=Γ2) (w:=w') (w':=w') (sh:=A2 Hc') (ok:=λ_=>False) ⟨λ_ _=>rfl,λ_ h=>h,λ_ h=>h.elim,λ_ h=>h.elim,λ_ _ h=>h.elim,rfl⟩ (hv.snap hH1) (by rw [hnr];simp)
def NZ:List (Nat × (List PV->Tr))->Nat->Option (List PV->Tr)
 | [],_=>none
 | (g,pf)::r,n=>cond (Nat.beq n g) (some pf) (NZ r n)
def N6 (P:Program) (G:GT):List (Nat × (List PV->Tr))->Prop
 | []=>True
 | (g,pf)::r=>C0 P G g pf/\N6 P G r
theorem N6.x1 {C:Cfg} {l:List (Nat × (List PV->Tr))} (hl:C.X=NZ l) (h:N6 C.P C.G l):Ci5 C:=by
 intro g pf args ret Hc hg hpf Γ w Vs hnm hH hG hc
 rw [hl] at hg
 have key:∀ l:List (Nat × (List PV->Tr)),N6 C.P C.G l->NZ l g=some pf->C0 C.P C.G g pf:=by
  intro l
  induction l with
  | nil=>intro _ h;cases h
  | cons e r ih=>
   intro h1 h2
   obtain ⟨n,q⟩:=e
   simp only [NZ] at h2
   cases hb:Nat.beq g n with
   | true=>
    rw [hb] at h2
    simp only [cond_true,Option.some.injEq] at h2
    have:=Nat.eq_of_beq_eq_true hb
    subst this;subst h2
    exact h1.1
   | false=>
    rw [hb] at h2
    exact ih h1.2 h2
 exact key l h hg args ret Hc hpf C rfl rfl Γ w Vs hnm hH hG hc
theorem BB {C C':Cfg} (h:C.P=C'.P):Hi C=Hi C':=by
 funext s
 unfold Hi
 split
 ·simp only [Ji,Cfg.sh,h]
 ·rfl
 ·rfl
theorem Stp.congr {C C':Cfg} (h:C.P=C'.P) {Γ Γ':Ctx} {H H':List Blk} {w w':World} {Φ Φ':Nat->Prop} (s:Stp C Γ H w Φ Γ' H' w' Φ'):Stp C' Γ H w Φ Γ' H' w' Φ':=
 ⟨s.os,s.tape,s.output,s.size,s.sub,s.stnew,s.own,s.foot,s.frame,s.yv,s.len,λb hb hf=>s.keep b hb (by rw [BB h];exact hf)⟩
def Wj (P:Program) (G:GT) (g:Nat) (pf:List PV->List Blk->Tr):Prop:=
 ∀ C:Cfg,C.P=P->C.G=G->∀ (σ:Type) (I:σ->(Nat->Prop)->(Nat->Prop)->World->Prop) (yh:Yh σ) (yv:Value),HI I->VY P I yh yv->
  ∀ args H s ret Hc,M0 (pf args H)=some (ret,Hc)->∀ Γ Φ w Vs,Γ.yv=yv->HR Γ H w->GOK C Γ.St w->I s Γ.St Φ w->(∀ b g,Γ.nm b=some g->¬ Φ g)->CR Γ (A2 H) w args Vs->(∀ c∈C9 args,c<H.length)->
   O4 P ((callFunc g Vs).run P w) (Ck C I Γ H w Φ ret Hc s)
def OM (P:Program) (G:GT) (g:Nat) (pf:List PV->List Blk->Option (Bool × List (List PV))):Prop:=
 ∀ C:Cfg,C.P=P->C.G=G->∀ (σ:Type) (I:σ->(Nat->Prop)->(Nat->Prop)->World->Prop) (yh:Yh σ) (yv:Value),HI I->VY P I yh yv->
  ∀ args H L s s',pf args H=some (true,L)->H.all BM=true->U6 yh L s=some s'->∀ Γ Φ w Vs,Γ.yv=yv->HR Γ H w->GOK C Γ.St w->I s Γ.St Φ w->(∀ b g,Γ.nm b=some g->¬ Φ g)->CR Γ (A2 H) w args Vs->(∀ c∈C9 args,c<H.length)->
   O4 P ((callFunc g Vs).run P w) (Ck C I Γ H w Φ (.tup []) (H.map Hv) s')
theorem Bb2 {C C₀:Cfg} {σ:Type} {I:σ->(Nat->Prop)->(Nat->Prop)->World->Prop} {Γ:Ctx} {H Hc:List Blk} {w w':World} {Φ:Nat->Prop} {s':σ} {V:Value} (hP:C₀.P=C.P) (hb:H.all BM=true) (hH:HR Γ H w) (h:Ck C₀ I Γ H w Φ (.tup []) Hc s' V w'):Ck C I Γ H w Φ (.tup []) (H.map Hv) s' V w':=by
 obtain ⟨Γ1,Φ1,hs,k1,k2,k3,k4,k5⟩:=h
 have hn:∀ b g,(if b<H.length then Γ1.nm b else none)=some g->b<H.length/\Γ1.nm b=some g:=λb g h=>by grind
 have hlen:(H.map Hv).length=H.length:=List.length_map _
 refine ⟨{ Γ1 with nm:=λb=>if b<H.length then Γ1.nm b else none },Φ1,⟨hs.os,hs.tape,hs.output,hs.size,hs.sub,hs.stnew,λb g hg=>hs.own b g (hn b g hg).2,hs.foot,hs.frame,hs.yv,by rw [hlen];exact Nat.le_refl _,λb hbl hf=>?_⟩,
  ⟨λb b' g h1 h2=>k1.inj b b' g (hn b g h1).2 (hn b' g h2).2,λb g hg=>?_,k1.stlt,λb hbl c hc=>?_,λb hbl=>?_⟩,?_,by simp [PV.nms,C9],k4,λb g hg=>k5 b g (hn b g hg).2⟩
 ·obtain ⟨m1,m2,m3⟩:=hs.keep b hbl (by rw [BB hP];exact hf)
  refine ⟨by simp only;rw [if_pos hbl];exact m1,?_,m3⟩
  simp only [A2,List.getElem?_map]
  cases H[b]? with
  | none=>rfl
  | some x=>exact congrArg some (FG x)
 ·obtain ⟨q1,q2⟩:=hn b g hg
  have:=k1.lt b g q2
  grind
 ·rw [List.getElem_map,FF] at hc
  simp at hc
 ·rw [hlen] at hbl
  rw [List.getElem_map]
  have hbx:=List.all_eq_true.1 hb _ (List.getElem_mem hbl)
  have hB:=hH.blk b hbl
  cases hx:H[b] with
  | box cells=>
   rw [hx] at hB
   obtain ⟨g,cur,e,h1,h2,h3,_⟩:=hB
   obtain ⟨m1,m2,m3⟩:=hs.keep b hbl (by simp only [A2,List.getElem?_eq_getElem hbl,hx];exact trivial)
   have hl2:b<Hc.length:=Nat.lt_of_lt_of_le hbl hs.len
   have hB2:=k1.blk b hl2
   have hshp:(Hc[b]).shp = .box:=by
    simp only [A2,List.getElem?_eq_getElem hbl,List.getElem?_eq_getElem hl2,Option.map_some,Option.some.injEq] at m2
    rw [m2,hx];rfl
   cases hy:Hc[b] with
   | box cells'=>
    rw [hy] at hB2
    obtain ⟨g',cur',e',h1',h2',h3',h4'⟩:=hB2
    have hgg:g'=g:=by grind
    subst hgg
    have hsz:=m3 g' h1
    simp only [World.shape?,h2,h2',Option.some.injEq,Prod.mk.injEq] at hsz
    refine ⟨g',cur',e',by simp only;rw [if_pos hbl];exact h1',h2',by rw [hsz.2,h3];simp,λj hj=>?_⟩
    have hj':j<cur'.size:=by rw [hsz.2,h3];simpa using hj
    exact ⟨cur'[j],Array.getElem?_eq_getElem hj',by rw [List.getElem_map];exact .bad _⟩
   | arr a b c d=>rw [hy] at hshp;cases hshp
   | iter a b=>rw [hy] at hshp;cases hshp
   | dead=>rw [hy] at hshp;cases hshp
  | arr a b c d=>rw [hx] at hbx;cases hbx
  | iter a b=>rw [hx] at hbx;cases hbx
  | dead=>rw [hx] at hbx;cases hbx
 ·obtain ⟨A,rfl,hA,hcA⟩:=k2.inv_tup
  exact VP.mk_tup hA λj hj=>by simp at hj
theorem Xn {C₀:Cfg} {g:Nat} {pf:List PV->List Blk->Option (Bool × List (List PV))} (hX:XOK C₀) (hO:Gd C₀) (hm:C₀.P.follows .mixedOrders=true)
  (h:∀ args H L,pf args H=some (true,L)->∀ (σ:Type) (yh:Yh σ) (s s':σ),U6 yh L s=some s'->∃ d Hc,evC C₀ d σ yh g args H s=some (.tup [],Hc,s')):OM C₀.P C₀.G g pf:=by
 intro C hP hG σ I yh yv hI hy args H L s s' hpf hb hrun Γ Φ w Vs hyv hH hg hi hdis hc hn
 obtain ⟨d,Hc,hev⟩:=h args H L hpf σ yh s s' hrun
 exact (Hy hX hO hm d σ I yh yv hI hy g args H s _ Hc s' hev Γ Φ w Vs hyv hH (hg.congr hG.symm) hi hdis hc hn).mono λV w' hr=>Bb2 hP.symm hb hH hr
def Im {α:Type}:List (Nat × α)->Nat->Option α
 | [],_=>none
 | (g,pf)::r,n=>cond (Nat.beq n g) (some pf) (Im r n)
theorem Tb {α:Type}:∀ {l:List (Nat × α)} {g:Nat} {pf:α},Im l g=some pf->(g,pf)∈l
 | [],_,_,h=>by cases h
 | (n,q)::r,g,pf,h=>by
  simp only [Im] at h
  cases hb:Nat.beq g n with
  | true=>
   simp_all
  | false=>
   rw [hb] at h
   exact List.mem_cons_of_mem _ (Tb h)
def Gz (P:Program) (G:GT):List (Nat × (List PV->List Blk->Tr))->Prop
 | []=>True
 | (g,pf)::r=>Wj P G g pf/\Gz P G r
def Gy (P:Program) (G:GT):List (Nat × (List PV->List Blk->Option (Bool × List (List PV))))->Prop
 | []=>True
 | (g,pf)::r=>OM P G g pf/\Gy P G r
theorem Gz.mem {P:Program} {G:GT}:∀ {l:List (Nat × (List PV->List Blk->Tr))} {g:Nat} {pf:List PV->List Blk->Tr},Gz P G l->(g,pf)∈l->Wj P G g pf
 | [],_,_,_,hm=>by simp at hm
 | (n,q)::r,g,pf,h,hm=>by
  rcases List.mem_cons.1 hm with e | hm
  ·cases e;exact h.1
  ·exact Gz.mem h.2 hm
theorem Gy.mem {P:Program} {G:GT}:∀ {l:List (Nat × (List PV->List Blk->Option (Bool × List (List PV))))} {g:Nat} {pf:List PV->List Blk->Option (Bool × List (List PV))},Gy P G l->(g,pf)∈l->OM P G g pf
 | [],_,_,_,hm=>by simp at hm
 | (n,q)::r,g,pf,h,hm=>by
  rcases List.mem_cons.1 hm with e | hm
  ·cases e;exact h.1
  ·exact Gy.mem h.2 hm
theorem Gz.ok {C:Cfg} {l:List (Nat × (List PV->List Blk->Tr))} (hl:C.Y=Im l) (h:Gz C.P C.G l):Aj C (clY C):=by
 intro σ I yh yv hI hy g args H s ret Hc s' hcl Γ Φ w Vs hyv hH hg hi hd hc hn
 simp only [clY,hl] at hcl
 split at hcl
 ·rename_i pf hpf
  split at hcl
  ·rename_i r' h' hr
   simp only [Option.some.injEq,Prod.mk.injEq] at hcl
   obtain ⟨rfl,rfl,rfl⟩:=hcl
   exact h.mem (Tb hpf) C rfl rfl σ I yh yv hI hy args H s _ _ hr Γ Φ w Vs hyv hH hg hi hd hc hn
  grind
 ·cases hcl
theorem Gy.ok {C:Cfg} {l:List (Nat × (List PV->List Blk->Option (Bool × List (List PV))))} (hl:C.S=Im l) (h:Gy C.P C.G l):Aj C (clS C):=by
 intro σ I yh yv hI hy g args H s ret Hc s' hcl Γ Φ w Vs hyv hH hg hi hd hc hn
 simp only [clS,hl] at hcl
 split at hcl
 ·rename_i pf hpf
  split at hcl
  ·rename_i hb
   split at hcl
   ·rename_i L hL
    split at hcl
    ·rename_i s2 hr
     simp only [Option.some.injEq,Prod.mk.injEq] at hcl
     obtain ⟨rfl,rfl,rfl⟩:=hcl
     exact h.mem (Tb hpf) C rfl rfl σ I yh yv hI hy args H L s _ hL hb hr Γ Φ w Vs hyv hH hg hi hd hc hn
    grind
   grind
  grind
 ·cases hcl
theorem Ko {C:Cfg} {lx:List (Nat × (List PV->Tr))} {ly:List (Nat × (List PV->List Blk->Tr))} {ls:List (Nat × (List PV->List Blk->Option (Bool × List (List PV))))} (h1:C.X=NZ lx) (h2:C.Y=Im ly) (h3:C.S=Im ls) (x:N6 C.P C.G lx) (y:Gz C.P C.G ly) (s:Gy C.P C.G ls) (h4:C.Z=Im []:=by rfl):XOK C:=
 ⟨N6.x1 h1 x,Gz.ok h2 y,Gy.ok h3 s,λg pf h=>by rw [h4] at h;cases h⟩
theorem N6.ok {C:Cfg} {l:List (Nat × (List PV->Tr))} (hl:C.X=NZ l) (h:N6 C.P C.G l) (h2:C.Y=Im []:=by rfl) (h3:C.S=Im []:=by rfl) (h4:C.Z=Im []:=by rfl):XOK C:=
 Ko hl h2 h3 h trivial trivial h4
def okL:List Nat->Nat->Bool
 | [],_=>false
 | a::r,n=>Nat.beq n a || okL r n
def ZK (C:Cfg) (l:List Nat):Bool:=l.all λf=>match C.P.funcs[f]? with
 | some fn=>match fn.body with
  | some c=>Bc3 C c && !(fn.name == "runtime.NumGoroutine")
  | none=>true
 | none=>true
theorem J0 {C:Cfg} {l:List Nat} (hl:C.okf=okL l) (h:ZK C l=true):Gd C:=by
 intro f fn c hok hf hb
 have key:∀ l:List Nat,okL l f=true->f∈l:=by
  intro l
  induction l with
  | nil=>intro h;cases h
  | cons a r ih=>
   intro h
   simp only [okL,Bool.or_eq_true] at h
   rcases h with h | h
   all_goals simp_all
 have hm:f∈l:=key l (by rw [<-hl];exact hok)
 simp only [ZK,List.all_eq_true] at h
 grind
def cd:List Nat->Code->Code
 | [],c=>c
 | 0::p,.seq a _=>cd p a
 | 1::p,.seq _ b=>cd p b
 | 0::p,.cond _ a _=>cd p a
 | 1::p,.cond _ _ b=>cd p b
 | 0::p,.block _ a=>cd p a
 | 0::p,.loop a=>cd p a
 | 0::p,.scope a=>cd p a
 | 0::p,.rangeFunc _ _ a _=>cd p a
 | 1::p,.rangeFunc _ _ _ b=>cd p b
 | _,_=>.skip
def J3:List Nat->Code->Code->Code
 | [],b,_=>b
 | 0::p,b,.seq x y=>.seq (J3 p b x) y
 | 1::p,b,.seq x y=>.seq x (J3 p b y)
 | 0::p,b,.cond c x y=>.cond c (J3 p b x) y
 | 1::p,b,.cond c x y=>.cond c x (J3 p b y)
 | 0::p,b,.block id x=>.block id (J3 p b x)
 | 0::p,b,.loop x=>.loop (J3 p b x)
 | 0::p,b,.scope x=>.scope (J3 p b x)
 | 0::p,b,.rangeFunc g ps x y=>.rangeFunc g ps (J3 p b x) y
 | 1::p,b,.rangeFunc g ps x y=>.rangeFunc g ps x (J3 p b y)
 | _,_,c=>c
def D8 (f:Func):Code:=f.body.getD .skip
section
variable {σ R : Type}
def bd (C:Cfg) (cl:G2) (yh:Yh σ) (c:Code):St σ->(Out->St σ->Option R)->Option R:=λst k=>A9 C cl yh c st k
def G1 (C:Cfg) (cl:G2) (yh:Yh σ) (b:Code) (k:Out->St σ->Option R):Out->St σ->Option R:=λo st'=>match o with
 | .normal=>A9 C cl yh b st' k
 | o=>k o st'
def F9 (id:Nat) (k:Out->St σ->Option R):Out->St σ->Option R:=λo st'=>match o with
 | .exit j=>if j=id then k .normal st' else k (.exit j) st'
 | o=>k o st'
def G5 (C:Cfg) (fn:Func):Out->St σ->Option (PV × List Blk × σ):=λo st=>match o with
 | .normal=>Xv C st.sl st.hp fn.results.toList λvs=>some (Aq vs,st.hp,st.s)
 | .ret=>Xv C st.sl st.hp fn.results.toList λvs=>some (Aq vs,st.hp,st.s)
 | _=>none
def lpK (L:Nat) (ds:Option (List Nat)) (body:St σ->(Out->St σ->Option R)->Option R) (n:Nat) (k:Out->St σ->Option R):Out->St σ->Option R:=λo st'=>match o with
 | .normal=>E5 L ds body n (Jk ds (W3 L st')) k
 | o=>k o (Jk ds st')
end
theorem Ca5 {C:Cfg} {d f:Nat} {fn:Func} {σ:Type} {yh:Yh σ} {args:List PV} {H:List Blk} {s:σ} (h2:C.P.funcs[f]? = some fn) (h1:C.okf f=true) (h3:fn.body=some (D8 fn)) :
  evC C (d+1) σ yh f args H s=A9 C (evC C d) yh (D8 fn) { sl:=args++List.replicate (fn.ntmps-args.length) (.tup []),hp:=H,s:=s } (G5 C fn):=by
 simp only [evC,h1,h2]
 split
 ·rename_i c hc
  rw [hc] at h3
  simp only [Option.some.injEq] at h3
  rw [<-h3]
  rfl
 ·rename_i hc
  rw [hc] at h3
  cases h3
theorem evE {C:Cfg} {d f:Nat} {fn:Func} {σ:Type} {yh:Yh σ} {args:List PV} {H:List Blk} {s:σ} (h:(C.P.funcs[f]?,C.okf f,fn.body)=(some fn,true,some (D8 fn))) :
  evC C (d+1) σ yh f args H s=A9 C (evC C d) yh (D8 fn) { sl:=args++List.replicate (fn.ntmps-args.length) (.tup []),hp:=H,s:=s } (G5 C fn):=by
 simp only [Prod.mk.injEq] at h
 exact Ca5 h.1 h.2.1 h.2.2
def Hf:List Nat->List Blk->List Blk
 | [],H=>H
 | i::r,H=>Hf r (H.set i .dead)
def XG (idx:List Nat) (ret:PV) (H:List Blk):Bool:=idx.all λi=>!(ret.nms.contains i)&&(Hf idx H).all λb=>!(b.nms.contains i)
theorem Wu:∀ (idx:List Nat) (H:List Blk),(Hf idx H).length=H.length/\∀ i (h:i<(Hf idx H).length) (h':i<H.length),(i∈idx/\(Hf idx H)[i] = .dead)\/(i∉idx/\(Hf idx H)[i]=H[i])
 | [],H=>⟨rfl,λi h h'=>.inr ⟨by simp,rfl⟩⟩
 | a::r,H=>by
  obtain ⟨h1,h2⟩:=Wu r (H.set a .dead)
  simp only [Hf]
  grind
theorem Ck.dead {C:Cfg} {Γ:Ctx} {w w':World} {ret:PV} {Hc:List Blk} {V:Value} {idx:List Nat} (h:Ck C I0 Γ [] w noΦ ret Hc () V w') (hok:XG idx ret Hc=true):Ck C I0 Γ [] w noΦ ret (Hf idx Hc) () V w':=by
 obtain ⟨Γ1,Φ1,hs,hH1,hv,hvn,hi1,hd1⟩:=h
 obtain ⟨hl,hsp⟩:=Wu idx Hc
 simp only [XG,List.all_eq_true,Bool.and_eq_true,Bool.not_eq_true',List.contains_iff_mem,<-Bool.not_eq_true] at hok
 let Γ2:Ctx:={ Γ1 with nm:=λb=>if b∈idx then none else Γ1.nm b }
 have hnm:∀ b g,Γ2.nm b=some g->b∉idx/\Γ1.nm b=some g:=λb g h=>by
  simp only [Γ2] at h
  split at h
  ·cases h
  ·exact ⟨‹_›,h⟩
 have M:Y4 Γ1 (A2 Hc) w' Γ2 (A2 (Hf idx Hc)) w' (·∉idx):=⟨λ_ _=>rfl,λ_ h=>h,λb hb=>by simp only [Γ2];rw [if_neg hb],λb hb=>by
  simp only [A2]
  by_cases hlt:b<Hc.length
  ·rcases hsp b (by omega) hlt with ⟨q,_⟩ | ⟨_,q⟩
   ·exact absurd q hb
   ·rw [List.getElem?_eq_getElem (by omega),List.getElem?_eq_getElem hlt,q]
  ·rw [List.getElem?_eq_none (by omega),List.getElem?_eq_none (by omega)],λ_ _ _ _=>rfl,rfl⟩
 refine ⟨Γ2,Φ1,⟨hs.os,hs.tape,hs.output,hs.size,hs.sub,hs.stnew,λb g h=>hs.own b g (hnm b g h).2,hs.foot,hs.frame,hs.yv,Nat.zero_le _,λb hb=>by simp at hb⟩,
  ⟨λb b' g h1 h2=>hH1.inj b b' g (hnm b g h1).2 (hnm b' g h2).2,λb g h=>by have:=hH1.lt b g (hnm b g h).2;rw [hl];exact this,hH1.stlt,λb hb c hc=>?_,λb hb=>?_⟩,
  hv.mono M (λb hb hi=>by have:=(hok b hi).1;exact this hb),λc hc=>by rw [hl];exact hvn c hc,hi1,λb g h=>hd1 b g (hnm b g h).2⟩
 ·have hlt:b<Hc.length:=by omega
  rcases hsp b hb hlt with ⟨_,q⟩ | ⟨_,q⟩
  ·rw [q] at hc;simp [Blk.nms] at hc
  ·rw [q] at hc;rw [hl];exact hH1.nms b hlt c hc
 ·have hlt:b<Hc.length:=by omega
  rcases hsp b hb hlt with ⟨_,q⟩ | ⟨q0,q⟩
  ·rw [q];trivial
  ·rw [q]
   refine (hH1.blk b hlt).mono M (M.nm b q0) (λ_ _=>rfl) (λc hc hi=>?_)
   have:=(hok c hi).2 _ (List.getElem_mem hb)
   rw [q] at this
   exact this hc
theorem T4 {C₀:Cfg} {g:Nat} {pf:List PV->Tr} (hX:XOK C₀) (hO:Gd C₀) (hm:C₀.P.follows .mixedOrders=true)
  (h:∀ args ret Hc,M0 (pf args)=some (ret,Hc)->C9 args=[]/\∃ d H0 idx,evC C₀ d Unit noY g args [] ()=some (ret,H0,())/\XG idx ret H0=true/\Hf idx H0=Hc):C0 C₀.P C₀.G g pf:=by
 intro args ret Hc hpf C hP hGe Γ w Vs hnm hH hG hc
 obtain ⟨hna,d,H0,idx,hev,hd,rfl⟩:=h args ret Hc hpf
 have h0:=Gx (C₀:=C₀) (g:=g) (pf:=λa=>match M0 (pf a) with | some _=>(match evC C₀ d Unit noY g a [] () with | some (r,H,_)=>cond (C9 a).isEmpty (.ret r H) .fail | none=>.fail) | none=>.fail) hX hO hm (λa r H hr=>by
  split at hr
  ·split at hr
   ·rename_i r' H' _ he
    cases hn:(C9 a).isEmpty with
    | true=>
     rw [hn] at hr
     simp only [cond_true,M0,Fr,Option.some.injEq,Prod.mk.injEq] at hr
     grind
    | false=>rw [hn] at hr;cases hr
   ·cases hr
  ·cases hr)
 refine (h0 args ret H0 ?_ C hP hGe Γ w Vs hnm hH hG hc).mono λV w' hR=>hR.dead hd
 dsimp only
 rw [hpf]
 dsimp only
 rw [hev]
 dsimp only
 rw [hna]
 rfl
theorem OG {C₀:Cfg} {g:Nat} {pf:List PV->Tr} (hX:XOK C₀) (hO:Gd C₀) (hm:C₀.P.follows .mixedOrders=true)
  (h:∀ args ret Hc,M0 (pf args)=some (ret,Hc)->C9 args=[]/\Hc=[]/\ret.nms=[]/\∃ d ret' H0,evC C₀ d Unit noY g args [] ()=some (ret',H0,())/\ret'.snap H0=ret):C0 C₀.P C₀.G g pf:=by
 intro args ret Hc hpf C hP hGe Γ w Vs hnm hH hG hc
 obtain ⟨hna,rfl,hnr,d,ret',H0,hev,rfl⟩:=h args ret Hc hpf
 have h0:=Gx (C₀:=C₀) (g:=g) (pf:=λa=>match evC C₀ d Unit noY g a [] () with | some (r,H,_)=>cond (C9 a).isEmpty (.ret r H) .fail | none=>.fail) hX hO hm (λa r H hr=>by
  split at hr
  ·rename_i r' H' _ he
   cases hn:(C9 a).isEmpty with
   | true=>
    rw [hn] at hr
    simp only [cond_true,M0,Fr,Option.some.injEq,Prod.mk.injEq] at hr
    grind
   | false=>rw [hn] at hr;cases hr
  ·cases hr)
 refine h0.snap args (ret'.snap H0) [] ?_ C hP hGe Γ w Vs hnm hH hG hc
 dsimp only
 rw [hev]
 dsimp only
 rw [hna]
 simp only [List.isEmpty_nil,cond_true,Tr.snap,hnr]
 rfl
section
variable {σ R : Type} {C : Cfg} {cl : G2} {yh : Yh σ} {c a b : Code} {st : St σ} {k : Out -> St σ -> Option R} {id : Nat}
theorem A0 {b:Bool} {x y x' y':Option R} (hx:x=x') (hy:y=y'):cond b x y=cond b x' y':=by rw [hx,hy]
end
def A4 {α:Type}:List (Nat × α)->Nat->Option α
 | [],_=>none
 | (a,l)::r,n=>cond (Nat.beq n a) (some l) (A4 r n)
def bds (n:Nat):List PV:=List.replicate n .bad
def tps (n:Nat):List PV:=List.replicate n (.tup [])
def gp:List (Nat × PV)->Nat->List PV
 | [],n=>bds n
 | (m,v)::r,n=>bds m++v::gp r n
abbrev LL:=List (List SV)
abbrev By:=List UInt8
def A1 (n:Int):Int:=IntKind.wrap .i64 n
def Bn8 (n:Int):Int:=IntKind.wrap .u64 n
def Wg (n:Int):Int:=IntKind.wrap .u32 n
def Kn (n:Int):Int:=IntKind.wrap .u16 n
def wu8 (n:Int):Int:=IntKind.wrap .u8 n
def bOr (k:IntKind) (a b:Int):Int:=k.wrap (BitVec.ofInt k.bits a ||| BitVec.ofInt k.bits b).toNat
def Nw (k:IntKind) (a b:Int):Int:=k.wrap (a*2 ^ min b.toNat k.bits)
def Ai9 (k:IntKind) (a b:Int):Int:=a.fdiv (2 ^ min b.toNat k.bits)
def inR (n:Int) (m:Nat):Bool:=decide (0<=n)&&decide (n<m)
def Il:TI:=⟨true,false,[.int .i64]⟩
def Gc:TI:=⟨true,false,[.str]⟩
def okE (t:TI) (l:LL) (i o:Nat):Bool:=decide (i<l.length)&&okS t (l.getD i []) o
def gC (l:LL) (i j:Nat):SV:=(l.getD i []).getD j .nilp
def gE (l:LL) (i j:Nat):Int:=(gC l i j).gI
def gX (l:LL) (i j:Nat):By:=(gC l i j).gS
def gY (l:LL) (i j:Nat):Bool:=(gC l i j).gB
def bAt (s:By) (n:Int):Int:=((s.getD n.toNat 0).toNat:Int)
def P0 (l h:Int) (n:Nat):Bool:=decide (0<=l)&&decide (l<=h)&&decide (h<=n)
def cut {α:Type} (s:List α) (l h:Int):List α:=(s.take h.toNat).drop l.toNat
def Cm7:Code->Bool | .rangeFunc _ _ _ _=>true | _=>false
def rgX:Code->Operand | .rangeFunc x _ _ _=>x | _=>.tmp 0
def rgP:Code->Array Tmp | .rangeFunc _ p _ _=>p | _=>#[]
theorem LN:∀ (p:List Nat),cd p .skip = .skip
 | []=>rfl
 | 0::_=>rfl
 | 1::_=>rfl
 | (_+2)::_=>rfl
theorem Ev:∀ (p q:List Nat) (c:Code),cd (p++q) c=cd q (cd p c)
 | [],q,c=>rfl
 | i::p,q,c=>by
  rw [List.cons_append]
  match i,c with
  | 0,.seq a b=>exact Ev p q a
  | 1,.seq a b=>exact Ev p q b
  | 0,.cond _ a b=>exact Ev p q a
  | 1,.cond _ a b=>exact Ev p q b
  | 0,.block _ a=>exact Ev p q a
  | 0,.loop a=>exact Ev p q a
  | 0,.scope a=>exact Ev p q a
  | 0,.rangeFunc _ _ a b=>exact Ev p q a
  | 1,.rangeFunc _ _ a b=>exact Ev p q b
  | 0,.skip | 0,.region _ _ _ | 0,.exit _ | 0,.label _ | 0,.goto _ | 0,.ret | 0,.refuse _=>exact (LN q).symm
  | 1,.skip | 1,.region _ _ _ | 1,.exit _ | 1,.scope _ | 1,.label _ | 1,.goto _ | 1,.ret | 1,.refuse _ | 1,.block _ _ | 1,.loop _=>exact (LN q).symm
  | _+2,.skip | _+2,.region _ _ _ | _+2,.exit _ | _+2,.scope _ | _+2,.label _ | _+2,.goto _ | _+2,.ret | _+2,.refuse _ | _+2,.block _ _ | _+2,.loop _ | _+2,.seq _ _ | _+2,.cond _ _ _ | _+2,.rangeFunc _ _ _ _=>exact (LN q).symm
section
variable {σ R : Type} {C : Cfg} {cl : G2} {yh : Yh σ} {B : Code} {st : St σ} {k : Out -> St σ -> Option R}
theorem B80 (p:List Nat) (h:Cm7 (cd p B)=true):A9 C cl yh (cd p B) st k=Ps C cl (opnd C st.sl (rgX (cd p B))) st (λsl0=>Hk (rgP (cd p B)) sl0 (bd C cl yh (cd (p++[0]) B)) (bd C cl yh (cd (p++[1]) B))) (λsl0=>X2 (rgP (cd p B)) sl0 (bd C cl yh (cd (p++[0]) B)) (bd C cl yh (cd (p++[1]) B))) k:=by
 rw [Ev,Ev]
 cases hc:cd p B<;>rw [hc] at h<;>first | rfl | cases h
theorem BY {c:Bool} {x y:Option R} (h:x=y):need c x=cond c y none:=by rw [h];rfl
end
abbrev pS (l:List UInt8):PV:=.s (.str l)
abbrev pB (b:Bool):PV:=.s (.bool b)
abbrev pI (n:Int):PV:=.s (.int .i64 n)
abbrev p8 (n:Int):PV:=.s (.int .u8 n)
abbrev p16 (n:Int):PV:=.s (.int .u16 n)
abbrev p32 (n:Int):PV:=.s (.int .u32 n)
abbrev vl {α β:Type} (e:α) (f:α->β):β:=f e
theorem A6 {α R:Type} {e:α} {f g:α->Option R} (h:∀ x,f x=g x):vl e f=vl e g:=h e
def Kr (m n:Nat):Bool:=decide (m+n<4611686018427387904)
theorem fx1 {A R:Type} {f g:A->R} (h0:∀ a,f a=g a):f=g:=funext h0
theorem fx2 {A B R:Type} {f g:A->B->R} (h0:∀ a b,f a b=g a b):f=g:=funext λa=>fx1 (h0 a)
theorem fx3 {A B C R:Type} {f g:A->B->C->R} (h0:∀ a b c,f a b c=g a b c):f=g:=funext λa=>fx2 (h0 a)
theorem fx4 {A B C D R:Type} {f g:A->B->C->D->R} (h0:∀ a b c d,f a b c d=g a b c d):f=g:=funext λa=>fx3 (h0 a)
theorem fx5 {A B C D E R:Type} {f g:A->B->C->D->E->R} (h0:∀ a b c d e,f a b c d e=g a b c d e):f=g:=funext λa=>fx4 (h0 a)
theorem fx6 {A B C D E H R:Type} {f g:A->B->C->D->E->H->R} (h0:∀ a b c d e h,f a b c d e h=g a b c d e h):f=g:=funext λa=>fx5 (h0 a)
theorem fx7 {A B C D E H I R:Type} {f g:A->B->C->D->E->H->I->R} (h0:∀ a b c d e h i,f a b c d e h i=g a b c d e h i):f=g:=funext λa=>fx6 (h0 a)
theorem fx8 {A B C D E H I J R:Type} {f g:A->B->C->D->E->H->I->J->R} (h0:∀ a b c d e h i j,f a b c d e h i j=g a b c d e h i j):f=g:=funext λa=>fx7 (h0 a)
theorem fx9 {A B C D E H I J K R:Type} {f g:A->B->C->D->E->H->I->J->K->R} (h0:∀ a b c d e h i j k,f a b c d e h i j k=g a b c d e h i j k):f=g:=funext λa=>fx8 (h0 a)
theorem Bs9 {A B C D E H I J K L R:Type} {f g:A->B->C->D->E->H->I->J->K->L->R} (h0:∀ a b c d e h i j k l,f a b c d e h i j k l=g a b c d e h i j k l):f=g:=funext λa=>fx9 (h0 a)
def Cc7 {α β:Type} (z:α) (f:β->List β->α->α):List β->α
 | []=>z
 | x::xs=>f x xs (Cc7 z f xs)
def Ld (n:Nat):PV->PV
 | .s (.sl z t k els)=>if n=0 then .s (.sl z t k els) else if k=n then .s (.sl z t k els) else .s (.sl z t (cond z n k) els)
 | v=>v
def Ls:List Nat->List PV->List PV
 | n::r,v::l=>Ld n v::Ls r l
 | _,l=>l
def Ca6 (szs:List Nat):PV->PV
 | .agg l=>.agg (Ls szs l)
 | v=>Ld (szs.headD 0) v
def E2:List (List Nat)->List PV->List PV
 | s::r,v::l=>Ca6 s v::E2 r l
 | _,l=>l
section
variable {Γ : Ctx} {sh : Nat -> Option Shp} {w : World}
theorem Xz {n:Nat} {v:PV} {V:Value} (h:VP Γ sh w v V):VP Γ sh w (Ld n v) V:=by
 unfold Ld
 split
 ·rename_i z t k els
  split
  ·exact h
  ·split
   ·exact h
   ·cases z with
    | false=>exact h
    | true=>
     have hs:=h.inv_s
     cases hs with
     | nil=>exact .s _ _ (.nil _ _)
 ·exact h
theorem Qx:∀ (szs:List Nat) (l:List PV),(Ls szs l).length=l.length
 | [],_=>rfl
 | _::_,[]=>rfl
 | n::r,v::l=>by simp [Ls,Qx r l]
theorem BA:∀ (szs:List Nat) (l:List PV) (j:Nat) (h:j<l.length) (h':j<(Ls szs l).length),∃ n,(Ls szs l)[j]=Ld n l[j]
 | [],l,j,h,h'=>⟨0,by
  have e:Ls [] l=l:=by cases l<;>rfl
  simp only [e]
  unfold Ld
  split
  ·rename_i he;rw [he];simp
  ·rfl⟩
 | n::r,v::l,0,h,h'=>⟨n,rfl⟩
 | n::r,v::l,j+1,h,h'=>by
  obtain ⟨m,e⟩:=BA r l j (by simpa using h) (by simpa [Ls] using h')
  exact ⟨m,by simpa [Ls] using e⟩
theorem Bs7 {szs:List Nat} {v:PV} {V:Value} (h:VP Γ sh w v V):VP Γ sh w (Ca6 szs v) V:=by
 unfold Ca6
 split
 ·rename_i l
  obtain ⟨A,rfl,hA,hc⟩:=h.inv_agg
  refine VP.mk_agg (by rw [Qx];exact hA) λj hj=>?_
  have hj':j<l.length:=by rw [Qx] at hj;exact hj
  obtain ⟨U,e,k⟩:=hc j hj'
  obtain ⟨m,e2⟩:=BA szs l j hj' hj
  exact ⟨U,e,by rw [e2];exact Xz k⟩
 ·exact Xz h
theorem QB:∀ (szs:List (List Nat)) (l:List PV),(E2 szs l).length=l.length
 | [],_=>rfl
 | _::_,[]=>rfl
 | n::r,v::l=>by simp [E2,QB r l]
theorem Bs8:∀ (szs:List (List Nat)) (l:List PV) (V:Array Value),CR Γ sh w l V->CR Γ sh w (E2 szs l) V:=by
 intro szs l V h
 refine ⟨by rw [QB];exact h.1,?_⟩
 have key:∀ (szs:List (List Nat)) (l:List PV) (As:Nat->Option Value),(∀ j (h:j<l.length),∃ U,As j=some U/\VP Γ sh w (l[j]) U)->∀ j (h:j<(E2 szs l).length),∃ U,As j=some U/\VP Γ sh w ((E2 szs l)[j]) U:=by
  intro szs
  induction szs with
  | nil=>intro l As hl j hj;exact hl j (by cases l<;>exact hj)
  | cons s r ih=>
   intro l As hl j hj
   cases l with
   | nil=>simp [E2] at hj
   | cons v l=>
    cases j with
    | zero=>
     obtain ⟨U,e,k⟩:=hl 0 (by simp)
     exact ⟨U,e,Bs7 k⟩
    | succ j=>
     have:=ih l (λj=>As (j+1)) (λj h=>hl (j+1) (by simpa using h)) j (by simpa [E2] using hj)
     simpa [E2] using this
 exact key szs l (λj=>V[j]?) h.2
end
theorem C0.fix {P:Program} {G:GT} {g:Nat} {pf:List PV->Tr} (szs:List (List Nat)) (h:C0 P G g pf):C0 P G g (λargs=>pf (E2 szs args)):=
 λargs ret Hc hpf C hP hGe Γ w Vs hnm hH hG hc=>h (E2 szs args) ret Hc hpf C hP hGe Γ w Vs hnm hH hG (Bs8 szs args Vs hc)
theorem L7 {v:PV} {H:List Blk} {ret:PV} {Hc:List Blk} (h:M0 (.ret v H)=some (ret,Hc)):ret=v/\Hc=H:=by
 simp only [M0,Fr,Option.some.injEq,Prod.mk.injEq] at h
 grind
theorem F3 {c:Bool} {t:Tr} {ret:PV} {Hc:List Blk} (h:M0 (.need c t)=some (ret,Hc)):c=true/\M0 t=some (ret,Hc):=by
 cases c with
 | true=>exact ⟨rfl,h⟩
 | false=>cases h
theorem Bm1 {c:Bool} {a b:Tr} {ret:PV} {Hc:List Blk} (h:M0 (.split c a b)=some (ret,Hc)):(c=true/\M0 a=some (ret,Hc))\/(c=false/\M0 b=some (ret,Hc)):=by
 cases c with
 | true=>exact .inl ⟨rfl,h⟩
 | false=>exact .inr ⟨rfl,h⟩
theorem B65:∃ n:Nat,100000000000000000000<=n:=⟨_,Nat.le_refl _⟩
noncomputable def LF:Nat:=Classical.choose B65
theorem D7:100000000000000000000<=LF:=Classical.choose_spec B65
attribute [irreducible] LF
theorem Aw1 (b:UInt8):Lc (E3 b)=b:=by
 simp [Lc,E3,SV.gI]
theorem Y9 (l:List UInt8):(l.map E3).map Lc=l:=by
 rw [List.map_map]
 have:Lc ∘ E3=id:=by funext b;exact Aw1 b
 rw [this,List.map_id]
theorem Ax8 (b:UInt8):Lt (E3 b)=true:=by
 have:=b.toNat_lt
 simp only [Lt,E3,Bool.and_eq_true,decide_eq_true_eq]
 omega
theorem Y5 (l:List UInt8):(l.map E3).all Lt=true:=by
 rw [List.all_map]
 simp [Function.comp_def,Ax8]
theorem Ce8 (n:Nat):IntKind.wrap .u8 (n:Int)=((n % 256:Nat):Int):=by simp [IntKind.wrap,IntKind.bits,IntKind.signed]
theorem At7 (n:Nat):IntKind.wrap .u16 (n:Int)=((n % 65536:Nat):Int):=by simp [IntKind.wrap,IntKind.bits,IntKind.signed]
theorem B40 (n:Nat):IntKind.wrap .u32 (n:Int)=((n % 4294967296:Nat):Int):=by simp [IntKind.wrap,IntKind.bits,IntKind.signed]
theorem B41 (n:Nat):IntKind.wrap .u64 (n:Int)=((n % 18446744073709551616:Nat):Int):=by simp [IntKind.wrap,IntKind.bits,IntKind.signed]
theorem B39 (n:Int) (h0:-9223372036854775808<=n) (h1:n<9223372036854775808):IntKind.wrap .i64 n=n:=by
 simp [IntKind.wrap,IntKind.bits,IntKind.signed]
 split<;>omega
theorem Bd5 (n m:Nat):Int.fdiv (n:Int) (m:Int)=((n / m:Nat):Int):=by
 rw [Int.fdiv_eq_ediv_of_nonneg _ (by omega)]
 rfl
theorem L9 (n m:Nat):Int.tdiv (n:Int) (m:Int)=((n / m:Nat):Int):=by
 rw [Int.tdiv_eq_ediv_of_nonneg (by omega)]
 rfl
theorem Fx (n m:Nat):Int.tmod (n:Int) (m:Int)=((n % m:Nat):Int):=by
 rw [Int.tmod_eq_emod_of_nonneg (by omega)]
 rfl
theorem B97 (w a b:Nat) (ha:a<2 ^ w) (hb:b<2 ^ w):(BitVec.ofInt w (a:Int) ||| BitVec.ofInt w (b:Int)).toNat=a ||| b:=by
 simp [BitVec.ofInt_natCast,Nat.mod_eq_of_lt ha,Nat.mod_eq_of_lt hb]
theorem Cc3 (a b i:Nat) (h:a<2 ^ i):a ||| (b*2 ^ i)=a+b*2 ^ i:=by
 rw [Nat.mul_comm b,Nat.or_comm,Nat.add_comm]
 exact (Nat.two_pow_add_eq_or_of_lt h b).symm
theorem Ak1 (n:Nat):E3 (UInt8.ofNat n)=[SV.int .u8 ((n % 256:Nat):Int)]:=by simp [E3]
end
section
open Go Go.ChangeShapes Go.RowKit Go.Sort Go.WideShapes
theorem Cj {P:Program} {f:Nat} {fn:Func} {Vs:Array Value} {w:World} {R:Value->World->Prop} (hf:P.funcs[f]? = some fn) (hb:fn.body.isSome=true) (hn:(fn.name == "runtime.NumGoroutine")=false)
  (h:Calls P f Vs w λe w'=>∃ V,e = .returned V/\R V w'):O4 P ((callFunc f Vs).run P w) R:=by
 obtain ⟨c,hb⟩:=Option.isSome_iff_exists.1 hb
 intro ro n o a next Q hnext
 have hrun:(callFunc f Vs).run P w = .ok (.enter f Vs) w:=by
  have hn':¬ fn.name = "runtime.NumGoroutine":=by simpa using hn
  simp [callFunc,hf,hb,hn',Result.andThen]
 rw [hrun]
 simp only [Oper.uponIn_enter]
 refine ⟨λh=>(by simp [G6,Fence.wide] at h),?_⟩
 have key:CallsIn Fence.wide (n-1) P f Vs w λe w'=>∃ V,e = .returned V/\R V w':=callsIn_wide.2 h
 have key':CallsIn (G6 ro) (n-1) P f Vs w λe w'=>∃ V,e = .returned V/\R V w':=key
 refine key'.mono ?_
 rintro e w' ⟨V,rfl,hR⟩
 exact hnext V w' hR
theorem Bc5 {C:Cfg} {Γ:Ctx} {w w':World} {ret:PV} {V:Value} (hnm:∀ b,Γ.nm b=none) (hH:HR Γ [] w) (hb:Below w.heap.size w w') (hv:VP Γ (A2 []) w' ret V) (hr:ret.nms=[]):Ck C I0 Γ [] w noΦ ret [] () V w':=by
 refine ⟨Γ,noΦ,⟨hb.os,hb.tape,hb.output,hb.size,λ_ h=>h,λ_ h=>.inl h,λb g h=>(by rw [hnm] at h;cases h),λ_ h=>h.elim,λg hg _ _=>hb.block g hg,rfl,Nat.le_refl _,λb h=>(by simp at h)⟩,
  ⟨λb b' g h=>(by rw [hnm] at h;cases h),λb g h=>(by rw [hnm] at h;cases h),λg hg=>Nat.lt_of_lt_of_le (hH.stlt g hg) hb.size,λb h=>(by simp at h),λb h=>(by simp at h)⟩,hv,by rw [hr];simp,λ_ h=>h,λb g h=>(by rw [hnm] at h;cases h)⟩
theorem Wm (w:World) (n:Nat):Below w.heap.size w (w.drewN n):=⟨rfl,rfl,rfl,Nat.le_refl _,λ_ _=>rfl⟩
theorem WE (w:World) (os:Array Obj):Below w.heap.size w (grow w os):=by
 refine ⟨rfl,rfl,rfl,by simp [grow],λk hk=>?_⟩
 simp only [grow]
 grind
theorem WF (w:World) (s:ByteArray) (pos:Nat):Below w.heap.size w (w.iter s pos):=(Below.refl _ w).alloc (Nat.le_refl _) _
section
variable {Γ : Ctx} {sh : Nat -> Option Shp} {w : World}
theorem CR.arr1 {a:PV} {A:Array Value} (h:CR Γ sh w [a] A):∃ U,A = #[U]/\VP Γ sh w a U:=by
 obtain ⟨U,e,k⟩:=h.2 0 (by simp)
 refine ⟨U,?_,k⟩
 have hs:A.size=1:=h.1
 grind
theorem CR.arr2 {a b:PV} {A:Array Value} (h:CR Γ sh w [a,b] A):∃ U V,A = #[U,V]/\VP Γ sh w a U/\VP Γ sh w b V:=by
 obtain ⟨U,e,k⟩:=h.2 0 (by simp)
 obtain ⟨V,e',k'⟩:=h.2 1 (by simp)
 refine ⟨U,V,?_,k,k'⟩
 have hs:A.size=2:=h.1
 grind
theorem CR.arr3 {a b c:PV} {A:Array Value} (h:CR Γ sh w [a,b,c] A):∃ U V W,A = #[U,V,W]/\VP Γ sh w a U/\VP Γ sh w b V/\VP Γ sh w c W:=by
 obtain ⟨U,e,k⟩:=h.2 0 (by simp)
 obtain ⟨V,e',k'⟩:=h.2 1 (by simp)
 obtain ⟨W,e'',k''⟩:=h.2 2 (by simp)
 refine ⟨U,V,W,?_,k,k',k''⟩
 have hs:A.size=3:=h.1
 grind
theorem VP.mk_str (l:List UInt8):VP Γ sh w (.s (.str l)) (.string ⟨l.toArray⟩):=by
 have:=VP.s (Γ:=Γ) (sh:=sh) (w:=w) _ _ (VS.str (St:=Γ.St) (w:=w) ⟨l.toArray⟩)
 omega
theorem VP.mk_int (k:IntKind) (n:Int):VP Γ sh w (.s (.int k n)) (.int k n):=.s _ _ (.int k n)
theorem VP.mk_bool (b:Bool):VP Γ sh w (.s (.bool b)) (.bool b):=.s _ _ (.bool b)
theorem VP.mk_tup3 {a b c:PV} {U V W:Value} (h:VP Γ sh w a U) (k:VP Γ sh w b V) (l:VP Γ sh w c W):VP Γ sh w (.tup [a,b,c]) (.tuple #[U,V,W]):=
 VP.mk_tup rfl λj hj=>by grind
end
theorem P8 {P:Program} {G:GT} {g:Nat} {fn:Func} {pf:List PV->Tr} (hf:P.funcs[g]? = some fn) (hb:fn.body.isSome=true) (hn:(fn.name == "runtime.NumGoroutine")=false)
  (h:∀ args ret Hc,M0 (pf args)=some (ret,Hc)->Hc=[]/\ret.nms=[]/\∀ C:Cfg,C.P=P->C.G=G->∀ Γ w Vs,GOK C Γ.St w->(∀ g,Γ.St g->g<w.heap.size)->CR Γ (A2 []) w args Vs->
   Calls P g Vs w λe w'=>∃ V,e = .returned V/\Below w.heap.size w w'/\VP Γ (A2 []) w' ret V):C0 P G g pf:=by
 intro args ret Hc hpf C hP hG Γ w Vs hnm hH hg hc
 obtain ⟨rfl,hr,h1⟩:=h args ret Hc hpf
 exact Cj hf hb hn ((h1 C hP hG Γ w Vs hg hH.stlt hc).mono λe w' ⟨V,he,hb,hv⟩=>⟨V,he,Bc5 hnm hH hb hv hr⟩)
def PV.stab (szs:List Nat) (H:List Blk):PV->PV
 | .tup l=>.tup (Ls szs (L5 H l))
 | v=>Ld (szs.headD 0) (v.snap H)
theorem VP.stab {Γ:Ctx} {H:List Blk} {w:World} (szs:List Nat) (hH:HR Γ H w) {v:PV} {V:Value} (h:VP Γ (A2 H) w v V):VP Γ.all (A2 H) w (v.stab szs H) V:=by
 by_cases ht:∃ l,v = .tup l
 ·obtain ⟨l,rfl⟩:=ht
  obtain ⟨A,rfl,hA,hc⟩:=h.inv_tup
  simp only [PV.stab]
  have hl:(Ls szs (L5 H l)).length=l.length:=by rw [Qx,Fu,List.length_map]
  refine VP.mk_tup (by rw [hl];exact hA) λj hj=>?_
  obtain ⟨U,e,k⟩:=hc j (by omega)
  refine ⟨U,e,?_⟩
  have hj':j<(L5 H l).length:=by rw [Fu,List.length_map];omega
  obtain ⟨n,en⟩:=BA szs (L5 H l) j hj' hj
  rw [en]
  have e2:(L5 H l)[j]=(l[j]'(by omega)).snap H:=by
   simp only [Fu,List.getElem_map]
  rw [e2]
  exact Xz (k.snap hH)
 ·have e:v.stab szs H=Ld (szs.headD 0) (v.snap H):=by
   cases v with
   | tup l=>exact absurd ⟨l,rfl⟩ ht
   | _=>rfl
  rw [e]
  exact Xz (h.snap hH)
theorem Al6 (f:List Blk->PV->PV) (hf:∀ {Γ:Ctx} {H:List Blk} {w:World},HR Γ H w->∀ {v:PV} {V:Value},VP Γ (A2 H) w v V->VP Γ.all (A2 H) w (f H v) V) {C₀:Cfg} {g:Nat} {pf:List PV->Tr} (hX:XOK C₀) (hO:Gd C₀) (hm:C₀.P.follows .mixedOrders=true)
  (h:∀ args ret Hc,M0 (pf args)=some (ret,Hc)->C9 args=[]/\Hc=[]/\ret.nms=[]/\∃ d ret' H0,evC C₀ d Unit noY g args [] ()=some (ret',H0,())/\f H0 ret'=ret):C0 C₀.P C₀.G g pf:=by
 intro args ret Hc hpf C hP hGe Γ w Vs hnm hH hG hc
 obtain ⟨hna,rfl,hnr,d,ret',H0,hev,rfl⟩:=h args ret Hc hpf
 have h0:=Gx (C₀:=C₀) (g:=g) (pf:=λa=>match evC C₀ d Unit noY g a [] () with | some (r,H,_)=>cond (C9 a).isEmpty (.ret r H) .fail | none=>.fail) hX hO hm (λa r H hr=>by
  split at hr
  ·rename_i r' H' _ he
   cases hn:(C9 a).isEmpty with
   | true=>
    rw [hn] at hr
    simp only [cond_true,M0,Fr,Option.some.injEq,Prod.mk.injEq] at hr
    grind
   | false=>rw [hn] at hr;cases hr
  ·cases hr)
 refine (h0 args ret' H0 (by dsimp only;rw [hev];dsimp only;rw [hna];rfl) C hP hGe Γ w Vs hnm hH hG hc).mono ?_
 rintro V w' ⟨Γ1,Φ1,hs,hH1,hv,hvn,hi1,hd1⟩
 let Γ2:Ctx:={ Γ1.all with nm:=λ_=>none }
 have hlt:∀ g,Γ2.St g->g<w'.heap.size:=λg hg=>by
  rcases hg with hg | ⟨b,hb⟩
  ·exact hH1.stlt g hg
  ·exact (hH1.lt b g hb).2.1
 refine ⟨Γ2,Φ1,⟨hs.os,hs.tape,hs.output,hs.size,λg hg=>.inl (hs.sub g hg),λg hg=>?_,λb g h=>by simp [Γ2] at h,hs.foot,hs.frame,hs.yv,Nat.le_refl _,λb hb=>by simp at hb⟩,
  Ja (λ_=>rfl) hlt,?_,by rw [hnr];simp,hi1,λb g h=>by simp [Γ2] at h⟩
 ·rcases hg with hg | ⟨b,hb⟩
  ·exact hs.stnew g hg
  ·rcases hs.own b g hb with ⟨h',_⟩ | h'
   ·simp at h'
   ·exact .inr h'
 ·exact VP.mono (Γ:=Γ1.all) (Γ':=Γ2) (w:=w') (w':=w') (sh:=A2 H0) (ok:=λ_=>False) ⟨λ_ _=>rfl,λ_ h=>h,λ_ h=>h.elim,λ_ h=>h.elim,λ_ _ h=>h.elim,rfl⟩ (hf hH1 hv) (by rw [hnr];simp)
theorem R3 (szs:List Nat) {C₀:Cfg} {g:Nat} {pf:List PV->Tr} (hX:XOK C₀) (hO:Gd C₀) (hm:C₀.P.follows .mixedOrders=true)
  (h:∀ args ret Hc,M0 (pf args)=some (ret,Hc)->C9 args=[]/\Hc=[]/\ret.nms=[]/\∃ d ret' H0,evC C₀ d Unit noY g args [] ()=some (ret',H0,())/\ret'.stab szs H0=ret):C0 C₀.P C₀.G g pf:=
 Al6 (λH v=>v.stab szs H) (λhH _ _ h=>h.stab szs hH) hX hO hm h
def Tr.Good (szs:List Nat) (args:List PV) (e:Option (PV × List Blk × Unit)):Tr->Prop
 | .ret v H=>C9 args=[]/\H=[]/\v.nms=[]/\∃ r H0,e=some (r,H0,())/\r.stab szs H0=v
 | .need c t=>c=true->Good szs args e t
 | .split c a b=>(c=true->Good szs args e a)/\(c=false->Good szs args e b)
 | .fail=>True
theorem Tr.Good.res {szs:List Nat} {args:List PV} {e:Option (PV × List Blk × Unit)} {ret:PV} {Hc:List Blk}:∀ {t:Tr},t.Good szs args e->M0 t=some (ret,Hc)->C9 args=[]/\Hc=[]/\ret.nms=[]/\∃ r H0,e=some (r,H0,())/\r.stab szs H0=ret
 | .ret v H,h,hr=>by
  obtain ⟨rfl,rfl⟩:=L7 hr
  exact h
 | .need c t,h,hr=>by
  obtain ⟨h0,hr⟩:=F3 hr
  exact res (h h0) hr
 | .split c a b,h,hr=>by
  rcases Bm1 hr with ⟨h0,hr⟩ | ⟨h0,hr⟩
  ·exact res (h.1 h0) hr
  ·exact res (h.2 h0) hr
theorem xf (szs:List Nat) (C₀:Cfg) {g:Nat} (pf:List PV->Tr) {ss:List (List Nat)} {l:List (Nat × (List PV->Tr))} {lo:List Nat} (hl:C₀.X=NZ l) (hx:N6 C₀.P C₀.G l) (ho:C₀.okf=okL lo) (hb:ZK C₀ lo=true) (hm:C₀.P.follows .mixedOrders=true)
  (h:∀ args,(pf args).Good szs args (evC C₀ 1 Unit noY g args [] ())) (h2:C₀.Y=Im []:=by rfl) (h3:C₀.S=Im []:=by rfl) (h4:C₀.Z=Im []:=by rfl):C0 C₀.P C₀.G g (λargs=>pf (E2 ss args)):=
 C0.fix ss (R3 szs (N6.ok hl hx h2 h3 h4) (J0 ho hb) hm λargs ret Hc hr=>by
  obtain ⟨q1,q2,q3,r,H0,q4,q5⟩:=(h args).res hr
  exact ⟨q1,q2,q3,1,r,H0,q4,q5⟩)
end
section
open Go
def YJ (n:Nat) (ret:PV) (H:List Blk):Bool:=ret.nms.all (Nat.blt · n)&&H.all λb=>b.nms.all (Nat.blt · n)
theorem Ck.head {C:Cfg} {σ:Type} {I:σ->(Nat->Prop)->(Nat->Prop)->World->Prop} {Γ:Ctx} {H Hc T:List Blk} {w w':World} {Φ:Nat->Prop} {s':σ} {ret:PV} {V:Value}
  (h:Ck C I Γ H w Φ ret (Hc++T) s' V w') (hl:H.length<=Hc.length) (hok:YJ Hc.length ret Hc=true):Ck C I Γ H w Φ ret Hc s' V w':=by
 obtain ⟨Γ1,Φ1,hs,hH1,hv,hvn,hi1,hd1⟩:=h
 simp only [YJ,Bool.and_eq_true,List.all_eq_true,Nat.blt_eq] at hok
 let Γ2:Ctx:={ Γ1 with nm:=λb=>if b<Hc.length then Γ1.nm b else none }
 have hnm:∀ b g,Γ2.nm b=some g->b<Hc.length/\Γ1.nm b=some g:=λb g h=>by grind
 have get:∀ b (h:b<Hc.length) (h':b<(Hc++T).length),(Hc++T)[b]=Hc[b]:=λb h h'=>List.getElem_append_left h
 have shp:∀ b,b<Hc.length->A2 Hc b=A2 (Hc++T) b:=λb hb=>by
  simp only [A2]
  grind
 have M:Y4 Γ1 (A2 (Hc++T)) w' Γ2 (A2 Hc) w' (· < Hc.length):=⟨λ_ _=>rfl,λ_ h=>h,λb hb=>by simp only [Γ2];rw [if_pos hb],λb hb=>shp b hb,λ_ _ _ _=>rfl,rfl⟩
 refine ⟨Γ2,Φ1,⟨hs.os,hs.tape,hs.output,hs.size,hs.sub,hs.stnew,λb g h=>hs.own b g (hnm b g h).2,hs.foot,hs.frame,hs.yv,hl,λb hb hf=>?_⟩,
  ⟨λb b' g h1 h2=>hH1.inj b b' g (hnm b g h1).2 (hnm b' g h2).2,λb g h=>by have:=hH1.lt b g (hnm b g h).2;exact ⟨(hnm b g h).1,this.2⟩,hH1.stlt,λb hb c hc=>hok.2 _ (List.getElem_mem hb) c hc,λb hb=>?_⟩,
  hv.mono M (λb hb=>hok.1 b hb),λc hc=>hok.1 c hc,hi1,λb g h=>hd1 b g (hnm b g h).2⟩
 ·obtain ⟨m1,m2,m3⟩:=hs.keep b hb hf
  have hb2:b<Hc.length:=Nat.lt_of_lt_of_le hb hl
  exact ⟨by simp only [Γ2];rw [if_pos hb2];exact m1,by rw [shp b hb2];exact m2,m3⟩
 ·have hb':b<(Hc++T).length:=by rw [List.length_append];omega
  have:=hH1.blk b hb'
  rw [get b hb hb'] at this
  exact this.mono M (M.nm b hb) (λ_ _=>rfl) (λc hc=>hok.2 _ (List.getElem_mem hb) c hc)
theorem Ec {C₀:Cfg} {g:Nat} {pf:List PV->List Blk->Tr} (hX:XOK C₀) (hO:Gd C₀) (hm:C₀.P.follows .mixedOrders=true)
  (h:∀ args H ret Hc,M0 (pf args H)=some (ret,Hc)->Nat.ble H.length Hc.length=true/\YJ Hc.length ret Hc=true/\∀ (σ:Type) (yh:Yh σ) (s:σ),∃ d H0,evC C₀ d σ yh g args H s=some (ret,H0,s)/\H0.take Hc.length=Hc):Wj C₀.P C₀.G g pf:=by
 intro C hP hG σ I yh yv hI hy args H s ret Hc hpf Γ Φ w Vs hyv hH hg hi hd hc hn
 obtain ⟨hl,hok,h1⟩:=h args H ret Hc hpf
 obtain ⟨d,H0,hev,ht⟩:=h1 σ yh s
 rw [<-List.take_append_drop Hc.length H0,ht] at hev
 refine (Hy hX hO hm d σ I yh yv hI hy g args H s ret (Hc++H0.drop Hc.length) s hev Γ Φ w Vs hyv hH (hg.congr hG.symm) hi hd hc hn).mono ?_
 rintro V w' hr
 obtain ⟨Γ1,Φ1,hs,k1,k2,k3,k4,k5⟩:=hr.head (Nat.le_of_ble_eq_true hl) hok
 exact ⟨Γ1,Φ1,hs.congr hP.symm,k1,k2,k3,k4,k5⟩
def Zw (P:Program):List (Nat × (SV->List (List SV)->Bool × List (List SV)))->Prop
 | []=>True
 | (g,pf)::r=>OW P g pf/\Zw P r
theorem Zw.mem {P:Program}:∀ {l:List (Nat × (SV->List (List SV)->Bool × List (List SV)))} {g:Nat} {pf:SV->List (List SV)->Bool × List (List SV)},Zw P l->(g,pf)∈l->OW P g pf
 | [],_,_,_,hm=>by simp at hm
 | (n,q)::r,g,pf,h,hm=>by
  rcases List.mem_cons.1 hm with e | hm
  ·cases e;exact h.1
  ·exact Zw.mem h.2 hm
theorem Cl8 {C:Cfg} {lx:List (Nat × (List PV->Tr))} {ly:List (Nat × (List PV->List Blk->Tr))} {ls:List (Nat × (List PV->List Blk->Option (Bool × List (List PV))))} {lz:List (Nat × (SV->List (List SV)->Bool × List (List SV)))} (h1:C.X=NZ lx) (h2:C.Y=Im ly) (h3:C.S=Im ls) (h4:C.Z=Im lz) (x:N6 C.P C.G lx) (y:Gz C.P C.G ly) (s:Gy C.P C.G ls) (z:Zw C.P lz):XOK C:=
 ⟨N6.x1 h1 x,Gz.ok h2 y,Gy.ok h3 s,λg pf h=>by rw [h4] at h;exact z.mem (Tb h)⟩
def Eo:List Int:=(List.range 32).map λi=>((if i % 2=0 then Lib.accLo (i / 2) else Lib.accHi (i / 2):Nat):Int)
def GX:GT:=⟨λg=>cond (Nat.beq g 1) (some (.u8,Lib.firstTab)) (cond (Nat.beq g 2) (some (.u8,Eo)) (cond (Nat.beq g 3) (some (.u64,Lib.pow10Tab)) (cond (Nat.beq g 5) (some (.u8,Lib.deBruijn64tab.map λn:Nat=>(n:Int))) none))),λg=>Nat.beq g 0⟩
def Cj9:List (Nat × Nat × Nat × Nat)->Nat->Nat->Nat × Nat
 | [],_,_=>(0,0)
 | (t,j,e,k)::r,t',j'=>cond (Nat.beq t t'&&Nat.beq j j') (e,k) (Cj9 r t' j')
def B82:List (Nat × Nat)->Nat->Option Nat
 | [],_=>none
 | (a,b)::r,i=>cond (Nat.beq a i) (some b) (B82 r i)
noncomputable def C8 (lf:Nat) (okf:List Nat) (keep:Nat->Option (List Nat)) (X:List (Nat × (List PV->Tr))) (keepR:Nat->Option (List Nat):=λ_=>none) (xp:List Nat:=[]) (keepE:Nat->Option (List Nat):=λ_=>none) (keepT:Option (List Nat):=none) (Y:List (Nat × (List PV->List Blk->Tr)):=[]) (S:List (Nat × (List PV->List Blk->Option (Bool × List (List PV)))):=[]) (lend:List Nat:=[]) (nt:List (Nat × Nat × Nat × Nat):=[]) (rw:List (Nat × Nat):=[]) (Z:List (Nat × (SV->List (List SV)->Bool × List (List SV))):=[]) (fr:List (Nat × List Nat × List Nat):=[]):Cfg:=
 { P:=Tryz.prog,G:=GX,X:=NZ X,lend:=okL lend,okf:=okL okf,lf:=lf,keep:=keep,keepR:=keepR,xp:=okL xp,keepE:=keepE,keepT:=keepT,Y:=Im Y,S:=Im S,nilT:=Cj9 nt,rowR:=B82 rw,Z:=Im Z,farR:=A4 fr }
theorem follows:Tryz.prog.follows .mixedOrders=true:=by kernel_rfl
theorem A36 {n:Nat}:F1 n=true↔n<=68719476736:=by simp [F1]
theorem E0 {n:Nat} (h:n<=68719476736):F1 n=true:=A36.2 h
theorem C2 {a b:Int} (h:a<b):ltI a b=true:=by rw [Vo];simpa using h
theorem D1 {a b:Int} (h:b<=a):ltI a b=false:=by rw [Vo];simpa using h
theorem Aq4 {a b:Int}:ltI a b=true↔a<b:=by rw [Vo];simp
theorem D3 {n:Int} (h0:-9223372036854775808<=n) (h1:n<9223372036854775808):A1 n=n:=B39 n h0 h1
theorem Au0 {n:Int} (h0:0<=n) (h1:n<18446744073709551616):Bn8 n=n:=by
 obtain ⟨m,rfl⟩:=Int.eq_ofNat_of_zero_le h0
 unfold Bn8;rw [B41,Nat.mod_eq_of_lt (by omega)]
theorem At9 {n:Int} (h0:0<=n) (h1:n<4294967296):Wg n=n:=by
 obtain ⟨m,rfl⟩:=Int.eq_ofNat_of_zero_le h0
 unfold Wg;rw [B40,Nat.mod_eq_of_lt (by omega)]
theorem At8 {n:Int} (h0:0<=n) (h1:n<65536):Kn n=n:=by
 obtain ⟨m,rfl⟩:=Int.eq_ofNat_of_zero_le h0
 unfold Kn;rw [At7,Nat.mod_eq_of_lt (by omega)]
theorem OE {n:Int} (h0:0<=n) (h1:n<256):wu8 n=n:=by
 obtain ⟨m,rfl⟩:=Int.eq_ofNat_of_zero_le h0
 unfold wu8;rw [Ce8,Nat.mod_eq_of_lt (by omega)]
theorem A8 {a b:Int} (h:a<b:=by omega):ltI a b=true:=C2 h
theorem A7 {a b:Int} (h:b<=a:=by omega):ltI a b=false:=D1 h
theorem A5 {n:Int} (h:-9223372036854775808<=n:=by omega) (g:n<9223372036854775808:=by omega):A1 n=n:=D3 h g
theorem Mo {n:Int} (h:0<=n:=by omega) (g:n<4294967296:=by omega):Wg n=n:=At9 h g
theorem Mn {n:Int} (h:0<=n:=by omega) (g:n<65536:=by omega):Kn n=n:=At8 h g
theorem N2 {n:Int} (h:0<=n:=by omega) (g:n<256:=by omega):wu8 n=n:=OE h g
theorem V7 {α:Sort _} {c:Prop} [Decidable c] {a b:α} (h:c:=by omega):(if c then a else b)=a:=if_pos h
theorem I8 {α:Sort _} {c:Prop} [Decidable c] {a b:α} (h:¬c:=by omega):(if c then a else b)=b:=if_neg h
theorem UR (n:Nat):Kn (n:Int)=((n % 65536:Nat):Int):=At7 n
theorem NS (k:IntKind) (a m:Nat) (h:m<=k.bits):Ai9 k (a:Int) (m:Int)=((a / 2 ^ m:Nat):Int):=by
 unfold Ai9
 rw [Int.toNat_natCast,Nat.min_eq_left h]
 have:(2:Int) ^ m=((2 ^ m:Nat):Int):=by simp
 rw [this,Bd5]
theorem Bm7 {n:Nat} (h:n<256):[SV.int .u8 (n:Int)]=E3 (UInt8.ofNat n):=by
 rw [Ak1,Nat.mod_eq_of_lt h]
theorem T3 {l h:Int} {n:Nat} (h0:0<=l) (h1:l<=h) (h2:h<=n):P0 l h n=true:=by simp [P0,h0,h1,h2]
theorem K2 {i:Int} {n:Nat} (h0:0<=i) (h1:i<n):inR i n=true:=by simp [inR,h0,h1]
theorem P5 {l h:Int} {n:Nat} (h0:0<=l:=by omega) (h1:l<=h:=by omega) (h2:h<=n:=by omega):P0 l h n=true:=T3 h0 h1 h2
theorem I6 {i:Int} {n:Nat} (h0:0<=i:=by omega) (h1:i<n:=by omega):inR i n=true:=K2 h0 h1
end
section
open Go Go.Proofs
def Yn (r:Option (PV × List Blk × Unit)):Bool:=match r with
 | some (.s (.bool true),_,_)=>true
 | _=>false
theorem NG {r:Option (PV × List Blk × Unit)} (h:Yn r=true):∃ H,r=some (.s (.bool true),H,()):=by
 unfold Yn at h
 split at h
 ·exact ⟨_,rfl⟩
 ·cases h
theorem Al7 {C₀:Cfg} {g d:Nat} (hX:XOK C₀) (hO:Gd C₀) (hm:C₀.P.follows .mixedOrders=true) (h:Yn (evC C₀ d Unit noY g [] [] ())=true):C0 C₀.P C₀.G g (λargs=>match args with | []=>.ret (.s (.bool true)) [] | _=>.fail):=
 OG hX hO hm λargs ret Hc hr=>by
  cases args with
  | nil=>
   obtain ⟨rfl,rfl⟩:=L7 hr
   obtain ⟨H,e⟩:=NG h
   exact ⟨rfl,rfl,rfl,d,_,H,e,rfl⟩
  | cons a r=>cases hr
theorem Bq8 {P:Program} {t:Nat} {v:PV} {ty:Ty} (h:ER P t v) (e:Io P 20 t=some [ty]) (ha:Wk P t=false):∃ x,v = .s x/\ty.of x:=by
 obtain ⟨tys,l,h1,h2,h3⟩:=h
 rw [e] at h1
 simp only [Option.some.injEq] at h1
 subst h1
 rcases h3 with ⟨h3,_⟩ | ⟨_,x,rfl,rfl⟩
 ·rw [ha] at h3;cases h3
 ·simp only [Ty.ofL] at h2
  obtain ⟨v,q,h4,h5,rfl⟩:=h2
  simp only [List.cons.injEq,and_true] at h4
  subst h4
  exact ⟨_,rfl,h5⟩
theorem Bq9 {P:Program} {t:Nat} {v:PV} (h:ER P t v) (e:Io P 20 t=some [.str]) (ha:Wk P t=false):∃ l,v = .s (.str l)/\l.length<=maxLen:=by
 obtain ⟨x,rfl,l,rfl,h1⟩:=Bq8 h e ha
 exact ⟨l,rfl,h1⟩
end
section
open Go
def C6 (l:List By):LL:=l.map λs=>[SV.str s]
def F2 (l:List Nat):LL:=l.map λn=>[SV.int .u16 (Int.ofNat n)]
def J6 (c:UInt8):By->By->List By
 | acc,[]=>[acc]
 | acc,b::r=>if b=c then acc::J6 c [] r else J6 c (acc++[b]) r
def pcs (c:UInt8) (s:By):List By:=J6 c [] s
theorem Gv (c:UInt8):∀ (s acc:By),(J6 c acc s).length=s.count c+1
 | [],acc=>rfl
 | b::r,acc=>by
  simp only [J6,List.count_cons]
  by_cases h:b=c
  ·simp [h,Gv c r]
  ·simp [h,Gv c r]
theorem Ea (c:UInt8):∀ (s acc:By),c∉s->J6 c acc s=[acc++s]
 | [],acc,_=>by simp [J6]
 | b::r,acc,h=>by
  simp only [List.mem_cons,not_or] at h
  simp only [J6]
  rw [if_neg (λe=>h.1 e.symm),Ea c r _ h.2]
  simp
theorem Xo (c:UInt8):∀ (p acc s:By),c∉p->J6 c acc (p++c::s)=(acc++p)::J6 c [] s
 | [],acc,s,_=>by simp [J6]
 | b::r,acc,s,h=>by
  simp only [List.mem_cons,not_or] at h
  simp only [List.cons_append,J6]
  rw [if_neg (λe=>h.1 e.symm),Xo c r _ s h.2]
  simp
theorem Aj2 (c:UInt8) (s acc:By):J6 c acc s≠[]:=by
 intro h
 have:=Gv c s acc
 rw [h] at this
 simp at this
theorem Mi (c:UInt8):∀ (s acc:By),c∉acc->∀ x∈J6 c acc s,c∉x/\x.length<=acc.length+s.length
 | [],acc,h,x,hx=>by
  simp only [J6,List.mem_singleton] at hx
  subst hx
  exact ⟨h,by simp⟩
 | b::r,acc,h,x,hx=>by
  simp only [J6] at hx
  split at hx
  ·rcases List.mem_cons.1 hx with rfl | hx
   ·exact ⟨h,by simp⟩
   ·have:=Mi c r [] (by simp) x hx
    refine ⟨this.1,?_⟩
    have:=this.2
    simp at this ⊢
    omega
  ·rename_i hb
   have:=Mi c r (acc++[b]) (by simp [h,Ne.symm hb]) x hx
   refine ⟨this.1,?_⟩
   have:=this.2
   simp at this ⊢
   omega
def Gb (b:UInt8):UInt8:=if 65<=b/\b<=90 then b+32 else b
def C7 (s:By):By:=s.map Gb
def dig (b:UInt8):Nat:=
 if 48<=b.toNat/\b.toNat<=57 then b.toNat-48 else if 97<=b.toNat/\b.toNat<=102 then b.toNat-87 else if 65<=b.toNat/\b.toNat<=70 then b.toNat-55 else 99
def Ba:Nat:=1099511627776
def E7 (base:Nat):Nat->By->Option Nat
 | n,[]=>some n
 | n,b::r=>if dig b<base then E7 base (min (n*base+dig b) Ba) r else none
def Ao (s:By):Bool:=s.getD 0 0==48&&(s.getD 1 0==120 || s.getD 1 0==88)
def Z0 (s:By):Option Nat:=
 if s=[] then none else if Ao s then E7 16 0 (s.drop 2) else if 1<s.length/\s.getD 0 0=48 then E7 8 0 (s.drop 1) else E7 10 0 s
def D0 (s:By):List By:=if 1<(pcs 46 s).length/\(pcs 46 s).getLastD []=[] then (pcs 46 s).dropLast else pcs 46 s
def De (s:By):By:=(D0 s).getLastD []
def F6 (s:By):Bool:=if Ao (De s) then (E7 16 0 ((De s).drop 2)).isSome else !(De s).isEmpty&&(E7 10 0 (De s)).isSome
def EC (free:Nat):Nat->List By->Option Nat
 | _,[]=>none
 | v,p::r=>match Z0 p with
  | none=>none
  | some n=>match r with
   | []=>if n<2 ^ free then some (v*2 ^ free+n) else none
   | r=>if n<=255 then EC free (v*256+n) r else none
def pnB (s:By):Option Nat:=if 4<(D0 s).length then none else EC (8*(5-(D0 s).length)) 0 (D0 s)
def oct (s:By):Option Nat:=match E7 10 0 s with
 | some n=>if n<=255/\Lib.decDigits n=s then some n else none
 | none=>none
def CE:Nat->List By->Option Nat
 | v,[]=>some v
 | v,p::r=>match oct p with
  | some n=>CE (v*256+n) r
  | none=>none
def v4B (s:By):Option Nat:=if (pcs 46 s).length=4 then CE 0 (pcs 46 s) else none
def Fc:Nat->By->Option Nat
 | n,[]=>some n
 | n,b::r=>if dig b<16 then Fc (n*16+dig b) r else none
def grp (s:By):Option Nat:=if s=[]\/4<s.length then none else Fc 0 s
def Ga (last:Bool):List By->Option (List Nat)
 | []=>some []
 | x::r=>match grp x with
  | some v=>(Ga last r).map (v::·)
  | none=>match v4B x with
   | some v=>if last=true/\r=[] then some [v / 65536,v % 65536] else none
   | none=>none
def Q0 (s:By) (last:Bool):Option (List Nat):=if s=[] then some [] else Ga last (pcs 58 s)
def v6B (s:By):Option (List Nat):=
 match Q0 (Lib.cut s [58,58]).1 (!(Lib.cut s [58,58]).2.2),Q0 (Lib.cut s [58,58]).2.1 true with
 | some x,some y=>if (Lib.cut s [58,58]).2.2 then (if x.length+y.length<=7 then some (x++List.replicate (8-x.length-y.length) 0++y) else none)
   else if x.length+y.length=8 then some (x++y) else none
 | _,_=>none
def Cj3 (n:Nat):UInt8:=if n<10 then UInt8.ofNat (48+n) else UInt8.ofNat (87+n)
def Ca9 (v:Nat):By:=if h:v<16 then [Cj3 v] else Ca9 (v / 16)++[Cj3 (v % 16)]
 termination_by v
 decreasing_by omega
def Cj6 (l:List Nat):By:=Lib.join (l.map Ca9) [58]
def T7 (n:Nat):Bool:=Nat.ble n 1114111&&(Nat.blt n 55296 || Nat.blt 57343 n)
def Ug (d k:Nat):Nat:=if h:455<d then Ug (d / 35) (k+36) else k+36*d / (d+38)
 termination_by d
 decreasing_by omega
def P2 (delta count:Nat) (first:Bool):Nat:=
 let d:=if first then delta / 700 else delta / 2
 Ug (d+d / count) 0
def thr (k bias:Nat):Nat:=max 1 (min 26 (36*(k+1)-bias))
theorem U1 (k bias:Nat):1<=thr k bias/\thr k bias<=26:=by unfold thr;omega
def Y8 (d:Nat):UInt8:=if d<26 then UInt8.ofNat (97+d) else UInt8.ofNat (22+d)
def Lb (b:UInt8):Option Nat:=
 if 97<=b.toNat/\b.toNat<=122 then some (b.toNat-97) else if 65<=b.toNat/\b.toNat<=90 then some (b.toNat-65) else if 48<=b.toNat/\b.toNat<=57 then some (b.toNat-22) else none
def O6 (q k bias:Nat):By:=
 if h:q<thr k bias then [Y8 q] else Y8 (thr k bias+(q-thr k bias) % (36-thr k bias))::O6 ((q-thr k bias) / (36-thr k bias)) (k+1) bias
 termination_by q
 decreasing_by
  have:=U1 k bias
  exact Nat.lt_of_le_of_lt (Nat.div_le_self _ _) (by omega)
structure IC where
 delta:Nat
 bias:Nat
 done:Nat
 out:By
def I1 (n basic:Nat):List Nat->IC->IC
 | [],s=>s
 | p::r,s=>if p<n then I1 n basic r { s with delta:=s.delta+1 }
  else if p=n then I1 n basic r { delta:=0,bias:=P2 s.delta (s.done+1) (s.done==basic),done:=s.done+1,out:=s.out++O6 s.delta 0 s.bias }
  else I1 n basic r s
def H9 (n:Nat):List Nat->Nat->Nat
 | [],m=>m
 | p::r,m=>H9 n r (if n<=p then min m p else m)
def Q1 (pts:List Nat) (basic:Nat):Nat->Nat->IC->IC
 | 0,_,s=>s
 | f+1,n,s=>if s.done<pts.length then
   let m:=H9 n pts 1114112
   let s':=I1 m basic pts { s with delta:=s.delta+(m-n)*(s.done+1) }
   Q1 pts basic f (m+1) { s' with delta:=s'.delta+1 }
  else s
def I4 (pts:List Nat):By:=(pts.filter (· < 128)).map UInt8.ofNat
def Bj (pts:List Nat):By × Nat:=
 if 256<pts.length then ([],3) else if !(pts.all T7) then ([],2)
 else ((Q1 pts (I4 pts).length 256 128 { delta:=0,bias:=72,done:=(I4 pts).length,out:=if (I4 pts).isEmpty then [] else I4 pts++[45] }).out,0)
def D9 (bias:Nat):By->Nat->Nat->Nat->Nat × By × Nat
 | [],i,w,k=>(0,[],4)
 | b::r,i,w,k=>match Lb b with
  | none=>(0,[],4)
  | some x=>if Ba<i+x*w then (0,[],19) else if x<thr k bias then (i+x*w,r,0)
   else if Ba<w*(36-thr k bias) then (0,[],19) else D9 bias r (i+x*w) (w*(36-thr k bias)) (k+1)
theorem My (bias:Nat):∀ (s:By) (i w k:Nat),(D9 bias s i w k).2.2=0->(D9 bias s i w k).2.1.length<s.length
 | [],i,w,k,h=>by simp [D9] at h
 | b::r,i,w,k,h=>by
  unfold D9 at h ⊢
  cases hv:Lb b with
  | none=>simp [hv] at h
  | some x=>
   simp only [hv] at h ⊢
   split at h
   ·simp at h
   ·rename_i h1
    rw [if_neg h1]
    split at h
    ·rename_i h2
     rw [if_pos h2]
     simp
    ·rename_i h2
     rw [if_neg h2]
     split at h
     ·simp at h
     ·rename_i h3
      rw [if_neg h3]
      have:=My bias r _ _ _ h
      simp only [List.length_cons]
      omega
def T6 (l:List Nat) (i n:Nat):List Nat:=l.take i++n::l.drop i
def H7 (s:By) (pts:List Nat) (n i bias:Nat) (first:Bool):List Nat × Nat:=
 if hs:s=[] then (pts,0) else
  let q:=D9 bias s i 1 0
  if hq:q.2.2=0 then
   let count:=pts.length+1
   let n':=n+q.1 / count
   if T7 n' then (if 256<count then ([],3) else H7 q.2.1 (T6 pts (q.1 % count) n') n' (q.1 % count+1) (P2 (q.1-i) count first) false)
   else ([],2)
  else ([],q.2.2)
 termination_by s.length
 decreasing_by exact My bias s i 1 0 hq
def G7:By->Nat
 | []=>0
 | b::r=>if 45∈r then G7 r+1 else 0
def M8 (s:By):List Nat × Nat:=
 if 1024<s.length then ([],3) else if s.any (λb=>Nat.ble 128 b.toNat) then ([],4)
 else if 256<G7 s then ([],3)
 else H7 (if G7 s=0 then s else s.drop (G7 s+1)) ((s.take (G7 s)).map (·.toNat)) 128 0 72 true
def X6:Nat->By->Option (List Nat)
 | 0,_=>some []
 | f+1,l=>if l=[] then some [] else if (Lib.decodeL l).1=65533/\(Lib.decodeL l).2=1 then none else (X6 f (l.drop (Lib.decodeL l).2)).map ((Lib.decodeL l).1::·)
def Bx (s:By):Option (List Nat):=X6 s.length s
def Ce (s:By):Bool:=
 (M8 s).2==0 && !((M8 s).1.any λp=>Nat.ble 65 p&&Nat.ble p 90)&&((M8 s).1.any λp=>Nat.ble 128 p)&&(Bj (M8 s).1).2==0&&(Bj (M8 s).1).1==s
def V0 (b:UInt8):Bool:=(Nat.ble 97 b.toNat&&Nat.ble b.toNat 122) || (Nat.ble 48 b.toNat&&Nat.ble b.toNat 57) || b==45 || b==95
def xnB:By:=[120,110,45,45]
def K4 (s:By):Bool:=
 !s.isEmpty&&Nat.ble s.length 63&&s.getD 0 0 != 45&&s.getD (s.length-1) 0 != 45&&s.all V0&&(!(xnB.isPrefixOf s) || Ce (s.drop 4))
def I5 (s:By):By × Nat:=match Bx s with
 | none=>([],4)
 | some p=>if 256<p.length then ([],3)
  else if p.length<s.length then (match Bx (C7 s) with
   | none=>([],14)
   | some q=>if (Bj q).2=0 then (if K4 (xnB++(Bj q).1) then (xnB++(Bj q).1,0) else ([],14)) else ([],14))
  else if K4 (C7 s) then (C7 s,0) else ([],14)
def R4:By->Option By
 | []=>some []
 | b::r=>if b=37 then (match r with
   | x::y::r'=>if dig x<16/\dig y<16 then (R4 r').map (UInt8.ofNat (16*dig x+dig y)::·) else none
   | _=>none)
  else (R4 r).map (b::·)
structure E6 where
 kind:Nat
 name:By
 v4:Nat
 v6:List Nat
 deriving DecidableEq
def z8:List Nat:=[0,0,0,0,0,0,0,0]
def N8:E6:=⟨0,[],0,z8⟩
def F8:List By->List By × Nat
 | []=>([],0)
 | x::r=>if (I5 x).2=0 then ((I5 x).1::(F8 r).1,(F8 r).2) else ([],(I5 x).2)
def J7 (s:By):By:=if s.getLast? = some 46 then s.dropLast else s
def C4 (s:By):E6 × Nat:=
 if 1024<s.length then (N8,3)
 else if s.head? = some 91 then (if s.getLast? = some 93/\2<=s.length then (match v6B ((s.take (s.length-1)).drop 1) with
   | some a=>(⟨3,[],0,a⟩,0)
   | none=>(N8,14)) else (N8,14))
 else match R4 s with
  | none=>(N8,14)
  | some t=>if F6 (J7 t) then (match pnB (J7 t) with
    | some v=>(⟨2,[],v,z8⟩,0)
    | none=>(N8,14))
   else if (F8 (pcs 46 (J7 t))).2=0 then (
    let name:=Lib.join (F8 (pcs 46 (J7 t))).1 [46]
    if 253<name.length then (N8,3) else if F6 name then (N8,14) else (⟨1,name,0,z8⟩,0))
   else (N8,(F8 (pcs 46 (J7 t))).2)
def P7 (s:By):Bool:=Nat.ble s.length 253 && !(F6 s)&&(pcs 46 s).all K4
def Mj:List By->List By
 | []=>[]
 | [_]=>[]
 | _::r=>Lib.join r [46]::Mj r
def NX (s:By):List By:=if P7 s then Mj (pcs 46 s) else []
def A3 (n:Nat):Bool:=decide (n<=1000000000)
theorem HQ {n:Nat}:A3 n=true↔n<=1000000000:=by simp [A3]
def isS:List SV->Bool | [.str _]=>true | _=>false
def elS (el:List SV):By:=(el.getD 0 .nilp).gS
def M5 (o:Option Nat):Nat:=o.getD 0
def u8n (c:Int):UInt8:=UInt8.ofNat c.toNat
def OB (s p:By):By:=if p.isSuffixOf s then s.take (s.length-p.length) else s
def AQ (s p:By):By:=if p.isPrefixOf s then s.drop p.length else s
def ltN (v:Int) (n:Nat):Bool:=match v with
 | .ofNat m=>Nat.ble (m+1) n
 | .negSucc _=>false
theorem L8 {v:Int} {n:Nat}:ltN v n=true↔0<=v/\v<(n:Int):=by
 cases v with
 | ofNat m=>
  simp only [ltN,Nat.ble_eq,Int.ofNat_eq_natCast]
  omega
 | negSucc m=>
  refine ⟨λh=>(by cases h),λh=>?_⟩
  have:=Int.negSucc_lt_zero m
  omega
def Ge (b:Nat):List PV->Tr
 | [.s (.int .i64 n)]=>.need (ltN n b) (.ret (.s (.str (Lib.decDigits (Int.toNat n)))) [])
 | _=>.fail
def Iu (b:Nat) (args:List PV):Tr:=Ge b (E2 [[0]] args)
def gvs (s:By) (last:Bool):List Nat:=(Q0 s last).getD []
def v6c (i:Nat) (s:By):Nat:=((v6B s).getD z8).getD i 0
def B81:List SV->Bool | [.int .u16 n]=>ltN n 65536 | _=>false
def elN (el:List SV):Nat:=(el.getD 0 .nilp).gI.toNat
def AR (s:By):Int:=Lib.index s [58,58]
def ptI (n:Int):Bool:=match n with | .ofNat m=>T7 m | .negSucc _=>false
def E1 (b:UInt8):Int:=match Lb b with | some n=>n | none=>-1
def K9 (k b:Int):Int:=max 1 (min 26 (k+36-b))
def Kv:List SV->Bool | [.int .i64 _]=>true | _=>false
def elI (el:List SV):Int:=(el.getD 0 .nilp).gI
def U4 (l:List Int):By × Nat:=if 256<l.length then ([],3) else if l.all ptI then Bj (l.map Int.toNat) else ([],2)
def S8 (b:Int):By->Int->Int->Int->Int × By × Int
 | [],i,w,k=>(4,[],i)
 | c::r,i,w,k=>if E1 c<0 then (4,c::r,i) else if 1099511627776<i+E1 c*w then (19,r,i+E1 c*w)
  else if E1 c<K9 k b then (0,r,i+E1 c*w) else if 1099511627776<w*(36-K9 k b) then (19,r,i+E1 c*w)
  else S8 b r (i+E1 c*w) (w*(36-K9 k b)) (k+36)
def CC (b:Int) (s:By) (i:Int):Int:=(S8 b s i 1 0).1
def CD (b:Int) (s:By) (i:Int):By:=(S8 b s i 1 0).2.1
def Pq (b:Int) (s:By) (i:Int):Int:=(S8 b s i 1 0).2.2
def Jl (l:List (List SV)) (i:Nat) (n:Int):List (List SV):=l.take i++[SV.int .i64 n]::l.drop i
structure DS where
 rest:By
 n:Int
 i:Int
 b:Int
 st:Bool
 l:List (List SV)
def F0 (s:DS):Int × DS:=
 if CC s.b s.rest s.i=0 then
  let c:Int:=s.l.length+1
  let x:=Pq s.b s.rest s.i
  let d:DS:={ rest:=CD s.b s.rest s.i,n:=s.n+Int.tdiv x c,i:=Int.tmod x c,b:=P2 (x-s.i).toNat c.toNat (!s.st),st:=true,l:=s.l }
  if ptI d.n then (if 256<c then (3,d) else (0,{ d with i:=d.i+1,l:=Jl s.l d.i.toNat d.n })) else (2,d)
 else (CC s.b s.rest s.i,{ s with rest:=CD s.b s.rest s.i,i:=Pq s.b s.rest s.i })
def J4 (c:UInt8):By->Int
 | []=>-1
 | b::r=>if J4 c r<0 then (if b=c then 0 else -1) else J4 c r+1
def Jr (l:List Nat):List (List SV):=l.map λx:Nat=>[SV.int .i64 (x:Int)]
def Nv (s:By):List Nat:=(Bx s).getD []
def Di (b:UInt8):Int:=if dig b<16 then dig b else -1
def Dp (s:By):By:=(R4 s).getD []
def O8 (s:By):E6 × Nat:=if s.getLast? = some 93/\2<=s.length then (match v6B ((s.take (s.length-1)).drop 1) with
 | some a=>(⟨3,[],0,a⟩,0)
 | none=>(N8,14)) else (N8,14)
def Be9 (s:By):Bool:=([91]:By).isPrefixOf s
attribute [simp] C2 D1 D3 Au0 At9 At8 OE T3 K2 E0
attribute [simp] vl
@[simp] theorem F5 {n:Nat} (h:n<=1000000000):A3 n=true:=HQ.2 h
@[simp] theorem Xd {v:Int} {n:Nat} (h:0<=v) (h1:v<n):ltN v n=true:=L8.2 ⟨h,h1⟩
theorem Ch {n:Nat} (h:n<=1000000000:=by omega):A3 n=true:=F5 h
theorem N4 {v:Int} {n:Nat} (h:0<=v:=by omega) (g:v<n:=by omega):ltN v n=true:=Xd h g
@[simp] theorem Mx {m n:Nat} (h:m+n<4611686018427387904):Kr m n=true:=by simp [Kr,h]
abbrev rv (v:PV) (H:List Blk):Option (PV × List Blk × Unit):=some (v,H,())
theorem K8 {n:Nat} (h:A3 n=true):n<=1000000000:=HQ.1 h
theorem F7 (s:By) (i:Nat) (h:i<s.length):s.drop i=s.getD i 0::s.drop (i+1):=by
 rw [List.getD_eq_getElem?_getD,List.getElem?_eq_getElem h,Option.getD_some,List.getElem_cons_drop]
theorem HV (s:By) (i:Nat) (h:i<s.length):s.take (i+1)=s.take i++[s.getD i 0]:=by
 rw [List.take_add_one,List.getD_eq_getElem?_getD,List.getElem?_eq_getElem h]
 rfl
theorem BW (s:By) (i:Nat) (h:i<s.length):(C7 (s.take (i+1))).map E3=(C7 (s.take i)).map E3++[E3 (Gb (s.getD i 0))]:=by
 unfold C7
 rw [HV s i h,List.map_append,List.map_append]
 rfl
theorem Fg (b:UInt8):(b.toNat<65/\Gb b=b)\/(90<b.toNat/\Gb b=b)\/(65<=b.toNat/\b.toNat<=90/\((Gb b).toNat=b.toNat+32)):=by
 unfold Gb
 by_cases h1:b.toNat<65
 ·refine .inl ⟨h1,if_neg ?_⟩
  intro h
  have:=UInt8.le_iff_toNat_le.1 h.1
  simp at this
  omega
 ·by_cases h2:90<b.toNat
  ·refine .inr (.inl ⟨h2,if_neg ?_⟩)
   intro h
   have:=UInt8.le_iff_toNat_le.1 h.2
   simp at this
   omega
  ·refine .inr (.inr ⟨by omega,by omega,?_⟩)
   rw [if_pos (by constructor<;>(rw [UInt8.le_iff_toNat_le];simp;omega)),UInt8.toNat_add]
   simp
   omega
@[simp] theorem F4 (s:By) (i:Nat):bAt s (i:Int)=((s.getD i 0).toNat:Int):=by simp [bAt]
@[simp] theorem Hu (s:By):bAt s 0=((s.getD 0 0).toNat:Int):=by simp [bAt]
@[simp] theorem An7 (s:By):bAt s 1=((s.getD 1 0).toNat:Int):=by simp [bAt]
theorem Gg {α:Type} (s:List α) (a b:Nat):cut s (a:Int) (b:Int)=(s.take b).drop a:=by simp [cut]
@[simp] theorem Q8 {α:Type} (s:List α) (a:Int):cut s a (s.length:Int)=s.drop a.toNat:=by simp [cut]
@[simp] theorem Y7 {α:Type} (s:List α) (b:Int):cut s 0 b=s.take b.toNat:=by simp [cut]
@[simp] theorem D4 (l:List By):(C6 l).length=l.length:=by simp [C6]
@[simp] theorem O7 (l:List By) (i:Nat):gX (C6 l) i 0=l.getD i []:=by
 unfold gX gC C6
 by_cases h:i<l.length
 ·simp [List.getD_eq_getElem?_getD,List.getElem?_eq_getElem h,SV.gS]
 ·simp [List.getD_eq_getElem?_getD,List.getElem?_eq_none (show l.length<=i by omega),SV.gS]
@[simp] theorem L2 {l:List By} {i:Nat} (h:i<l.length):okE Gc (C6 l) i 0=true:=by
 unfold okE C6
 simp [List.getD_eq_getElem?_getD,List.getElem?_eq_getElem h,h,Gc,okS,SV.has]
theorem Fv (a b:List By):C6 (a++b)=C6 a++C6 b:=by simp [C6]
theorem Nu (b:UInt8):u8n (b.toNat:Int)=b:=by simp [u8n]
theorem OC (b:UInt8):inR (b.toNat:Int) 256=true:=by
 have:=b.toNat_lt
 exact I6
theorem B84 {a b:UInt8}:((a.toNat:Int)==(b.toNat:Int))=(a==b):=by
 rw [Bool.eq_iff_iff]
 simp only [beq_iff_eq]
 constructor
 ·intro h;exact UInt8.toNat_inj.1 (by omega)
 ·intro h;rw [h]
theorem P6 (a:UInt8) (n:Nat) (h:n<256):((a.toNat:Int)==(n:Int))=(a==UInt8.ofNat n):=by
 rw [<-B84]
 simp [Nat.mod_eq_of_lt h]
theorem Kw (p s:By):p.isPrefixOf s=(decide (p.length<=s.length)&&(s.take p.length==p)):=by
 rw [Bool.eq_iff_iff]
 simp only [List.isPrefixOf_iff_prefix,Bool.and_eq_true,decide_eq_true_eq,beq_iff_eq]
 constructor
 ·intro h;exact ⟨h.length_le,(List.prefix_iff_eq_take.1 h).symm⟩
 ·rintro ⟨_,h⟩;exact List.prefix_iff_eq_take.2 h.symm
theorem Kx (p s:By):p.isSuffixOf s=(decide (p.length<=s.length)&&(s.drop (s.length-p.length)==p)):=by
 rw [Bool.eq_iff_iff]
 simp only [List.isSuffixOf_iff_suffix,Bool.and_eq_true,decide_eq_true_eq,beq_iff_eq]
 constructor
 ·intro h;exact ⟨h.length_le,(List.suffix_iff_eq_drop.1 h).symm⟩
 ·rintro ⟨_,h⟩;exact List.suffix_iff_eq_drop.2 h.symm
end
section
open Go Go.ChangeAt Go.ChangeShapes Go.Proofs Go.RowKit Go.WideShapes
set_option maxRecDepth 100000
theorem own:ownKnob Tryz.prog.godebug=none:=by kernel_rfl
theorem Bu4:laidOutB Tryz.prog=true:=by kernel_rfl
noncomputable def gTy (g:Nat):Nat:=match Tryz.prog.globals[g]? with | some x=>x.type | none=>0
noncomputable def dbT:Nat:=gTy 5
noncomputable def Bz2:Nat:=gTy 3
noncomputable def KP:Nat:=gTy 2
noncomputable def Bs6:Nat:=gTy 1
noncomputable def KO:Nat:=match Tryz.prog.underlying KP with | some (.array _ e)=>e | _=>0
noncomputable def Uf:Array Field:=match Tryz.prog.underlying KO with | some (.struct fs)=>fs | _=>#[]
noncomputable def EW:Field:=match Uf.toList with | a::_=>a | _=>default
noncomputable def EX:Field:=match Uf.toList with | _::a::_=>a | _=>default
theorem B90:Uf[0]? = some EW:=by unfold EW Uf KO KP gTy;kernel_rfl
theorem B91:Uf[1]? = some EX:=by unfold EX Uf KO KP gTy;kernel_rfl
def Dd:List (String × DataW Unit):=[("math/bits.deBruijn32tab", Rows.laid_math_bits_deBruijn32tab), ("math/bits.deBruijn64tab", Rows.laid_math_bits_deBruijn64tab), ("internal/strconv.uint64pow10", Rows.laid_internal_strconv_uint64pow10), ("unicode/utf8.acceptRanges", Rows.laid_unicode_utf8_acceptRanges), ("unicode/utf8.first", Rows.laid_unicode_utf8_first)]
theorem HY {W:World} {n:String} {g:Nat} {cs:Array Value} (hg:Tryz.prog.globalNamed n=some g) (h:W.var? Tryz.prog n=some cs):∃ e x,W.heap[g]? = some (.cells cs e x):=by
 unfold World.var? at h
 rw [hg,Option.bind_some] at h
 split at h
 ·rename_i c e x hh
  simp only [Option.some.injEq] at h
  subst h
  exact ⟨e,x,hh⟩
 ·cases h
theorem Wd {W:World} {n:String} {g t e m:Nat} {k:IntKind} {zs:List Int} (hg:Tryz.prog.globalNamed n=some g) (hty:(Tryz.prog.globals[g]?).map (·.type)=some t) (ht:Tryz.prog.underlying t=some (.array m e)) (he:Tryz.prog.underlying e=some (.int k)) (hce:Tryz.prog.cellsOf e=1) (hct:Tryz.prog.cellsOf t=m)
  (h:Lib.VarReads Tryz.prog W n (Lib.tabData k zs)):∃ e x,W.heap[g]? = some (.cells (zs.map λz=>Value.int k z).toArray e x):=by
 obtain ⟨g',t',cs,fuel,p,h1,h2,h3,h4⟩:=h
 obtain rfl:=Option.some.inj (hg.symm.trans h1)
 obtain rfl:=Option.some.inj (hty.symm.trans h2)
 have hcs:=Lib.cells_of_tab ht he hce hct h4
 have:cs=(zs.map λz=>Value.int k z).toArray:=by rw [<-hcs]
 rw [this] at h3
 exact HY hg h3
theorem DO {H:Type} {enc:TypeId × Value->H} {P:Program} {w:World} {base:Nat} {sp:Nat->Bool} {held:Bool} {fuel:Nat} {t e:TypeId} {n:Nat} {cs:List Value} {d:DataW H} {p:List MemPlace} (ht:P.underlying t=some (.array n e))
  (h:DataW.trod enc P w base sp held fuel t cs=some (d,p)):cs.length=P.cellsOf t:=by
 cases fuel with
 | zero=>simp [DataW.trod] at h
 | succ fuel=>
  simp only [DataW.trod,ht] at h
  split at h
  ·rename_i hl
   simpa using hl
  ·cases h
theorem Au6 {W:World} (hg : Tryz.prog.globalNamed "unicode/utf8.acceptRanges" = some 2) (h:Lib.VarReads Tryz.prog W "unicode/utf8.acceptRanges" Lib.acceptData) :
  ∃ e x,W.heap[2]? = some (.cells (Eo.map λz=>Value.int .u8 z).toArray e x):=by
 obtain ⟨g',t,cs,fuel,p,h1,h2,h3,h4⟩:=h
 obtain rfl:=Option.some.inj (hg.symm.trans h1)
 have hty:(Tryz.prog.globals[2]?).map (·.type)=some KP:=by unfold KP;kernel_rfl
 obtain rfl:=Option.some.inj (hty.symm.trans h2)
 have ht:Tryz.prog.underlying KP=some (.array 16 KO):=by unfold KP KO;kernel_rfl
 have hl:=DO ht h4
 have hct:Tryz.prog.cellsOf KP=32:=by unfold KP;kernel_rfl
 have hce:Tryz.prog.cellsOf KO=2:=by unfold KO;kernel_rfl
 have hu:∃ fs,Tryz.prog.underlying KO=some (.struct fs)/\fs.size=2/\∀ (i:Nat) (f:Field),fs[i]? = some f->Tryz.prog.underlying f.type=some (.int .u8)/\f.offset=i/\Tryz.prog.cellsOf f.type=1:=by
  refine ⟨Uf,by unfold KO Uf;kernel_rfl,by unfold Uf;kernel_rfl,λi f hf=>?_⟩
  have:i<2:=by
   have:=(Array.getElem?_eq_some_iff.1 hf).1
   rwa [show Uf.size=2 by unfold Uf;kernel_rfl] at this
  match i,this with
  | 0,_=>
   obtain rfl:=Option.some.inj (hf.symm.trans (show Uf[0]? = some EW from B90))
   exact ⟨by unfold EW;kernel_rfl,by unfold EW;kernel_rfl,by unfold EW;kernel_rfl⟩
  | 1,_=>
   obtain rfl:=Option.some.inj (hf.symm.trans (show Uf[1]? = some EX from B91))
   exact ⟨by unfold EX;kernel_rfl,by unfold EX;kernel_rfl,by unfold EX;kernel_rfl⟩
 obtain ⟨fs,hu1,hu2,hu3⟩:=hu
 have hcs:cs.toList=Eo.map λz=>Value.int .u8 z:=by
  have hlen:(Eo.map λz=>Value.int .u8 z).length=32:=by rw [List.length_map];rfl
  apply List.ext_getElem?
  intro q
  by_cases hq:q<32
  ·obtain ⟨fuel',d,q',hdi,he⟩:=Lib.array_elem ht h4 (q / 2) (by omega)
   simp only [List.getElem?_map,List.getElem?_range (show q / 2<16 by omega),Option.map_some,Option.some.injEq] at hdi
   subst hdi
   rw [hce] at he
   have hz:=Lib.ints_of_struct hu1 hu3 (by rw [hce,hu2]) he
   have e0:=congrArg (·[q % 2]?) hz
   simp only [List.getElem?_take,List.getElem?_drop] at e0
   rw [V7,show q / 2*2+q % 2=q by omega] at e0
   rw [e0]
   unfold Eo
   have er:∀ g:Nat->Value,(List.map g (List.range 32))[q]? = some (g q):=λg=>by
    rw [List.getElem?_map,List.getElem?_range hq]
    rfl
   rw [List.map_map,er]
   rcases Nat.mod_two_eq_zero_or_one q with h2 | h2
   ·simp [h2]
   ·simp [h2]
  ·rw [List.getElem?_eq_none (by omega),List.getElem?_eq_none (by omega)]
 have:cs=(Eo.map λz=>Value.int .u8 z).toArray:=by rw [<-hcs]
 rw [this] at h3
 exact HY hg h3
theorem YE {C:Cfg} (hC:C.G=GX) {W:World} (hL:laidMet Tryz.prog Dd W) (hsh:W.ShapedOpen Tryz.prog):GOK C (· < W.heap.size) W:=by
 have lt:∀ {g:Nat} {o:Obj},W.heap[g]? = some o->g<W.heap.size:=λh=>(Array.getElem?_eq_some_iff.1 h).1
 have r1:Lib.VarReads Tryz.prog W "math/bits.deBruijn64tab" (Lib.tabData .u8 (Lib.deBruijn64tab.map λn:Nat=>(n:Int))):=Lib.laidMet.reads hL (by rw [show (Lib.tabData .u8 (Lib.deBruijn64tab.map λn:Nat=>(n:Int)):DataW Unit)=Rows.laid_math_bits_deBruijn64tab by kernel_rfl];simp [Dd])
 have r2:Lib.VarReads Tryz.prog W "internal/strconv.uint64pow10" (Lib.tabData .u64 Lib.pow10Tab):=Lib.laidMet.reads hL (by rw [show (Lib.tabData .u64 Lib.pow10Tab:DataW Unit)=Rows.laid_internal_strconv_uint64pow10 by kernel_rfl];simp [Dd])
 have r3:Lib.VarReads Tryz.prog W "unicode/utf8.acceptRanges" Lib.acceptData:=Lib.laidMet.reads hL (by rw [show Lib.acceptData=Rows.laid_unicode_utf8_acceptRanges by kernel_rfl];simp [Dd])
 have r4:Lib.VarReads Tryz.prog W "unicode/utf8.first" (Lib.tabData .u8 Lib.firstTab):=Lib.laidMet.reads hL (by rw [show (Lib.tabData .u8 Lib.firstTab:DataW Unit)=Rows.laid_unicode_utf8_first by kernel_rfl];simp [Dd])
 have c1:=Wd (g:=5) (t:=dbT) (e:=5) (m:=64) (by kernel_rfl) (by unfold dbT;kernel_rfl) (by unfold dbT;kernel_rfl) (by kernel_rfl) (by kernel_rfl) (by unfold dbT;kernel_rfl) r1
 have c2:=Wd (g:=3) (t:=Bz2) (e:=168) (m:=20) (by kernel_rfl) (by unfold Bz2;kernel_rfl) (by unfold Bz2;kernel_rfl) (by kernel_rfl) (by kernel_rfl) (by unfold Bz2;kernel_rfl) r2
 have c3:=Au6 (by kernel_rfl) r3
 have c4:=Wd (g:=1) (t:=Bs6) (e:=5) (m:=256) (by kernel_rfl) (by unfold Bs6;kernel_rfl) (by unfold Bs6;kernel_rfl) (by kernel_rfl) (by kernel_rfl) (by unfold Bs6;kernel_rfl) r4
 have c5:=cell_of_shapedOpen_int (k:=.i64) (g:=0) (t:=3) (zero:=#[.int .i64 0]) hsh (of_decide_eq_true (by kernel_rfl)) (by kernel_rfl) rfl (by kernel_rfl) (by kernel_rfl) (by kernel_rfl)
 refine ⟨λg k zs h=>?_,λg h=>?_⟩
 ·rw [hC] at h
  simp only [GX] at h
  have key:∀ {g0:Nat} {k0:IntKind} {zs0:List Int},(∃ e x,W.heap[g0]? = some (.cells (zs0.map λz=>Value.int k0 z).toArray e x))->g=g0->(k0,zs0)=(k,zs)->g<W.heap.size/\∃ e x,W.heap[g]? = some (.cells (zs.map λz=>Value.int k z).toArray e x):=λhx e1 e2=>by
   subst e1
   cases e2
   obtain ⟨e,x,hx⟩:=hx
   exact ⟨lt hx,e,x,hx⟩
  cases b1:Nat.beq g 1 with
  | true=>rw [b1,cond_true] at h;exact key c4 (Nat.eq_of_beq_eq_true b1) (Option.some.inj h)
  | false=>
   rw [b1,cond_false] at h
   cases b2:Nat.beq g 2 with
   | true=>rw [b2,cond_true] at h;exact key c3 (Nat.eq_of_beq_eq_true b2) (Option.some.inj h)
   | false=>
    rw [b2,cond_false] at h
    cases b3:Nat.beq g 3 with
    | true=>rw [b3,cond_true] at h;exact key c2 (Nat.eq_of_beq_eq_true b3) (Option.some.inj h)
    | false=>
     rw [b3,cond_false] at h
     cases b4:Nat.beq g 5 with
     | true=>rw [b4,cond_true] at h;exact key c1 (Nat.eq_of_beq_eq_true b4) (Option.some.inj h)
     | false=>rw [b4,cond_false] at h;cases h
 ·rw [hC] at h
  have e:=Nat.eq_of_beq_eq_true h
  subst e
  obtain ⟨m,hm⟩:=c5
  refine ⟨?_,m,hm⟩
  apply Classical.byContradiction
  intro hge
  simp [World.cell?,Array.getElem?_eq_none (Nat.le_of_not_lt hge)] at hm
theorem Vm (os:Os) (args:Array Value):((World.laidAll Tryz.prog os Dd).forCall (λ_ _=>0) ⟨#[],args,[]⟩).Shaped Tryz.prog:=
 World.shaped_of_ZipB (by kernel_rfl) (by kernel_rfl)
theorem DY (os:Os) (args:Array Value):laidMetH Tryz.prog Dd ((World.laidAll Tryz.prog os Dd).forCall (λ_ _=>0) ⟨#[],args,[]⟩).memory:=by
 rw [MakeChecks.laidMetH_plain _ _ _ (by kernel_rfl)]
 exact laidMet_laidAll _ (by kernel_rfl) (by kernel_rfl)
theorem YR {H:Type} {enc:TypeId × Value->H} {os:Os} (started:os.Started) {C:Cfg} (hCP:C.P=Tryz.prog) (hCG:C.G=GX) (hX:XOK C) (hO:Gd C) {f tb:Nat} {fn:Func} {c:Code} {s:ChangeSpec} {conds:List PathCond} {apart fresh handsOn again:Bool} (noInit:Tryz.prog.inits.idxOf? f=none) (hfn:Tryz.prog.funcs[f]? = some fn) (hb:fn.body=some c) (hname:(fn.name == "runtime.NumGoroutine")=false)
  (hp:∀ t∈fn.params.toList,(Tryz.prog.readableRec t=true/\t<Tryz.prog.types.size)/\(Io Tryz.prog 20 t).isSome=true) (hres:fn.resultTypes = #[tb]) (hbool:Tryz.prog.underlying tb=some .bool) (hvars:s.vars=[])
  (hspec:∀ ds:List (DataW H),ds.length=fn.params.toList.length->s.fn H ds = { results:=[.lit (.bool true)],args:=ds })
  (wit:Array Value) (fuel:Nat) (hok:Input.okWideB Tryz.prog ((World.laidAll Tryz.prog os Dd).forCall (λ_ _=>0) ⟨#[],wit,[]⟩) f ⟨#[],wit,[]⟩=true)
  (QM:s.preB enc Tryz.prog fn conds apart ((World.laidAll Tryz.prog os Dd).forCall (λ_ _=>0) ⟨#[],wit,[]⟩).memory wit fuel=true)
  (hsz:s.sizedB enc Tryz.prog fn apart ((World.laidAll Tryz.prog os Dd).forCall (λ_ _=>0) ⟨#[],wit,[]⟩).memory wit fuel=true)
  (hev:∀ args,It Tryz.prog fn.params.toList args->∃ d Hc,evC C d Unit noY f args [] ()=some (.s (.bool true),Hc,())) :
  ReturnsInHanded {} Tryz.checked os f .any (λw args=>(s.pre enc Tryz.prog fn conds apart w args/\laidMetH Tryz.prog Dd w)/\sizedMet enc Tryz.prog fn (OpenSpec.ofChange s) apart w args) (s.post enc Tryz.prog fn apart fresh handsOn again):=by
 obtain ⟨P,G,X,lend,okf,lf,keep,keepR,xp,keepE,keepT,Y,S,nt,rw0⟩:=C
 simp only at hCP hCG
 subst hCP
 refine returnsInHanded_of_calls (C:=Tryz.checked) own started noInit
  (ChangeSpec.witness_shaped (enc:=enc) (C:=Tryz.checked) (os:=os) (X:=λw _=>laidMetH Tryz.prog Dd w) false (World.laidAll Tryz.prog os Dd) wit fuel (World.laidAll_os _ _ _) (Vm os wit) hok QM hsz (DY os wit)) ?_
 intro w tape i _ hsh _ hok QM hholds
 obtain ⟨_,_,_,fn',hfn',_,_,_,_,Rg⟩:=hok
 have e:fn'=fn:=Option.some.inj (hfn'.symm.trans hfn)
 subst e
 obtain ⟨⟨⟨ds,gs,before,hw,hc⟩,hx⟩,hz⟩:=QM
 have hw':=DataW.Whole.of_heap (w':=w.forCall tape i) (by rfl) hw
 have hL:laidMet Tryz.prog Dd (w.forCall tape i):=by
  rw [MakeChecks.laidMetH_plain _ _ _ (by kernel_rfl)] at hx
  exact laidMet.of_heap (w':=w.forCall tape i) (by rfl) hx
 refine (Bc4 (apart:=apart) (fresh:=fresh) (handsOn:=handsOn) (again:=again) hX hO follows Bu4 hfn hb hname hp hres hbool hvars hspec hev (w.forCall tape i) (YE hCG hL hsh) w.heap.size i.args ds gs before Rg hw').mono λe W' ⟨v,he,hp⟩=>?_
 subst he
 exact ChangeSpec.post_blind hp
end
section
open Go Go.Proofs
set_option maxRecDepth 100000
section
def Oj:List PV->Tr
 | [.s (.str s),.s (.str p),.s (.int .i64 v),.s (.int .i64 n)]=>.need (A3 (List.length s)) (.need ((List.length p)==1) (.need (v==(0:Int)) (.need (n==((-1):Int)) (.ret (.vw 0 0 (List.length (pcs (List.getD p 0 0) s))) [.arr false 9 1 (C6 (pcs (List.getD p 0 0) s))]))))
 | _=>.fail
def Tn (args:List PV):Tr:=Oj (E2 [[0],[0],[0],[0]] args)
def Oq:List PV->Tr
 | [.s (.str s),.s (.str p)]=>.need (A3 (List.length s)) (.need ((List.length p)==1) (.ret (.vw 0 0 (List.length (pcs (List.getD p 0 0) s))) [.arr false 9 1 (C6 (pcs (List.getD p 0 0) s))]))
 | _=>.fail
def Uc (args:List PV):Tr:=Oq (E2 [[0],[0]] args)
def JA:List PV->Tr
 | [.s (.str s),.s (.str p)]=>.need (A3 (List.length s)) (.ret (.s (.bool (List.isPrefixOf p s))) [])
 | _=>.fail
def VF (args:List PV):Tr:=JA (E2 [[0],[0]] args)
def IM:List PV->Tr
 | [.s (.str s),.s (.str p)]=>.need (A3 (List.length s)) (.ret (.s (.bool (List.isPrefixOf p s))) [])
 | _=>.fail
def IL (args:List PV):Tr:=IM (E2 [[0],[0]] args)
def JD:List PV->Tr
 | [.s (.str s),.s (.str p)]=>.need (A3 (List.length s)) (.ret (.s (.bool (List.isSuffixOf p s))) [])
 | _=>.fail
def A82 (args:List PV):Tr:=JD (E2 [[0],[0]] args)
def Zc:List PV->Tr
 | [.s (.str s),.s (.str p)]=>.need (A3 (List.length s)) (.ret (.s (.str (OB s p))) [])
 | _=>.fail
def Am6 (args:List PV):Tr:=Zc (E2 [[0],[0]] args)
def Zu:List PV->Tr
 | [.s (.str s),.s (.str p)]=>.need (A3 (List.length s)) (.ret (.s (.str (OB s p))) [])
 | _=>.fail
def KM (args:List PV):Tr:=Zu (E2 [[0],[0]] args)
def Yz:List PV->Tr
 | [.s (.str s),.s (.str p)]=>.need (A3 (List.length s)) (.ret (.tup [.s (.str (AQ s p)),.s (.bool (List.isPrefixOf p s))]) [])
 | _=>.fail
def Am4 (args:List PV):Tr:=Yz (E2 [[0],[0]] args)
def ID:List PV->Tr
 | [.s (.str s),.s (.str p)]=>.need (A3 (List.length s)) (.ret (.tup [.s (.str (AQ s p)),.s (.bool (List.isPrefixOf p s))]) [])
 | _=>.fail
def A71 (args:List PV):Tr:=ID (E2 [[0],[0]] args)
def KI:List PV->Tr
 | [.s (.str s),.s (.str p)]=>.need (A3 (List.length s)) (.ret (.s (.int .i64 (Lib.index s p))) [])
 | _=>.fail
def Zs (args:List PV):Tr:=KI (E2 [[0],[0]] args)
def KG:List PV->Tr
 | [.s (.str s),.s (.str p)]=>.need ((List.length p)==1) (.ret (.s (.int .i64 (↑(List.count (List.getD p 0 0) s):Int))) [])
 | _=>.fail
def VV (args:List PV):Tr:=KG (E2 [[0],[0]] args)
def Yt:List PV->Tr
 | [.s (.str s),.s (.int .i64 n)]=>.fail
 | _=>.fail
def Hq (args:List PV):Tr:=Yt (E2 [[0],[0]] args)
def Tm:List PV->Tr
 | [.s (.str s),.s (.str p),.s (.int .i64 v),.s (.int .i64 n)]=>.need (A3 (List.length s)) (.need ((List.length p)==1) (.need (v==(0:Int)) (.need (n==((-1):Int)) (.ret (.s (.sl false false 1 (C6 (pcs (List.getD p 0 0) s)))) []))))
 | _=>.fail
def OO (args:List PV):Tr:=Tm (E2 [[0],[0],[0],[0]] args)
def Ub:List PV->Tr
 | [.s (.str s),.s (.str p)]=>.need (A3 (List.length s)) (.need ((List.length p)==1) (.ret (.s (.sl false false 1 (C6 (pcs (List.getD p 0 0) s)))) []))
 | _=>.fail
def Qd (args:List PV):Tr:=Ub (E2 [[0],[0]] args)
def IQ:List PV->Tr
 | [.s (.int .i64 n)]=>.need (ltN n 4294967296) (.ret (.s (.str (Lib.decDigits (Int.toNat n)))) [])
 | _=>.fail
def A76 (args:List PV):Tr:=IQ (E2 [[0]] args)
def IZ:List PV->Tr
 | [.s (.str s)]=>.need (A3 (List.length s)) (.ret (.s (.str (C7 s))) [])
 | _=>.fail
def IY (args:List PV):Tr:=IZ (E2 [[0]] args)
def IK:List PV->Tr
 | [.s (.str s)]=>.need (A3 (List.length s)) (.ret (.s (.bool (Ao s))) [])
 | _=>.fail
def VB (args:List PV):Tr:=IK (E2 [[0]] args)
def IF:List PV->Tr
 | [.s (.str s),.s (.int .i64 base)]=>.need (A3 (List.length s)) (.need (ltN base 17) (.ret (.tup [.s (.int .i64 (↑(M5 (E7 (Int.toNat base) 0 s)):Int)),.s (.bool (Option.isSome (E7 (Int.toNat base) 0 s)))]) []))
 | _=>.fail
def IE (args:List PV):Tr:=IF (E2 [[0],[0]] args)
def VG:List PV->Tr
 | [.s (.str s)]=>.need (A3 (List.length s)) (.ret (.tup [.s (.int .i64 (↑(M5 (Z0 s)):Int)),.s (.bool (Option.isSome (Z0 s)))]) [])
 | _=>.fail
def A85 (args:List PV):Tr:=VG (E2 [[0]] args)
def Zd:List PV->Tr
 | [.s (.str s)]=>.need (A3 (List.length s)) (.ret (.s (.sl false false 1 (C6 (D0 s)))) [])
 | _=>.fail
def JJ (args:List PV):Tr:=Zd (E2 [[0]] args)
def Ok:List PV->Tr
 | [.s (.str s)]=>.need (A3 (List.length s)) (.ret (.s (.bool (F6 s))) [])
 | _=>.fail
def Hr (args:List PV):Tr:=Ok (E2 [[0]] args)
def JP:List PV->Tr
 | [.s (.str s)]=>.need (A3 (List.length s)) (.ret (.tup [.s (.int .u32 (↑(M5 (pnB s)):Int)),.s (.bool (Option.isSome (pnB s)))]) [])
 | _=>.fail
def A88 (args:List PV):Tr:=JP (E2 [[0]] args)
def VW:List PV->Tr
 | [.s (.str s)]=>.need (A3 (List.length s)) (.ret (.tup [.s (.int .u32 (↑(M5 (v4B s)):Int)),.s (.bool (Option.isSome (v4B s)))]) [])
 | _=>.fail
def B73 (args:List PV):Tr:=VW (E2 [[0]] args)
def Ol:List PV->Tr
 | [.s (.str s)]=>.need (A3 (List.length s)) (.ret (.s (.bool ((not (List.isEmpty s))&&(Option.isSome (E7 10 0 s))))) [])
 | _=>.fail
def ET (args:List PV):Tr:=Ol (E2 [[0]] args)
def JY:List PV->Tr
 | [.s (.str s)]=>.need (A3 (List.length s)) (.ret (.s (.str (C7 s))) [])
 | _=>.fail
def VR (args:List PV):Tr:=JY (E2 [[0]] args)
def Tx:List PV->Tr
 | [.s (.str s),.s (.int .u8 c)]=>.need (A3 (List.length s)) (.need (inR c 256) (.ret (.s (.sl false false 1 (C6 (pcs (u8n c) s)))) []))
 | _=>.fail
def Hs (args:List PV):Tr:=Tx (E2 [[0],[0]] args)
def UZ:List PV->Tr
 | [.s (.int .i64 n)]=>.need (ltN n 4294967296) (.ret (.s (.str (Lib.decDigits (Int.toNat n)))) [])
 | _=>.fail
def ES (args:List PV):Tr:=UZ (E2 [[0]] args)
def JU:List PV->Tr
 | [.s (.int .u8 b)]=>.need (inR b 256) (.ret (.s (.int .i64 (↑(dig (u8n b)):Int))) [])
 | _=>.fail
def A90 (args:List PV):Tr:=JU (E2 [[0]] args)
def JZ:List PV->Tr
 | [.s (.str s)]=>.need (A3 (List.length s)) (.ret (.tup [.s (.int .i64 (↑(M5 (Z0 s)):Int)),.s (.bool (Option.isSome (Z0 s)))]) [])
 | _=>.fail
def VT (args:List PV):Tr:=JZ (E2 [[0]] args)
def Tv:List PV->Tr
 | [.s (.str s)]=>.need (A3 (List.length s)) (.ret (.s (.sl false false 1 (C6 (D0 s)))) [])
 | _=>.fail
def Zn (args:List PV):Tr:=Tv (E2 [[0]] args)
def Li:List PV->Tr
 | [.s (.str s)]=>.need (A3 (List.length s)) (.ret (.s (.bool (F6 s))) [])
 | _=>.fail
def Zm (args:List PV):Tr:=Li (E2 [[0]] args)
def Zp:List PV->Tr
 | [.s (.str s)]=>.need (A3 (List.length s)) (.ret (.tup [.s (.int .u32 (↑(M5 (pnB s)):Int)),.s (.bool (Option.isSome (pnB s)))]) [])
 | _=>.fail
def An4 (args:List PV):Tr:=Zp (E2 [[0]] args)
def JT:List PV->Tr
 | [.s (.str s)]=>.need (A3 (List.length s)) (.ret (.tup [.s (.int .i64 (↑(M5 (oct s)):Int)),.s (.bool (Option.isSome (oct s)))]) [])
 | _=>.fail
def A89 (args:List PV):Tr:=JT (E2 [[0]] args)
def KD:List PV->Tr
 | [.s (.str s)]=>.need (A3 (List.length s)) (.ret (.tup [.s (.int .u32 (↑(M5 (v4B s)):Int)),.s (.bool (Option.isSome (v4B s)))]) [])
 | _=>.fail
def A94 (args:List PV):Tr:=KD (E2 [[0]] args)
def IH:List PV->Tr
 | [.s (.str s)]=>.need (A3 (List.length s)) (.ret (.tup [.s (.int .u16 (↑(M5 (grp s)):Int)),.s (.bool (Option.isSome (grp s)))]) [])
 | _=>.fail
def A72 (args:List PV):Tr:=IH (E2 [[0]] args)
def Yu:List PV->Tr
 | [.s (.str s),.s (.bool last)]=>.need (A3 (List.length s)) (.ret (.tup [.s (.sl (List.isEmpty (gvs s last)) (List.isEmpty (gvs s last)) 1 (F2 (gvs s last))),.s (.bool (Option.isSome (Q0 s last)))]) [])
 | _=>.fail
def Am0 (args:List PV):Tr:=Yu (E2 [[0],[0]] args)
def VX:List PV->Tr
 | [.s (.str s)]=>.need (A3 (List.length s)) (.ret (.tup [.agg [.s (.int .u16 (↑(v6c 0 s):Int)),.s (.int .u16 (↑(v6c 1 s):Int)),.s (.int .u16 (↑(v6c 2 s):Int)),.s (.int .u16 (↑(v6c 3 s):Int)),.s (.int .u16 (↑(v6c 4 s):Int)),.s (.int .u16 (↑(v6c 5 s):Int)),.s (.int .u16 (↑(v6c 6 s):Int)),.s (.int .u16 (↑(v6c 7 s):Int))],.s (.bool (Option.isSome (v6B s)))]) [])
 | _=>.fail
def B74 (args:List PV):Tr:=VX (E2 [[0]] args)
def Ci6:List PV->Tr
 | [.s (.sl ds_z ds_t 0 ds),.s (.int .u64 v),.s (.int .i64 b),.s (.bool neg),.s (.bool app)]=>.need (ltN v 65536) (.need (b==(16:Int)) (.need (not neg) (.need (not app) (.ret (.tup [.s (.sl true true 1 List.nil),.s (.str (Ca9 (Int.toNat v)))]) []))))
 | _=>.fail
def Zt:List PV->Tr
 | [.s (.sl l_z l_t 1 l),.s (.str p)]=>.need (List.all l isS) (.need (A3 (List.length (Lib.join (List.map elS l) p))) (.need (A3 (List.length l)) (.ret (.s (.str (Lib.join (List.map elS l) p))) [])))
 | _=>.fail
def KK (args:List PV):Tr:=Zt (E2 [[1],[0]] args)
def KH:List PV->Tr
 | [.s (.str s),.s (.str p)]=>.need (A3 (List.length s)) (.ret (.tup [.s (.str ((Lib.cut s p)).1),.s (.str (((Lib.cut s p)).2).1),.s (.bool (((Lib.cut s p)).2).2)]) [])
 | _=>.fail
def Oo (args:List PV):Tr:=KH (E2 [[0],[0]] args)
def Cm1:List PV->Tr
 | [.s (.sl l_z l_t 1 l)]=>.need (List.all l B81) (.need (Nat.ble (List.length l) 8) (.ret (.s (.str (Cj6 (List.map elN l)))) []))
 | _=>.fail
def JX:List PV->Tr
 | [.s (.str s)]=>.need (A3 (List.length s)) (.ret (.tup [.s (.int .u16 (↑(M5 (grp s)):Int)),.s (.bool (Option.isSome (grp s)))]) [])
 | _=>.fail
def A92 (args:List PV):Tr:=JX (E2 [[0]] args)
def Zh:List PV->Tr
 | [.s (.str s),.s (.bool last)]=>.need (A3 (List.length s)) (.ret (.tup [.s (.sl (List.isEmpty (gvs s last)) (List.isEmpty (gvs s last)) 1 (F2 (gvs s last))),.s (.bool (Option.isSome (Q0 s last)))]) [])
 | _=>.fail
def Am8 (args:List PV):Tr:=Zh (E2 [[0],[0]] args)
def Om:List PV->Tr
 | [.s (.str s)]=>.need (A3 (List.length s)) (.ret (.s (.int .i64 (AR s))) [])
 | _=>.fail
def EU (args:List PV):Tr:=Om (E2 [[0]] args)
def KE:List PV->Tr
 | [.s (.str s)]=>.need (A3 (List.length s)) (.ret (.tup [.agg [.s (.int .u16 (↑(v6c 0 s):Int)),.s (.int .u16 (↑(v6c 1 s):Int)),.s (.int .u16 (↑(v6c 2 s):Int)),.s (.int .u16 (↑(v6c 3 s):Int)),.s (.int .u16 (↑(v6c 4 s):Int)),.s (.int .u16 (↑(v6c 5 s):Int)),.s (.int .u16 (↑(v6c 6 s):Int)),.s (.int .u16 (↑(v6c 7 s):Int))],.s (.bool (Option.isSome (v6B s)))]) [])
 | _=>.fail
def A95 (args:List PV):Tr:=KE (E2 [[0]] args)
def Ts:List PV->Tr
 | [.s (.int .i64 n)]=>.ret (.s (.bool (ptI n))) []
 | _=>.fail
def Lh (args:List PV):Tr:=Ts (E2 [[0]] args)
def Tq:List PV->Tr
 | [.s (.int .i64 d),.s (.int .i64 c),.s (.bool f)]=>.need (ltN d 1152921504606846976) (.need (ltN c 1000000) (.need (ltI (0:Int) c) (.ret (.s (.int .i64 (↑(P2 (Int.toNat d) (Int.toNat c) f):Int))) [])))
 | _=>.fail
def Lg (args:List PV):Tr:=Tq (E2 [[0],[0],[0]] args)
def JM:List PV->Tr
 | [.s (.int .i64 d)]=>.need (ltN d 36) (.ret (.s (.int .u8 (↑(UInt8.toNat (Y8 (Int.toNat d))):Int))) [])
 | _=>.fail
def VH (args:List PV):Tr:=JM (E2 [[0]] args)
def JS:List PV->Tr
 | [.s (.int .u8 b)]=>.need (inR b 256) (.ret (.s (.int .i64 (E1 (u8n b)))) [])
 | _=>.fail
def VM (args:List PV):Tr:=JS (E2 [[0]] args)
def JR:List PV->Tr
 | [.s (.int .i64 b)]=>.ret (.fnr (Fn.func 201) [] [.ptr 1 0 0,.ptr 0 0 0]) [.box [.s (.int .i64 b)],.box [.s (.int .i64 (0:Int))]]
 | _=>.fail
def Ze (args:List PV):Tr:=JR (E2 [[0]] args)
def Mr:List PV->List Blk->Tr
 | [.ptr 0 0 0,.ptr 1 0 0],[.box [.s (.int .i64 k)],.box [.s (.int .i64 b)]]=>.need (ltN k 1000000000000) (.need (ltN b 1000000) (.ret (.s (.int .i64 (K9 k b))) [.box [.s (.int .i64 (Int.add k (36:Int)))],.box [.s (.int .i64 b)]]))
 | _,_=>.fail
def JI:List PV->List Blk->Tr
 | [.fl 0,.s (.int .i64 q),.s (.int .i64 b)],[.arr z 5 1 l]=>.need (ltN q 1152921504606846976) (.need (ltN b 1000000) (.need (Nat.ble (List.length l) 100000) (.ret (.fl 0) [.arr z 5 1 (List.append l (List.map E3 (O6 (Int.toNat q) 0 (Int.toNat b))))])))
 | _,_=>.fail
def JN:List PV->Tr
 | [.s (.sl p_z p_t 1 p)]=>.need (List.all p Kv) (.ret (.tup [.s (.str ((U4 (List.map elI p))).1),.s (.int .i64 (↑((U4 (List.map elI p))).2:Int))]) [])
 | _=>.fail
def VI (args:List PV):Tr:=JN (E2 [[1]] args)
def KJ:List PV->List Blk->Tr
 | [.fl 0,.s (.int .i64 i),.fl 1],[.arr z 3 1 l,.arr false 3 1 [[.int .i64 n]]]=>.need (ltN i (Nat.add (List.length l) 1)) (.need (Nat.ble (List.length l) 100000) (.ret (.fl 0) [.arr z 3 1 (Jl l (Int.toNat i) n),.arr false 3 1 [[.int .i64 n]]]))
 | _,_=>.fail
def IG:List PV->List Blk->Tr
 | [.ptr 0 0 0],[.box [.s (.str rest),.fl 1,.s (.int .i64 n),.s (.int .i64 i),.s (.int .i64 b),.s (.bool st)],.arr z 3 1 l]=>.need (A3 (List.length rest)) (.need (ltN b 1000000) (.need (ltN i 1099511627777) (.ret (.s (.int .i64 (CC b rest i))) [.box [.s (.str (CD b rest i)),.fl 1,.s (.int .i64 n),.s (.int .i64 (Pq b rest i)),.s (.int .i64 b),.s (.bool st)],.arr z 3 1 l])))
 | _,_=>.fail
def Xx:List PV->List Blk->Tr
 | [.ptr 0 0 0],[.box [.s (.str rest),.fl 1,.s (.int .i64 n),.s (.int .i64 i),.s (.int .i64 b),.s (.bool st)],.arr z 3 1 l]=>.need (A3 (List.length rest)) (.need (ltN b 1000000) (.need (ltN i 1099511627777) (.need (ltN n 1152921504606846976) (.need (Nat.ble (List.length l) 100000) (.ret (.s (.int .i64 ((F0 (DS.mk rest n i b st l))).1)) [.box [.s (.str (DS.rest ((F0 (DS.mk rest n i b st l))).2)),.fl 1,.s (.int .i64 (DS.n ((F0 (DS.mk rest n i b st l))).2)),.s (.int .i64 (DS.i ((F0 (DS.mk rest n i b st l))).2)),.s (.int .i64 (DS.b ((F0 (DS.mk rest n i b st l))).2)),.s (.bool (DS.st ((F0 (DS.mk rest n i b st l))).2))],.arr z 3 1 (DS.l ((F0 (DS.mk rest n i b st l))).2)])))))
 | _,_=>.fail
def Tp:List PV->Tr
 | [.s (.str s),.s (.int .u8 c)]=>.need (A3 (List.length s)) (.need (inR c 256) (.ret (.s (.int .i64 (J4 (u8n c) s))) []))
 | _=>.fail
def OQ (args:List PV):Tr:=Tp (E2 [[0],[0]] args)
def Yy:List PV->Tr
 | [.s (.str s),.s (.int .u8 c)]=>.need (A3 (List.length s)) (.need (inR c 256) (.ret (.s (.int .i64 (J4 (u8n c) s))) []))
 | _=>.fail
def Xy (args:List PV):Tr:=Yy (E2 [[0],[0]] args)
def JL:List PV->Tr
 | [.s (.str s)]=>.need (A3 (List.length s)) (.ret (.tup [.s (.sl (List.isEmpty ((M8 s)).1) (List.isEmpty ((M8 s)).1) 1 (Jr ((M8 s)).1)),.s (.int .i64 (↑((M8 s)).2:Int))]) [])
 | _=>.fail
def A87 (args:List PV):Tr:=JL (E2 [[0]] args)
def ON:List PV->Tr
 | [.s (.str t)]=>.fail
 | _=>.fail
def Qb (args:List PV):Tr:=ON (E2 [[0]] args)
def Zb:List PV->Tr
 | [.s (.str t),.s (.str p),.s (.int .i64 n)]=>.ret (.fnr (Fn.func 106) [] [.ptr 1 0 0,.ptr 0 0 0,.ptr 2 0 0]) [.box [.s (.str t)],.box [.s (.str p)],.box [.s (.int .i64 n)]]
 | _=>.fail
def JC (args:List PV):Tr:=Zb (E2 [[0],[0],[0]] args)
def KL:List PV->Tr
 | [.s (.str t),.s (.str p)]=>.ret (.fnr (Fn.func 106) [] [.ptr 1 0 0,.ptr 0 0 0,.ptr 2 0 0]) [.box [.s (.str t)],.box [.s (.str p)],.box [.s (.int .i64 (0:Int))]]
 | _=>.fail
def Ua (args:List PV):Tr:=KL (E2 [[0],[0]] args)
def Iv:List PV->List Blk->Option (Bool × List (List PV))
 | [.yd,.ptr 0 0 0,.ptr 1 0 0,.ptr 2 0 0],[.box [.s (.str p)],.box [.s (.str t)],.box [.s (.int .i64 n)]]=>some (((A3 (List.length t))&&(((List.length p)==1)&&(n==(0:Int)))),List.map (λ(x:By)=>([.s (.str x)]:List PV)) (pcs (List.getD p 0 0) t))
 | _,_=>none
def IN:List PV->Tr
 | [.s (.str t)]=>.ret (.fnr (Fn.func 76) [] [.ptr 0 0 0]) [.box [.s (.str t)]]
 | _=>.fail
def A74 (args:List PV):Tr:=IN (E2 [[0]] args)
def IO:List PV->List Blk->Option (Bool × List (List PV))
 | [.yd,.ptr 0 0 0],[.box [.s (.str t)]]=>some ((A3 (List.length t)),List.map (λ(x:By)=>([.s (.str x)]:List PV)) (NX t))
 | _,_=>none
def Tw:List PV->Tr
 | [.s (.int .i64 n)]=>.ret (.s (.bool (ptI n))) []
 | _=>.fail
def Qc (args:List PV):Tr:=Tw (E2 [[0]] args)
def Tt:List PV->Tr
 | [.s (.int .i64 d),.s (.int .i64 c),.s (.bool f)]=>.need (ltN d 1152921504606846976) (.need (ltN c 1000000) (.need (ltI (0:Int) c) (.ret (.s (.int .i64 (↑(P2 (Int.toNat d) (Int.toNat c) f):Int))) [])))
 | _=>.fail
def Zf (args:List PV):Tr:=Tt (E2 [[0],[0],[0]] args)
def KC:List PV->Tr
 | [.s (.int .i64 k),.s (.int .i64 b)]=>.need (ltN k 10000000000) (.need (ltN b 1000000) (.ret (.s (.int .i64 (K9 (Int.mul (36:Int) k) b))) []))
 | _=>.fail
def VU (args:List PV):Tr:=KC (E2 [[0],[0]] args)
def Zg:List PV->Tr
 | [.s (.int .i64 d)]=>.need (ltN d 36) (.ret (.s (.int .u8 (↑(UInt8.toNat (Y8 (Int.toNat d))):Int))) [])
 | _=>.fail
def Am7 (args:List PV):Tr:=Zg (E2 [[0]] args)
def KF:List PV->Tr
 | [.s (.int .u8 b)]=>.need (inR b 256) (.ret (.s (.int .i64 (E1 (u8n b)))) [])
 | _=>.fail
def A96 (args:List PV):Tr:=KF (E2 [[0]] args)
def JV:List PV->Tr
 | [.s (.sl p_z p_t 1 p)]=>.need (List.all p Kv) (.ret (.tup [.s (.str ((U4 (List.map elI p))).1),.s (.int .i64 (↑((U4 (List.map elI p))).2:Int))]) [])
 | _=>.fail
def VO (args:List PV):Tr:=JV (E2 [[1]] args)
def Zo:List PV->Tr
 | [.s (.str s)]=>.need (A3 (List.length s)) (.ret (.tup [.s (.sl (List.isEmpty ((M8 s)).1) (List.isEmpty ((M8 s)).1) 1 (Jr ((M8 s)).1)),.s (.int .i64 (↑((M8 s)).2:Int))]) [])
 | _=>.fail
def An3 (args:List PV):Tr:=Zo (E2 [[0]] args)
def Za:List PV->Tr
 | [.s (.str s)]=>.need (A3 (List.length s)) (.ret (.s (.bool (Ce s))) [])
 | _=>.fail
def Am5 (args:List PV):Tr:=Za (E2 [[0]] args)
def JF:List PV->Tr
 | [.s (.str s)]=>.need (A3 (List.length s)) (.ret (.s (.bool (K4 s))) [])
 | _=>.fail
def JE (args:List PV):Tr:=JF (E2 [[0]] args)
def Ue:List PV->Tr
 | [.s (.str s)]=>.need (A3 (List.length s)) (.ret (.s (.bool (Option.isSome (Bx s)))) [])
 | _=>.fail
def OU (args:List PV):Tr:=Ue (E2 [[0]] args)
def Ud:List PV->Tr
 | [.s (.str s)]=>.need (A3 (List.length s)) (.ret (.s (.int .i64 (↑(Lib.runeCountL s):Int))) [])
 | _=>.fail
def OT (args:List PV):Tr:=Ud (E2 [[0]] args)
def IS:List PV->Tr
 | [.s (.str s)]=>.need (A3 (List.length s)) (.ret (.tup [.s (.str ((I5 s)).1),.s (.int .i64 (↑((I5 s)).2:Int))]) [])
 | _=>.fail
def VD (args:List PV):Tr:=IS (E2 [[0]] args)
def KB:List PV->Tr
 | [.s (.str s)]=>.need (A3 (List.length s)) (.ret (.tup [.s (.sl (List.isEmpty (Nv s)) (List.isEmpty (Nv s)) 1 (Jr (Nv s))),.s (.bool (Option.isSome (Bx s)))]) [])
 | _=>.fail
def A93 (args:List PV):Tr:=KB (E2 [[0]] args)
def Zr:List PV->Tr
 | [.s (.str s)]=>.need (A3 (List.length s)) (.ret (.s (.bool (Ce s))) [])
 | _=>.fail
def An5 (args:List PV):Tr:=Zr (E2 [[0]] args)
def Zl:List PV->Tr
 | [.s (.str s)]=>.need (A3 (List.length s)) (.ret (.s (.bool (K4 s))) [])
 | _=>.fail
def An2 (args:List PV):Tr:=Zl (E2 [[0]] args)
def Zk:List PV->Tr
 | [.s (.str s)]=>.need (A3 (List.length s)) (.ret (.tup [.s (.str ((I5 s)).1),.s (.int .i64 (↑((I5 s)).2:Int))]) [])
 | _=>.fail
def An1 (args:List PV):Tr:=Zk (E2 [[0]] args)
def IJ:List PV->Tr
 | [.s (.int .u8 b)]=>.need (inR b 256) (.ret (.s (.int .i64 (Di (u8n b)))) [])
 | _=>.fail
def A73 (args:List PV):Tr:=IJ (E2 [[0]] args)
def II:List PV->Tr
 | [.s (.str s)]=>.need (A3 (List.length s)) (.ret (.tup [.s (.str (Dp s)),.s (.bool (Option.isSome (R4 s)))]) [])
 | _=>.fail
def VA (args:List PV):Tr:=II (E2 [[0]] args)
def Yv:List PV->Tr
 | [.s (.str s)]=>.need (A3 (List.length s)) (.need (Be9 s) (.ret (.tup [.agg [.s (.int .i64 (↑(E6.kind ((O8 s)).1):Int)),.s (.str (E6.name ((O8 s)).1)),.s (.int .u32 (↑(E6.v4 ((O8 s)).1):Int)),.s (.int .u16 (↑(List.getD (E6.v6 ((O8 s)).1) 0 0):Int)),.s (.int .u16 (↑(List.getD (E6.v6 ((O8 s)).1) 1 0):Int)),.s (.int .u16 (↑(List.getD (E6.v6 ((O8 s)).1) 2 0):Int)),.s (.int .u16 (↑(List.getD (E6.v6 ((O8 s)).1) 3 0):Int)),.s (.int .u16 (↑(List.getD (E6.v6 ((O8 s)).1) 4 0):Int)),.s (.int .u16 (↑(List.getD (E6.v6 ((O8 s)).1) 5 0):Int)),.s (.int .u16 (↑(List.getD (E6.v6 ((O8 s)).1) 6 0):Int)),.s (.int .u16 (↑(List.getD (E6.v6 ((O8 s)).1) 7 0):Int))],.s (.int .i64 (↑((O8 s)).2:Int))]) []))
 | _=>.fail
def Am1 (args:List PV):Tr:=Yv (E2 [[0]] args)
def To:List PV->Tr
 | [.s (.str s)]=>.need (A3 (List.length s)) (.ret (.tup [.agg [.s (.int .i64 (↑(E6.kind ((C4 s)).1):Int)),.s (.str (E6.name ((C4 s)).1)),.s (.int .u32 (↑(E6.v4 ((C4 s)).1):Int)),.s (.int .u16 (↑(List.getD (E6.v6 ((C4 s)).1) 0 0):Int)),.s (.int .u16 (↑(List.getD (E6.v6 ((C4 s)).1) 1 0):Int)),.s (.int .u16 (↑(List.getD (E6.v6 ((C4 s)).1) 2 0):Int)),.s (.int .u16 (↑(List.getD (E6.v6 ((C4 s)).1) 3 0):Int)),.s (.int .u16 (↑(List.getD (E6.v6 ((C4 s)).1) 4 0):Int)),.s (.int .u16 (↑(List.getD (E6.v6 ((C4 s)).1) 5 0):Int)),.s (.int .u16 (↑(List.getD (E6.v6 ((C4 s)).1) 6 0):Int)),.s (.int .u16 (↑(List.getD (E6.v6 ((C4 s)).1) 7 0):Int))],.s (.int .i64 (↑((C4 s)).2:Int))]) [])
 | _=>.fail
def OP (args:List PV):Tr:=To (E2 [[0]] args)
def VC:List PV->Tr
 | [.s (.str s)]=>.need (A3 (List.length s)) (.ret (.s (.bool (P7 s))) [])
 | _=>.fail
def Am2 (args:List PV):Tr:=VC (E2 [[0]] args)
def VQ:List PV->Tr
 | [.s (.int .u8 b)]=>.need (inR b 256) (.ret (.s (.int .i64 (Di (u8n b)))) [])
 | _=>.fail
def B72 (args:List PV):Tr:=VQ (E2 [[0]] args)
def Zi:List PV->Tr
 | [.s (.str s)]=>.need (A3 (List.length s)) (.ret (.tup [.s (.str (Dp s)),.s (.bool (Option.isSome (R4 s)))]) [])
 | _=>.fail
def Am9 (args:List PV):Tr:=Zi (E2 [[0]] args)
def On:List PV->Tr
 | [.s (.str s)]=>.need (A3 (List.length s)) (.ret (.tup [.agg [.s (.int .i64 (↑(E6.kind ((C4 s)).1):Int)),.s (.str (E6.name ((C4 s)).1)),.s (.int .u32 (↑(E6.v4 ((C4 s)).1):Int)),.s (.int .u16 (↑(List.getD (E6.v6 ((C4 s)).1) 0 0):Int)),.s (.int .u16 (↑(List.getD (E6.v6 ((C4 s)).1) 1 0):Int)),.s (.int .u16 (↑(List.getD (E6.v6 ((C4 s)).1) 2 0):Int)),.s (.int .u16 (↑(List.getD (E6.v6 ((C4 s)).1) 3 0):Int)),.s (.int .u16 (↑(List.getD (E6.v6 ((C4 s)).1) 4 0):Int)),.s (.int .u16 (↑(List.getD (E6.v6 ((C4 s)).1) 5 0):Int)),.s (.int .u16 (↑(List.getD (E6.v6 ((C4 s)).1) 6 0):Int)),.s (.int .u16 (↑(List.getD (E6.v6 ((C4 s)).1) 7 0):Int))],.s (.int .i64 (↑((C4 s)).2:Int))]) [])
 | _=>.fail
def EV (args:List PV):Tr:=On (E2 [[0]] args)
end
section
variable {σ R : Type} (lf : Nat) (cl : G2) (yh : Yh σ) (s : σ) (k : Out -> St σ -> Option R)
noncomputable abbrev Bc:Code:=D8 Tryz.f191
noncomputable def X8 (lf:Nat):Cfg:=C8 lf [191] (A4 [(5,[0,1,0,0,10,0])]) [] (A4 [(16,[2,0]),(15,[0,3,10,0]),(10,[0,3,10,0]),(12,[0,3,10,0]),(14,[0,3,10,0]),(8,[2,0]),(13,[0,3,1,8,0,32]),(11,[0,3,1,8,0,18]),(9,[0,3,1,8,0,5]),(7,[0,3,1,8,0]),(6,[0,3,0,9,0]),(5,[0,3,10,0,0]),(4,[0,3,10,0]),(3,[0,3]),(2,[2,0]),(1,[0,12]),(0,[0])]) [] (A4 [(0,[4]),(1,[0,3,10,0]),(2,[0,3,10,0])]) (some [2,0]) [] [] []
noncomputable def Ra {R:Type} (s0:By) (v1 b2 n3 n4:Int) (b5:Bool) (k0:By->Int->Int->Int->Option R) (k1:Unit->Option R):Option R:=cond b5 (vl (wu8 ((wu8 (b2-65))+10)) λn'4=>vl (bOr .u16 (Nw .u16 v1 (4:Int)) (Kn n'4)) λn'5=>k0 s0 n'5 n3 n4) (k1 ())
abbrev FW (b:Code):Prop:=∀ (k:Out->St σ->Option R) s0 v1 b2 n3 n4 b5,A9 (X8 lf) cl yh b ⟨gp [(0,pS s0),(3,p16 v1),(1,p8 b2),(8,pI n3),(0,pI n4),(32,pB b5)] 15,[],s⟩ k=Ra s0 v1 b2 n3 n4 b5 (λs0 v1 n2 n3=>k .normal ⟨gp [(0,pS s0),(3,p16 v1),(10,pI n2),(0,pI n3)] 48,[],s⟩) (λ_=>k .ret ⟨gp [(2,p16 (0:Int)),(0,pB false)] 61,[],s⟩)
theorem XW:FW (R:=R) lf cl yh s (cd [1,1,1,0,1,0,0,1,1,0,0,1,1,0,1,1,1,1,1] Bc):=by
 intro k s0 v1 b2 n3 n4 b5;unfold Ra;kernel_rfl
noncomputable def Rb {R:Type} (s0:By) (v1 b2 n3 n4:Int) (b5:Bool) (k0:By->Int->Int->Int->Option R) (k1:Unit->Option R):Option R:=cond b5 (vl (wu8 ((wu8 (b2-97))+10)) λn'2=>vl (bOr .u16 (Nw .u16 v1 (4:Int)) (Kn n'2)) λn'3=>k0 s0 n'3 n3 n4) (cond (not (ltI b2 65)) (Ra s0 v1 b2 n3 n4 (not (ltI 70 b2)) (λs'6 v'7 n'8 n'9=>k0 s'6 v'7 n'8 n'9) (λ_=>k1 ())) (Ra s0 v1 b2 n3 n4 false (λs'10 v'11 n'12 n'13=>k0 s'10 v'11 n'12 n'13) (λ_=>k1 ())))
abbrev Vf (b:Code):Prop:=∀ (k:Out->St σ->Option R) s0 v1 b2 n3 n4 b5,A9 (X8 lf) cl yh b ⟨gp [(0,pS s0),(3,p16 v1),(1,p8 b2),(8,pI n3),(0,pI n4),(18,pB b5)] 29,[],s⟩ k=Rb s0 v1 b2 n3 n4 b5 (λs0 v1 n2 n3=>k .normal ⟨gp [(0,pS s0),(3,p16 v1),(10,pI n2),(0,pI n3)] 48,[],s⟩) (λ_=>k .ret ⟨gp [(2,p16 (0:Int)),(0,pB false)] 61,[],s⟩)
theorem XX (b_1110100110011011111:Code) (h_grpc_j0:FW (R:=R) lf cl yh s b_1110100110011011111):Vf (R:=R) lf cl yh s (cd [1,1,1,0,1,0,0,1,1,0,0,1,1,0,1,1,1] (J3 [1,1,1,0,1,0,0,1,1,0,0,1,1,0,1,1,1,1,1] b_1110100110011011111 Bc)):=by
 intro k s0 v1 b2 n3 n4 b5;unfold Rb;simp only [<-h_grpc_j0 k];kernel_rfl
theorem XY:Vf (R:=R) lf cl yh s (cd [1,1,1,0,1,0,0,1,1,0,0,1,1,0,1,1,1] Bc):=by
 intro k s0 v1 b2 n3 n4 b5;exact Eq.trans (by kernel_rfl) (XX lf cl yh s (cd [1,1,1,0,1,0,0,1,1,0,0,1,1,0,1,1,1,1,1] Bc) (XW lf cl yh s) k s0 v1 b2 n3 n4 b5)
noncomputable def Rc {R:Type} (s0:By) (v1 b2 n3 n4:Int) (b5:Bool) (k0:By->Int->Int->Int->Option R) (k1:Unit->Option R):Option R:=cond b5 (vl (Kn (wu8 (b2-48))) λn'0=>vl (bOr .u16 (Nw .u16 v1 (4:Int)) n'0) λn'1=>k0 s0 n'1 n3 n4) (cond (not (ltI b2 97)) (Rb s0 v1 b2 n3 n4 (not (ltI 102 b2)) (λs'14 v'15 n'16 n'17=>k0 s'14 v'15 n'16 n'17) (λ_=>k1 ())) (Rb s0 v1 b2 n3 n4 false (λs'18 v'19 n'20 n'21=>k0 s'18 v'19 n'20 n'21) (λ_=>k1 ())))
abbrev Nb (b:Code):Prop:=∀ (k:Out->St σ->Option R) s0 v1 b2 n3 n4 b5,A9 (X8 lf) cl yh b ⟨gp [(0,pS s0),(3,p16 v1),(1,p8 b2),(8,pI n3),(0,pI n4),(5,pB b5)] 42,[],s⟩ k=Rc s0 v1 b2 n3 n4 b5 (λs0 v1 n2 n3=>k .normal ⟨gp [(0,pS s0),(3,p16 v1),(10,pI n2),(0,pI n3)] 48,[],s⟩) (λ_=>k .ret ⟨gp [(2,p16 (0:Int)),(0,pB false)] 61,[],s⟩)
theorem XZ (b_11101001100110111:Code) (h_grpc_j1:Vf (R:=R) lf cl yh s b_11101001100110111):Nb (R:=R) lf cl yh s (cd [1,1,1,0,1,0,0,1,1,0,0,1,1,0,1] (J3 [1,1,1,0,1,0,0,1,1,0,0,1,1,0,1,1,1] b_11101001100110111 Bc)):=by
 intro k s0 v1 b2 n3 n4 b5;unfold Rc;simp only [<-h_grpc_j1 k];kernel_rfl
theorem YA:Nb (R:=R) lf cl yh s (cd [1,1,1,0,1,0,0,1,1,0,0,1,1,0,1] Bc):=by
 intro k s0 v1 b2 n3 n4 b5;exact Eq.trans (by kernel_rfl) (XZ lf cl yh s (cd [1,1,1,0,1,0,0,1,1,0,0,1,1,0,1,1,1] Bc) (XY lf cl yh s) k s0 v1 b2 n3 n4 b5)
noncomputable def Dk {R:Type} (lf n:Nat) (s0:By) (v1 n2 n3:Int) (k0:Unit->Option R) (k1:Int->Option R):Option R:=match n with | 0=>none | n+1=>cond (ltI n3 n2) (cond (inR n3 s0.length) (cond (not (ltI (bAt s0 n3) (48:Int))) (Rc s0 v1 (bAt s0 n3) n2 n3 (not (ltI 57 (bAt s0 n3))) (λs'22 v'23 n'24 n'25=>vl (A1 (n'25+1)) λn'26=>Dk lf n s'22 v'23 n'24 n'26 k0 k1) (λ_=>k0 ())) (Rc s0 v1 (bAt s0 n3) n2 n3 false (λs'27 v'28 n'29 n'30=>vl (A1 (n'30+1)) λn'31=>Dk lf n s'27 v'28 n'29 n'31 k0 k1) (λ_=>k0 ()))) none) (k1 v1)
theorem YB (b_111010011001101:Code) (h_grpc_j2:Nb (R:=R) lf cl yh s b_111010011001101) (n:Nat) (s0:By) (v1 n2 n3:Int):E5 0 ((X8 lf).keep 5) (bd (X8 lf) cl yh (cd [1,1,1,0,1,0,0] (J3 [1,1,1,0,1,0,0,1,1,0,0,1,1,0,1] b_111010011001101 Bc))) n ⟨gp [(0,pS s0),(3,p16 v1),(10,pI n2),(0,pI n3)] 48,[],s⟩ k =
 Dk lf n s0 v1 n2 n3 (λ_=>k .ret ⟨gp [(2,p16 (0:Int)),(0,pB false)] 61,[],s⟩) (λv0=>k (.exit 0) ⟨gp [(4,p16 v0)] 60,[],s⟩):=by
 induction n generalizing s0 v1 n2 n3 with
 | zero=>rfl
 | succ n ih=>rw [Dk];exact let K0:=(F9 2 (F9 1 (G1 (X8 lf) cl yh (cd [1,1,1,0,1,0,0,1,1,1] Bc) (lpK 0 ((X8 lf).keep 5) (bd (X8 lf) cl yh (cd [1,1,1,0,1,0,0] (J3 [1,1,1,0,1,0,0,1,1,0,0,1,1,0,1] b_111010011001101 Bc))) n k))));(Eq.trans (by kernel_rfl) (A0 (A0 (A0 ((h_grpc_j2 K0 s0 v1 (bAt s0 n3) n2 n3 (not (ltI 57 (bAt s0 n3)))).trans (congr (congr rfl (fx4 λs'22 v'23 n'24 n'25=>(Eq.trans (by kernel_rfl) (A6 λn'26=>(ih s'22 v'23 n'24 n'26))))) (by kernel_rfl))) ((h_grpc_j2 K0 s0 v1 (bAt s0 n3) n2 n3 false).trans (congr (congr rfl (fx4 λs'27 v'28 n'29 n'30=>(Eq.trans (by kernel_rfl) (A6 λn'31=>(ih s'27 v'28 n'29 n'31))))) (by kernel_rfl)))) rfl) rfl))
noncomputable def Be1 {R:Type} (lf:Nat) (s0:By) (k0:Int->Bool->Option R):Option R:=cond (s0==[]) (k0 0 false) (cond (ltI 4 (s0.length:Int)) (k0 0 false) (Dk lf lf s0 0 (s0.length:Int) 0 (λ_=>k0 0 false) (λv'32=>k0 v'32 true)))
theorem Bt1 (b_111010011001101:Code) (h_grpc_j2:Nb (R:=PV × List Blk × σ) lf cl yh s b_111010011001101) (s0:By):A9 (X8 lf) cl yh (cd [] (J3 [1,1,1,0,1,0,0,1,1,0,0,1,1,0,1] b_111010011001101 Bc)) ⟨[pS s0]++tps 64,[],s⟩ (G5 (X8 lf) Tryz.f191)=Be1 lf s0 (λr0 r1=>some (.tup [p16 r0,pB r1],[],s)):=by
 unfold Be1;exact (Eq.trans (by kernel_rfl) (A0 rfl (A0 rfl ((YB lf cl yh s (F9 0 (G1 (X8 lf) cl yh (cd [1,1,1,1] Bc) (G5 (X8 lf) Tryz.f191))) b_111010011001101 h_grpc_j2 lf s0 0 (s0.length:Int) 0).trans (by kernel_rfl)))))
theorem Bt2 (d:Nat) (s0):evC (X8 lf) (d+1) σ yh 191 [pS s0] [] s=Be1 lf s0 (λr0 r1=>some (.tup [p16 r0,pB r1],[],s)):=
 (evE (fn:=Tryz.f191) (by kernel_rfl)).trans (Eq.trans (by kernel_rfl) (Bt1 lf (evC (X8 lf) d) yh s (cd [1,1,1,0,1,0,0,1,1,0,0,1,1,0,1] Bc) (YA lf (evC (X8 lf) d) yh s) s0))
noncomputable abbrev An8:Code:=D8 Tryz.f179
noncomputable def Jb (lf:Nat):Cfg:=C8 lf [179] (A4 [(6,[1,2,0,0,0,10,0,0])]) [(117,Qd),(191,A72),(192,B73)] (A4 [(16,[4,0]),(15,[1,4,0,10,0,0]),(14,[6]),(13,[4,0]),(12,[6,5,39]),(11,[1,4,0,0,3,0]),(10,[1,4,0,10,0,0]),(9,[1,4,0,0,0,0,7,0,0,9]),(8,[1,4,0,0,0,0,0,6,0,0]),(7,[1,4,0,0,0,8,0,0]),(6,[1,4,0,10,0,0,0]),(5,[1,4,0,10,0,0]),(4,[1,4,0]),(3,[0,0,4]),(2,[4,0]),(1,[0,0,13]),(0,[0,0])]) [191,192] (A4 [(0,[6]),(1,[1,4,0,10,0,0])]) (some [4,0]) [] [] []
noncomputable def Cr {R:Type} (lf n:Nat) (last0:Bool) (l1:LL) (n2 n3:Int) (l4:LL) (k0:LL->Option R) (k1:LL->Option R):Option R:=match n with | 0=>none | n+1=>cond (ltI n3 n2) (cond (inR n3 l1.length) (cond (okE Gc l1 (Int.toNat n3) 0) (cond (A3 (List.length (gX l1 (Int.toNat n3) 0))) (vl (↑(M5 (grp (gX l1 (Int.toNat n3) 0))):Int) λn'3=>cond (Option.isSome (grp (gX l1 (Int.toNat n3) 0))) (cond (F1 (l4.length+1)) (Cr lf n last0 l1 n2 (A1 (n3+1)) (l4++[[(SV.int .u16 n'3)]]) k0 k1) none) (cond (A3 (List.length (gX l1 (Int.toNat n3) 0))) (vl (↑(M5 (v4B (gX l1 (Int.toNat n3) 0))):Int) λn'5=>cond (not (Option.isSome (v4B (gX l1 (Int.toNat n3) 0)))) (k0 l4) (cond (not last0) (k0 l4) (vl (A1 ((l1.length:Int)-1)) λn'7=>cond (ltI n3 n'7) (k0 l4) (vl (Ai9 .u32 n'5 (16:Int)) λn'8=>cond (F1 (l4.length+2)) (k1 (l4++[[(SV.int .u16 (Kn n'8))],[(SV.int .u16 (Kn n'5))]])) none)))) none)) none) none) none) (k1 l4)
theorem QI (n last0 l1 n2 n3 l4):E5 1 ((Jb lf).keep 6) (bd (Jb lf) cl yh (cd [1,0,1,1,1,1,0,1,0,0] An8)) n ⟨gp [(1,pB last0),(4,.fl 0),(0,.s (.sl false false 1 l1)),(10,.s (.sl false false 1 l1)),(0,pI n2),(0,pI n3)] 42,[.arr true 25 1 l4],s⟩ k =
 Cr lf n last0 l1 n2 n3 l4 (λl0=>k .ret ⟨gp [(4,.fl 1),(0,pB false)] 57,[.arr true 25 1 l0,.arr true 25 1 []],s⟩) (λl0=>k (.exit 0) ⟨gp [(6,.fl 0)] 56,[.arr true 25 1 l0],s⟩):=by
 induction n generalizing last0 l1 n2 n3 l4 with
 | zero=>rfl
 | succ n ih=>rw [Cr];simp only [<-ih];kernel_rfl
noncomputable def Ap1 {R:Type} (lf:Nat) (s0:By) (last1:Bool) (k0:LL->Option R) (k1:LL->Option R):Option R:=cond (s0==[]) (k0 []) (cond (A3 s0.length) (cond (1==1) (vl (C6 (pcs (List.getD ([58]:List UInt8) 0 0) s0)) λl'1=>Cr lf lf last1 l'1 (l'1.length:Int) 0 [] (λl'9=>k1 l'9) (λl'10=>k0 l'10)) none) none)
theorem Be2 (d:Nat) (s0 last1):evC (Jb lf) (d+1) σ yh 179 [pS s0,pB last1] [] s=Ap1 lf s0 last1 (λl0=>some (.tup [.fl 0,pB true],[.arr true 25 1 l0],s)) (λl0=>some (.tup [.fl 1,pB false],[.arr true 25 1 l0,.arr true 25 1 []],s)):=by
 refine (evE (fn:=Tryz.f179) (by kernel_rfl)).trans ?_
 generalize evC (Jb lf) d=cl
 unfold Ap1;exact (Eq.trans (by kernel_rfl) (A0 rfl (A0 (A0 (A6 λl'1=>((QI lf cl yh s (F9 0 (G1 (Jb lf) cl yh (cd [1,0,1,1,1,1,1] An8) (G5 (Jb lf) Tryz.f179))) lf last1 l'1 (l'1.length:Int) 0 []).trans (by kernel_rfl))) rfl) rfl)))
noncomputable abbrev Bb0:Code:=D8 Tryz.f155
noncomputable def Wo (lf:Nat):Cfg:=C8 lf [155] (A4 []) [(50,Oo),(179,Am0)] (A4 [(10,[2,0]),(9,[2,1]),(8,[2,1,5]),(7,[2,0]),(6,[2,1,3,1,45]),(5,[2,1,2,0,0,0,0,0]),(4,[2,1,2,0,0,0,0]),(3,[2,1,1,0,0,0]),(2,[2,1,0,0,0]),(1,[0,1,1]),(0,[0,1])]) [50] (A4 []) (some [2,0]) [] [] []
noncomputable def Ml {R:Type} (x1 y3 l5:LL) (k0:LL->LL->Option R):Option R:=cond (decide (l5.length=8)) (cond (decide (8<=l5.length)) (vl ((List.take 0 l5)++((List.take 8 x1)++(List.drop (0+(min x1.length 8)) l5))) λl'9=>vl (A1 ((8:Int)-(y3.length:Int))) λn'10=>cond (decide (l'9.length=8)) (cond (P0 n'10 (8:Int) 8) (cond (decide (((Int.toNat n'10)+(8-(Int.toNat n'10)))<=l'9.length)) (vl ((List.take (Int.toNat n'10) l'9)++((List.take (8-(Int.toNat n'10)) y3)++(List.drop ((Int.toNat n'10)+(min y3.length (8-(Int.toNat n'10)))) l'9))) λl'11=>cond ((decide (8=(l'11.length*1)))&&(okS ⟨true,true,[.int .u16,.int .u16,.int .u16,.int .u16,.int .u16,.int .u16,.int .u16,.int .u16]⟩ (List.flatten l'11) 0)) (vl (SV.gI (List.getD (List.flatten l'11) 0 SV.nilp)) λn'12=>vl (SV.gI (List.getD (List.flatten l'11) 1 SV.nilp)) λn'13=>vl (SV.gI (List.getD (List.flatten l'11) 2 SV.nilp)) λn'14=>vl (SV.gI (List.getD (List.flatten l'11) 3 SV.nilp)) λn'15=>vl (SV.gI (List.getD (List.flatten l'11) 4 SV.nilp)) λn'16=>vl (SV.gI (List.getD (List.flatten l'11) 5 SV.nilp)) λn'17=>vl (SV.gI (List.getD (List.flatten l'11) 6 SV.nilp)) λn'18=>vl (SV.gI (List.getD (List.flatten l'11) 7 SV.nilp)) λn'19=>cond (decide (8=(l5.length*1))) (vl (R8 1 l5.length [(SV.int .u16 n'12),(SV.int .u16 n'13),(SV.int .u16 n'14),(SV.int .u16 n'15),(SV.int .u16 n'16),(SV.int .u16 n'17),(SV.int .u16 n'18),(SV.int .u16 n'19)]) λl'20=>k0 l'20 l'11) none) none) none) none) none) none) none
abbrev UH (b:Code):Prop:=∀ (k:Out->St σ->Option R) x_z0 x1 y_z2 y3 b4 l5,A9 (Wo lf) cl yh b ⟨gp [(2,.ptr 0 0 0),(1,.ptr 1 0 0),(3,.s (.sl x_z0 x_z0 1 x1)),(1,.s (.sl y_z2 y_z2 1 y3)),(45,pB b4)] 11,[.arr false 26 1 l5,.arr false 26 1 l5],s⟩ k=Ml x1 y3 l5 (λl0 l1=>k .ret ⟨gp [(2,.ptr 0 0 0),(0,pB true)] 64,[.arr false 26 1 l0,.arr false 26 1 l1],s⟩)
theorem A60:UH (R:=R) lf cl yh s (cd [1,1,1,1,1,1,1] Bb0):=by
 intro k x_z0 x1 y_z2 y3 b4 l5;unfold Ml;kernel_rfl
noncomputable def v6p {R:Type} (lf:Nat) (s0:By) (k0:Int->Int->Int->Int->Int->Int->Int->Int->Bool->LL->LL->Option R):Option R:=cond (A3 s0.length) (vl ((Lib.cut s0 ([58,58]:List UInt8))).1 λs'2=>vl (((Lib.cut s0 ([58,58]:List UInt8))).2).1 λs'3=>cond (A3 s'2.length) (vl (F2 (gvs s'2 (not (((Lib.cut s0 ([58,58]:List UInt8))).2).2))) λl'5=>cond (A3 s'3.length) (vl (A1 ((l'5.length:Int)+(↑(List.length (F2 (gvs s'3 true))):Int))) λn'7=>cond (not (Option.isSome (Q0 s'2 (not (((Lib.cut s0 ([58,58]:List UInt8))).2).2)))) (k0 0 0 0 0 0 0 0 0 false (List.replicate 8 [(SV.int .u16 (0:Int))]) (List.replicate 8 [(SV.int .u16 (0:Int))])) (cond (not (Option.isSome (Q0 s'3 true))) (k0 0 0 0 0 0 0 0 0 false (List.replicate 8 [(SV.int .u16 (0:Int))]) (List.replicate 8 [(SV.int .u16 (0:Int))])) (cond (not (((Lib.cut s0 ([58,58]:List UInt8))).2).2) (cond (n'7 != 8) (k0 0 0 0 0 0 0 0 0 false (List.replicate 8 [(SV.int .u16 (0:Int))]) (List.replicate 8 [(SV.int .u16 (0:Int))])) (cond (((Lib.cut s0 ([58,58]:List UInt8))).2).2 (cond (ltI 7 n'7) (k0 0 0 0 0 0 0 0 0 false (List.replicate 8 [(SV.int .u16 (0:Int))]) (List.replicate 8 [(SV.int .u16 (0:Int))])) (Ml l'5 (F2 (gvs s'3 true)) (List.replicate 8 [(SV.int .u16 (0:Int))]) (λl'21 l'22=>cond ((decide (8=(l'21.length*1)))&&(okS ⟨true,true,[.int .u16,.int .u16,.int .u16,.int .u16,.int .u16,.int .u16,.int .u16,.int .u16]⟩ (List.flatten l'21) 0)) (k0 (SV.gI (List.getD (List.flatten l'21) 0 SV.nilp)) (SV.gI (List.getD (List.flatten l'21) 1 SV.nilp)) (SV.gI (List.getD (List.flatten l'21) 2 SV.nilp)) (SV.gI (List.getD (List.flatten l'21) 3 SV.nilp)) (SV.gI (List.getD (List.flatten l'21) 4 SV.nilp)) (SV.gI (List.getD (List.flatten l'21) 5 SV.nilp)) (SV.gI (List.getD (List.flatten l'21) 6 SV.nilp)) (SV.gI (List.getD (List.flatten l'21) 7 SV.nilp)) true l'21 l'22) none))) (Ml l'5 (F2 (gvs s'3 true)) (List.replicate 8 [(SV.int .u16 (0:Int))]) (λl'23 l'24=>cond ((decide (8=(l'23.length*1)))&&(okS ⟨true,true,[.int .u16,.int .u16,.int .u16,.int .u16,.int .u16,.int .u16,.int .u16,.int .u16]⟩ (List.flatten l'23) 0)) (k0 (SV.gI (List.getD (List.flatten l'23) 0 SV.nilp)) (SV.gI (List.getD (List.flatten l'23) 1 SV.nilp)) (SV.gI (List.getD (List.flatten l'23) 2 SV.nilp)) (SV.gI (List.getD (List.flatten l'23) 3 SV.nilp)) (SV.gI (List.getD (List.flatten l'23) 4 SV.nilp)) (SV.gI (List.getD (List.flatten l'23) 5 SV.nilp)) (SV.gI (List.getD (List.flatten l'23) 6 SV.nilp)) (SV.gI (List.getD (List.flatten l'23) 7 SV.nilp)) true l'23 l'24) none)))) (cond (((Lib.cut s0 ([58,58]:List UInt8))).2).2 (cond (ltI 7 n'7) (k0 0 0 0 0 0 0 0 0 false (List.replicate 8 [(SV.int .u16 (0:Int))]) (List.replicate 8 [(SV.int .u16 (0:Int))])) (Ml l'5 (F2 (gvs s'3 true)) (List.replicate 8 [(SV.int .u16 (0:Int))]) (λl'25 l'26=>cond ((decide (8=(l'25.length*1)))&&(okS ⟨true,true,[.int .u16,.int .u16,.int .u16,.int .u16,.int .u16,.int .u16,.int .u16,.int .u16]⟩ (List.flatten l'25) 0)) (k0 (SV.gI (List.getD (List.flatten l'25) 0 SV.nilp)) (SV.gI (List.getD (List.flatten l'25) 1 SV.nilp)) (SV.gI (List.getD (List.flatten l'25) 2 SV.nilp)) (SV.gI (List.getD (List.flatten l'25) 3 SV.nilp)) (SV.gI (List.getD (List.flatten l'25) 4 SV.nilp)) (SV.gI (List.getD (List.flatten l'25) 5 SV.nilp)) (SV.gI (List.getD (List.flatten l'25) 6 SV.nilp)) (SV.gI (List.getD (List.flatten l'25) 7 SV.nilp)) true l'25 l'26) none))) (Ml l'5 (F2 (gvs s'3 true)) (List.replicate 8 [(SV.int .u16 (0:Int))]) (λl'27 l'28=>cond ((decide (8=(l'27.length*1)))&&(okS ⟨true,true,[.int .u16,.int .u16,.int .u16,.int .u16,.int .u16,.int .u16,.int .u16,.int .u16]⟩ (List.flatten l'27) 0)) (k0 (SV.gI (List.getD (List.flatten l'27) 0 SV.nilp)) (SV.gI (List.getD (List.flatten l'27) 1 SV.nilp)) (SV.gI (List.getD (List.flatten l'27) 2 SV.nilp)) (SV.gI (List.getD (List.flatten l'27) 3 SV.nilp)) (SV.gI (List.getD (List.flatten l'27) 4 SV.nilp)) (SV.gI (List.getD (List.flatten l'27) 5 SV.nilp)) (SV.gI (List.getD (List.flatten l'27) 6 SV.nilp)) (SV.gI (List.getD (List.flatten l'27) 7 SV.nilp)) true l'27 l'28) none)))))) none) none) none
theorem Ce1 (b_1111111:Code) (h_v6p_j0:UH (R:=PV × List Blk × σ) lf cl yh s b_1111111) (s0:By):A9 (Wo lf) cl yh (cd [] (J3 [1,1,1,1,1,1,1] b_1111111 Bb0)) ⟨[pS s0]++tps 67,[],s⟩ (G5 (Wo lf) Tryz.f155)=v6p lf s0 (λr0 r1 r2 r3 r4 r5 r6 r7 r8 l9 l10=>some (.tup [.agg [p16 r0,p16 r1,p16 r2,p16 r3,p16 r4,p16 r5,p16 r6,p16 r7],pB r8],[.arr false 26 1 l9,.arr false 26 1 l10],s)):=by
 unfold v6p;exact let K0:=(G5 (Wo lf) Tryz.f155);(Eq.trans (by kernel_rfl) (A0 (A6 λs'2=>(A6 λs'3=>(A0 (A6 λl'5=>(A0 (A6 λn'7=>(A0 rfl (A0 rfl (A0 (A0 rfl (A0 (A0 rfl ((h_v6p_j0 K0 (List.isEmpty (gvs s'2 (not (((Lib.cut s0 ([58,58]:List UInt8))).2).2))) l'5 (List.isEmpty (gvs s'3 true)) (F2 (gvs s'3 true)) (ltI 7 n'7) (List.replicate 8 [(SV.int .u16 (0:Int))])).trans (by kernel_rfl))) ((h_v6p_j0 K0 (List.isEmpty (gvs s'2 (not (((Lib.cut s0 ([58,58]:List UInt8))).2).2))) l'5 (List.isEmpty (gvs s'3 true)) (F2 (gvs s'3 true)) false (List.replicate 8 [(SV.int .u16 (0:Int))])).trans (by kernel_rfl)))) (A0 (A0 rfl ((h_v6p_j0 K0 (List.isEmpty (gvs s'2 (not (((Lib.cut s0 ([58,58]:List UInt8))).2).2))) l'5 (List.isEmpty (gvs s'3 true)) (F2 (gvs s'3 true)) (ltI 7 n'7) (List.replicate 8 [(SV.int .u16 (0:Int))])).trans (by kernel_rfl))) ((h_v6p_j0 K0 (List.isEmpty (gvs s'2 (not (((Lib.cut s0 ([58,58]:List UInt8))).2).2))) l'5 (List.isEmpty (gvs s'3 true)) (F2 (gvs s'3 true)) false (List.replicate 8 [(SV.int .u16 (0:Int))])).trans (by kernel_rfl))))))) rfl)) rfl))) rfl))
theorem Ce2 (d:Nat) (s0):evC (Wo lf) (d+1) σ yh 155 [pS s0] [] s=v6p lf s0 (λr0 r1 r2 r3 r4 r5 r6 r7 r8 l9 l10=>some (.tup [.agg [p16 r0,p16 r1,p16 r2,p16 r3,p16 r4,p16 r5,p16 r6,p16 r7],pB r8],[.arr false 26 1 l9,.arr false 26 1 l10],s)):=
 (evE (fn:=Tryz.f155) (by kernel_rfl)).trans (Eq.trans (by kernel_rfl) (Ce1 lf (evC (Wo lf) d) yh s (cd [1,1,1,1,1,1,1] Bb0) (A60 lf (evC (Wo lf) d) yh s) s0))
noncomputable abbrev Bd:Code:=D8 Tryz.f164
noncomputable def Y0 (lf:Nat):Cfg:=C8 lf [164] (A4 [(5,[0,1,0,0,0])]) [] (A4 [(15,[2,0]),(6,[0,3,0]),(10,[0,3,0]),(12,[0,3,0]),(14,[0,3,0]),(8,[2,0]),(13,[0,3,0,0,44]),(11,[0,3,0,0,30]),(9,[0,3,0,0,17]),(7,[0,3,0,0]),(5,[0,3,0,12]),(4,[0,3,0]),(3,[0,3]),(2,[2,0]),(1,[0,13]),(0,[0])]) [] (A4 [(0,[4]),(1,[0,3,0]),(2,[0,3,0])]) (some [2,0]) [] [] []
noncomputable def Se {R:Type} (s0:By) (n1 i2 b3:Int) (b4:Bool) (k0:By->Int->Int->Option R) (k1:Unit->Option R):Option R:=cond b4 (vl (A1 (wu8 (b3-65))) λn'5=>vl (A1 ((A1 (n1*16))+n'5)) λn'6=>vl (A1 (n'6+10)) λn'7=>k0 s0 n'7 i2) (k1 ())
abbrev HA (b:Code):Prop:=∀ (k:Out->St σ->Option R) s0 n1 i2 b3 b4,A9 (Y0 lf) cl yh b ⟨gp [(0,pS s0),(3,pI n1),(0,pI i2),(0,p8 b3),(44,pB b4)] 15,[],s⟩ k=Se s0 n1 i2 b3 b4 (λs0 n1 i2=>k .normal ⟨gp [(0,pS s0),(3,pI n1),(0,pI i2)] 61,[],s⟩) (λ_=>k .ret ⟨gp [(2,p16 (0:Int)),(0,pB false)] 63,[],s⟩)
theorem Ad2:HA (R:=R) lf cl yh s (cd [1,1,1,0,1,0,0,1,0,0,1,0,1,1,1,1,1] Bd):=by
 intro k s0 n1 i2 b3 b4;unfold Se;kernel_rfl
noncomputable def Sf {R:Type} (s0:By) (n1 i2 b3:Int) (b4:Bool) (k0:By->Int->Int->Option R) (k1:Unit->Option R):Option R:=cond b4 (vl (A1 (wu8 (b3-97))) λn'2=>vl (A1 ((A1 (n1*16))+n'2)) λn'3=>vl (A1 (n'3+10)) λn'4=>k0 s0 n'4 i2) (cond (not (ltI b3 65)) (Se s0 n1 i2 b3 (not (ltI 70 b3)) (λs'8 n'9 i'10=>k0 s'8 n'9 i'10) (λ_=>k1 ())) (Se s0 n1 i2 b3 false (λs'11 n'12 i'13=>k0 s'11 n'12 i'13) (λ_=>k1 ())))
abbrev Vw (b:Code):Prop:=∀ (k:Out->St σ->Option R) s0 n1 i2 b3 b4,A9 (Y0 lf) cl yh b ⟨gp [(0,pS s0),(3,pI n1),(0,pI i2),(0,p8 b3),(30,pB b4)] 29,[],s⟩ k=Sf s0 n1 i2 b3 b4 (λs0 n1 i2=>k .normal ⟨gp [(0,pS s0),(3,pI n1),(0,pI i2)] 61,[],s⟩) (λ_=>k .ret ⟨gp [(2,p16 (0:Int)),(0,pB false)] 63,[],s⟩)
theorem Ad3 (b_11101001001011111:Code) (h_rgrp_j0:HA (R:=R) lf cl yh s b_11101001001011111):Vw (R:=R) lf cl yh s (cd [1,1,1,0,1,0,0,1,0,0,1,0,1,1,1] (J3 [1,1,1,0,1,0,0,1,0,0,1,0,1,1,1,1,1] b_11101001001011111 Bd)):=by
 intro k s0 n1 i2 b3 b4;unfold Sf;simp only [<-h_rgrp_j0 k];kernel_rfl
theorem Ad4:Vw (R:=R) lf cl yh s (cd [1,1,1,0,1,0,0,1,0,0,1,0,1,1,1] Bd):=by
 intro k s0 n1 i2 b3 b4;exact Eq.trans (by kernel_rfl) (Ad3 lf cl yh s (cd [1,1,1,0,1,0,0,1,0,0,1,0,1,1,1,1,1] Bd) (Ad2 lf cl yh s) k s0 n1 i2 b3 b4)
noncomputable def Sg {R:Type} (s0:By) (n1 i2 b3:Int) (b4:Bool) (k0:By->Int->Int->Option R) (k1:Unit->Option R):Option R:=cond b4 (vl (A1 (wu8 (b3-48))) λn'0=>vl (A1 ((A1 (n1*16))+n'0)) λn'1=>k0 s0 n'1 i2) (cond (not (ltI b3 97)) (Sf s0 n1 i2 b3 (not (ltI 102 b3)) (λs'14 n'15 i'16=>k0 s'14 n'15 i'16) (λ_=>k1 ())) (Sf s0 n1 i2 b3 false (λs'17 n'18 i'19=>k0 s'17 n'18 i'19) (λ_=>k1 ())))
abbrev Nn (b:Code):Prop:=∀ (k:Out->St σ->Option R) s0 n1 i2 b3 b4,A9 (Y0 lf) cl yh b ⟨gp [(0,pS s0),(3,pI n1),(0,pI i2),(0,p8 b3),(17,pB b4)] 42,[],s⟩ k=Sg s0 n1 i2 b3 b4 (λs0 n1 i2=>k .normal ⟨gp [(0,pS s0),(3,pI n1),(0,pI i2)] 61,[],s⟩) (λ_=>k .ret ⟨gp [(2,p16 (0:Int)),(0,pB false)] 63,[],s⟩)
theorem Ad5 (b_111010010010111:Code) (h_rgrp_j1:Vw (R:=R) lf cl yh s b_111010010010111):Nn (R:=R) lf cl yh s (cd [1,1,1,0,1,0,0,1,0,0,1,0,1] (J3 [1,1,1,0,1,0,0,1,0,0,1,0,1,1,1] b_111010010010111 Bd)):=by
 intro k s0 n1 i2 b3 b4;unfold Sg;simp only [<-h_rgrp_j1 k];kernel_rfl
theorem Ad6:Nn (R:=R) lf cl yh s (cd [1,1,1,0,1,0,0,1,0,0,1,0,1] Bd):=by
 intro k s0 n1 i2 b3 b4;exact Eq.trans (by kernel_rfl) (Ad5 lf cl yh s (cd [1,1,1,0,1,0,0,1,0,0,1,0,1,1,1] Bd) (Ad4 lf cl yh s) k s0 n1 i2 b3 b4)
noncomputable def Du {R:Type} (lf n:Nat) (s0:By) (n1 i2:Int) (k0:Unit->Option R) (k1:Int->Option R):Option R:=match n with | 0=>none | n+1=>cond (ltI i2 (s0.length:Int)) (cond (inR i2 s0.length) (cond (not (ltI (bAt s0 i2) (48:Int))) (Sg s0 n1 i2 (bAt s0 i2) (not (ltI 57 (bAt s0 i2))) (λs'20 n'21 i'22=>vl (A1 (i'22+1)) λn'23=>Du lf n s'20 n'21 n'23 k0 k1) (λ_=>k0 ())) (Sg s0 n1 i2 (bAt s0 i2) false (λs'24 n'25 i'26=>vl (A1 (i'26+1)) λn'27=>Du lf n s'24 n'25 n'27 k0 k1) (λ_=>k0 ()))) none) (k1 n1)
theorem Ad7 (b_1110100100101:Code) (h_rgrp_j2:Nn (R:=R) lf cl yh s b_1110100100101) (n:Nat) (s0:By) (n1 i2:Int):E5 0 ((Y0 lf).keep 5) (bd (Y0 lf) cl yh (cd [1,1,1,0,1,0,0] (J3 [1,1,1,0,1,0,0,1,0,0,1,0,1] b_1110100100101 Bd))) n ⟨gp [(0,pS s0),(3,pI n1),(0,pI i2)] 61,[],s⟩ k =
 Du lf n s0 n1 i2 (λ_=>k .ret ⟨gp [(2,p16 (0:Int)),(0,pB false)] 63,[],s⟩) (λn0=>k (.exit 0) ⟨gp [(4,pI n0)] 62,[],s⟩):=by
 induction n generalizing s0 n1 i2 with
 | zero=>rfl
 | succ n ih=>rw [Du];exact let K0:=(F9 2 (F9 1 (G1 (Y0 lf) cl yh (cd [1,1,1,0,1,0,0,1,1] Bd) (lpK 0 ((Y0 lf).keep 5) (bd (Y0 lf) cl yh (cd [1,1,1,0,1,0,0] (J3 [1,1,1,0,1,0,0,1,0,0,1,0,1] b_1110100100101 Bd))) n k))));(Eq.trans (by kernel_rfl) (A0 (A0 (A0 ((h_rgrp_j2 K0 s0 n1 i2 (bAt s0 i2) (not (ltI 57 (bAt s0 i2)))).trans (congr (congr rfl (fx3 λs'20 n'21 i'22=>(Eq.trans (by kernel_rfl) (A6 λn'23=>(ih s'20 n'21 n'23))))) (by kernel_rfl))) ((h_rgrp_j2 K0 s0 n1 i2 (bAt s0 i2) false).trans (congr (congr rfl (fx3 λs'24 n'25 i'26=>(Eq.trans (by kernel_rfl) (A6 λn'27=>(ih s'24 n'25 n'27))))) (by kernel_rfl)))) rfl) rfl))
noncomputable def Bi8 {R:Type} (lf:Nat) (s0:By) (k0:Int->Bool->Option R):Option R:=cond (ltI (s0.length:Int) (1:Int)) (k0 0 false) (cond (ltI 4 (s0.length:Int)) (k0 0 false) (Du lf lf s0 0 0 (λ_=>k0 0 false) (λn'28=>k0 (Kn n'28) true)))
theorem B14 (b_1110100100101:Code) (h_rgrp_j2:Nn (R:=PV × List Blk × σ) lf cl yh s b_1110100100101) (s0:By):A9 (Y0 lf) cl yh (cd [] (J3 [1,1,1,0,1,0,0,1,0,0,1,0,1] b_1110100100101 Bd)) ⟨[pS s0]++tps 66,[],s⟩ (G5 (Y0 lf) Tryz.f164)=Bi8 lf s0 (λr0 r1=>some (.tup [p16 r0,pB r1],[],s)):=by
 unfold Bi8;exact (Eq.trans (by kernel_rfl) (A0 rfl (A0 rfl ((Ad7 lf cl yh s (F9 0 (G1 (Y0 lf) cl yh (cd [1,1,1,1] Bd) (G5 (Y0 lf) Tryz.f164))) b_1110100100101 h_rgrp_j2 lf s0 0 0).trans (by kernel_rfl)))))
theorem B15 (d:Nat) (s0):evC (Y0 lf) (d+1) σ yh 164 [pS s0] [] s=Bi8 lf s0 (λr0 r1=>some (.tup [p16 r0,pB r1],[],s)):=
 (evE (fn:=Tryz.f164) (by kernel_rfl)).trans (Eq.trans (by kernel_rfl) (B14 lf (evC (Y0 lf) d) yh s (cd [1,1,1,0,1,0,0,1,0,0,1,0,1] Bd) (Ad6 lf (evC (Y0 lf) d) yh s) s0))
noncomputable abbrev Dh:Code:=D8 Tryz.f122
noncomputable def Q4 (lf:Nat):Cfg:=C8 lf [122] (A4 [(6,[1,2,0,0,0,0])]) [(53,Hs),(163,A94),(164,A92)] (A4 [(15,[4,0]),(7,[1,4,0,0]),(14,[1,4,0,0]),(13,[4,0]),(12,[1,4,0,0,2,47]),(11,[1,4,0,0,2,0]),(10,[1,4,0,0]),(9,[1,4,0,0,0,31]),(8,[1,4,0,0,0,0]),(6,[1,4,0,0,11]),(5,[1,4,0,0]),(4,[1,4,0]),(3,[0,0,4]),(2,[4,0]),(1,[0,0,12]),(0,[0,0])]) [163,164] (A4 [(0,[6]),(1,[1,4,0,0])]) (some [4,0]) [] [] []
noncomputable def Ii {R:Type} (last0:Bool) (p1:LL) (i2 v3:Int) (b4:Bool) (l5:LL) (k0:Bool->LL->Int->LL->Option R) (k1:Bool->LL->Int->Int->Bool->LL->Option R):Option R:=cond b4 (vl (Ai9 .u32 v3 (16:Int)) λn'10=>cond (F1 (l5.length+2)) (k0 last0 p1 i2 (l5++[[(SV.int .u16 (Kn n'10))],[(SV.int .u16 (Kn v3))]])) none) (k1 last0 p1 i2 v3 b4 l5)
abbrev Pu (b:Code):Prop:=∀ (k:Out->St σ->Option R) last0 p1 i2 v3 b4 l5,A9 (Q4 lf) cl yh b ⟨gp [(1,pB last0),(4,.fl 0),(0,.s (.sl false false 1 p1)),(0,pI i2),(0,p32 v3),(31,pB b4)] 23,[.arr true 25 1 l5],s⟩ k=Ii last0 p1 i2 v3 b4 l5 (λlast0 p1 i2 l3=>k (.exit 1) ⟨gp [(1,pB last0),(4,.fl 0),(0,.s (.sl false false 1 p1)),(0,pI i2)] 56,[.arr true 25 1 l3],s⟩) (λlast0 p1 i2 v3 b4 l5=>k .normal ⟨gp [(1,pB last0),(4,.fl 0),(0,.s (.sl false false 1 p1)),(0,pI i2),(0,p32 v3),(31,pB b4)] 23,[.arr true 25 1 l5],s⟩)
theorem SE:Pu (R:=R) lf cl yh s (cd [1,1,1,1,0,1,0,0,1,0,0,0,1,1] Dh):=by
 intro k last0 p1 i2 v3 b4 l5;unfold Ii;kernel_rfl
noncomputable def Ij {R:Type} (last0:Bool) (p1:LL) (i2:Int) (l5:LL) (k0:LL->Option R) (k1:Bool->LL->Int->LL->Option R):Option R:=cond (inR i2 p1.length) (cond (okE Gc p1 (Int.toNat i2) 0) (cond (A3 (List.length (gX p1 (Int.toNat i2) 0))) (vl (↑(M5 (grp (gX p1 (Int.toNat i2) 0))):Int) λn'23=>cond (not (Option.isSome (grp (gX p1 (Int.toNat i2) 0)))) (k0 l5) (cond (F1 (l5.length+1)) (k1 last0 p1 i2 (l5++[[(SV.int .u16 n'23)]])) none)) none) none) none
abbrev Pv (b:Code):Prop:=∀ (k:Out->St σ->Option R) last0 p1 i2 v3 b4 l5,A9 (Q4 lf) cl yh b ⟨gp [(1,pB last0),(4,.fl 0),(0,.s (.sl false false 1 p1)),(0,pI i2),(0,p32 v3),(31,pB b4)] 23,[.arr true 25 1 l5],s⟩ k=Ij last0 p1 i2 l5 (λl0=>k .ret ⟨gp [(4,.fl 1),(0,pB false)] 59,[.arr true 25 1 l0,.arr true 25 1 []],s⟩) (λlast0 p1 i2 l3=>k .normal ⟨gp [(1,pB last0),(4,.fl 0),(0,.s (.sl false false 1 p1)),(0,pI i2)] 56,[.arr true 25 1 l3],s⟩)
theorem SG:Pv (R:=R) lf cl yh s (cd [1,1,1,1,0,1,0,0,1,0,0,1] Dh):=by
 intro k last0 p1 i2 v3 b4 l5;unfold Ij;kernel_rfl
noncomputable def P4 {R:Type} (lf n:Nat) (last0:Bool) (p1:LL) (i2:Int) (l3:LL) (k0:LL->Option R) (k1:LL->Option R):Option R:=match n with | 0=>none | n+1=>cond (ltI i2 (p1.length:Int)) (cond (inR i2 p1.length) (cond (okE Gc p1 (Int.toNat i2) 0) (cond (A3 (List.length (gX p1 (Int.toNat i2) 0))) (vl (↑(M5 (v4B (gX p1 (Int.toNat i2) 0))):Int) λn'7=>cond (Option.isSome (v4B (gX p1 (Int.toNat i2) 0))) (cond last0 (vl (A1 ((p1.length:Int)-1)) λn'9=>Ii last0 p1 i2 n'7 (i2==n'9) l3 (λlast'11 p'12 i'13 l'14=>vl (A1 (i'13+1)) λn'21=>P4 lf n last'11 p'12 n'21 l'14 k0 k1) (λlast'15 p'16 i'17 v'18 b'19 l'20=>Ij last'15 p'16 i'17 l'20 (λl'24=>k0 l'24) (λlast'25 p'26 i'27 l'28=>vl (A1 (i'27+1)) λn'29=>P4 lf n last'25 p'26 n'29 l'28 k0 k1))) (Ii last0 p1 i2 n'7 false l3 (λlast'30 p'31 i'32 l'33=>vl (A1 (i'32+1)) λn'40=>P4 lf n last'30 p'31 n'40 l'33 k0 k1) (λlast'34 p'35 i'36 v'37 b'38 l'39=>Ij last'34 p'35 i'36 l'39 (λl'41=>k0 l'41) (λlast'42 p'43 i'44 l'45=>vl (A1 (i'44+1)) λn'46=>P4 lf n last'42 p'43 n'46 l'45 k0 k1)))) (Ii last0 p1 i2 n'7 false l3 (λlast'47 p'48 i'49 l'50=>vl (A1 (i'49+1)) λn'57=>P4 lf n last'47 p'48 n'57 l'50 k0 k1) (λlast'51 p'52 i'53 v'54 b'55 l'56=>Ij last'51 p'52 i'53 l'56 (λl'58=>k0 l'58) (λlast'59 p'60 i'61 l'62=>vl (A1 (i'61+1)) λn'63=>P4 lf n last'59 p'60 n'63 l'62 k0 k1)))) none) none) none) (k1 l3)
theorem SH (b_11110100100011:Code) (h_rgrps_j0:Pu (R:=R) lf cl yh s b_11110100100011) (b_111101001001:Code) (h_rgrps_j1:Pv (R:=R) lf cl yh s b_111101001001) (n:Nat) (last0:Bool) (p1:LL) (i2:Int) (l3:LL):E5 1 ((Q4 lf).keep 6) (bd (Q4 lf) cl yh (cd [1,1,1,1,0,1,0,0] (J3 [1,1,1,1,0,1,0,0,1,0,0,1] b_111101001001 (J3 [1,1,1,1,0,1,0,0,1,0,0,0,1,1] b_11110100100011 Dh)))) n ⟨gp [(1,pB last0),(4,.fl 0),(0,.s (.sl false false 1 p1)),(0,pI i2)] 56,[.arr true 25 1 l3],s⟩ k =
 P4 lf n last0 p1 i2 l3 (λl0=>k .ret ⟨gp [(4,.fl 1),(0,pB false)] 59,[.arr true 25 1 l0,.arr true 25 1 []],s⟩) (λl0=>k (.exit 0) ⟨gp [(6,.fl 0)] 58,[.arr true 25 1 l0],s⟩):=by
 induction n generalizing last0 p1 i2 l3 with
 | zero=>rfl
 | succ n ih=>rw [P4];exact let K0:=(F9 1 (G1 (Q4 lf) cl yh (cd [1,1,1,1,0,1,0,0,1,1] Dh) (lpK 1 ((Q4 lf).keep 6) (bd (Q4 lf) cl yh (cd [1,1,1,1,0,1,0,0] (J3 [1,1,1,1,0,1,0,0,1,0,0,1] b_111101001001 (J3 [1,1,1,1,0,1,0,0,1,0,0,0,1,1] b_11110100100011 Dh)))) n k)));let K1:=(G1 (Q4 lf) cl yh b_111101001001 K0);(Eq.trans (by kernel_rfl) (A0 (A0 (A0 (A0 (A6 λn'7=>(A0 (A0 (A6 λn'9=>((h_rgrps_j0 K1 last0 p1 i2 n'7 (i2==n'9) l3).trans (congr (congr rfl (fx4 λlast'11 p'12 i'13 l'14=>(Eq.trans (by kernel_rfl) (A6 λn'21=>(ih last'11 p'12 n'21 l'14))))) (fx6 λlast'15 p'16 i'17 v'18 b'19 l'20=>(Eq.trans (by kernel_rfl) ((h_rgrps_j1 K0 last'15 p'16 i'17 v'18 b'19 l'20).trans (congr (congr rfl (by kernel_rfl)) (fx4 λlast'25 p'26 i'27 l'28=>(Eq.trans (by kernel_rfl) (A6 λn'29=>(ih last'25 p'26 n'29 l'28))))))))))) ((h_rgrps_j0 K1 last0 p1 i2 n'7 false l3).trans (congr (congr rfl (fx4 λlast'30 p'31 i'32 l'33=>(Eq.trans (by kernel_rfl) (A6 λn'40=>(ih last'30 p'31 n'40 l'33))))) (fx6 λlast'34 p'35 i'36 v'37 b'38 l'39=>(Eq.trans (by kernel_rfl) ((h_rgrps_j1 K0 last'34 p'35 i'36 v'37 b'38 l'39).trans (congr (congr rfl (by kernel_rfl)) (fx4 λlast'42 p'43 i'44 l'45=>(Eq.trans (by kernel_rfl) (A6 λn'46=>(ih last'42 p'43 n'46 l'45))))))))))) ((h_rgrps_j0 K1 last0 p1 i2 n'7 false l3).trans (congr (congr rfl (fx4 λlast'47 p'48 i'49 l'50=>(Eq.trans (by kernel_rfl) (A6 λn'57=>(ih last'47 p'48 n'57 l'50))))) (fx6 λlast'51 p'52 i'53 v'54 b'55 l'56=>(Eq.trans (by kernel_rfl) ((h_rgrps_j1 K0 last'51 p'52 i'53 v'54 b'55 l'56).trans (congr (congr rfl (by kernel_rfl)) (fx4 λlast'59 p'60 i'61 l'62=>(Eq.trans (by kernel_rfl) (A6 λn'63=>(ih last'59 p'60 n'63 l'62)))))))))))) rfl) rfl) rfl) rfl))
noncomputable def SD {R:Type} (lf:Nat) (s0:By) (last1:Bool) (k0:LL->Option R) (k1:LL->Option R):Option R:=cond (s0==[]) (k0 []) (cond (A3 s0.length) (vl (C6 (pcs (u8n (58:Int)) s0)) λl'1=>P4 lf lf last1 l'1 0 [] (λl'64=>k1 l'64) (λl'65=>k0 l'65)) none)
theorem Bi9 (b_11110100100011:Code) (h_rgrps_j0:Pu (R:=PV × List Blk × σ) lf cl yh s b_11110100100011) (b_111101001001:Code) (h_rgrps_j1:Pv (R:=PV × List Blk × σ) lf cl yh s b_111101001001) (s0:By) (last1:Bool):A9 (Q4 lf) cl yh (cd [] (J3 [1,1,1,1,0,1,0,0,1,0,0,1] b_111101001001 (J3 [1,1,1,1,0,1,0,0,1,0,0,0,1,1] b_11110100100011 Dh))) ⟨[pS s0,pB last1]++tps 63,[],s⟩ (G5 (Q4 lf) Tryz.f122)=SD lf s0 last1 (λl0=>some (.tup [.fl 0,pB true],[.arr true 25 1 l0],s)) (λl0=>some (.tup [.fl 1,pB false],[.arr true 25 1 l0,.arr true 25 1 []],s)):=by
 unfold SD;exact (Eq.trans (by kernel_rfl) (A0 rfl (A0 (A6 λl'1=>((SH lf cl yh s (F9 0 (G1 (Q4 lf) cl yh (cd [1,1,1,1,1] Dh) (G5 (Q4 lf) Tryz.f122))) b_11110100100011 h_rgrps_j0 b_111101001001 h_rgrps_j1 lf last1 l'1 0 []).trans (by kernel_rfl))) rfl)))
theorem Bj0 (d:Nat) (s0 last1):evC (Q4 lf) (d+1) σ yh 122 [pS s0,pB last1] [] s=SD lf s0 last1 (λl0=>some (.tup [.fl 0,pB true],[.arr true 25 1 l0],s)) (λl0=>some (.tup [.fl 1,pB false],[.arr true 25 1 l0,.arr true 25 1 []],s)):=
 (evE (fn:=Tryz.f122) (by kernel_rfl)).trans (Eq.trans (by kernel_rfl) (Bi9 lf (evC (Q4 lf) d) yh s (cd [1,1,1,1,0,1,0,0,1,0,0,0,1,1] Dh) (SE lf (evC (Q4 lf) d) yh s) (cd [1,1,1,1,0,1,0,0,1,0,0,1] Dh) (SG lf (evC (Q4 lf) d) yh s) s0 last1))
noncomputable abbrev FE:Code:=D8 Tryz.f121
noncomputable def Bg (lf:Nat):Cfg:=C8 lf [121] (A4 [(2,[0,1,0])]) [] (A4 [(6,[2]),(3,[0,2]),(5,[2]),(4,[0,2,17]),(2,[0,2,4]),(1,[0,2]),(0,[0])]) [] (A4 [(0,[]),(1,[0,2])]) (some [2]) [] [] []
noncomputable def T1 {R:Type} (lf n:Nat) (s0:By) (i1:Int) (k0:Int->Option R) (k1:Unit->Option R):Option R:=match n with | 0=>none | n+1=>cond (ltI (A1 (i1+1)) (s0.length:Int)) (cond (inR i1 s0.length) (cond ((bAt s0 i1)==58) (cond (inR (A1 (i1+1)) s0.length) (vl (bAt s0 (A1 (i1+1))) λn'0=>cond (n'0==58) (k0 i1) (T1 lf n s0 (A1 (i1+1)) k0 k1)) none) (T1 lf n s0 (A1 (i1+1)) k0 k1)) none) (k1 ())
theorem EF (n s0 i1):E5 0 ((Bg lf).keep 2) (bd (Bg lf) cl yh (cd [1,0,1,0,0] FE)) n ⟨gp [(0,pS s0),(2,pI i1)] 19,[],s⟩ k =
 T1 lf n s0 i1 (λn0=>k .ret ⟨gp [(2,pI n0)] 20,[],s⟩) (λ_=>k (.exit 0) ⟨gp [] 23,[],s⟩):=by
 induction n generalizing s0 i1 with
 | zero=>rfl
 | succ n ih=>rw [T1];simp only [<-ih];kernel_rfl
noncomputable def Yl {R:Type} (lf:Nat) (s0:By) (k0:Int->Option R):Option R:=T1 lf lf s0 0 (λn'1=>k0 n'1) (λ_=>k0 (-1))
theorem Ac0 (d:Nat) (s0):evC (Bg lf) (d+1) σ yh 121 [pS s0] [] s=Yl lf s0 (λr0=>some (pI r0,[],s)):=by
 refine (evE (fn:=Tryz.f121) (by kernel_rfl)).trans ?_
 generalize evC (Bg lf) d=cl
 unfold Yl;exact (Eq.trans (by kernel_rfl) ((EF lf cl yh s (F9 0 (G1 (Bg lf) cl yh (cd [1,1] FE) (G5 (Bg lf) Tryz.f121))) lf s0 0).trans (by kernel_rfl)))
noncomputable abbrev Oz:Code:=D8 Tryz.f88
noncomputable def Y1 (lf:Nat):Cfg:=C8 lf [88] (A4 [(21,[2,0,0,6,2]),(17,[2,0,0,4,1,1]),(8,[2,0,0,1,1])]) [(121,EU),(122,Am8)] (A4 [(24,[2,0]),(22,[2,1,6,2]),(23,[2,1,6,2]),(21,[2,1,6,2,73]),(20,[2,1,6,2]),(18,[2,1,4,1,1]),(19,[2,1,4,1,1]),(17,[2,1,4,1,1,62]),(16,[2,1,4,1,1]),(15,[2,0]),(14,[2,1,4,1,59]),(13,[2,1,4,0,0,0]),(12,[0,1,1,0,3,0]),(11,[2,0]),(9,[2,1,1,1]),(10,[2,1,1,1]),(8,[2,1,1,1,24]),(7,[2,1,1,1]),(6,[2,0]),(5,[2,1,1,23]),(4,[2,1,1,0]),(3,[0,1,1,0,12]),(2,[0,1,1,0]),(1,[0,1,1]),(0,[0,1])]) [121] (A4 [(4,[2,1]),(5,[2,1,6,2]),(2,[2,1,6]),(3,[2,1,4,1,1]),(0,[2,1]),(1,[2,1,1,1])]) (some [2,0]) [] [] []
noncomputable def Kf {R:Type} (lf n:Nat) (l_z0:Bool) (l1:LL) (i2:Int) (l3 l4:LL) (k0:LL->LL->Option R):Option R:=match n with | 0=>none | n+1=>cond (ltI i2 8) (cond (inR i2 l1.length) (cond (okE ⟨true,false,[.int .u16]⟩ l1 (Int.toNat i2) 0) (cond (inR i2 8) (cond (decide ((Int.toNat i2)<l4.length)) (vl (List.set l4 (Int.toNat i2) (G3 (List.getD l4 (Int.toNat i2) []) 0 [(SV.int .u16 (gE l1 (Int.toNat i2) 0))])) λl'8=>Kf lf n l_z0 l1 (A1 (i2+1)) l3 l'8 k0) none) none) none) none) (k0 l3 l4)
theorem Ai2 (n l_z0 l1 i2 l3 l4):E5 2 ((Y1 lf).keep 8) (bd (Y1 lf) cl yh (cd [1,1,1,0,1,0,1,1,0,1,0,0] Oz)) n ⟨gp [(2,.ptr 0 0 0),(1,.ptr 1 0 0),(1,.s (.sl l_z0 l_z0 1 l1)),(1,pI i2)] 93,[.arr false 26 1 l3,.arr false 26 1 l4],s⟩ k =
 Kf lf n l_z0 l1 i2 l3 l4 (λl0 l1=>k (.exit 0) ⟨gp [(2,.ptr 0 0 0),(1,.ptr 1 0 0)] 97,[.arr false 26 1 l0,.arr false 26 1 l1],s⟩):=by
 induction n generalizing l_z0 l1 i2 l3 l4 with
 | zero=>rfl
 | succ n ih=>rw [Kf];simp only [<-ih];kernel_rfl
noncomputable def Kg {R:Type} (lf n:Nat) (l_z0:Bool) (l1:LL) (r_z2:Bool) (r3:LL) (i4:Int) (l5 l6:LL) (k0:Bool->LL->LL->LL->Option R):Option R:=match n with | 0=>none | n+1=>cond (ltI i4 (l1.length:Int)) (cond (inR i4 l1.length) (cond (okE ⟨true,false,[.int .u16]⟩ l1 (Int.toNat i4) 0) (cond (inR i4 8) (cond (decide ((Int.toNat i4)<l6.length)) (vl (List.set l6 (Int.toNat i4) (G3 (List.getD l6 (Int.toNat i4) []) 0 [(SV.int .u16 (gE l1 (Int.toNat i4) 0))])) λl'20=>Kg lf n l_z0 l1 r_z2 r3 (A1 (i4+1)) l5 l'20 k0) none) none) none) none) (k0 r_z2 r3 l5 l6)
theorem Ai3 (n l_z0 l1 r_z2 r3 i4 l5 l6):E5 2 ((Y1 lf).keep 17) (bd (Y1 lf) cl yh (cd [1,1,1,1,1,1,1,0,1,0,0] Oz)) n ⟨gp [(2,.ptr 0 0 0),(1,.ptr 1 0 0),(4,.s (.sl l_z0 l_z0 1 l1)),(1,.s (.sl r_z2 r_z2 1 r3)),(1,pI i4)] 88,[.arr false 26 1 l5,.arr false 26 1 l6],s⟩ k =
 Kg lf n l_z0 l1 r_z2 r3 i4 l5 l6 (λr_z0 r1 l2 l3=>k (.exit 2) ⟨gp [(2,.ptr 0 0 0),(1,.ptr 1 0 0),(6,.s (.sl r_z0 r_z0 1 r1))] 90,[.arr false 26 1 l2,.arr false 26 1 l3],s⟩):=by
 induction n generalizing l_z0 l1 r_z2 r3 i4 l5 l6 with
 | zero=>rfl
 | succ n ih=>rw [Kg];simp only [<-ih];kernel_rfl
noncomputable def Kh {R:Type} (lf n:Nat) (r_z0:Bool) (r1:LL) (i2:Int) (l3 l4:LL) (k0:LL->LL->Option R):Option R:=match n with | 0=>none | n+1=>cond (ltI i2 (r1.length:Int)) (vl (A1 ((8:Int)-(r1.length:Int))) λn'25=>cond (inR i2 r1.length) (cond (okE ⟨true,false,[.int .u16]⟩ r1 (Int.toNat i2) 0) (cond (inR (A1 (n'25+i2)) 8) (cond (decide ((Int.toNat (A1 (n'25+i2)))<l4.length)) (vl (List.set l4 (Int.toNat (A1 (n'25+i2))) (G3 (List.getD l4 (Int.toNat (A1 (n'25+i2))) []) 0 [(SV.int .u16 (gE r1 (Int.toNat i2) 0))])) λl'26=>Kh lf n r_z0 r1 (A1 (i2+1)) l3 l'26 k0) none) none) none) none) (k0 l3 l4)
theorem Ai4 (n r_z0 r1 i2 l3 l4):E5 2 ((Y1 lf).keep 21) (bd (Y1 lf) cl yh (cd [1,1,1,1,1,1,1,1,0,1,0,0] Oz)) n ⟨gp [(2,.ptr 0 0 0),(1,.ptr 1 0 0),(6,.s (.sl r_z0 r_z0 1 r1)),(2,pI i2)] 87,[.arr false 26 1 l3,.arr false 26 1 l4],s⟩ k =
 Kh lf n r_z0 r1 i2 l3 l4 (λl0 l1=>k (.exit 4) ⟨gp [(2,.ptr 0 0 0),(1,.ptr 1 0 0)] 97,[.arr false 26 1 l0,.arr false 26 1 l1],s⟩):=by
 induction n generalizing r_z0 r1 i2 l3 l4 with
 | zero=>rfl
 | succ n ih=>rw [Kh];simp only [<-ih];kernel_rfl
noncomputable def Bk6 {R:Type} (lf:Nat) (s0:By) (k0:Int->Int->Int->Int->Int->Int->Int->Int->Bool->LL->LL->Option R):Option R:=cond (A3 s0.length) (cond (ltI (AR s0) (0:Int)) (cond (A3 s0.length) (cond (not (Option.isSome (Q0 s0 true))) (k0 0 0 0 0 0 0 0 0 false (List.replicate 8 [(SV.int .u16 (0:Int))]) (List.replicate 8 [(SV.int .u16 (0:Int))])) (cond ((↑(List.length (F2 (gvs s0 true))):Int) != 8) (k0 0 0 0 0 0 0 0 0 false (List.replicate 8 [(SV.int .u16 (0:Int))]) (List.replicate 8 [(SV.int .u16 (0:Int))])) (Kf lf lf (List.isEmpty (gvs s0 true)) (F2 (gvs s0 true)) 0 (List.replicate 8 [(SV.int .u16 (0:Int))]) (List.replicate 8 [(SV.int .u16 (0:Int))]) (λl'9 l'10=>cond ((decide (8=(l'10.length*1)))&&(okS ⟨true,true,[.int .u16,.int .u16,.int .u16,.int .u16,.int .u16,.int .u16,.int .u16,.int .u16]⟩ (List.flatten l'10) 0)) (vl (SV.gI (List.getD (List.flatten l'10) 0 SV.nilp)) λn'11=>vl (SV.gI (List.getD (List.flatten l'10) 1 SV.nilp)) λn'12=>vl (SV.gI (List.getD (List.flatten l'10) 2 SV.nilp)) λn'13=>vl (SV.gI (List.getD (List.flatten l'10) 3 SV.nilp)) λn'14=>vl (SV.gI (List.getD (List.flatten l'10) 4 SV.nilp)) λn'15=>vl (SV.gI (List.getD (List.flatten l'10) 5 SV.nilp)) λn'16=>vl (SV.gI (List.getD (List.flatten l'10) 6 SV.nilp)) λn'17=>vl (SV.gI (List.getD (List.flatten l'10) 7 SV.nilp)) λn'18=>cond (decide (8=(l'9.length*1))) (vl (R8 1 l'9.length [(SV.int .u16 n'11),(SV.int .u16 n'12),(SV.int .u16 n'13),(SV.int .u16 n'14),(SV.int .u16 n'15),(SV.int .u16 n'16),(SV.int .u16 n'17),(SV.int .u16 n'18)]) λl'19=>cond ((decide (8=(l'19.length*1)))&&(okS ⟨true,true,[.int .u16,.int .u16,.int .u16,.int .u16,.int .u16,.int .u16,.int .u16,.int .u16]⟩ (List.flatten l'19) 0)) (k0 (SV.gI (List.getD (List.flatten l'19) 0 SV.nilp)) (SV.gI (List.getD (List.flatten l'19) 1 SV.nilp)) (SV.gI (List.getD (List.flatten l'19) 2 SV.nilp)) (SV.gI (List.getD (List.flatten l'19) 3 SV.nilp)) (SV.gI (List.getD (List.flatten l'19) 4 SV.nilp)) (SV.gI (List.getD (List.flatten l'19) 5 SV.nilp)) (SV.gI (List.getD (List.flatten l'19) 6 SV.nilp)) (SV.gI (List.getD (List.flatten l'19) 7 SV.nilp)) true l'19 l'10) none) none) none)))) none) (cond (P0 0 (AR s0) s0.length) (vl (cut s0 0 (AR s0)) λs'1=>cond (A3 s'1.length) (vl (A1 ((AR s0)+2)) λn'4=>cond (P0 n'4 (s0.length:Int) s0.length) (vl (cut s0 n'4 (s0.length:Int)) λs'5=>cond (A3 s'5.length) (cond (not (Option.isSome (Q0 s'1 false))) (k0 0 0 0 0 0 0 0 0 false (List.replicate 8 [(SV.int .u16 (0:Int))]) (List.replicate 8 [(SV.int .u16 (0:Int))])) (cond (not (Option.isSome (Q0 s'5 true))) (k0 0 0 0 0 0 0 0 0 false (List.replicate 8 [(SV.int .u16 (0:Int))]) (List.replicate 8 [(SV.int .u16 (0:Int))])) (vl (A1 ((↑(List.length (F2 (gvs s'1 false))):Int)+(↑(List.length (F2 (gvs s'5 true))):Int))) λn'7=>cond (ltI 7 n'7) (k0 0 0 0 0 0 0 0 0 false (List.replicate 8 [(SV.int .u16 (0:Int))]) (List.replicate 8 [(SV.int .u16 (0:Int))])) (Kg lf lf (List.isEmpty (gvs s'1 false)) (F2 (gvs s'1 false)) (List.isEmpty (gvs s'5 true)) (F2 (gvs s'5 true)) 0 (List.replicate 8 [(SV.int .u16 (0:Int))]) (List.replicate 8 [(SV.int .u16 (0:Int))]) (λr_z'21 r'22 l'23 l'24=>Kh lf lf r_z'21 r'22 0 l'23 l'24 (λl'27 l'28=>cond ((decide (8=(l'28.length*1)))&&(okS ⟨true,true,[.int .u16,.int .u16,.int .u16,.int .u16,.int .u16,.int .u16,.int .u16,.int .u16]⟩ (List.flatten l'28) 0)) (vl (SV.gI (List.getD (List.flatten l'28) 0 SV.nilp)) λn'29=>vl (SV.gI (List.getD (List.flatten l'28) 1 SV.nilp)) λn'30=>vl (SV.gI (List.getD (List.flatten l'28) 2 SV.nilp)) λn'31=>vl (SV.gI (List.getD (List.flatten l'28) 3 SV.nilp)) λn'32=>vl (SV.gI (List.getD (List.flatten l'28) 4 SV.nilp)) λn'33=>vl (SV.gI (List.getD (List.flatten l'28) 5 SV.nilp)) λn'34=>vl (SV.gI (List.getD (List.flatten l'28) 6 SV.nilp)) λn'35=>vl (SV.gI (List.getD (List.flatten l'28) 7 SV.nilp)) λn'36=>cond (decide (8=(l'27.length*1))) (vl (R8 1 l'27.length [(SV.int .u16 n'29),(SV.int .u16 n'30),(SV.int .u16 n'31),(SV.int .u16 n'32),(SV.int .u16 n'33),(SV.int .u16 n'34),(SV.int .u16 n'35),(SV.int .u16 n'36)]) λl'37=>cond ((decide (8=(l'37.length*1)))&&(okS ⟨true,true,[.int .u16,.int .u16,.int .u16,.int .u16,.int .u16,.int .u16,.int .u16,.int .u16]⟩ (List.flatten l'37) 0)) (k0 (SV.gI (List.getD (List.flatten l'37) 0 SV.nilp)) (SV.gI (List.getD (List.flatten l'37) 1 SV.nilp)) (SV.gI (List.getD (List.flatten l'37) 2 SV.nilp)) (SV.gI (List.getD (List.flatten l'37) 3 SV.nilp)) (SV.gI (List.getD (List.flatten l'37) 4 SV.nilp)) (SV.gI (List.getD (List.flatten l'37) 5 SV.nilp)) (SV.gI (List.getD (List.flatten l'37) 6 SV.nilp)) (SV.gI (List.getD (List.flatten l'37) 7 SV.nilp)) true l'37 l'28) none) none) none)))))) none) none) none) none)) none
theorem B29 (d:Nat) (s0):evC (Y1 lf) (d+1) σ yh 88 [pS s0] [] s=Bk6 lf s0 (λr0 r1 r2 r3 r4 r5 r6 r7 r8 l9 l10=>some (.tup [.agg [p16 r0,p16 r1,p16 r2,p16 r3,p16 r4,p16 r5,p16 r6,p16 r7],pB r8],[.arr false 26 1 l9,.arr false 26 1 l10],s)):=by
 refine (evE (fn:=Tryz.f88) (by kernel_rfl)).trans ?_
 generalize evC (Y1 lf) d=cl
 unfold Bk6;exact (Eq.trans (by kernel_rfl) (A0 (A0 (A0 (A0 rfl (A0 rfl ((Ai2 lf cl yh s (F9 0 (G1 (Y1 lf) cl yh (cd [1,1,1,0,1,0,1,1,1] Oz) (G1 (Y1 lf) cl yh (cd [1,1,1,1] Oz) (G5 (Y1 lf) Tryz.f88)))) lf (List.isEmpty (gvs s0 true)) (F2 (gvs s0 true)) 0 (List.replicate 8 [(SV.int .u16 (0:Int))]) (List.replicate 8 [(SV.int .u16 (0:Int))])).trans (by kernel_rfl)))) rfl) (A0 (A6 λs'1=>(A0 (A6 λn'4=>(A0 (A6 λs'5=>(A0 (A0 rfl (A0 rfl (A6 λn'7=>(A0 rfl ((Ai3 lf cl yh s (F9 2 (G1 (Y1 lf) cl yh (cd [1,1,1,1,1,1,1,1] Oz) (G5 (Y1 lf) Tryz.f88))) lf (List.isEmpty (gvs s'1 false)) (F2 (gvs s'1 false)) (List.isEmpty (gvs s'5 true)) (F2 (gvs s'5 true)) 0 (List.replicate 8 [(SV.int .u16 (0:Int))]) (List.replicate 8 [(SV.int .u16 (0:Int))])).trans (congr rfl (fx4 λr_z'21 r'22 l'23 l'24=>(Eq.trans (by kernel_rfl) ((Ai4 lf cl yh s (F9 4 (G1 (Y1 lf) cl yh (cd [1,1,1,1,1,1,1,1,1] Oz) (G5 (Y1 lf) Tryz.f88))) lf r_z'21 r'22 0 l'23 l'24).trans (by kernel_rfl)))))))))) rfl)) rfl)) rfl)) rfl)) rfl))
noncomputable def AG (lf:Nat):Cfg:=C8 lf [184] (A4 []) [] (A4 [(1,[2]),(0,[0])]) [] (A4 []) (some [2]) [] [] []
noncomputable def MW {R:Type} (lf:Nat) (n0:Int) (k0:Bool->Option R):Option R:=cond (not (ltI n0 0)) (cond (not (ltI 1114111 n0)) (cond (ltI n0 55296) (k0 true) (k0 (ltI 57343 n0))) (k0 false)) (k0 false)
theorem A13 (d:Nat) (n0):evC (AG lf) (d+1) σ yh 184 [pI n0] [] s=MW lf n0 (λr0=>some (pB r0,[],s)):=by
 refine (evE (fn:=Tryz.f184) (by kernel_rfl)).trans ?_
 generalize evC (AG lf) d=cl
 unfold MW;kernel_rfl
noncomputable abbrev Lk:Code:=D8 Tryz.f186
noncomputable def V3 (lf:Nat):Cfg:=C8 lf [186] (A4 [(6,[0,5,0])]) [] (A4 [(9,[6]),(8,[0,6]),(7,[0,6]),(6,[0,6,11]),(5,[0,6]),(4,[0]),(2,[0,0]),(3,[0,0]),(1,[0,0,6]),(0,[0,0,0])]) [] (A4 [(0,[0,6]),(1,[0,6])]) (some [6]) [] [] []
noncomputable def Ei {R:Type} (lf n:Nat) (delta0 kk1:Int) (k0:Int->Int->Option R):Option R:=match n with | 0=>none | n+1=>cond (ltI 455 delta0) (vl (A1 (Int.tdiv delta0 (35:Int))) λn'6=>vl (A1 (kk1+36)) λn'7=>Ei lf n n'6 n'7 k0) (k0 delta0 kk1)
theorem MT (n delta0 kk1):E5 0 ((V3 lf).keep 6) (bd (V3 lf) cl yh (cd [1,1,1,1,0,0,0] Lk)) n ⟨gp [(0,pI delta0),(6,pI kk1)] 23,[],s⟩ k =
 Ei lf n delta0 kk1 (λdelta0 kk1=>k (.exit 0) ⟨gp [(0,pI delta0),(6,pI kk1)] 23,[],s⟩):=by
 induction n generalizing delta0 kk1 with
 | zero=>rfl
 | succ n ih=>rw [Ei];simp only [<-ih];kernel_rfl
noncomputable def Eh {R:Type} (lf:Nat) (delta0 count1:Int) (k0:Int->Option R):Option R:=cond (count1 != 0) (vl (A1 (Int.tdiv delta0 count1)) λn'5=>Ei lf lf (A1 (delta0+n'5)) 0 (λdelta'8 kk'9=>vl (A1 ((36:Int)*delta'8)) λn'10=>vl (A1 (delta'8+38)) λn'11=>cond (n'11 != 0) (vl (A1 (Int.tdiv n'10 n'11)) λn'12=>k0 (A1 (kk'9+n'12))) none)) none
abbrev Xf (b:Code):Prop:=∀ (k:Out->St σ->Option R) delta0 count1,A9 (V3 lf) cl yh b ⟨gp [(0,pI delta0),(0,pI count1)] 29,[],s⟩ k=Eh lf delta0 count1 (λn0=>k .ret ⟨gp [(6,pI n0)] 24,[],s⟩)
theorem MS:Xf (R:=R) lf cl yh s (cd [1,1] Lk):=by
 intro k delta0 count1;unfold Eh;exact (Eq.trans (by kernel_rfl) (A0 (A6 λn'5=>((MT lf cl yh s (F9 0 (G1 (V3 lf) cl yh (cd [1,1,1,1,1] Lk) k)) lf (A1 (delta0+n'5)) 0).trans (by kernel_rfl))) rfl))
noncomputable def CJ {R:Type} (lf:Nat) (delta0 count1:Int) (first2:Bool) (k0:Int->Option R):Option R:=cond first2 (vl (A1 (Int.tdiv delta0 (700:Int))) λn'2=>Eh lf n'2 count1 (λn'13=>k0 n'13)) (vl (A1 (Int.tdiv delta0 (2:Int))) λn'3=>Eh lf n'3 count1 (λn'14=>k0 n'14))
theorem A00 (b_11:Code) (h_padapt_j0:Xf (R:=PV × List Blk × σ) lf cl yh s b_11) (delta0 count1:Int) (first2:Bool):A9 (V3 lf) cl yh (cd [] (J3 [1,1] b_11 Lk)) ⟨[pI delta0,pI count1,pB first2]++tps 28,[],s⟩ (G5 (V3 lf) Tryz.f186)=CJ lf delta0 count1 first2 (λr0=>some (pI r0,[],s)):=by
 unfold CJ;exact let K0:=(G5 (V3 lf) Tryz.f186);(Eq.trans (by kernel_rfl) (A0 (A6 λn'2=>((h_padapt_j0 K0 n'2 count1).trans (by kernel_rfl))) (A6 λn'3=>((h_padapt_j0 K0 n'3 count1).trans (by kernel_rfl)))))
theorem A01 (d:Nat) (delta0 count1 first2):evC (V3 lf) (d+1) σ yh 186 [pI delta0,pI count1,pB first2] [] s=CJ lf delta0 count1 first2 (λr0=>some (pI r0,[],s)):=
 (evE (fn:=Tryz.f186) (by kernel_rfl)).trans (Eq.trans (by kernel_rfl) (A00 lf (evC (V3 lf) d) yh s (cd [1,1] Lk) (MS lf (evC (V3 lf) d) yh s) delta0 count1 first2))
noncomputable def WX (lf:Nat):Cfg:=C8 lf [195] (A4 []) [] (A4 [(3,[2]),(2,[2]),(1,[0,3]),(0,[0])]) [] (A4 []) (some [2]) [] [] []
noncomputable def By3 {R:Type} (lf:Nat) (d0:Int) (k0:Int->Option R):Option R:=cond (ltI d0 26) (vl (wu8 (A1 ((97:Int)+d0))) λn'0=>k0 n'0) (vl (A1 ((A1 ((48:Int)+d0))-26)) λn'1=>k0 (wu8 n'1))
theorem By4 (d:Nat) (d0):evC (WX lf) (d+1) σ yh 195 [pI d0] [] s=By3 lf d0 (λr0=>some (p8 r0,[],s)):=by
 refine (evE (fn:=Tryz.f195) (by kernel_rfl)).trans ?_
 generalize evC (WX lf) d=cl
 unfold By3;kernel_rfl
noncomputable abbrev Ox:Code:=D8 Tryz.f202
noncomputable def Hb (lf:Nat):Cfg:=C8 lf [202] (A4 []) [] (A4 [(7,[2]),(2,[2]),(4,[2]),(6,[2]),(5,[0,22]),(3,[0,12]),(1,[0,2]),(0,[0])]) [] (A4 [(0,[])]) (some [2]) [] [] []
noncomputable def Rz {R:Type} (b0:Int) (b1:Bool) (k0:Int->Option R) (k1:Int->Bool->Option R):Option R:=cond b1 (vl (A1 (wu8 (b0-65))) λn'1=>k0 n'1) (cond (not (ltI b0 48)) (cond (not (ltI 57 b0)) (vl (A1 (wu8 (b0-48))) λn'2=>vl (A1 (n'2+26)) λn'3=>k0 n'3) (k1 b0 (not (ltI 57 b0)))) (k1 b0 false))
abbrev GU (b:Code):Prop:=∀ (k:Out->St σ->Option R) b0 b1,A9 (Hb lf) cl yh b ⟨gp [(0,p8 b0),(12,pB b1)] 20,[],s⟩ k=Rz b0 b1 (λn0=>k .ret ⟨gp [(2,pI n0)] 31,[],s⟩) (λb0 b1=>k .normal ⟨gp [(0,p8 b0),(22,pB b1)] 10,[],s⟩)
theorem Aa9:GU (R:=R) lf cl yh s (cd [1,0,0,1,1,1] Ox):=by
 intro k b0 b1;unfold Rz;kernel_rfl
noncomputable def Sa {R:Type} (b0:Int) (b1:Bool) (k0:Int->Option R) (k1:Int->Bool->Option R):Option R:=cond b1 (vl (A1 (wu8 (b0-97))) λn'0=>k0 n'0) (cond (not (ltI b0 65)) (Rz b0 (not (ltI 90 b0)) (λn'4=>k0 n'4) (λb'5 b'6=>k1 b'5 b'6)) (Rz b0 false (λn'7=>k0 n'7) (λb'8 b'9=>k1 b'8 b'9)))
abbrev Vt (b:Code):Prop:=∀ (k:Out->St σ->Option R) b0 b1,A9 (Hb lf) cl yh b ⟨gp [(0,p8 b0),(2,pB b1)] 30,[],s⟩ k=Sa b0 b1 (λn0=>k .ret ⟨gp [(2,pI n0)] 31,[],s⟩) (λb0 b1=>k .normal ⟨gp [(0,p8 b0),(22,pB b1)] 10,[],s⟩)
theorem Ab0 (b_100111:Code) (h_pval_j0:GU (R:=R) lf cl yh s b_100111):Vt (R:=R) lf cl yh s (cd [1,0,0,1] (J3 [1,0,0,1,1,1] b_100111 Ox)):=by
 intro k b0 b1;unfold Sa;simp only [<-h_pval_j0 k];kernel_rfl
theorem Ab1:Vt (R:=R) lf cl yh s (cd [1,0,0,1] Ox):=by
 intro k b0 b1;exact Eq.trans (by kernel_rfl) (Ab0 lf cl yh s (cd [1,0,0,1,1,1] Ox) (Aa9 lf cl yh s) k b0 b1)
noncomputable def Bi0 {R:Type} (lf:Nat) (b0:Int) (k0:Int->Option R):Option R:=cond (not (ltI b0 97)) (Sa b0 (not (ltI 122 b0)) (λn'10=>k0 n'10) (λb'11 b'12=>k0 (-1))) (Sa b0 false (λn'13=>k0 n'13) (λb'14 b'15=>k0 (-1)))
theorem Bz9 (b_1001:Code) (h_pval_j1:Vt (R:=PV × List Blk × σ) lf cl yh s b_1001) (b0:Int):A9 (Hb lf) cl yh (cd [] (J3 [1,0,0,1] b_1001 Ox)) ⟨[p8 b0]++tps 33,[],s⟩ (G5 (Hb lf) Tryz.f202)=Bi0 lf b0 (λr0=>some (pI r0,[],s)):=by
 unfold Bi0;exact let K0:=(F9 0 (G1 (Hb lf) cl yh (cd [1,1] Ox) (G5 (Hb lf) Tryz.f202)));(Eq.trans (by kernel_rfl) (A0 ((h_pval_j1 K0 b0 (not (ltI 122 b0))).trans (by kernel_rfl)) ((h_pval_j1 K0 b0 false).trans (by kernel_rfl))))
theorem B00 (d:Nat) (b0):evC (Hb lf) (d+1) σ yh 202 [p8 b0] [] s=Bi0 lf b0 (λr0=>some (pI r0,[],s)):=
 (evE (fn:=Tryz.f202) (by kernel_rfl)).trans (Eq.trans (by kernel_rfl) (Bz9 lf (evC (Hb lf) d) yh s (cd [1,0,0,1] Ox) (Ab1 lf (evC (Hb lf) d) yh s) b0))
end
section
variable {σ R : Type} (lf : Nat) (cl : G2) (yh : Yh σ) (s : σ) (k : Out -> St σ -> Option R)
noncomputable def WS (lf:Nat):Cfg:=C8 lf [154] (A4 []) [] (A4 [(1,[4]),(0,[0,0])]) [] (A4 []) (some [4]) [] [] []
noncomputable def Bw3 {R:Type} (lf:Nat) (s0 prefix1:By) (k0:Bool->Option R):Option R:=cond (not (ltI (s0.length:Int) (prefix1.length:Int))) (cond (P0 0 (prefix1.length:Int) s0.length) (vl (cut s0 0 (prefix1.length:Int)) λs'0=>k0 (s'0==prefix1)) none) (k0 false)
theorem Bw4 (d:Nat) (s0 prefix1):evC (WS lf) (d+1) σ yh 154 [pS s0,pS prefix1] [] s=Bw3 lf s0 prefix1 (λr0=>some (pB r0,[],s)):=by
 refine (evE (fn:=Tryz.f154) (by kernel_rfl)).trans ?_
 generalize evC (WS lf) d=cl
 unfold Bw3;kernel_rfl
noncomputable def WL (lf:Nat):Cfg:=C8 lf [112] (A4 []) [(154,VF)] (A4 [(1,[4]),(0,[0,0])]) [154] (A4 []) (some [4]) [] [] []
noncomputable def QM {R:Type} (lf:Nat) (s0 prefix1:By) (k0:Bool->Option R):Option R:=cond (A3 s0.length) (k0 (List.isPrefixOf prefix1 s0)) none
theorem Bt9 (d:Nat) (s0 prefix1):evC (WL lf) (d+1) σ yh 112 [pS s0,pS prefix1] [] s=QM lf s0 prefix1 (λr0=>some (pB r0,[],s)):=by
 refine (evE (fn:=Tryz.f112) (by kernel_rfl)).trans ?_
 generalize evC (WL lf) d=cl
 unfold QM;kernel_rfl
noncomputable def WT (lf:Nat):Cfg:=C8 lf [180] (A4 []) [] (A4 [(1,[4]),(0,[0,0])]) [] (A4 []) (some [4]) [] [] []
noncomputable def Bw5 {R:Type} (lf:Nat) (s0 suffix1:By) (k0:Bool->Option R):Option R:=cond (not (ltI (s0.length:Int) (suffix1.length:Int))) (vl (A1 ((s0.length:Int)-(suffix1.length:Int))) λn'0=>cond (P0 n'0 (s0.length:Int) s0.length) (vl (cut s0 n'0 (s0.length:Int)) λs'1=>k0 (s'1==suffix1)) none) (k0 false)
theorem Bw6 (d:Nat) (s0 suffix1):evC (WT lf) (d+1) σ yh 180 [pS s0,pS suffix1] [] s=Bw5 lf s0 suffix1 (λr0=>some (pB r0,[],s)):=by
 refine (evE (fn:=Tryz.f180) (by kernel_rfl)).trans ?_
 generalize evC (WT lf) d=cl
 unfold Bw5;kernel_rfl
noncomputable def LD (lf:Nat):Cfg:=C8 lf [157] (A4 []) [(180,A82)] (A4 [(3,[4]),(2,[4]),(1,[0,0,5]),(0,[0,0])]) [180] (A4 []) (some [4]) [] [] []
noncomputable def Aq5 {R:Type} (lf:Nat) (s0 suffix1:By) (k0:By->Option R):Option R:=cond (A3 s0.length) (cond (List.isSuffixOf suffix1 s0) (vl (A1 ((s0.length:Int)-(suffix1.length:Int))) λn'0=>cond (P0 0 n'0 s0.length) (k0 (cut s0 0 n'0)) none) (k0 s0)) none
theorem Bg1 (d:Nat) (s0 suffix1):evC (LD lf) (d+1) σ yh 157 [pS s0,pS suffix1] [] s=Aq5 lf s0 suffix1 (λr0=>some (pS r0,[],s)):=by
 refine (evE (fn:=Tryz.f157) (by kernel_rfl)).trans ?_
 generalize evC (LD lf) d=cl
 unfold Aq5;kernel_rfl
noncomputable def LK (lf:Nat):Cfg:=C8 lf [115] (A4 []) [(157,Am6)] (A4 [(1,[4]),(0,[0,0])]) [157] (A4 []) (some [4]) [] [] []
noncomputable def At4 {R:Type} (lf:Nat) (s0 suffix1:By) (k0:By->Option R):Option R:=cond (A3 s0.length) (k0 (OB s0 suffix1)) none
theorem Bm4 (d:Nat) (s0 suffix1):evC (LK lf) (d+1) σ yh 115 [pS s0,pS suffix1] [] s=At4 lf s0 suffix1 (λr0=>some (pS r0,[],s)):=by
 refine (evE (fn:=Tryz.f115) (by kernel_rfl)).trans ?_
 generalize evC (LK lf) d=cl
 unfold At4;kernel_rfl
noncomputable def LB (lf:Nat):Cfg:=C8 lf [169] (A4 []) [(154,VF)] (A4 [(3,[4,0]),(2,[4,0]),(1,[0,0,7]),(0,[0,0])]) [154] (A4 []) (some [4,0]) [] [] []
noncomputable def Ap9 {R:Type} (lf:Nat) (s0 prefix1:By) (k0:By->Bool->Option R):Option R:=cond (A3 s0.length) (cond (not (List.isPrefixOf prefix1 s0)) (k0 s0 false) (cond (P0 (prefix1.length:Int) (s0.length:Int) s0.length) (vl (cut s0 (prefix1.length:Int) (s0.length:Int)) λs'0=>k0 s'0 true) none)) none
theorem Bf6 (d:Nat) (s0 prefix1):evC (LB lf) (d+1) σ yh 169 [pS s0,pS prefix1] [] s=Ap9 lf s0 prefix1 (λr0 r1=>some (.tup [pS r0,pB r1],[],s)):=by
 refine (evE (fn:=Tryz.f169) (by kernel_rfl)).trans ?_
 generalize evC (LB lf) d=cl
 unfold Ap9;kernel_rfl
noncomputable def WJ (lf:Nat):Cfg:=C8 lf [130] (A4 []) [(169,Am4)] (A4 [(1,[4,0]),(0,[0,0])]) [169] (A4 []) (some [4,0]) [] [] []
noncomputable def Br4 {R:Type} (lf:Nat) (s0 prefix1:By) (k0:By->Bool->Option R):Option R:=cond (A3 s0.length) (k0 (AQ s0 prefix1) (List.isPrefixOf prefix1 s0)) none
theorem Br5 (d:Nat) (s0 prefix1):evC (WJ lf) (d+1) σ yh 130 [pS s0,pS prefix1] [] s=Br4 lf s0 prefix1 (λr0 r1=>some (.tup [pS r0,pB r1],[],s)):=by
 refine (evE (fn:=Tryz.f130) (by kernel_rfl)).trans ?_
 generalize evC (WJ lf) d=cl
 unfold Br4;kernel_rfl
noncomputable abbrev OZ:Code:=D8 Tryz.f158
noncomputable def Cl (lf:Nat):Cfg:=C8 lf [158] (A4 [(11,[0,0,0,0,4,0,0])]) [(181,Hq),(182,VV),(108,Zs)] (A4 [(18,[8]),(17,[9,0]),(16,[0,0,0,0,5,0]),(15,[0,0,0,0,5,0]),(14,[0,0,0,0,5,0,0]),(13,[0,0,0,0,5,0,0,29]),(12,[0,0,0,0,5,0,0]),(11,[0,0,0,0,5,0,25]),(10,[0,0,0,0,5,0]),(9,[0,0,0,0,5]),(8,[0,0,0,0,5]),(7,[0,0,0,0]),(6,[0,0,0,0]),(5,[0,0,0,0,16]),(4,[8]),(3,[0,0,0,0,11]),(2,[8]),(1,[0,0,0,0,9]),(0,[0,0,0,0])]) [182,108] (A4 [(0,[0,8,0]),(1,[0,0,0,0,5,0])]) (some [8]) [] [] []
noncomputable def Ab {R:Type} (lf n:Nat) (s0 sep1:By) (sepSave2 n3 i4:Int) (l5:LL) (k0:By->Int->LL->Option R):Option R:=match n with | 0=>none | n+1=>cond (ltI i4 n3) (cond (A3 s0.length) (cond (ltI (Lib.index s0 sep1) (0:Int)) (k0 s0 i4 l5) (vl (A1 ((Lib.index s0 sep1)+sepSave2)) λn'12=>cond (P0 0 n'12 s0.length) (cond (inR i4 l5.length) (cond (decide ((Int.toNat i4)<l5.length)) (vl (List.set l5 (Int.toNat i4) (G3 (List.getD l5 (Int.toNat i4) []) 0 [(SV.str (cut s0 0 n'12))])) λl'13=>vl (A1 ((Lib.index s0 sep1)+(sep1.length:Int))) λn'14=>cond (P0 n'14 (s0.length:Int) s0.length) (vl (cut s0 n'14 (s0.length:Int)) λs'15=>Ab lf n s'15 sep1 sepSave2 n3 (A1 (i4+1)) l'13 k0) none) none) none) none)) none) (k0 s0 i4 l5)
theorem Rd (n s0 sep1 sepSave2 n3 i4 l5):E5 1 ((Cl lf).keep 11) (bd (Cl lf) cl yh (cd [1,1,1,1,1,1,1,1,0,0,0] OZ)) n ⟨gp [(0,pS s0),(0,pS sep1),(0,pI sepSave2),(0,pI n3),(5,.fl 0),(0,pI i4)] 55,[.arr false 9 1 l5],s⟩ k =
 Ab lf n s0 sep1 sepSave2 n3 i4 l5 (λs0 i1 l2=>k (.exit 0) ⟨gp [(0,pS s0),(8,.fl 0),(0,pI i1)] 55,[.arr false 9 1 l2],s⟩):=by
 induction n generalizing s0 sep1 sepSave2 n3 i4 l5 with
 | zero=>rfl
 | succ n ih=>rw [Ab];simp only [<-ih];kernel_rfl
noncomputable def BE {R:Type} (lf:Nat) (s0 sep1:By) (sepSave2 n3:Int) (k0:Unit->Option R) (k1:Nat->LL->Option R):Option R:=cond (n3==0) (k0 ()) (cond (sep1==[]) none (cond (ltI n3 0) (cond (sep1.length==1) (vl (↑(List.count (List.getD sep1 0 0) s0):Int) λn'1=>vl (A1 ((s0.length:Int)+1)) λn'4=>vl (if (n'4<(A1 (n'1+1))) then n'4 else (A1 (n'1+1))) λn'5=>cond (((decide ((0:Int)<=n'5))&&(decide (n'5<=n'5)))&&(F1 (Int.toNat n'5))) (Ab lf lf s0 sep1 sepSave2 (A1 (n'5-1)) 0 (List.replicate (Int.toNat n'5) [(SV.str ([]:List UInt8))]) (λs'16 i'17 l'18=>cond (inR i'17 l'18.length) (cond (decide ((Int.toNat i'17)<l'18.length)) (vl (List.set l'18 (Int.toNat i'17) (G3 (List.getD l'18 (Int.toNat i'17) []) 0 [(SV.str s'16)])) λl'19=>vl (A1 (i'17+1)) λn'20=>cond (P0 0 n'20 l'19.length) (k1 ((Int.toNat n'20)-0) l'19) none) none) none)) none) none) (vl (A1 ((s0.length:Int)+1)) λn'8=>vl (if (n'8<n3) then n'8 else n3) λn'9=>cond (((decide ((0:Int)<=n'9))&&(decide (n'9<=n'9)))&&(F1 (Int.toNat n'9))) (Ab lf lf s0 sep1 sepSave2 (A1 (n'9-1)) 0 (List.replicate (Int.toNat n'9) [(SV.str ([]:List UInt8))]) (λs'21 i'22 l'23=>cond (inR i'22 l'23.length) (cond (decide ((Int.toNat i'22)<l'23.length)) (vl (List.set l'23 (Int.toNat i'22) (G3 (List.getD l'23 (Int.toNat i'22) []) 0 [(SV.str s'21)])) λl'24=>vl (A1 (i'22+1)) λn'25=>cond (P0 0 n'25 l'24.length) (k1 ((Int.toNat n'25)-0) l'24) none) none) none)) none)))
theorem FX (d:Nat) (s0 sep1 sepSave2 n3):evC (Cl lf) (d+1) σ yh 158 [pS s0,pS sep1,pI sepSave2,pI n3] [] s=BE lf s0 sep1 sepSave2 n3 (λ_=>some (.fl 0,[.arr true 9 1 []],s)) (λr_m0 l1=>some (.vw 0 0 r_m0,[.arr false 9 1 l1],s)):=by
 refine (evE (fn:=Tryz.f158) (by kernel_rfl)).trans ?_
 generalize evC (Cl lf) d=cl
 unfold BE;exact let K0:=(F9 0 (G1 (Cl lf) cl yh (cd [1,1,1,1,1,1,1,1,1] OZ) (G5 (Cl lf) Tryz.f158)));(Eq.trans (by kernel_rfl) (A0 rfl (A0 rfl (A0 (A0 (A6 λn'1=>(A6 λn'4=>(A6 λn'5=>(A0 ((Rd lf cl yh s K0 lf s0 sep1 sepSave2 (A1 (n'5-1)) 0 (List.replicate (Int.toNat n'5) [(SV.str ([]:List UInt8))])).trans (by kernel_rfl)) rfl)))) rfl) (A6 λn'8=>(A6 λn'9=>(A0 ((Rd lf cl yh s K0 lf s0 sep1 sepSave2 (A1 (n'9-1)) 0 (List.replicate (Int.toNat n'9) [(SV.str ([]:List UInt8))])).trans (by kernel_rfl)) rfl)))))))
noncomputable def AK (lf:Nat):Cfg:=C8 lf [117] (A4 []) [(158,OO)] (A4 [(1,[4]),(0,[0,0])]) [] (A4 []) (some [4]) [] [] []
noncomputable def NU {R:Type} (lf:Nat) (s0 sep1:By) (k0:LL->Option R):Option R:=cond (A3 s0.length) (cond (sep1.length==1) (cond ((0:Int)==0) (cond (((-1):Int)==((-1):Int)) (vl (C6 (pcs (List.getD sep1 0 0) s0)) λl'0=>k0 l'0) none) none) none) none
theorem A55 (d:Nat) (s0 sep1):evC (AK lf) (d+1) σ yh 117 [pS s0,pS sep1] [] s=NU lf s0 sep1 (λr0=>some (.s (.sl false false 1 r0),[],s)):=by
 refine (evE (fn:=Tryz.f117) (by kernel_rfl)).trans ?_
 generalize evC (AK lf) d=cl
 unfold NU;kernel_rfl
noncomputable abbrev Ba3:Code:=D8 Tryz.f111
noncomputable def Pf (lf:Nat):Cfg:=C8 lf [111] (A4 [(3,[0,1,0,6,0])]) [] (A4 [(10,[2]),(9,[0,2,6,0]),(8,[0,2,6,0]),(7,[0,2,1,4,0]),(6,[0,2,1,4,0,10]),(5,[0,2,1,4,0]),(4,[0,2,0,5,0]),(3,[0,2,6,0,0]),(2,[0,2,6,0]),(1,[0,2]),(0,[0])]) [] (A4 [(0,[3]),(1,[0,2,6,0])]) (some [2]) [] [] []
noncomputable def Dm {R:Type} (lf n:Nat) (s0:By) (n1 n2:Int) (l3:LL) (k0:LL->Option R):Option R:=match n with | 0=>none | n+1=>cond (ltI n2 n1) (cond (inR n2 s0.length) (cond (not (ltI (bAt s0 n2) (65:Int))) (cond (not (ltI 90 (bAt s0 n2))) (vl (wu8 ((bAt s0 n2)+32)) λn'0=>cond (F1 (l3.length+1)) (Dm lf n s0 n1 (A1 (n2+1)) (l3++[[(SV.int .u8 n'0)]]) k0) none) (cond (F1 (l3.length+1)) (Dm lf n s0 n1 (A1 (n2+1)) (l3++[[(SV.int .u8 (bAt s0 n2))]]) k0) none)) (cond (F1 (l3.length+1)) (Dm lf n s0 n1 (A1 (n2+1)) (l3++[[(SV.int .u8 (bAt s0 n2))]]) k0) none)) none) (k0 l3)
theorem YX (n s0 n1 n2 l3):E5 1 ((Pf lf).keep 3) (bd (Pf lf) cl yh (cd [1,1,0,1,0,0] Ba3)) n ⟨gp [(0,pS s0),(2,.fl 0),(6,pI n1),(0,pI n2)] 20,[.arr false 5 1 l3],s⟩ k =
 Dm lf n s0 n1 n2 l3 (λl0=>k (.exit 0) ⟨gp [(3,.fl 0)] 28,[.arr false 5 1 l0],s⟩):=by
 induction n generalizing s0 n1 n2 l3 with
 | zero=>rfl
 | succ n ih=>rw [Dm];simp only [<-ih];kernel_rfl
noncomputable def Bw0 {R:Type} (lf:Nat) (s0:By) (k0:By->LL->Option R):Option R:=cond ((decide ((0:Int)<=(s0.length:Int)))&&(F1 (Int.toNat (s0.length:Int)))) (Dm lf lf s0 (s0.length:Int) 0 [] (λl'1=>cond (List.all l'1 Lt) (k0 (List.map Lc l'1) l'1) none)) none
theorem Bw1 (d:Nat) (s0):evC (Pf lf) (d+1) σ yh 111 [pS s0] [] s=Bw0 lf s0 (λr0 l1=>some (pS r0,[.arr false 5 1 l1],s)):=by
 refine (evE (fn:=Tryz.f111) (by kernel_rfl)).trans ?_
 generalize evC (Pf lf) d=cl
 unfold Bw0;exact (Eq.trans (by kernel_rfl) (A0 ((YX lf cl yh s (F9 0 (G1 (Pf lf) cl yh (cd [1,1,1] Ba3) (G5 (Pf lf) Tryz.f111))) lf s0 (s0.length:Int) 0 []).trans (by kernel_rfl)) rfl))
noncomputable def WK (lf:Nat):Cfg:=C8 lf [127] (A4 []) [(112,IL)] (A4 [(1,[2]),(0,[0])]) [112] (A4 []) (some [2]) [] [] []
noncomputable def Bt7 {R:Type} (lf:Nat) (s0:By) (k0:Bool->Option R):Option R:=cond (A3 s0.length) (cond (List.isPrefixOf ([48,120]:List UInt8) s0) (k0 true) (cond (A3 s0.length) (k0 (List.isPrefixOf ([48,88]:List UInt8) s0)) none)) none
theorem Bt8 (d:Nat) (s0):evC (WK lf) (d+1) σ yh 127 [pS s0] [] s=Bt7 lf s0 (λr0=>some (pB r0,[],s)):=by
 refine (evE (fn:=Tryz.f127) (by kernel_rfl)).trans ?_
 generalize evC (WK lf) d=cl
 unfold Bt7;kernel_rfl
noncomputable abbrev Cz:Code:=D8 Tryz.f129
noncomputable def U3 (lf:Nat):Cfg:=C8 lf [129] (A4 [(3,[0,0,2,0,0,4,0])]) [] (A4 [(18,[4,0]),(17,[0,0,4,4,0]),(16,[0,0,4,4,0]),(15,[4,0]),(14,[0,0,4,1,2,0,39]),(9,[0,0,4,1,2,0]),(11,[0,0,4,1,2,0]),(13,[0,0,4,1,2,0]),(7,[4,0]),(12,[0,0,4,2,1,0,26]),(10,[0,0,4,2,1,0,15]),(8,[0,0,4,2,1,0,5]),(6,[0,0,4,2,1,0]),(5,[0,0,4,0,3,0]),(4,[0,0,4,0,3,0]),(3,[0,0,4,4,0,0]),(2,[0,0,4,4,0]),(1,[0,0,4]),(0,[0,0])]) [] (A4 [(0,[6]),(1,[0,0,4,4,0]),(2,[0,0,4,1,2,0])]) (some [4,0]) [] [] []
noncomputable def Qk {R:Type} (s0:By) (base1 n2 b3 n4 n5:Int) (b6:Bool) (k0:By->Int->Int->Int->Int->Int->Option R) (k1:Unit->Option R):Option R:=cond b6 (vl (A1 (wu8 (b3-97))) λn'1=>vl (A1 (n'1+10)) λn'2=>k0 s0 base1 n2 n'2 n4 n5) (cond (not (ltI b3 65)) (cond (not (ltI 70 b3)) (vl (A1 (wu8 (b3-65))) λn'3=>vl (A1 (n'3+10)) λn'4=>k0 s0 base1 n2 n'4 n4 n5) (k1 ())) (k1 ()))
abbrev FQ (b:Code):Prop:=∀ (k:Out->St σ->Option R) s0 base1 n2 b3 n4 n5 b6,A9 (U3 lf) cl yh b ⟨gp [(0,pS s0),(0,pI base1),(4,pI n2),(2,p8 b3),(1,pI n4),(0,pI n5),(15,pB b6)] 32,[],s⟩ k=Qk s0 base1 n2 b3 n4 n5 b6 (λs0 base1 n2 d3 n4 n5=>k .normal ⟨gp [(0,pS s0),(0,pI base1),(4,pI n2),(1,pI d3),(2,pI n4),(0,pI n5)] 48,[],s⟩) (λ_=>k .ret ⟨gp [(4,pI (0:Int)),(0,pB false)] 55,[],s⟩)
theorem XI:FQ (R:=R) lf cl yh s (cd [1,1,0,1,0,0,1,1,0,0,1,1,0,1,0,1,1,1] Cz):=by
 intro k s0 base1 n2 b3 n4 n5 b6;unfold Qk;kernel_rfl
noncomputable def Ql {R:Type} (s0:By) (base1 n2 b3 n4 n5:Int) (b6:Bool) (k0:By->Int->Int->Int->Int->Int->Option R) (k1:Unit->Option R):Option R:=cond b6 (vl (A1 (wu8 (b3-48))) λn'0=>k0 s0 base1 n2 n'0 n4 n5) (cond (not (ltI b3 97)) (Qk s0 base1 n2 b3 n4 n5 (not (ltI 102 b3)) (λs'5 base'6 n'7 d'8 n'9 n'10=>k0 s'5 base'6 n'7 d'8 n'9 n'10) (λ_=>k1 ())) (Qk s0 base1 n2 b3 n4 n5 false (λs'11 base'12 n'13 d'14 n'15 n'16=>k0 s'11 base'12 n'13 d'14 n'15 n'16) (λ_=>k1 ())))
abbrev Mz (b:Code):Prop:=∀ (k:Out->St σ->Option R) s0 base1 n2 b3 n4 n5 b6,A9 (U3 lf) cl yh b ⟨gp [(0,pS s0),(0,pI base1),(4,pI n2),(2,p8 b3),(1,pI n4),(0,pI n5),(5,pB b6)] 42,[],s⟩ k=Ql s0 base1 n2 b3 n4 n5 b6 (λs0 base1 n2 d3 n4 n5=>k .normal ⟨gp [(0,pS s0),(0,pI base1),(4,pI n2),(1,pI d3),(2,pI n4),(0,pI n5)] 48,[],s⟩) (λ_=>k .ret ⟨gp [(4,pI (0:Int)),(0,pB false)] 55,[],s⟩)
theorem XJ (b_110100110011010111:Code) (h_digs_j0:FQ (R:=R) lf cl yh s b_110100110011010111):Mz (R:=R) lf cl yh s (cd [1,1,0,1,0,0,1,1,0,0,1,1,0,1,0,1] (J3 [1,1,0,1,0,0,1,1,0,0,1,1,0,1,0,1,1,1] b_110100110011010111 Cz)):=by
 intro k s0 base1 n2 b3 n4 n5 b6;unfold Ql;simp only [<-h_digs_j0 k];kernel_rfl
theorem XK:Mz (R:=R) lf cl yh s (cd [1,1,0,1,0,0,1,1,0,0,1,1,0,1,0,1] Cz):=by
 intro k s0 base1 n2 b3 n4 n5 b6;exact Eq.trans (by kernel_rfl) (XJ lf cl yh s (cd [1,1,0,1,0,0,1,1,0,0,1,1,0,1,0,1,1,1] Cz) (XI lf cl yh s) k s0 base1 n2 b3 n4 n5 b6)
noncomputable def Qm {R:Type} (s0:By) (base1 n2 d3 n4 n5:Int) (k0:Unit->Option R) (k1:By->Int->Int->Int->Int->Option R):Option R:=cond (not (ltI d3 base1)) (k0 ()) (vl (A1 ((A1 (n2*base1))+d3)) λn'23=>vl (if ((1099511627776:Int)<n'23) then (1099511627776:Int) else n'23) λn'24=>k1 s0 base1 n'24 n4 n5)
abbrev Uw (b:Code):Prop:=∀ (k:Out->St σ->Option R) s0 base1 n2 d3 n4 n5,A9 (U3 lf) cl yh b ⟨gp [(0,pS s0),(0,pI base1),(4,pI n2),(1,pI d3),(2,pI n4),(0,pI n5)] 48,[],s⟩ k=Qm s0 base1 n2 d3 n4 n5 (λ_=>k .ret ⟨gp [(4,pI (0:Int)),(0,pB false)] 55,[],s⟩) (λs0 base1 n2 n3 n4=>k .normal ⟨gp [(0,pS s0),(0,pI base1),(4,pI n2),(4,pI n3),(0,pI n4)] 48,[],s⟩)
theorem XL:Uw (R:=R) lf cl yh s (cd [1,1,0,1,0,0,1,1,0,0,1,1,1] Cz):=by
 intro k s0 base1 n2 d3 n4 n5;unfold Qm;kernel_rfl
noncomputable def Gh {R:Type} (lf n:Nat) (s0:By) (base1 n2 n3 n4:Int) (k0:Unit->Option R) (k1:Int->Option R):Option R:=match n with | 0=>none | n+1=>cond (ltI n4 n3) (cond (inR n4 s0.length) (cond (not (ltI (bAt s0 n4) (48:Int))) (Ql s0 base1 n2 (bAt s0 n4) n3 n4 (not (ltI 57 (bAt s0 n4))) (λs'17 base'18 n'19 d'20 n'21 n'22=>Qm s'17 base'18 n'19 d'20 n'21 n'22 (λ_=>k0 ()) (λs'25 base'26 n'27 n'28 n'29=>vl (A1 (n'29+1)) λn'30=>Gh lf n s'25 base'26 n'27 n'28 n'30 k0 k1)) (λ_=>k0 ())) (Ql s0 base1 n2 (bAt s0 n4) n3 n4 false (λs'31 base'32 n'33 d'34 n'35 n'36=>Qm s'31 base'32 n'33 d'34 n'35 n'36 (λ_=>k0 ()) (λs'37 base'38 n'39 n'40 n'41=>vl (A1 (n'41+1)) λn'42=>Gh lf n s'37 base'38 n'39 n'40 n'42 k0 k1)) (λ_=>k0 ()))) none) (k1 n2)
theorem XM (b_1101001100110101:Code) (h_digs_j1:Mz (R:=R) lf cl yh s b_1101001100110101) (b_1101001100111:Code) (h_digs_j2:Uw (R:=R) lf cl yh s b_1101001100111) (n:Nat) (s0:By) (base1 n2 n3 n4:Int):E5 0 ((U3 lf).keep 3) (bd (U3 lf) cl yh (cd [1,1,0,1,0,0] (J3 [1,1,0,1,0,0,1,1,0,0,1,1,1] b_1101001100111 (J3 [1,1,0,1,0,0,1,1,0,0,1,1,0,1,0,1] b_1101001100110101 Cz)))) n ⟨gp [(0,pS s0),(0,pI base1),(4,pI n2),(4,pI n3),(0,pI n4)] 48,[],s⟩ k =
 Gh lf n s0 base1 n2 n3 n4 (λ_=>k .ret ⟨gp [(4,pI (0:Int)),(0,pB false)] 55,[],s⟩) (λn0=>k (.exit 0) ⟨gp [(6,pI n0)] 54,[],s⟩):=by
 induction n generalizing s0 base1 n2 n3 n4 with
 | zero=>rfl
 | succ n ih=>rw [Gh];exact let K0:=(F9 1 (G1 (U3 lf) cl yh (cd [1,1,0,1,0,0,1,1,1] Cz) (lpK 0 ((U3 lf).keep 3) (bd (U3 lf) cl yh (cd [1,1,0,1,0,0] (J3 [1,1,0,1,0,0,1,1,0,0,1,1,1] b_1101001100111 (J3 [1,1,0,1,0,0,1,1,0,0,1,1,0,1,0,1] b_1101001100110101 Cz)))) n k)));let K1:=(F9 2 (G1 (U3 lf) cl yh b_1101001100111 K0));(Eq.trans (by kernel_rfl) (A0 (A0 (A0 ((h_digs_j1 K1 s0 base1 n2 (bAt s0 n4) n3 n4 (not (ltI 57 (bAt s0 n4)))).trans (congr (congr rfl (fx6 λs'17 base'18 n'19 d'20 n'21 n'22=>(Eq.trans (by kernel_rfl) ((h_digs_j2 K0 s'17 base'18 n'19 d'20 n'21 n'22).trans (congr (congr rfl (by kernel_rfl)) (fx5 λs'25 base'26 n'27 n'28 n'29=>(Eq.trans (by kernel_rfl) (A6 λn'30=>(ih s'25 base'26 n'27 n'28 n'30))))))))) (by kernel_rfl))) ((h_digs_j1 K1 s0 base1 n2 (bAt s0 n4) n3 n4 false).trans (congr (congr rfl (fx6 λs'31 base'32 n'33 d'34 n'35 n'36=>(Eq.trans (by kernel_rfl) ((h_digs_j2 K0 s'31 base'32 n'33 d'34 n'35 n'36).trans (congr (congr rfl (by kernel_rfl)) (fx5 λs'37 base'38 n'39 n'40 n'41=>(Eq.trans (by kernel_rfl) (A6 λn'42=>(ih s'37 base'38 n'39 n'40 n'42))))))))) (by kernel_rfl)))) rfl) rfl))
noncomputable def Bc8 {R:Type} (lf:Nat) (s0:By) (base1:Int) (k0:Int->Bool->Option R):Option R:=Gh lf lf s0 base1 0 (s0.length:Int) 0 (λ_=>k0 0 false) (λn'43=>k0 n'43 true)
theorem Bs1 (b_1101001100110101:Code) (h_digs_j1:Mz (R:=PV × List Blk × σ) lf cl yh s b_1101001100110101) (b_1101001100111:Code) (h_digs_j2:Uw (R:=PV × List Blk × σ) lf cl yh s b_1101001100111) (s0:By) (base1:Int):A9 (U3 lf) cl yh (cd [] (J3 [1,1,0,1,0,0,1,1,0,0,1,1,1] b_1101001100111 (J3 [1,1,0,1,0,0,1,1,0,0,1,1,0,1,0,1] b_1101001100110101 Cz))) ⟨[pS s0,pI base1]++tps 59,[],s⟩ (G5 (U3 lf) Tryz.f129)=Bc8 lf s0 base1 (λr0 r1=>some (.tup [pI r0,pB r1],[],s)):=by
 unfold Bc8;exact (Eq.trans (by kernel_rfl) ((XM lf cl yh s (F9 0 (G1 (U3 lf) cl yh (cd [1,1,1] Cz) (G5 (U3 lf) Tryz.f129))) b_1101001100110101 h_digs_j1 b_1101001100111 h_digs_j2 lf s0 base1 0 (s0.length:Int) 0).trans (by kernel_rfl)))
theorem Bs2 (d:Nat) (s0 base1):evC (U3 lf) (d+1) σ yh 129 [pS s0,pI base1] [] s=Bc8 lf s0 base1 (λr0 r1=>some (.tup [pI r0,pB r1],[],s)):=
 (evE (fn:=Tryz.f129) (by kernel_rfl)).trans (Eq.trans (by kernel_rfl) (Bs1 lf (evC (U3 lf) d) yh s (cd [1,1,0,1,0,0,1,1,0,0,1,1,0,1,0,1] Cz) (XK lf (evC (U3 lf) d) yh s) (cd [1,1,0,1,0,0,1,1,0,0,1,1,1] Cz) (XL lf (evC (U3 lf) d) yh s) s0 base1))
noncomputable def Bb7 (lf:Nat):Cfg:=C8 lf [128] (A4 []) [(127,VB),(129,IE)] (A4 [(7,[2,0]),(2,[2,0]),(4,[2,0]),(6,[2,0]),(5,[0,14]),(3,[0,6]),(1,[0,3]),(0,[0])]) [127,129] (A4 [(0,[0])]) (some [2,0]) [] [] []
noncomputable def num {R:Type} (lf:Nat) (s0:By) (k0:Int->Bool->Option R):Option R:=cond (s0==[]) (k0 0 false) (cond (A3 s0.length) (cond (Ao s0) (cond (P0 2 (s0.length:Int) s0.length) (vl (cut s0 2 (s0.length:Int)) λs'0=>cond (A3 s'0.length) (cond (ltN 16 17) (vl (↑(M5 (E7 16 0 s'0)):Int) λn'1=>k0 n'1 (Option.isSome (E7 16 0 s'0))) none) none) none) (cond (ltI 1 (s0.length:Int)) (cond (inR 0 s0.length) (cond ((bAt s0 (0:Int))==48) (cond (P0 1 (s0.length:Int) s0.length) (vl (cut s0 1 (s0.length:Int)) λs'2=>cond (A3 s'2.length) (cond (ltN 8 17) (vl (↑(M5 (E7 8 0 s'2)):Int) λn'3=>k0 n'3 (Option.isSome (E7 8 0 s'2))) none) none) none) (cond (A3 s0.length) (cond (ltN 10 17) (vl (↑(M5 (E7 10 0 s0)):Int) λn'4=>k0 n'4 (Option.isSome (E7 10 0 s0))) none) none)) none) (cond (A3 s0.length) (cond (ltN 10 17) (vl (↑(M5 (E7 10 0 s0)):Int) λn'5=>k0 n'5 (Option.isSome (E7 10 0 s0))) none) none))) none)
theorem Cc1 (d:Nat) (s0):evC (Bb7 lf) (d+1) σ yh 128 [pS s0] [] s=num lf s0 (λr0 r1=>some (.tup [pI r0,pB r1],[],s)):=by
 refine (evE (fn:=Tryz.f128) (by kernel_rfl)).trans ?_
 generalize evC (Bb7 lf) d=cl
 unfold num;kernel_rfl
noncomputable def LE (lf:Nat):Cfg:=C8 lf [126] (A4 []) [(117,Qd)] (A4 [(5,[2]),(4,[3]),(3,[3,0,13]),(2,[3,0]),(1,[3]),(0,[0])]) [] (A4 []) (some [2]) [] [] []
noncomputable def parts {R:Type} (lf:Nat) (s0:By) (k0:LL->Option R):Option R:=cond (A3 s0.length) (cond (1==1) (vl (C6 (pcs (List.getD ([46]:List UInt8) 0 0) s0)) λl'1=>vl (A1 ((l'1.length:Int)-1)) λn'3=>cond (ltI 0 n'3) (cond (inR n'3 l'1.length) (cond (okE Gc l'1 (Int.toNat n'3) 0) (vl (gX l'1 (Int.toNat n'3) 0) λs'4=>cond (s'4==[]) (cond (P0 0 n'3 l'1.length) (k0 (cut l'1 0 n'3)) none) (k0 l'1)) none) none) (k0 l'1)) none) none
theorem Bh0 (d:Nat) (s0):evC (LE lf) (d+1) σ yh 126 [pS s0] [] s=parts lf s0 (λr0=>some (.s (.sl false false 1 r0),[],s)):=by
 refine (evE (fn:=Tryz.f126) (by kernel_rfl)).trans ?_
 generalize evC (LE lf) d=cl
 unfold parts;kernel_rfl
noncomputable def Uq (lf:Nat):Cfg:=C8 lf [93] (A4 []) [(126,JJ),(127,VB),(128,A85),(129,IE)] (A4 [(7,[2]),(6,[4,3]),(5,[2]),(4,[6]),(3,[4,13]),(2,[4]),(1,[3]),(0,[0])]) [127,128,129] (A4 []) (some [2]) [] [] []
noncomputable def Ye {R:Type} (lf:Nat) (s0:By) (k0:Bool->Option R):Option R:=cond (A3 s0.length) (vl (A1 ((↑(List.length (C6 (D0 s0))):Int)-1)) λn'2=>cond (inR n'2 (List.length (C6 (D0 s0)))) (cond (okE Gc (C6 (D0 s0)) (Int.toNat n'2) 0) (vl (gX (C6 (D0 s0)) (Int.toNat n'2) 0) λs'3=>cond (A3 s'3.length) (cond (Ao s'3) (cond (A3 s'3.length) (vl (↑(M5 (Z0 s'3)):Int) λn'5=>k0 (Option.isSome (Z0 s'3))) none) (cond (A3 s'3.length) (cond (ltN 10 17) (vl (↑(M5 (E7 10 0 s'3)):Int) λn'6=>cond (Option.isSome (E7 10 0 s'3)) (k0 (not (s'3==[]))) (k0 false)) none) none)) none) none) none) none
theorem ZI (d:Nat) (s0):evC (Uq lf) (d+1) σ yh 93 [pS s0] [] s=Ye lf s0 (λr0=>some (pB r0,[],s)):=by
 refine (evE (fn:=Tryz.f93) (by kernel_rfl)).trans ?_
 generalize evC (Uq lf) d=cl
 unfold Ye;kernel_rfl
noncomputable abbrev Ba6:Code:=D8 Tryz.f116
noncomputable def Pj (lf:Nat):Cfg:=C8 lf [116] (A4 [(6,[2,0,0,0,10,0,0])]) [(126,JJ),(128,A85)] (A4 [(20,[2,0]),(19,[4,0,10,0,0]),(18,[4,0,10,0,0]),(17,[2,0]),(16,[4,0,2,1,5,0,0,29]),(15,[4,0,2,1,5,0,0]),(14,[4,0,10,0,0]),(13,[2,0]),(12,[4,0,2,7,0,0,17]),(11,[4,0,2,7,0,0,15]),(10,[2,0]),(9,[4,0,0,1,7,0,0,10]),(8,[4,0,0,1,0,6,0,0]),(7,[4,0,0,0,8,0,0]),(6,[4,0,10,0,0,0]),(5,[4,0,10,0,0]),(4,[4,0]),(3,[2,0]),(2,[4,10]),(1,[4]),(0,[0])]) [128] (A4 [(0,[5]),(1,[4,0,10,0,0])]) (some [2,0]) [] [] []
noncomputable def Gr {R:Type} (lf n:Nat) (l0:LL) (v1 n2 n3:Int) (k0:Unit->Option R) (k1:Int->Option R):Option R:=match n with | 0=>none | n+1=>cond (ltI n3 n2) (cond (inR n3 l0.length) (cond (okE Gc l0 (Int.toNat n3) 0) (cond (A3 (List.length (gX l0 (Int.toNat n3) 0))) (vl (↑(M5 (Z0 (gX l0 (Int.toNat n3) 0))):Int) λn'1=>cond (not (Option.isSome (Z0 (gX l0 (Int.toNat n3) 0)))) (k0 ()) (vl (A1 ((l0.length:Int)-1)) λn'6=>cond (ltI n3 n'6) (cond (ltI 255 n'1) (k0 ()) (vl (bOr .i64 (Nw .i64 v1 (8:Int)) n'1) λn'7=>Gr lf n l0 n'7 n2 (A1 (n3+1)) k0 k1)) (vl (A1 ((5:Int)-(l0.length:Int))) λn'9=>cond (decide ((0:Int)<=(A1 ((8:Int)*n'9)))) (vl (Nw .i64 (1:Int) (A1 ((8:Int)*n'9))) λn'10=>cond (not (ltI n'1 n'10)) (k0 ()) (cond (decide ((0:Int)<=(A1 ((8:Int)*n'9)))) (vl (Nw .i64 v1 (A1 ((8:Int)*n'9))) λn'11=>Gr lf n l0 (bOr .i64 n'11 n'1) n2 (A1 (n3+1)) k0 k1) none)) none))) none) none) none) (k1 v1)
theorem Aa6 (n l0 v1 n2 n3):E5 0 ((Pj lf).keep 6) (bd (Pj lf) cl yh (cd [1,0,1,1,1,1,0,1,0,0] Ba6)) n ⟨gp [(4,.s (.sl false false 1 l0)),(0,pI v1),(10,.s (.sl false false 1 l0)),(0,pI n2),(0,pI n3)] 38,[],s⟩ k =
 Gr lf n l0 v1 n2 n3 (λ_=>k .ret ⟨gp [(2,p32 (0:Int)),(0,pB false)] 53,[],s⟩) (λv0=>k (.exit 0) ⟨gp [(5,pI v0)] 51,[],s⟩):=by
 induction n generalizing l0 v1 n2 n3 with
 | zero=>rfl
 | succ n ih=>rw [Gr];simp only [<-ih];kernel_rfl
noncomputable def Bz0 {R:Type} (lf:Nat) (s0:By) (k0:Int->Bool->Option R):Option R:=cond (A3 s0.length) (cond (ltI 4 (↑(List.length (C6 (D0 s0))):Int)) (k0 0 false) (Gr lf lf (C6 (D0 s0)) 0 (↑(List.length (C6 (D0 s0))):Int) 0 (λ_=>k0 0 false) (λv'12=>k0 (Wg v'12) true))) none
theorem Bz1 (d:Nat) (s0):evC (Pj lf) (d+1) σ yh 116 [pS s0] [] s=Bz0 lf s0 (λr0 r1=>some (.tup [p32 r0,pB r1],[],s)):=by
 refine (evE (fn:=Tryz.f116) (by kernel_rfl)).trans ?_
 generalize evC (Pj lf) d=cl
 unfold Bz0;exact (Eq.trans (by kernel_rfl) (A0 (A0 rfl ((Aa6 lf cl yh s (F9 0 (G1 (Pj lf) cl yh (cd [1,0,1,1,1,1,1] Ba6) (G5 (Pj lf) Tryz.f116))) lf (C6 (D0 s0)) 0 (↑(List.length (C6 (D0 s0))):Int) 0).trans (by kernel_rfl))) rfl))
noncomputable abbrev B76:Code:=D8 Tryz.f192
noncomputable def AL (lf:Nat):Cfg:=C8 lf [192] (A4 [(6,[2,0,1,9,0,0])]) [(117,Qd),(129,IE),(200,A76)] (A4 [(13,[2,0]),(12,[5,9,0,0]),(11,[5,9,0,0]),(10,[2,0]),(9,[5,2,6,0,0,19]),(8,[5,1,0,0,5,0,0]),(7,[5,1,7,0,0]),(6,[5,9,0,0,0]),(5,[5,9,0,0]),(4,[4,0]),(3,[2,0]),(2,[4,9]),(1,[4]),(0,[0])]) [129,200] (A4 [(0,[5]),(1,[5,9,0,0])]) (some [2,0]) [] [] []
noncomputable def Py {R:Type} (lf n:Nat) (v0:Int) (l1:LL) (n2 n3:Int) (k0:Unit->Option R) (k1:Int->Option R):Option R:=match n with | 0=>none | n+1=>cond (ltI n3 n2) (cond (inR n3 l1.length) (cond (okE Gc l1 (Int.toNat n3) 0) (cond (A3 (List.length (gX l1 (Int.toNat n3) 0))) (cond (ltN 10 17) (vl (↑(M5 (E7 10 0 (gX l1 (Int.toNat n3) 0))):Int) λn'3=>cond (not (Option.isSome (E7 10 0 (gX l1 (Int.toNat n3) 0)))) (k0 ()) (cond (ltI 255 n'3) (k0 ()) (cond (ltN n'3 4294967296) (vl (Lib.decDigits (Int.toNat n'3)) λs'4=>cond (not (s'4==(gX l1 (Int.toNat n3) 0))) (k0 ()) (vl (bOr .u32 (Nw .u32 v0 (8:Int)) (Wg n'3)) λn'5=>Py lf n n'5 l1 n2 (A1 (n3+1)) k0 k1)) none))) none) none) none) none) (k1 v0)
theorem A59 (n v0 l1 n2 n3):E5 0 ((AL lf).keep 6) (bd (AL lf) cl yh (cd [1,1,1,1,0,1,0,0] B76)) n ⟨gp [(5,p32 v0),(9,.s (.sl false false 1 l1)),(0,pI n2),(0,pI n3)] 27,[],s⟩ k =
 Py lf n v0 l1 n2 n3 (λ_=>k .ret ⟨gp [(2,p32 (0:Int)),(0,pB false)] 41,[],s⟩) (λv0=>k (.exit 0) ⟨gp [(5,p32 v0)] 39,[],s⟩):=by
 induction n generalizing v0 l1 n2 n3 with
 | zero=>rfl
 | succ n ih=>rw [Py];simp only [<-ih];kernel_rfl
noncomputable def v4p {R:Type} (lf:Nat) (s0:By) (k0:Int->Bool->Option R):Option R:=cond (A3 s0.length) (cond (1==1) (vl (C6 (pcs (List.getD ([46]:List UInt8) 0 0) s0)) λl'1=>cond ((l'1.length:Int) != 4) (k0 0 false) (Py lf lf 0 l'1 (l'1.length:Int) 0 (λ_=>k0 0 false) (λv'6=>k0 v'6 true))) none) none
theorem Ce0 (d:Nat) (s0):evC (AL lf) (d+1) σ yh 192 [pS s0] [] s=v4p lf s0 (λr0 r1=>some (.tup [p32 r0,pB r1],[],s)):=by
 refine (evE (fn:=Tryz.f192) (by kernel_rfl)).trans ?_
 generalize evC (AL lf) d=cl
 unfold v4p;exact (Eq.trans (by kernel_rfl) (A0 (A0 (A6 λl'1=>(A0 rfl ((A59 lf cl yh s (F9 0 (G1 (AL lf) cl yh (cd [1,1,1,1,1] B76) (G5 (AL lf) Tryz.f192))) lf 0 l'1 (l'1.length:Int) 0).trans (by kernel_rfl)))) rfl) rfl))
noncomputable abbrev FD:Code:=D8 Tryz.f101
noncomputable def Bf (lf:Nat):Cfg:=C8 lf [101] (A4 [(2,[0,1,0])]) [] (A4 [(6,[2]),(3,[0,2]),(5,[2]),(4,[0,2,15]),(2,[0,2,3]),(1,[0,2]),(0,[0])]) [] (A4 [(0,[0]),(1,[0,2])]) (some [2]) [] [] []
noncomputable def Z5 {R:Type} (lf n:Nat) (s0:By) (i1:Int) (k0:Unit->Option R) (k1:By->Option R):Option R:=match n with | 0=>none | n+1=>cond (ltI i1 (s0.length:Int)) (cond (inR i1 s0.length) (cond (ltI (bAt s0 i1) (48:Int)) (k0 ()) (cond (inR i1 s0.length) (cond (ltI 57 (bAt s0 i1)) (k0 ()) (Z5 lf n s0 (A1 (i1+1)) k0 k1)) none)) none) (k1 s0)
theorem EE (n s0 i1):E5 0 ((Bf lf).keep 2) (bd (Bf lf) cl yh (cd [1,0,1,0,0] FD)) n ⟨gp [(0,pS s0),(2,pI i1)] 18,[],s⟩ k =
 Z5 lf n s0 i1 (λ_=>k .ret ⟨gp [(2,pB false)] 19,[],s⟩) (λs0=>k (.exit 0) ⟨gp [(0,pS s0)] 21,[],s⟩):=by
 induction n generalizing s0 i1 with
 | zero=>rfl
 | succ n ih=>rw [Z5];simp only [<-ih];kernel_rfl
noncomputable def Yk {R:Type} (lf:Nat) (s0:By) (k0:Bool->Option R):Option R:=Z5 lf lf s0 0 (λ_=>k0 false) (λs'0=>k0 (not (s'0==[])))
theorem Ab9 (d:Nat) (s0):evC (Bf lf) (d+1) σ yh 101 [pS s0] [] s=Yk lf s0 (λr0=>some (pB r0,[],s)):=by
 refine (evE (fn:=Tryz.f101) (by kernel_rfl)).trans ?_
 generalize evC (Bf lf) d=cl
 unfold Yk;exact (Eq.trans (by kernel_rfl) ((EE lf cl yh s (F9 0 (G1 (Bf lf) cl yh (cd [1,1] FD) (G5 (Bf lf) Tryz.f101))) lf s0 0).trans (by kernel_rfl)))
noncomputable abbrev Ba8:Code:=D8 Tryz.f87
noncomputable def Pl (lf:Nat):Cfg:=C8 lf [87] (A4 [(3,[0,1,0,0])]) [] (A4 [(9,[2]),(4,[0,2,0]),(8,[0,2,0]),(7,[0,2,0,0]),(6,[0,2,0,0,14]),(5,[0,2,0,0]),(3,[0,2,0,4]),(2,[0,2,0]),(1,[0,2]),(0,[0])]) [] (A4 [(0,[3]),(1,[0,2,0])]) (some [2]) [] [] []
noncomputable def Dv {R:Type} (lf n:Nat) (s0:By) (i1:Int) (l2:LL) (k0:LL->Option R):Option R:=match n with | 0=>none | n+1=>cond (ltI i1 (s0.length:Int)) (cond (inR i1 s0.length) (cond (not (ltI (bAt s0 i1) (65:Int))) (cond (not (ltI 90 (bAt s0 i1))) (vl (wu8 ((bAt s0 i1)+32)) λn'0=>cond (F1 (l2.length+1)) (Dv lf n s0 (A1 (i1+1)) (l2++[[(SV.int .u8 n'0)]]) k0) none) (cond (F1 (l2.length+1)) (Dv lf n s0 (A1 (i1+1)) (l2++[[(SV.int .u8 (bAt s0 i1))]]) k0) none)) (cond (F1 (l2.length+1)) (Dv lf n s0 (A1 (i1+1)) (l2++[[(SV.int .u8 (bAt s0 i1))]]) k0) none)) none) (k0 l2)
theorem Ae6 (n s0 i1 l2):E5 1 ((Pl lf).keep 3) (bd (Pl lf) cl yh (cd [1,1,0,1,0,0] Ba8)) n ⟨gp [(0,pS s0),(2,.fl 0),(0,pI i1)] 24,[.arr true 5 1 l2],s⟩ k =
 Dv lf n s0 i1 l2 (λl0=>k (.exit 0) ⟨gp [(3,.fl 0)] 25,[.arr true 5 1 l0],s⟩):=by
 induction n generalizing s0 i1 l2 with
 | zero=>rfl
 | succ n ih=>rw [Dv];simp only [<-ih];kernel_rfl
noncomputable def B16 {R:Type} (lf:Nat) (s0:By) (k0:By->LL->Option R):Option R:=Dv lf lf s0 0 [] (λl'1=>cond (List.all l'1 Lt) (k0 (List.map Lc l'1) l'1) none)
theorem B17 (d:Nat) (s0):evC (Pl lf) (d+1) σ yh 87 [pS s0] [] s=B16 lf s0 (λr0 l1=>some (pS r0,[.arr true 5 1 l1],s)):=by
 refine (evE (fn:=Tryz.f87) (by kernel_rfl)).trans ?_
 generalize evC (Pl lf) d=cl
 unfold B16;exact (Eq.trans (by kernel_rfl) ((Ae6 lf cl yh s (F9 0 (G1 (Pl lf) cl yh (cd [1,1,1] Ba8) (G5 (Pl lf) Tryz.f87))) lf s0 0 []).trans (by kernel_rfl)))
noncomputable abbrev PC:Code:=D8 Tryz.f53
noncomputable def Eu (lf:Nat):Cfg:=C8 lf [53] (A4 [(4,[0,0,2,0,0,0])]) [] (A4 [(9,[4]),(5,[0,0,3,0,0]),(8,[0,0,3,0,0]),(7,[0,0,3,1]),(6,[0,0,3,0,0,16]),(4,[0,0,3,0,0,3]),(3,[0,0,3,0,0]),(2,[0,0,3,0]),(1,[0,0,3]),(0,[0,0])]) [] (A4 [(0,[5]),(1,[0,0,3,0,0])]) (some [4]) [] [] []
noncomputable def U0 {R:Type} (lf n:Nat) (s0:By) (at1 from2 i3:Int) (l4:LL) (k0:LL->Option R):Option R:=match n with | 0=>none | n+1=>cond (not (ltI (s0.length:Int) i3)) (cond (i3==(s0.length:Int)) (cond (P0 from2 i3 s0.length) (cond (F1 (l4.length+1)) (U0 lf n s0 at1 (A1 (i3+1)) (A1 (i3+1)) (l4++[[(SV.str (cut s0 from2 i3))]]) k0) none) none) (cond (inR i3 s0.length) (cond ((bAt s0 i3)==at1) (cond (P0 from2 i3 s0.length) (cond (F1 (l4.length+1)) (U0 lf n s0 at1 (A1 (i3+1)) (A1 (i3+1)) (l4++[[(SV.str (cut s0 from2 i3))]]) k0) none) none) (U0 lf n s0 at1 from2 (A1 (i3+1)) l4 k0)) none)) (k0 l4)
theorem NM (n s0 at1 from2 i3 l4):E5 1 ((Eu lf).keep 4) (bd (Eu lf) cl yh (cd [1,1,1,0,1,0,0] PC)) n ⟨gp [(0,pS s0),(0,p8 at1),(3,.fl 0),(0,pI from2),(0,pI i3)] 27,[.arr true 9 1 l4],s⟩ k =
 U0 lf n s0 at1 from2 i3 l4 (λl0=>k (.exit 0) ⟨gp [(5,.fl 0)] 29,[.arr true 9 1 l0],s⟩):=by
 induction n generalizing s0 at1 from2 i3 l4 with
 | zero=>rfl
 | succ n ih=>rw [U0];simp only [<-ih];kernel_rfl
noncomputable def DF {R:Type} (lf:Nat) (s0:By) (at1:Int) (k0:LL->Option R):Option R:=U0 lf lf s0 at1 0 0 [] (λl'0=>k0 l'0)
theorem A44 (d:Nat) (s0 at1):evC (Eu lf) (d+1) σ yh 53 [pS s0,p8 at1] [] s=DF lf s0 at1 (λl0=>some (.fl 0,[.arr true 9 1 l0],s)):=by
 refine (evE (fn:=Tryz.f53) (by kernel_rfl)).trans ?_
 generalize evC (Eu lf) d=cl
 unfold DF;exact (Eq.trans (by kernel_rfl) ((NM lf cl yh s (F9 0 (G1 (Eu lf) cl yh (cd [1,1,1,1] PC) (G5 (Eu lf) Tryz.f53))) lf s0 at1 0 0 []).trans (by kernel_rfl)))
noncomputable def Up (lf:Nat):Cfg:=C8 lf [197] (A4 []) [(197,(Iu lf))] (A4 [(3,[2]),(2,[2]),(1,[0,3]),(0,[0])]) [197] (A4 []) (some [2]) [] [] []
noncomputable def Ya {R:Type} (lf:Nat) (n0:Int) (k0:By->Option R):Option R:=cond (ltI n0 10) (vl (wu8 (A1 ((48:Int)+n0))) λn'2=>cond (List.all [[(SV.int .u8 n'2)]] Lt) (vl (List.map Lc [[(SV.int .u8 n'2)]]) λs'3=>k0 s'3) none) (vl (A1 (Int.tdiv n0 (10:Int))) λn'4=>cond (ltN n'4 lf) (vl (Lib.decDigits (Int.toNat n'4)) λs'5=>vl (A1 ((48:Int)+(Int.tmod n0 (10:Int)))) λn'6=>cond (List.all [[(SV.int .u8 (wu8 n'6))]] Lt) (vl (List.map Lc [[(SV.int .u8 (wu8 n'6))]]) λs'7=>cond (Kr s'5.length s'7.length) (k0 (s'5++s'7)) none) none) none)
theorem XS (d:Nat) (n0):evC (Up lf) (d+1) σ yh 197 [pI n0] [] s=Ya lf n0 (λr0=>some (pS r0,[],s)):=by
 refine (evE (fn:=Tryz.f197) (by kernel_rfl)).trans ?_
 generalize evC (Up lf) d=cl
 unfold Ya;kernel_rfl
noncomputable abbrev Oy:Code:=D8 Tryz.f145
noncomputable def Hd (lf:Nat):Cfg:=C8 lf [145] (A4 []) [] (A4 [(7,[2]),(2,[2]),(4,[2]),(6,[2]),(5,[0,23]),(3,[0,12]),(1,[0,2]),(0,[0])]) [] (A4 [(0,[])]) (some [2]) [] [] []
noncomputable def Sc {R:Type} (b0:Int) (b1:Bool) (k0:Int->Option R) (k1:Int->Bool->Option R):Option R:=cond b1 (vl (A1 (wu8 (b0-97))) λn'1=>vl (A1 (n'1+10)) λn'2=>k0 n'2) (cond (not (ltI b0 65)) (cond (not (ltI 70 b0)) (vl (A1 (wu8 (b0-65))) λn'3=>vl (A1 (n'3+10)) λn'4=>k0 n'4) (k1 b0 (not (ltI 70 b0)))) (k1 b0 false))
abbrev GV (b:Code):Prop:=∀ (k:Out->St σ->Option R) b0 b1,A9 (Hd lf) cl yh b ⟨gp [(0,p8 b0),(12,pB b1)] 21,[],s⟩ k=Sc b0 b1 (λn0=>k .ret ⟨gp [(2,pI n0)] 32,[],s⟩) (λb0 b1=>k .normal ⟨gp [(0,p8 b0),(23,pB b1)] 10,[],s⟩)
theorem Ab6:GV (R:=R) lf cl yh s (cd [1,0,0,1,1,1] Oy):=by
 intro k b0 b1;unfold Sc;kernel_rfl
noncomputable def Sd {R:Type} (b0:Int) (b1:Bool) (k0:Int->Option R) (k1:Int->Bool->Option R):Option R:=cond b1 (vl (A1 (wu8 (b0-48))) λn'0=>k0 n'0) (cond (not (ltI b0 97)) (Sc b0 (not (ltI 102 b0)) (λn'5=>k0 n'5) (λb'6 b'7=>k1 b'6 b'7)) (Sc b0 false (λn'8=>k0 n'8) (λb'9 b'10=>k1 b'9 b'10)))
abbrev Vu (b:Code):Prop:=∀ (k:Out->St σ->Option R) b0 b1,A9 (Hd lf) cl yh b ⟨gp [(0,p8 b0),(2,pB b1)] 31,[],s⟩ k=Sd b0 b1 (λn0=>k .ret ⟨gp [(2,pI n0)] 32,[],s⟩) (λb0 b1=>k .normal ⟨gp [(0,p8 b0),(23,pB b1)] 10,[],s⟩)
theorem Ab7 (b_100111:Code) (h_rdig_j0:GV (R:=R) lf cl yh s b_100111):Vu (R:=R) lf cl yh s (cd [1,0,0,1] (J3 [1,0,0,1,1,1] b_100111 Oy)):=by
 intro k b0 b1;unfold Sd;simp only [<-h_rdig_j0 k];kernel_rfl
theorem Ab8:Vu (R:=R) lf cl yh s (cd [1,0,0,1] Oy):=by
 intro k b0 b1;exact Eq.trans (by kernel_rfl) (Ab7 lf cl yh s (cd [1,0,0,1,1,1] Oy) (Ab6 lf cl yh s) k b0 b1)
noncomputable def Bi3 {R:Type} (lf:Nat) (b0:Int) (k0:Int->Option R):Option R:=cond (not (ltI b0 48)) (Sd b0 (not (ltI 57 b0)) (λn'11=>k0 n'11) (λb'12 b'13=>k0 99)) (Sd b0 false (λn'14=>k0 n'14) (λb'15 b'16=>k0 99))
theorem B03 (b_1001:Code) (h_rdig_j1:Vu (R:=PV × List Blk × σ) lf cl yh s b_1001) (b0:Int):A9 (Hd lf) cl yh (cd [] (J3 [1,0,0,1] b_1001 Oy)) ⟨[p8 b0]++tps 34,[],s⟩ (G5 (Hd lf) Tryz.f145)=Bi3 lf b0 (λr0=>some (pI r0,[],s)):=by
 unfold Bi3;exact let K0:=(F9 0 (G1 (Hd lf) cl yh (cd [1,1] Oy) (G5 (Hd lf) Tryz.f145)));(Eq.trans (by kernel_rfl) (A0 ((h_rdig_j1 K0 b0 (not (ltI 57 b0))).trans (by kernel_rfl)) ((h_rdig_j1 K0 b0 false).trans (by kernel_rfl))))
theorem B04 (d:Nat) (b0):evC (Hd lf) (d+1) σ yh 145 [p8 b0] [] s=Bi3 lf b0 (λr0=>some (pI r0,[],s)):=
 (evE (fn:=Tryz.f145) (by kernel_rfl)).trans (Eq.trans (by kernel_rfl) (B03 lf (evC (Hd lf) d) yh s (cd [1,0,0,1] Oy) (Ab8 lf (evC (Hd lf) d) yh s) b0))
noncomputable abbrev Be:Code:=D8 Tryz.f102
noncomputable def O5 (lf:Nat):Cfg:=C8 lf [102] (A4 [(10,[0,1,0,0,0,0])]) [(145,A90)] (A4 [(16,[2,0]),(11,[0,3,0,0]),(15,[0,3,0,0]),(14,[2,0]),(13,[0,3,0,0,0,44]),(12,[0,3,0,0,0]),(10,[0,3,0,0,36]),(9,[0,3,0,0]),(8,[0,3,0]),(5,[0,3]),(7,[0,3]),(6,[0,3,32]),(4,[0,3,22]),(3,[0,3]),(2,[2,0]),(1,[0,8]),(0,[0])]) [145] (A4 [(0,[5]),(1,[0,3,0,0])]) (some [2,0]) [] [] []
noncomputable def Yo {R:Type} (s0:By) (k0:By->Option R):Option R:=cond (P0 2 (s0.length:Int) s0.length) (vl (cut s0 2 (s0.length:Int)) λs'0=>k0 s'0) none
abbrev HB (b:Code):Prop:=∀ (k:Out->St σ->Option R) s0,A9 (O5 lf) cl yh b ⟨gp [(0,pS s0),(3,pI (10:Int)),(22,pB true)] 32,[],s⟩ k=Yo s0 (λs0=>k .normal ⟨gp [(0,pS s0),(3,pI (16:Int))] 55,[],s⟩)
theorem Ae9:HB (R:=R) lf cl yh s (cd [1,1,1,0,1] Be):=by
 intro k s0;unfold Yo;kernel_rfl
noncomputable def Gt {R:Type} (lf n:Nat) (s0:By) (n1 i2:Int) (k0:Unit->Option R) (k1:Int->Option R):Option R:=match n with | 0=>none | n+1=>cond (ltI i2 (s0.length:Int)) (cond (inR i2 s0.length) (cond (inR (bAt s0 i2) 256) (vl (↑(dig (u8n (bAt s0 i2))):Int) λn'3=>cond (not (ltI n'3 16)) (k0 ()) (vl (A1 ((A1 (n1*16))+n'3)) λn'4=>vl (if ((1099511627776:Int)<n'4) then (1099511627776:Int) else n'4) λn'5=>Gt lf n s0 n'5 (A1 (i2+1)) k0 k1)) none) none) (k1 n1)
theorem Af4 (n s0 n1 i2):E5 0 ((O5 lf).keep 10) (bd (O5 lf) cl yh (cd [1,1,1,1,1,0,1,0,0] Be)) n ⟨gp [(0,pS s0),(3,pI (16:Int)),(0,pI n1),(0,pI i2)] 53,[],s⟩ k =
 Gt lf n s0 n1 i2 (λ_=>k .ret ⟨gp [(2,pI (0:Int)),(0,pB false)] 56,[],s⟩) (λn0=>k (.exit 0) ⟨gp [(5,pI n0)] 54,[],s⟩):=by
 induction n generalizing s0 n1 i2 with
 | zero=>rfl
 | succ n ih=>rw [Gt];simp only [<-ih];kernel_rfl
noncomputable def Yp {R:Type} (lf:Nat) (s0:By) (k0:Int->Bool->Option R):Option R:=Gt lf lf s0 0 0 (λ_=>k0 0 false) (λn'6=>k0 n'6 true)
abbrev HD (b:Code):Prop:=∀ (k:Out->St σ->Option R) s0,A9 (O5 lf) cl yh b ⟨gp [(0,pS s0),(3,pI (16:Int))] 55,[],s⟩ k=Yp lf s0 (λn0 b1=>k .ret ⟨gp [(2,pI n0),(0,pB b1)] 56,[],s⟩)
theorem Af0:HD (R:=R) lf cl yh s (cd [1,1,1,1] Be):=by
 intro k s0;unfold Yp;exact (Eq.trans (by kernel_rfl) ((Af4 lf cl yh s (F9 0 (G1 (O5 lf) cl yh (cd [1,1,1,1,1,1] Be) k)) lf s0 0 0).trans (by kernel_rfl)))
noncomputable def No {R:Type} (s0:By) (b1:Bool) (k0:By->Int->Option R) (k1:By->Bool->Option R):Option R:=cond b1 (cond (P0 2 (s0.length:Int) s0.length) (vl (cut s0 2 (s0.length:Int)) λs'9=>k0 s'9 16) none) (cond (not (ltI (s0.length:Int) (2:Int))) (cond (inR 0 s0.length) (cond ((bAt s0 (0:Int))==48) (cond (P0 1 (s0.length:Int) s0.length) (vl (cut s0 1 (s0.length:Int)) λs'10=>k0 s'10 8) none) (k1 s0 ((bAt s0 (0:Int))==48))) none) (k1 s0 false))
abbrev HG (b:Code):Prop:=∀ (k:Out->St σ->Option R) s0 b1,A9 (O5 lf) cl yh b ⟨gp [(0,pS s0),(3,pI (10:Int)),(22,pB b1)] 32,[],s⟩ k=No s0 b1 (λs0 base1=>k .normal ⟨gp [(0,pS s0),(3,pI base1)] 55,[],s⟩) (λs0 b1=>k .normal ⟨gp [(0,pS s0),(3,pI (10:Int)),(32,pB b1)] 22,[],s⟩)
theorem Af1:HG (R:=R) lf cl yh s (cd [1,1,1,0,1] Be):=by
 intro k s0 b1;unfold No;kernel_rfl
noncomputable def Dw {R:Type} (lf n:Nat) (s0:By) (base1 n2 i3:Int) (k0:Unit->Option R) (k1:Int->Option R):Option R:=match n with | 0=>none | n+1=>cond (ltI i3 (s0.length:Int)) (cond (inR i3 s0.length) (cond (inR (bAt s0 i3) 256) (vl (↑(dig (u8n (bAt s0 i3))):Int) λn'16=>cond (not (ltI n'16 base1)) (k0 ()) (vl (A1 ((A1 (n2*base1))+n'16)) λn'17=>vl (if ((1099511627776:Int)<n'17) then (1099511627776:Int) else n'17) λn'18=>Dw lf n s0 base1 n'18 (A1 (i3+1)) k0 k1)) none) none) (k1 n2)
theorem DA (n s0 base1 n2 i3):E5 0 ((O5 lf).keep 10) (bd (O5 lf) cl yh (cd [1,1,1,1,1,0,1,0,0] Be)) n ⟨gp [(0,pS s0),(3,pI base1),(0,pI n2),(0,pI i3)] 53,[],s⟩ k =
 Dw lf n s0 base1 n2 i3 (λ_=>k .ret ⟨gp [(2,pI (0:Int)),(0,pB false)] 56,[],s⟩) (λn0=>k (.exit 0) ⟨gp [(5,pI n0)] 54,[],s⟩):=by
 induction n generalizing s0 base1 n2 i3 with
 | zero=>rfl
 | succ n ih=>rw [Dw];simp only [<-ih];kernel_rfl
noncomputable def Np {R:Type} (lf:Nat) (s0:By) (base1:Int) (k0:Int->Bool->Option R):Option R:=Dw lf lf s0 base1 0 0 (λ_=>k0 0 false) (λn'19=>k0 n'19 true)
abbrev HH (b:Code):Prop:=∀ (k:Out->St σ->Option R) s0 base1,A9 (O5 lf) cl yh b ⟨gp [(0,pS s0),(3,pI base1)] 55,[],s⟩ k=Np lf s0 base1 (λn0 b1=>k .ret ⟨gp [(2,pI n0),(0,pB b1)] 56,[],s⟩)
theorem Af2:HH (R:=R) lf cl yh s (cd [1,1,1,1] Be):=by
 intro k s0 base1;unfold Np;exact (Eq.trans (by kernel_rfl) ((DA lf cl yh s (F9 0 (G1 (O5 lf) cl yh (cd [1,1,1,1,1,1] Be) k)) lf s0 base1 0 0).trans (by kernel_rfl)))
noncomputable def Nq {R:Type} (lf:Nat) (s0:By) (k0:Int->Bool->Option R):Option R:=Dw lf lf s0 10 0 0 (λ_=>k0 0 false) (λn'22=>k0 n'22 true)
abbrev HJ (b:Code):Prop:=∀ (k:Out->St σ->Option R) s0 b1,A9 (O5 lf) cl yh b ⟨gp [(0,pS s0),(3,pI (10:Int)),(32,pB b1)] 22,[],s⟩ k=Nq lf s0 (λn0 b1=>k .ret ⟨gp [(2,pI n0),(0,pB b1)] 56,[],s⟩)
theorem Af3:HJ (R:=R) lf cl yh s (cd [1,1,1,1] Be):=by
 intro k s0 b1;unfold Nq;exact (Eq.trans (by kernel_rfl) ((DA lf cl yh s (F9 0 (G1 (O5 lf) cl yh (cd [1,1,1,1,1,1] Be) k)) lf s0 10 0 0).trans (by kernel_rfl)))
noncomputable def Bj7 {R:Type} (lf:Nat) (s0:By) (k0:Int->Bool->Option R):Option R:=cond (s0==[]) (k0 0 false) (cond (not (ltI (s0.length:Int) (2:Int))) (cond (inR 0 s0.length) (cond ((bAt s0 (0:Int))==48) (cond (inR 1 s0.length) (cond ((bAt s0 (1:Int))==120) (Yo s0 (λs'1=>Yp lf s'1 (λn'7 b'8=>k0 n'7 b'8))) (cond (inR 1 s0.length) (No s0 ((bAt s0 (1:Int))==88) (λs'11 base'12=>Np lf s'11 base'12 (λn'20 b'21=>k0 n'20 b'21)) (λs'13 b'14=>Nq lf s'13 (λn'23 b'24=>k0 n'23 b'24))) none)) none) (No s0 false (λs'25 base'26=>Np lf s'25 base'26 (λn'29 b'30=>k0 n'29 b'30)) (λs'27 b'28=>Nq lf s'27 (λn'31 b'32=>k0 n'31 b'32)))) none) (No s0 false (λs'33 base'34=>Np lf s'33 base'34 (λn'37 b'38=>k0 n'37 b'38)) (λs'35 b'36=>Nq lf s'35 (λn'39 b'40=>k0 n'39 b'40))))
theorem B18 (b_11101:Code) (h_rnum_j0:HB (R:=PV × List Blk × σ) lf cl yh s b_11101) (h_rnum_j2:HG (R:=PV × List Blk × σ) lf cl yh s b_11101) (b_1111:Code) (h_rnum_j1:HD (R:=PV × List Blk × σ) lf cl yh s b_1111) (h_rnum_j3:HH (R:=PV × List Blk × σ) lf cl yh s b_1111) (h_rnum_j4:HJ (R:=PV × List Blk × σ) lf cl yh s b_1111) (s0:By):A9 (O5 lf) cl yh (cd [] (J3 [1,1,1,1] b_1111 (J3 [1,1,1,0,1] b_11101 Be))) ⟨[pS s0]++tps 59,[],s⟩ (G5 (O5 lf) Tryz.f102)=Bj7 lf s0 (λr0 r1=>some (.tup [pI r0,pB r1],[],s)):=by
 unfold Bj7;exact let K0:=(G5 (O5 lf) Tryz.f102);let K1:=(G1 (O5 lf) cl yh b_1111 K0);(Eq.trans (by kernel_rfl) (A0 rfl (A0 (A0 (A0 (A0 (A0 ((h_rnum_j0 K1 s0).trans (congr rfl (fx1 λs'1=>(Eq.trans (by kernel_rfl) ((h_rnum_j1 K0 s'1).trans (by kernel_rfl)))))) (A0 ((h_rnum_j2 K1 s0 ((bAt s0 (1:Int))==88)).trans (congr (congr rfl (fx2 λs'11 base'12=>(Eq.trans (by kernel_rfl) ((h_rnum_j3 K0 s'11 base'12).trans (by kernel_rfl))))) (fx2 λs'13 b'14=>(Eq.trans (by kernel_rfl) ((h_rnum_j4 K0 s'13 b'14).trans (by kernel_rfl)))))) rfl)) rfl) ((h_rnum_j2 K1 s0 false).trans (congr (congr rfl (fx2 λs'25 base'26=>(Eq.trans (by kernel_rfl) ((h_rnum_j3 K0 s'25 base'26).trans (by kernel_rfl))))) (fx2 λs'27 b'28=>(Eq.trans (by kernel_rfl) ((h_rnum_j4 K0 s'27 b'28).trans (by kernel_rfl))))))) rfl) ((h_rnum_j2 K1 s0 false).trans (congr (congr rfl (fx2 λs'33 base'34=>(Eq.trans (by kernel_rfl) ((h_rnum_j3 K0 s'33 base'34).trans (by kernel_rfl))))) (fx2 λs'35 b'36=>(Eq.trans (by kernel_rfl) ((h_rnum_j4 K0 s'35 b'36).trans (by kernel_rfl)))))))))
theorem B19 (d:Nat) (s0):evC (O5 lf) (d+1) σ yh 102 [pS s0] [] s=Bj7 lf s0 (λr0 r1=>some (.tup [pI r0,pB r1],[],s)):=
 (evE (fn:=Tryz.f102) (by kernel_rfl)).trans (Eq.trans (by kernel_rfl) (B18 lf (evC (O5 lf) d) yh s (cd [1,1,1,0,1] Be) (Ae9 lf (evC (O5 lf) d) yh s) (Af1 lf (evC (O5 lf) d) yh s) (cd [1,1,1,1] Be) (Af0 lf (evC (O5 lf) d) yh s) (Af2 lf (evC (O5 lf) d) yh s) (Af3 lf (evC (O5 lf) d) yh s) s0))
noncomputable def AI (lf:Nat):Cfg:=C8 lf [100] (A4 []) [(53,Hs)] (A4 [(4,[2]),(3,[3]),(2,[3,13]),(1,[3]),(0,[0])]) [] (A4 []) (some [2]) [] [] []
noncomputable def NK {R:Type} (lf:Nat) (s0:By) (k0:LL->Option R):Option R:=cond (A3 s0.length) (vl (C6 (pcs (u8n (46:Int)) s0)) λl'1=>cond (ltI 1 (l'1.length:Int)) (vl (A1 ((l'1.length:Int)-1)) λn'2=>cond (inR n'2 l'1.length) (cond (okE Gc l'1 (Int.toNat n'2) 0) (vl (gX l'1 (Int.toNat n'2) 0) λs'3=>cond (s'3==[]) (vl (A1 ((l'1.length:Int)-1)) λn'4=>cond (P0 0 n'4 l'1.length) (k0 (cut l'1 0 n'4)) none) (k0 l'1)) none) none) (k0 l'1)) none
theorem A38 (d:Nat) (s0):evC (AI lf) (d+1) σ yh 100 [pS s0] [] s=NK lf s0 (λr0=>some (.s (.sl false false 1 r0),[],s)):=by
 refine (evE (fn:=Tryz.f100) (by kernel_rfl)).trans ?_
 generalize evC (AI lf) d=cl
 unfold NK;kernel_rfl
noncomputable def Pm (lf:Nat):Cfg:=C8 lf [68] (A4 []) [(100,Zn),(101,ET),(102,VT)] (A4 [(6,[2]),(5,[4,1]),(4,[2]),(3,[4,11]),(2,[4]),(1,[3]),(0,[0])]) [101,102] (A4 []) (some [2]) [] [] []
noncomputable def Sn {R:Type} (lf:Nat) (s0:By) (k0:Bool->Option R):Option R:=cond (A3 s0.length) (vl (A1 ((↑(List.length (C6 (D0 s0))):Int)-1)) λn'2=>cond (inR n'2 (List.length (C6 (D0 s0)))) (cond (okE Gc (C6 (D0 s0)) (Int.toNat n'2) 0) (vl (gX (C6 (D0 s0)) (Int.toNat n'2) 0) λs'3=>cond (A3 s'3.length) (cond ((not (List.isEmpty s'3))&&(Option.isSome (E7 10 0 s'3))) (k0 true) (cond (A3 s'3.length) (vl (↑(M5 (Z0 s'3)):Int) λn'5=>cond (Option.isSome (Z0 s'3)) (cond (not (ltI (s'3.length:Int) (2:Int))) (cond (inR 1 s'3.length) (cond ((bAt s'3 (1:Int))==120) (k0 true) (cond (inR 1 s'3.length) (k0 ((bAt s'3 (1:Int))==88)) none)) none) (k0 false)) (k0 false)) none)) none) none) none) none
theorem SO (d:Nat) (s0):evC (Pm lf) (d+1) σ yh 68 [pS s0] [] s=Sn lf s0 (λr0=>some (pB r0,[],s)):=by
 refine (evE (fn:=Tryz.f68) (by kernel_rfl)).trans ?_
 generalize evC (Pm lf) d=cl
 unfold Sn;kernel_rfl
noncomputable abbrev Ao3:Code:=D8 Tryz.f90
noncomputable def Jg (lf:Nat):Cfg:=C8 lf [90] (A4 [(6,[2,0,0,0,0])]) [(100,Zn),(102,VT)] (A4 [(18,[2,0]),(7,[4,0,0]),(17,[4,0,0]),(16,[2,0]),(15,[4,0,0,0,38]),(14,[4,0,0]),(13,[2,0]),(12,[4,0,0,0,33]),(11,[4,0,0,0,26]),(10,[2,0]),(9,[4,0,0,0,21]),(8,[4,0,0,0,0]),(6,[4,0,0,10]),(5,[4,0,0]),(4,[4,0]),(3,[2,0]),(2,[4,8]),(1,[4]),(0,[0])]) [102] (A4 [(0,[5]),(1,[4,0,0])]) (some [2,0]) [] [] []
noncomputable def Cv {R:Type} (lf n:Nat) (p0:LL) (v1 i2:Int) (k0:Unit->Option R) (k1:Int->Option R):Option R:=match n with | 0=>none | n+1=>cond (ltI i2 (p0.length:Int)) (cond (inR i2 p0.length) (cond (okE Gc p0 (Int.toNat i2) 0) (cond (A3 (List.length (gX p0 (Int.toNat i2) 0))) (vl (↑(M5 (Z0 (gX p0 (Int.toNat i2) 0))):Int) λn'1=>cond (not (Option.isSome (Z0 (gX p0 (Int.toNat i2) 0)))) (k0 ()) (vl (A1 ((p0.length:Int)-1)) λn'7=>cond (i2==n'7) (vl (A1 ((5:Int)-(p0.length:Int))) λn'8=>cond (decide ((0:Int)<=(A1 ((8:Int)*n'8)))) (vl (Nw .i64 (1:Int) (A1 ((8:Int)*n'8))) λn'9=>cond (not (ltI n'1 n'9)) (k0 ()) (Cv lf n p0 (A1 (v1+n'1)) (A1 (i2+1)) k0 k1)) none) (cond (ltI 255 n'1) (k0 ()) (vl (A1 ((24:Int)-(A1 ((8:Int)*i2)))) λn'10=>cond (decide ((0:Int)<=n'10)) (vl (A1 (v1+(Nw .i64 n'1 n'10))) λn'11=>Cv lf n p0 n'11 (A1 (i2+1)) k0 k1) none)))) none) none) none) (k1 v1)
theorem SZ (n p0 v1 i2):E5 0 ((Jg lf).keep 6) (bd (Jg lf) cl yh (cd [1,1,1,1,0,1,0,0] Ao3)) n ⟨gp [(4,.s (.sl false false 1 p0)),(0,pI v1),(0,pI i2)] 49,[],s⟩ k =
 Cv lf n p0 v1 i2 (λ_=>k .ret ⟨gp [(2,p32 (0:Int)),(0,pB false)] 52,[],s⟩) (λv0=>k (.exit 0) ⟨gp [(5,pI v0)] 50,[],s⟩):=by
 induction n generalizing p0 v1 i2 with
 | zero=>rfl
 | succ n ih=>rw [Cv];simp only [<-ih];kernel_rfl
noncomputable def As8 {R:Type} (lf:Nat) (s0:By) (k0:Int->Bool->Option R):Option R:=cond (A3 s0.length) (cond (ltI 4 (↑(List.length (C6 (D0 s0))):Int)) (k0 0 false) (Cv lf lf (C6 (D0 s0)) 0 0 (λ_=>k0 0 false) (λv'12=>k0 (Wg v'12) true))) none
theorem Bk1 (d:Nat) (s0):evC (Jg lf) (d+1) σ yh 90 [pS s0] [] s=As8 lf s0 (λr0 r1=>some (.tup [p32 r0,pB r1],[],s)):=by
 refine (evE (fn:=Tryz.f90) (by kernel_rfl)).trans ?_
 generalize evC (Jg lf) d=cl
 unfold As8;exact (Eq.trans (by kernel_rfl) (A0 (A0 rfl ((SZ lf cl yh s (F9 0 (G1 (Jg lf) cl yh (cd [1,1,1,1,1] Ao3) (G5 (Jg lf) Tryz.f90))) lf (C6 (D0 s0)) 0 0).trans (by kernel_rfl))) rfl))
noncomputable abbrev Ba7:Code:=D8 Tryz.f188
noncomputable def Pk (lf:Nat):Cfg:=C8 lf [188] (A4 [(2,[0,1,0,0])]) [(197,ES)] (A4 [(6,[2,0]),(3,[0,3]),(5,[2,0]),(4,[0,3,7]),(2,[0,3,1]),(1,[0,3]),(0,[0])]) [197] (A4 [(0,[]),(1,[0,3])]) (some [2,0]) [] [] []
noncomputable def Jx {R:Type} (lf n:Nat) (s0:By) (n1:Int) (k0:Int->Option R) (k1:Unit->Option R):Option R:=match n with | 0=>none | n+1=>cond (ltI n1 256) (cond (ltN n1 4294967296) (vl (Lib.decDigits (Int.toNat n1)) λs'0=>cond (s'0==s0) (k0 n1) (Jx lf n s0 (A1 (n1+1)) k0 k1)) none) (k1 ())
theorem Ab4 (n s0 n1):E5 0 ((Pk lf).keep 2) (bd (Pk lf) cl yh (cd [1,0,1,0,0] Ba7)) n ⟨gp [(0,pS s0),(3,pI n1)] 9,[],s⟩ k =
 Jx lf n s0 n1 (λn0=>k .ret ⟨gp [(2,pI n0),(0,pB true)] 10,[],s⟩) (λ_=>k (.exit 0) ⟨gp [] 14,[],s⟩):=by
 induction n generalizing s0 n1 with
 | zero=>rfl
 | succ n ih=>rw [Jx];simp only [<-ih];kernel_rfl
noncomputable def B01 {R:Type} (lf:Nat) (s0:By) (k0:Int->Bool->Option R):Option R:=Jx lf lf s0 0 (λn'1=>k0 n'1 true) (λ_=>k0 0 false)
theorem B02 (d:Nat) (s0):evC (Pk lf) (d+1) σ yh 188 [pS s0] [] s=B01 lf s0 (λr0 r1=>some (.tup [pI r0,pB r1],[],s)):=by
 refine (evE (fn:=Tryz.f188) (by kernel_rfl)).trans ?_
 generalize evC (Pk lf) d=cl
 unfold B01;exact (Eq.trans (by kernel_rfl) ((Ab4 lf cl yh s (F9 0 (G1 (Pk lf) cl yh (cd [1,1] Ba7) (G5 (Pk lf) Tryz.f188))) lf s0 0).trans (by kernel_rfl)))
noncomputable abbrev Ba9:Code:=D8 Tryz.f163
noncomputable def Pn (lf:Nat):Cfg:=C8 lf [163] (A4 [(6,[2,0,0,0,0])]) [(53,Hs),(188,A89)] (A4 [(12,[2,0]),(7,[4,0,0]),(11,[4,0,0]),(10,[2,0]),(9,[4,0,0,0,19]),(8,[4,0,0,0,0]),(6,[4,0,0,8]),(5,[4,0,0]),(4,[4,0]),(3,[2,0]),(2,[4,8]),(1,[4]),(0,[0])]) [188] (A4 [(0,[5]),(1,[4,0,0])]) (some [2,0]) [] [] []
noncomputable def Ke {R:Type} (lf n:Nat) (p0:LL) (v1 i2:Int) (k0:Unit->Option R) (k1:Int->Option R):Option R:=match n with | 0=>none | n+1=>cond (ltI i2 4) (cond (inR i2 p0.length) (cond (okE Gc p0 (Int.toNat i2) 0) (cond (A3 (List.length (gX p0 (Int.toNat i2) 0))) (vl (↑(M5 (oct (gX p0 (Int.toNat i2) 0))):Int) λn'3=>cond (not (Option.isSome (oct (gX p0 (Int.toNat i2) 0)))) (k0 ()) (vl (Wg (v1*256)) λn'4=>vl (Wg (n'4+(Wg n'3))) λn'5=>Ke lf n p0 n'5 (A1 (i2+1)) k0 k1)) none) none) none) (k1 v1)
theorem Ai1 (n p0 v1 i2):E5 0 ((Pn lf).keep 6) (bd (Pn lf) cl yh (cd [1,1,1,1,0,1,0,0] Ba9)) n ⟨gp [(4,.s (.sl false false 1 p0)),(0,p32 v1),(0,pI i2)] 27,[],s⟩ k =
 Ke lf n p0 v1 i2 (λ_=>k .ret ⟨gp [(2,p32 (0:Int)),(0,pB false)] 30,[],s⟩) (λv0=>k (.exit 0) ⟨gp [(5,p32 v0)] 28,[],s⟩):=by
 induction n generalizing p0 v1 i2 with
 | zero=>rfl
 | succ n ih=>rw [Ke];simp only [<-ih];kernel_rfl
noncomputable def B27 {R:Type} (lf:Nat) (s0:By) (k0:Int->Bool->Option R):Option R:=cond (A3 s0.length) (vl (C6 (pcs (u8n (46:Int)) s0)) λl'1=>cond ((l'1.length:Int) != 4) (k0 0 false) (Ke lf lf l'1 0 0 (λ_=>k0 0 false) (λv'6=>k0 v'6 true))) none
theorem B28 (d:Nat) (s0):evC (Pn lf) (d+1) σ yh 163 [pS s0] [] s=B27 lf s0 (λr0 r1=>some (.tup [p32 r0,pB r1],[],s)):=by
 refine (evE (fn:=Tryz.f163) (by kernel_rfl)).trans ?_
 generalize evC (Pn lf) d=cl
 unfold B27;exact (Eq.trans (by kernel_rfl) (A0 (A6 λl'1=>(A0 rfl ((Ai1 lf cl yh s (F9 0 (G1 (Pn lf) cl yh (cd [1,1,1,1,1] Ba9) (G5 (Pn lf) Tryz.f163))) lf l'1 0 0).trans (by kernel_rfl)))) rfl))
noncomputable def Ut (lf:Nat):Cfg:=C8 lf [117] (A4 []) [(158,Tn)] (A4 [(1,[4]),(0,[0,0])]) [] (A4 []) (some [4]) [] [] []
noncomputable def Yq {R:Type} (lf:Nat) (s0 sep1:By) (k0:Nat->LL->Option R):Option R:=cond (A3 s0.length) (cond (sep1.length==1) (cond ((0:Int)==0) (cond (((-1):Int)==((-1):Int)) (vl (C6 (pcs (List.getD sep1 0 0) s0)) λl'0=>k0 (List.length (pcs (List.getD sep1 0 0) s0)) l'0) none) none) none) none
theorem Aj5 (d:Nat) (s0 sep1):evC (Ut lf) (d+1) σ yh 117 [pS s0,pS sep1] [] s=Yq lf s0 sep1 (λr_m0 l1=>some (.vw 0 0 r_m0,[.arr false 9 1 l1],s)):=by
 refine (evE (fn:=Tryz.f117) (by kernel_rfl)).trans ?_
 generalize evC (Ut lf) d=cl
 unfold Yq;kernel_rfl
end
end
section
open Go
theorem Bi (b:UInt8):(48<=b.toNat/\b.toNat<=57/\dig b=b.toNat-48)\/(97<=b.toNat/\b.toNat<=102/\dig b=b.toNat-87)\/(65<=b.toNat/\b.toNat<=70/\dig b=b.toNat-55)\/(¬(48<=b.toNat/\b.toNat<=57)/\¬(97<=b.toNat/\b.toNat<=102)/\¬(65<=b.toNat/\b.toNat<=70)/\dig b=99):=by
 unfold dig
 split
 ·rename_i h;exact .inl ⟨h.1,h.2,rfl⟩
 ·split
  ·rename_i h;exact .inr (.inl ⟨h.1,h.2,rfl⟩)
  ·split
   ·rename_i h;exact .inr (.inr (.inl ⟨h.1,h.2,rfl⟩))
   ·exact .inr (.inr (.inr ⟨by assumption,by assumption,by assumption,rfl⟩))
theorem Bk8 (m:Nat):(if (1099511627776:Int)<(m:Int) then (1099511627776:Int) else (m:Int))=((min m Ba:Nat):Int):=by
 unfold Ba
 split<;>omega
theorem AS {base:Nat}:∀ {s:By} {n v:Nat},n<=Ba->E7 base n s=some v->v<=Ba
 | [],n,v,h,e=>by simp only [E7,Option.some.injEq] at e;omega
 | b::r,n,v,h,e=>by
  simp only [E7] at e
  split at e
  ·exact AS (by omega) e
  ·cases e
theorem Ar2 {s:By} {v:Nat} (h:Z0 s=some v):v<=Ba:=by
 unfold Z0 at h
 repeat' split at h
 all_goals first | (cases h;done) | exact AS (by unfold Ba;omega) h
theorem FP (base:Nat):∀ (x y:By) (n:Nat),E7 base n (x++y)=(E7 base n x).bind λm=>E7 base m y
 | [],y,n=>rfl
 | b::r,y,n=>by
  simp only [List.cons_append,E7]
  split
  ·exact FP base r y _
  ·rfl
theorem Hg (u:Nat) (h:¬ u<10):Lib.decDigits u=Lib.decDigits (u / 10)++[UInt8.ofNat (48+u % 10)]:=by
 rw [Lib.decDigits,dif_neg h]
theorem B79 (d:Nat) (h:d<10):dig (UInt8.ofNat (48+d))=d:=by
 unfold dig
 have:(UInt8.ofNat (48+d)).toNat=48+d:=by simp;omega
 rw [this,V7]
 omega
theorem Av6:∀ u:Nat,u<=Ba->E7 10 0 (Lib.decDigits u)=some u:=by
 intro u
 induction u using Nat.strongRecOn with
 | _ u ih=>
  intro hu
  by_cases h:u<10
  ·rw [Lib.decDigits_one h]
   simp only [E7,B79 u h]
   rw [if_pos h]
   unfold Ba
   simp
   omega
  ·rw [Hg u h,FP,ih (u / 10) (by omega) (by omega)]
   simp only [Option.bind_some,E7,B79 (u % 10) (by omega)]
   rw [V7]
   unfold Ba at *
   simp
   omega
theorem FM:∀ (k u:Nat),0<k->u<10 ^ k->(Lib.decDigits u).length<=k
 | 0,u,h,_=>by omega
 | k+1,u,_,h=>by
  by_cases h1:u<10
  ·rw [Lib.decDigits_one h1];simp
  ·rw [Hg u h1,List.length_append,List.length_singleton]
   have hk:0<k:=by
    rcases Nat.eq_zero_or_pos k with rfl | hk
    ·rw [Nat.zero_add,Nat.pow_one] at h;omega
    ·exact hk
   have:=FM k (u / 10) hk (by rw [Nat.pow_succ] at h;omega)
   omega
theorem Rs {s:By} {n:Nat}:oct s=some n↔n<256/\Lib.decDigits n=s:=by
 unfold oct
 constructor
 ·intro h
  split at h
  ·rename_i m hm
   split at h
   ·rename_i hc
    cases h
    exact ⟨by omega,hc.2⟩
   ·cases h
  ·cases h
 ·rintro ⟨h1,rfl⟩
  rw [Av6 n (by unfold Ba;omega)]
  exact if_pos ⟨by omega,rfl⟩
theorem B75 (a b:Nat) (ha:a<9223372036854775808) (hb:b<9223372036854775808):bOr .i64 (a:Int) (b:Int)=((a ||| b:Nat):Int):=by
 unfold bOr
 rw [show IntKind.bits .i64=64 from rfl,B97 64 a b (by omega) (by omega)]
 have:a ||| b<2 ^ 63:=Nat.or_lt_two_pow (by omega) (by omega)
 exact A5
theorem Cj0 (a b:Nat) (ha:a<4294967296) (hb:b<4294967296):bOr .u32 (a:Int) (b:Int)=((a ||| b:Nat):Int):=by
 unfold bOr
 rw [show IntKind.bits .u32=32 from rfl,B97 32 a b (by omega) (by omega)]
 have:a ||| b<2 ^ 32:=Nat.or_lt_two_pow (by omega) (by omega)
 exact Mo
theorem TQ (a m:Nat) (h:a*2 ^ m<9223372036854775808) (hm:m<=64):Nw .i64 (a:Int) (m:Int)=((a*2 ^ m:Nat):Int):=by
 unfold Nw
 rw [Int.toNat_natCast,show IntKind.bits .i64=64 from rfl,Nat.min_eq_left hm]
 have:(a:Int)*2 ^ m=((a*2 ^ m:Nat):Int):=by simp
 rw [this]
 exact A5
theorem Ck3 (a m:Nat) (h:a*2 ^ m<4294967296) (hm:m<=32):Nw .u32 (a:Int) (m:Int)=((a*2 ^ m:Nat):Int):=by
 unfold Nw
 rw [Int.toNat_natCast,show IntKind.bits .u32=32 from rfl,Nat.min_eq_left hm]
 have:(a:Int)*2 ^ m=((a*2 ^ m:Nat):Int):=by simp
 rw [this]
 exact Mo
theorem Yg (v n m:Nat) (h:n<2 ^ m):v*2 ^ m ||| n=v*2 ^ m+n:=by
 rw [Nat.or_comm,Cc3 n v m h,Nat.add_comm]
theorem Fl {c:UInt8} {s:By} (h:c∉s):pcs c s=[s]:=by
 unfold pcs;rw [Ea c s [] h];rfl
theorem Rw {c:UInt8} {p r:By} (h:c∉p):pcs c (p++c::r)=p::pcs c r:=by
 unfold pcs;rw [Xo c p [] r h];rfl
theorem Ar (c:UInt8) (s:By):(pcs c s).length=s.count c+1:=Gv c s []
theorem Vq (c:UInt8) (s:By):pcs c s≠[]:=Aj2 c s []
theorem X1 {c:UInt8} {s x:By} (h:x∈pcs c s):c∉x/\x.length<=s.length:=by
 have:=Mi c s [] (by simp) x h
 simpa using this
theorem Cm (c:UInt8) (s:By):s.count c<=s.length:=List.count_le_length
theorem Gw (c:UInt8):∀ s:By,c∉s\/∃ p r,s=p++c::r/\c∉p
 | []=>.inl (by simp)
 | b::s=>by
  by_cases h:b=c
  ·subst h;exact .inr ⟨[],s,rfl,by simp⟩
  ·rcases Gw c s with h1 | ⟨p,r,rfl,h2⟩
   ·exact .inl (by simp [h1,Ne.symm h])
   ·exact .inr ⟨b::p,r,rfl,by simp [h2,Ne.symm h]⟩
theorem Po {c:UInt8} {s:By} (h:c∉s):Lib.index s [c] = -1:=by
 rcases Lib.index_spec s [c] with h1 | ⟨i,h1,h2,h3,h4⟩
 ·exact h1.1
 ·exfalso
  simp only [Lib.occAt,List.isPrefixOf_iff_prefix] at h3
  obtain ⟨t,ht⟩:=h3
  have:c∈s.drop i:=by rw [<-ht];simp
  exact h (List.mem_of_mem_drop this)
theorem Vj {c:UInt8} {p r:By} (h:c∉p):Lib.index (p++c::r) [c]=(p.length:Int):=by
 rcases Lib.index_spec (p++c::r) [c] with h1 | ⟨i,h1,h2,h3,h4⟩
 ·exfalso
  have:=h1.2 p.length (by simp)
  simp [Lib.occAt] at this
 ·rw [h1]
  have hi:¬ p.length<i:=by
   intro hlt
   have:=h4 p.length hlt
   simp [Lib.occAt] at this
  have hi2:¬ i<p.length:=by
   intro hlt
   simp only [Lib.occAt,List.isPrefixOf_iff_prefix] at h3
   obtain ⟨t,ht⟩:=h3
   have h5:(p++c::r).drop i=p.drop i++c::r:=by rw [List.drop_append_of_le_length (by omega)]
   rw [h5] at ht
   cases hd:p.drop i with
   | nil=>have:=List.length_drop (i:=i) (l:=p);rw [hd] at this;simp at this;omega
   | cons x y=>
    rw [hd] at ht
    simp at ht
    have:x∈p:=List.mem_of_mem_drop (i:=i) (by rw [hd];simp)
    rw [<-ht.1] at this
    exact h this
  omega
theorem A05 (s:By):D0 s≠[]:=by
 unfold D0
 split
 ·rename_i h
  intro e
  have:=congrArg List.length e
  simp at this
  omega
 ·exact Vq _ _
theorem Jt {s x:By} (h:x∈D0 s):x.length<=s.length:=by
 unfold D0 at h
 split at h
 ·exact (X1 ((List.dropLast_sublist _).subset h)).2
 ·exact (X1 h).2
theorem Bv (s:By):1<=(D0 s).length/\(D0 s).length<=s.length+1:=by
 have h1:=List.length_pos_iff.2 (A05 s)
 have h2:=Ar 46 s
 have h3:=Cm 46 s
 refine ⟨h1,?_⟩
 unfold D0
 split
 ·rw [List.length_dropLast];omega
 ·omega
theorem Vn (s:By):(D0 s).getD ((D0 s).length-1) []=De s:=by
 unfold De
 rw [List.getLastD_eq_getLast?,List.getLast?_eq_getElem?,List.getD_eq_getElem?_getD]
theorem GD (s:By):De s∈D0 s:=by
 have h:=(Bv s).1
 rw [<-Vn,List.getD_eq_getElem?_getD,List.getElem?_eq_getElem (by omega)]
 exact List.getElem_mem _
theorem Hh {base:Nat}:∀ {s:By} {n i:Nat},i<s.length->base<=dig (s.getD i 0)->E7 base n s=none
 | [],n,i,h,_=>by simp at h
 | b::r,n,0,h,h2=>by
  simp only [List.getD_cons_zero] at h2
  simp only [E7]
  rw [I8]
 | b::r,n,i+1,h,h2=>by
  simp only [List.getD_cons_succ] at h2
  simp only [E7]
  split
  ·exact Hh (i:=i) (by simpa using h) h2
  ·rfl
theorem Vk (s:By):Ao s=true↔s.getD 0 0=48/\(s.getD 1 0=120\/s.getD 1 0=88):=by
 simp [Ao]
theorem Nc {s:By} (h:Ao s=true):2<=s.length:=by
 rw [Vk] at h
 match s with
 | []=>simp at h
 | [a]=>simp at h
 | a::b::r=>simp
theorem Bg8 (l:By):(if Ao l then (E7 16 0 (l.drop 2)).isSome else !l.isEmpty&&(E7 10 0 l).isSome) =
  (if (!l.isEmpty&&(E7 10 0 l).isSome)=true then true else (if (Z0 l).isSome=true then decide (2<=l.length)&&(l.getD 1 0==120 || l.getD 1 0==88) else false)):=by
 by_cases hx:Ao l=true
 ·have hl:=Nc hx
  have h1:=(Vk l).1 hx
  have hd:E7 10 0 l=none:=Hh (i:=1) (by omega) (by rcases h1.2 with h | h<;>rw [h]<;>decide)
  have hn:Z0 l=E7 16 0 (l.drop 2):=by
   unfold Z0
   rw [if_neg (by intro e;rw [e] at hl;simp at hl),if_pos hx]
  rw [if_pos hx,hd,hn]
  have h2:(l.getD 1 0==120 || l.getD 1 0==88)=true:=by simpa using h1.2
  rw [h2]
  simp [hl]
 ·rw [if_neg hx]
  cases hc:(!l.isEmpty&&(E7 10 0 l).isSome) with
  | true=>rfl
  | false=>
   rw [if_neg (by simp)]
   cases hn:Z0 l with
   | none=>rfl
   | some v=>
    rw [show (some v).isSome=true from rfl,if_pos rfl]
    symm
    rw [Bool.and_eq_false_iff]
    by_cases h2:2<=l.length
    ·right
     apply Classical.byContradiction
     intro hxx
     have hxx:l.getD 1 0=120\/l.getD 1 0=88:=by
      cases hq:(l.getD 1 0==120 || l.getD 1 0==88) with
      | false=>exact absurd hq hxx
      | true=>simpa using hq
     have h0:¬ l.getD 0 0=48:=λh=>hx ((Vk l).2 ⟨h,hxx⟩)
     have hd:E7 10 0 l=none:=Hh (i:=1) (by omega) (by rcases hxx with h | h<;>rw [h]<;>decide)
     unfold Z0 at hn
     rw [if_neg (by intro e;rw [e] at h2;simp at h2),if_neg hx,if_neg (by intro h;exact h0 h.2),hd] at hn
     cases hn
    ·left;simpa using h2
end
section
open Go Go.Proofs
theorem Az3 {R:Type} {k0:Bool->Option R} (s p:By) (h0:A3 s.length=true):Bw3 LF s p k0=k0 (p.isPrefixOf s):=by
 have:=K8 h0
 unfold Bw3
 rw [Kw]
 by_cases h:p.length<=s.length
 ·simp_all
 ·simp (disch:=omega) [h]
theorem Ax2 {R:Type} {k0:Bool->Option R} (s p:By) (h0:A3 s.length=true):QM LF s p k0=k0 (p.isPrefixOf s):=by
 unfold QM;rw [h0];rfl
theorem Az4 {R:Type} {k0:Bool->Option R} (s p:By) (h0:A3 s.length=true):Bw5 LF s p k0=k0 (p.isSuffixOf s):=by
 have:=K8 h0
 unfold Bw5
 rw [Kx]
 by_cases h:p.length<=s.length
 ·have e:((s.length:Int)-(p.length:Int)).toNat=s.length-p.length:=by omega
  simp (disch:=omega) [h,e]
 ·simp (disch:=omega) [h]
theorem ZD {R:Type} {k0:By->Option R} (s p:By) (h0:A3 s.length=true):Aq5 LF s p k0=k0 (OB s p):=by
 have:=K8 h0
 unfold Aq5 OB
 rw [h0]
 cases h:p.isSuffixOf s with
 | false=>simp
 | true=>
  have:p.length<=s.length:=by rw [Kx] at h;simp at h;exact h.1
  have e:((s.length:Int)-(p.length:Int)).toNat=s.length-p.length:=by omega
  simp (disch:=omega) [e]
theorem Aj8 {R:Type} {k0:By->Option R} (s p:By) (h0:A3 s.length=true):At4 LF s p k0=k0 (OB s p):=by
 unfold At4;rw [h0];rfl
theorem YT {R:Type} {k0:By->Bool->Option R} (s p:By) (h0:A3 s.length=true):Ap9 LF s p k0=k0 (AQ s p) (p.isPrefixOf s):=by
 have:=K8 h0
 unfold Ap9 AQ
 rw [h0]
 cases h:p.isPrefixOf s with
 | false=>simp
 | true=>
  have:p.length<=s.length:=by rw [Kw] at h;simp at h;exact h.1
  simp_all
theorem Av3 {R:Type} {k0:By->Bool->Option R} (s p:By) (h0:A3 s.length=true):Br4 LF s p k0=k0 (AQ s p) (p.isPrefixOf s):=by
 unfold Br4;rw [h0];rfl
theorem TY {R:Type} {k0:LL->Option R} (s p:By) (h0:A3 s.length=true) (h1:(p.length==1)=true):NU LF s p k0=k0 (C6 (pcs (p.getD 0 0) s)):=by
 unfold NU;rw [h0,h1];rfl
theorem Ay9 {R:Type} {k0:LL->Option R} (s:By) (hs:s.length<=1000000000):∀ (r i n:Nat),i+r=s.length->r<n->Dm LF n s (s.length:Int) (i:Int) ((C7 (s.take i)).map E3) k0=k0 ((C7 s).map E3):=by
 intro r
 induction r with
 | zero=>
  intro i n hi hn
  obtain ⟨n,rfl⟩:∃ m,n=m+1:=⟨n-1,by omega⟩
  rw [Dm]
  rw [A7,List.take_of_length_le (by omega)]
  rfl
 | succ r ih=>
  intro i n hi hn
  obtain ⟨n,rfl⟩:∃ m,n=m+1:=⟨n-1,by omega⟩
  rw [Dm]
  have hl:(C7 (s.take i)).length=i:=by simp [C7];omega
  have ih:=ih (i+1) n (by omega) (by omega)
  rw [BW s i (by omega)] at ih
  rw [F4]
  have hb:=(s.getD i 0).toNat_lt
  generalize s.getD i 0=b at *
  have hn1:((i:Int)+1)=((i+1:Nat):Int):=by omega
  simp (disch:=omega) only [C2,K2,cond_true,vl,List.length_map,hl,E0,D3]
  rw [hn1]
  rcases Fg b with ⟨h1,e⟩ | ⟨h1,e⟩ | ⟨h1,h2,e⟩
  ·simp (disch:=omega) only [C2,Bool.not_true,cond_false]
   rw [e] at ih;exact ih
  ·simp (disch:=omega) only [D1,C2,Bool.not_true,Bool.not_false,cond_false,cond_true]
   rw [e] at ih;exact ih
  ·have e2:wu8 ((b.toNat:Int)+32)=((Gb b).toNat:Int):=by
    rw [N2];omega
   simp (disch:=omega) only [D1,Bool.not_false,cond_true,e2]
   exact ih
theorem Az0 {R:Type} {k0:By->LL->Option R} (s:By) (h0:A3 s.length=true):Bw0 LF s k0=k0 (C7 s) ((C7 s).map E3):=by
 have hs:=K8 h0
 have:=D7
 unfold Bw0
 simp (disch:=omega) only [Int.toNat_natCast,E0,Bool.and_true]
 rw [show (decide ((0:Int)<=(s.length:Int)))=true by simp]
 have:=Ay9 (k0:=λl'1=>cond (List.all l'1 Lt) (k0 (List.map Lc l'1) l'1) none) s hs s.length 0 LF (by omega) (by omega)
 simp only [List.take_zero,C7,List.map_nil] at this
 rw [cond_true]
 refine Eq.trans this ?_
 rw [show (List.map Gb s).map E3=(C7 s).map E3 from rfl,Y5,Y9]
 rfl
theorem A33 {R:Type} {k0:LL->Option R} (s:By) (hs:s.length<=1000000000):∀ (r i n:Nat),i+r=s.length->r<n->Dv LF n s (i:Int) ((C7 (s.take i)).map E3) k0=k0 ((C7 s).map E3):=by
 intro r
 induction r with
 | zero=>
  intro i n hi hn
  obtain ⟨n,rfl⟩:∃ m,n=m+1:=⟨n-1,by omega⟩
  rw [Dv]
  rw [A7,List.take_of_length_le (by omega)]
  rfl
 | succ r ih=>
  intro i n hi hn
  obtain ⟨n,rfl⟩:∃ m,n=m+1:=⟨n-1,by omega⟩
  rw [Dv]
  have hl:(C7 (s.take i)).length=i:=by simp [C7];omega
  have ih:=ih (i+1) n (by omega) (by omega)
  rw [BW s i (by omega)] at ih
  rw [F4]
  have hb:=(s.getD i 0).toNat_lt
  generalize s.getD i 0=b at *
  have hn1:((i:Int)+1)=((i+1:Nat):Int):=by omega
  simp (disch:=omega) only [C2,K2,cond_true,vl,List.length_map,hl,E0,D3]
  rw [hn1]
  rcases Fg b with ⟨h1,e⟩ | ⟨h1,e⟩ | ⟨h1,h2,e⟩
  ·simp (disch:=omega) only [C2,Bool.not_true,cond_false]
   rw [e] at ih;exact ih
  ·simp (disch:=omega) only [D1,C2,Bool.not_true,Bool.not_false,cond_false,cond_true]
   rw [e] at ih;exact ih
  ·have e2:wu8 ((b.toNat:Int)+32)=((Gb b).toNat:Int):=by
    rw [N2];omega
   simp (disch:=omega) only [D1,Bool.not_false,cond_true,e2]
   exact ih
theorem A34 {R:Type} {k0:By->LL->Option R} (s:By) (h0:A3 s.length=true):B16 LF s k0=k0 (C7 s) ((C7 s).map E3):=by
 have hs:=K8 h0
 have:=D7
 unfold B16
 have:=A33 (k0:=λl'1=>cond (List.all l'1 Lt) (k0 (List.map Lc l'1) l'1) none) s hs s.length 0 LF (by omega) (by omega)
 refine Eq.trans this ?_
 rw [Y5,Y9]
 rfl
theorem Aw9 {R:Type} {k0:Bool->Option R} (s:By) (h0:A3 s.length=true):Bt7 LF s k0=k0 (Ao s):=by
 unfold Bt7
 have key:Ao s=(([48,120]:By).isPrefixOf s || ([48,88]:By).isPrefixOf s):=by
  match s with
  | []=>rfl
  | [a]=>simp [Ao,List.isPrefixOf]
  | a::b::r=>
   simp only [Ao,List.isPrefixOf,List.getD_cons_zero,List.getD_cons_succ,Bool.and_true]
   rw [BEq.comm (a:=(48:UInt8)),BEq.comm (a:=(120:UInt8)),BEq.comm (a:=(88:UInt8))]
   cases (a==48)<;>simp
 grind
theorem Av7 {R:Type} {k0:Unit->Option R} {k1:Int->Option R} (s:By) (hs:s.length<=1000000000) (base:Nat) (hb:base<=16):∀ (r i acc n:Nat),i+r=s.length->r<n->acc<=Ba->
  Gh LF n s (base:Int) (acc:Int) (s.length:Int) (i:Int) k0 k1=match E7 base acc (s.drop i) with | some v=>k1 (v:Int) | none=>k0 ():=by
 intro r
 induction r with
 | zero=>
  intro i acc n hi hn ha
  obtain ⟨n,rfl⟩:∃ m,n=m+1:=⟨n-1,by omega⟩
  rw [Gh]
  rw [A7,List.drop_of_length_le (by omega)]
  rfl
 | succ r ih=>
  intro i acc n hi hn ha
  obtain ⟨n,rfl⟩:∃ m,n=m+1:=⟨n-1,by omega⟩
  rw [Gh,F7 s i (by omega)]
  rw [F4]
  have hbt:=(s.getD i 0).toNat_lt
  generalize s.getD i 0=b at *
  have hn1:((i:Int)+1)=((i+1:Nat):Int):=by omega
  have hsat:Ba=1099511627776:=rfl
  have step:∀ d:Nat,d<base->(acc*base+d<100000000000000/\A1 (A1 ((acc:Int)*(base:Int))+(d:Int))=((acc*base+d:Nat):Int)):=by
   intro d hd
   have h1:acc*base<=1099511627776*16:=Nat.mul_le_mul (by omega) (by omega)
   refine ⟨by omega,?_⟩
   have e1:A1 ((acc*base:Nat):Int)=((acc*base:Nat):Int):=A5
   rw [<-Int.natCast_mul,e1,A5]
   rfl
  simp (disch:=omega) only [C2,K2,cond_true,vl,D3,Qm,Ql,Qk]
  rw [hn1]
  simp only [E7]
  rcases Bi b with ⟨h1,h2,e⟩ | ⟨h1,h2,e⟩ | ⟨h1,h2,e⟩ | ⟨h1,h2,h3,e⟩
  ·have e2:wu8 ((b.toNat:Int)-48)=((dig b:Nat):Int):=by rw [N2];omega
   simp (disch:=omega) only [C2,D1,Bool.not_true,Bool.not_false,cond_false,cond_true,e2,D3]
   by_cases hd:dig b<base
   ·rw [if_pos hd,A8,(step _ hd).2,Bk8]
    exact ih (i+1) _ n (by omega) (by omega) (by omega)
   ·rw [if_neg hd,A7];rfl
  ·have e2:wu8 ((b.toNat:Int)-97)+10=((dig b:Nat):Int):=by rw [N2];omega
   have e3:wu8 ((b.toNat:Int)-97)=((b.toNat:Int)-97):=N2
   rw [e3] at e2
   simp (disch:=omega) only [C2,D1,Bool.not_true,Bool.not_false,cond_false,cond_true,e3,D3,e2]
   by_cases hd:dig b<base
   ·rw [if_pos hd,A8,(step _ hd).2,Bk8]
    exact ih (i+1) _ n (by omega) (by omega) (by omega)
   ·rw [if_neg hd,A7];rfl
  ·have e2:wu8 ((b.toNat:Int)-65)+10=((dig b:Nat):Int):=by rw [N2];omega
   have e3:wu8 ((b.toNat:Int)-65)=((b.toNat:Int)-65):=N2
   rw [e3] at e2
   simp (disch:=omega) only [C2,D1,Bool.not_true,Bool.not_false,cond_false,cond_true,e3,D3,e2]
   by_cases hd:dig b<base
   ·rw [if_pos hd,A8,(step _ hd).2,Bk8]
    exact ih (i+1) _ n (by omega) (by omega) (by omega)
   ·rw [if_neg hd,A7];rfl
  ·rw [if_neg (show ¬ dig b<base by omega)]
   by_cases c1:b.toNat<48
   ·simp (disch:=omega) only [C2,D1,Bool.not_true,Bool.not_false,cond_false,cond_true]
   ·by_cases c2:b.toNat<65
    ·simp (disch:=omega) only [C2,D1,Bool.not_true,Bool.not_false,cond_false,cond_true]
    ·by_cases c3:b.toNat<97
     ·simp (disch:=omega) only [C2,D1,Bool.not_true,Bool.not_false,cond_false,cond_true]
     ·simp (disch:=omega) only [C2,D1,Bool.not_true,Bool.not_false,cond_false,cond_true]
theorem Av8 {R:Type} {k0:Int->Bool->Option R} (s:By) (base:Int) (h0:A3 s.length=true) (h1:ltN base 17=true):Bc8 LF s base k0=k0 (M5 (E7 base.toNat 0 s):Int) (E7 base.toNat 0 s).isSome:=by
 have hs:=K8 h0
 have:=D7
 obtain ⟨hb0,hb1⟩:=L8.1 h1
 obtain ⟨bn,rfl⟩:=Int.eq_ofNat_of_zero_le hb0
 unfold Bc8
 have:=Av7 (k0:=λ_=>k0 0 false) (k1:=λn=>k0 n true) s hs bn (by omega) s.length 0 0 LF (by omega) (by omega) (by unfold Ba;omega)
 refine Eq.trans this ?_
 rw [List.drop_zero,Int.toNat_natCast]
 cases E7 bn 0 s<;>rfl
theorem Bg7 {R:Type} {k0:Int->Bool->Option R} (s:By) (h0:A3 s.length=true):num LF s k0=k0 (M5 (Z0 s):Int) (Z0 s).isSome:=by
 have hs:=K8 h0
 unfold num Z0
 rw [h0]
 by_cases h1:s=[]
 ·subst h1;rfl
 have h1':(s==([]:By))=false:=by simpa using h1
 have hl:0<s.length:=List.length_pos_iff.2 h1
 rw [if_neg h1,h1']
 simp only [cond_true,cond_false,vl]
 cases hx:Ao s with
 | true=>
  have:=Nc hx
  simp (disch:=first | omega | (simp;omega)) only [cond_true,if_true,T3,Q8,F5,Xd]
  rfl
 | false=>
  simp only [cond_false,Bool.false_eq_true,if_false]
  have hd:(E7 10 0 s)=E7 10 0 s:=rfl
  by_cases h2:1<s.length
  ·simp (disch:=omega) only [C2,K2,cond_true,Hu,h2,true_and]
   have e:=P6 (s.getD 0 0) 48 (by omega)
   rw [show ((48:Nat):Int)=48 from rfl] at e
   rw [e]
   by_cases h3:s.getD 0 0=48
   ·rw [if_pos h3,h3,show ((48:UInt8)==UInt8.ofNat 48)=true from rfl]
    simp (disch:=first | omega | (simp;omega)) only [T3,Q8,F5,Xd,cond_true]
    rfl
   ·rw [if_neg h3,show (s.getD 0 0==UInt8.ofNat 48)=false from beq_eq_false_iff_ne.2 h3]
    rfl
  ·rw [A7,I8]
   rfl
theorem MN {R:Type} {k0:Bool->Option R} (s:By) (h0:A3 s.length=true):Ye LF s k0=k0 (F6 s):=by
 have hs:=K8 h0
 have hp:=Bv s
 have hm:=Jt (GD s)
 have hg:=Vn s
 have e1:((D0 s).length:Int)-1=(((D0 s).length-1:Nat):Int):=by omega
 unfold Ye F6
 rw [h0]
 simp (disch:=omega) only [cond_true,vl,D4,e1,D3,K2,Int.toNat_natCast,L2,O7,hg,F5]
 cases hx:Ao (De s) with
 | true=>
  have:=Nc hx
  have hn:Z0 (De s)=E7 16 0 ((De s).drop 2):=by
   unfold Z0
   grind
  simp [hn]
 | false=>
  simp only [cond_false,Bool.false_eq_true,if_false]
  cases E7 10 0 (De s) with
  | none=>simp
  | some v=>cases De s<;>rfl
theorem EM {R:Type} {k0:Bool->Option R} (s:By) (h0:A3 s.length=true):Sn LF s k0=k0 (F6 s):=by
 have hs:=K8 h0
 have hp:=Bv s
 have hm:=Jt (GD s)
 have hg:=Vn s
 have e1:((D0 s).length:Int)-1=(((D0 s).length-1:Nat):Int):=by omega
 unfold Sn F6
 rw [h0,Bg8]
 simp (disch:=omega) only [cond_true,vl,D4,e1,D3,K2,Int.toNat_natCast,L2,O7,hg,F5]
 generalize De s=l at *
 cases (!l.isEmpty&&(E7 10 0 l).isSome) with
 | true=>rfl
 | false=>
  simp only [cond_false,Bool.false_eq_true,if_false]
  cases Z0 l with
  | none=>rfl
  | some v=>
   simp only [Option.isSome_some,cond_true,if_true,An7]
   by_cases h2:2<=l.length
   ·simp (disch:=omega) only [D1,K2,Bool.not_false,cond_true,h2,decide_true,Bool.true_and]
    have ea:=P6 (l.getD 1 0) 120 (by omega)
    have eb:=P6 (l.getD 1 0) 88 (by omega)
    grind
   ·rw [A8]
    simp [h2]
theorem LX {R:Type} {k0:By->Option R} (b:Nat) (hb:b<=9223372036854775808) (n:Int) (h0:ltN n (b+1)=true):Ya b n k0=k0 (Lib.decDigits n.toNat):=by
 obtain ⟨hb0,hb1⟩:=L8.1 h0
 obtain ⟨m,rfl⟩:=Int.eq_ofNat_of_zero_le hb0
 have key:∀ d:Nat,d<10->wu8 (A1 (48+(d:Int)))=((48+d:Nat):Int):=by
  intro d hd
  rw [A5,N2];rfl
 have el:∀ d:Nat,d<10->[[SV.int .u8 ((48+d:Nat):Int)]]=[UInt8.ofNat (48+d)].map E3:=by
  intro d hd
  rw [Bm7 (by omega)];rfl
 unfold Ya
 rw [Int.toNat_natCast]
 by_cases h:m<10
 ·rw [A8,key m h,Lib.decDigits_one h]
  simp only [cond_true,vl]
  rw [el m h,Y5,Y9]
  rfl
 ·have hl:=FM 19 (m / 10) (by omega) (by omega)
  rw [A7,show (10:Int)=((10:Nat):Int) from rfl,L9,Fx]
  simp (disch:=omega) only [cond_false,vl,D3,cond_true,Int.toNat_natCast]
  rw [N4]
  simp only [cond_true]
  have k:=key (m % 10) (by omega)
  rw [A5] at k
  rw [k,el (m % 10) (by omega),Y5,Y9,Mx (by simp;omega),Hg m h]
  rfl
theorem A20 {R:Type} {k0:Int->Option R} {k1:Unit->Option R} (s:By):∀ (r m n:Nat),m+r=256->r<n->Jx LF n s (m:Int) k0 k1=match oct s with | some v=>(if m<=v then k0 (v:Int) else k1 ()) | none=>k1 ():=by
 intro r
 induction r with
 | zero=>
  intro m n hm hn
  obtain ⟨n,rfl⟩:∃ m,n=m+1:=⟨n-1,by omega⟩
  rw [Jx]
  rw [A7]
  cases h:oct s with
  | none=>rfl
  | some v=>have:=(Rs.1 h).1;simp only [cond_false];rw [I8]
 | succ r ih=>
  intro m n hm hn
  obtain ⟨n,rfl⟩:∃ m,n=m+1:=⟨n-1,by omega⟩
  rw [Jx]
  have hn1:((m:Int)+1)=((m+1:Nat):Int):=by omega
  simp (disch:=omega) only [C2,Xd,cond_true,vl,D3,Int.toNat_natCast]
  by_cases he:Lib.decDigits m=s
  ·rw [show (Lib.decDigits m==s)=true by simpa using he,Rs.2 ⟨by omega,he⟩]
   simp
  ·rw [show (Lib.decDigits m==s)=false by simpa using he,cond_false,hn1,ih (m+1) n (by omega) (by omega)]
   cases h:oct s with
   | none=>rfl
   | some v=>
    have:=(Rs.1 h).2
    have:v≠m:=by intro e;subst e;exact he this
    simp only []
    by_cases hv:m<=v
    ·rw [if_pos hv,V7]
    ·rw [if_neg hv,I8]
theorem A21 {R:Type} {k0:Int->Bool->Option R} (s:By) (h0:A3 s.length=true):B01 LF s k0=k0 (M5 (oct s):Int) (oct s).isSome:=by
 have:=D7
 unfold B01
 refine Eq.trans (A20 s 256 0 LF (by omega) (by omega)) ?_
 cases oct s<;>rfl
theorem Bc6 (s:By) (a b:Nat) (h:a<=b) (hb:b<s.length):cut s (a:Int) ((b+1:Nat):Int)=cut s (a:Int) (b:Int)++[s.getD b 0]:=by
 rw [Gg,Gg,HV s b hb,List.drop_append_of_le_length (by rw [List.length_take];omega)]
theorem Db (s:By) (a:Nat):cut s (a:Int) (a:Int)=[]:=by
 rw [Gg]
 grind
theorem TK {R:Type} {k0:LL->Option R} (s:By) (hs:s.length<=1000000000) (c:UInt8):∀ (r i fr n:Nat) (l:List By),i+r=s.length->r+1<n->fr<=i->l.length<=i->
  U0 LF n s (c.toNat:Int) (fr:Int) (i:Int) (C6 l) k0=k0 (C6 (l++J6 c (cut s (fr:Int) (i:Int)) (s.drop i))):=by
 intro r
 induction r with
 | zero=>
  intro i fr n l hi hn hf hl
  obtain ⟨n,rfl⟩:∃ m,n=m+1:=⟨n-1,by omega⟩
  obtain ⟨n,rfl⟩:∃ m,n=m+1:=⟨n-1,by omega⟩
  have hi':i=s.length:=by omega
  subst hi'
  rw [U0]
  simp (disch:=omega) only [D1,Bool.not_false,cond_true,beq_self_eq_true,T3,D4,E0,D3]
  rw [U0]
  rw [A8,List.drop_length]
  simp only [Bool.not_true,cond_false,J6,Fv]
  rfl
 | succ r ih=>
  intro i fr n l hi hn hf hl
  obtain ⟨n,rfl⟩:∃ m,n=m+1:=⟨n-1,by omega⟩
  rw [U0]
  have hn1:((i:Int)+1)=((i+1:Nat):Int):=by omega
  have hne:((i:Int)==(s.length:Int))=false:=by rw [beq_eq_false_iff_ne];omega
  simp (disch:=omega) only [D1,Bool.not_false,cond_true,cond_false,hne,K2,F4,B84,T3,D4,E0,D3]
  rw [hn1,F7 s i (by omega)]
  simp only [J6]
  by_cases h:s.getD i 0=c
  ·rw [show (s.getD i 0==c)=true by simpa using h,if_pos h,cond_true]
   have:=ih (i+1) (i+1) n (l++[cut s (fr:Int) (i:Int)]) (by omega) (by omega) (by omega) (by simp<;>omega)
   rw [Fv] at this
   refine Eq.trans this ?_
   rw [Db]
   simp
  ·rw [show (s.getD i 0==c)=false from beq_eq_false_iff_ne.2 h,if_neg h,cond_false]
   rw [ih (i+1) fr n l (by omega) (by omega) (by omega) (by omega),Bc6 s fr i hf (by omega)]
theorem Ah9 {R:Type} {k0:LL->Option R} (s:By) (c:Int) (h0:A3 s.length=true) (h1:inR c 256=true):DF LF s c k0=k0 (C6 (pcs (u8n c) s)):=by
 have hs:=K8 h0
 have:=D7
 simp only [inR,Bool.and_eq_true,decide_eq_true_eq] at h1
 have hc:c=((u8n c).toNat:Int):=by
  unfold u8n
  simp
  omega
 unfold DF
 generalize u8n c=b at *
 subst hc
 have:=TK (k0:=k0) s hs b s.length 0 0 LF [] (by omega) (by omega) (by omega) (by simp)
 refine Eq.trans this ?_
 rw [Db]
 rfl
theorem UA (c:UInt8) (s:By):(C6 (pcs c s)).isEmpty=false:=by
 cases h:pcs c s with
 | nil=>exact absurd h (Vq c s)
 | cons a r=>rfl
theorem TL (s:By) (c:Int) (h0:A3 s.length=true) (h1:inR c 256=true):∃ r H,DF LF s c (λl=>rv (.fl 0) [.arr true 9 1 l])=rv r H/\r.stab [1] H = .s (.sl false false 1 (C6 (pcs (u8n c) s))):=by
 refine ⟨_,_,Ah9 s c h0 h1,?_⟩
 simp [PV.stab,Ld,PV.snap,UA]
theorem Bk9 (d:List By) (x:By) (m:Nat):List.set (C6 (d++List.replicate (m+1) [])) d.length (G3 (List.getD (C6 (d++List.replicate (m+1) [])) d.length []) 0 [SV.str x])=C6 ((d++[x])++List.replicate m []):=by
 have hg:List.getD (C6 (d++List.replicate (m+1) [])) d.length []=[SV.str []]:=by
  unfold C6
  grind
 rw [hg]
 simp only [G3,List.set_cons_zero,Fv]
 rw [show d.length=(C6 d).length by simp,List.set_append_right _ _ (by omega),Nat.sub_self,List.replicate_succ]
 simp [C6]
theorem QJ {R:Type} {k0:By->Int->LL->Option R} (c:UInt8):∀ (m n:Nat) (s:By) (d:List By),s.length<=1000000000->m=s.count c->d.length+m<=1000000000->m<n->
  ∃ (d':List By) (s':By),pcs c s=d'++[s']/\s'.length<=s.length/\Ab LF n s [c] 0 ((d.length+m:Nat):Int) (d.length:Int) (C6 (d++List.replicate (m+1) [])) k0=k0 s' ((d.length+m:Nat):Int) (C6 ((d++d')++[[]])):=by
 intro m
 induction m with
 | zero=>
  intro n s d hs hm hd hn
  obtain ⟨n,rfl⟩:∃ m,n=m+1:=⟨n-1,by omega⟩
  have hc:c∉s:=List.count_eq_zero.1 hm.symm
  refine ⟨[],s,Fl hc,Nat.le_refl _,?_⟩
  rw [Ab]
  rw [A7]
  simp
 | succ m ih=>
  intro n s d hs hm hd hn
  obtain ⟨n,rfl⟩:∃ m,n=m+1:=⟨n-1,by omega⟩
  rcases Gw c s with hc | ⟨p,r,rfl,hc⟩
  ·rw [List.count_eq_zero.2 hc] at hm;omega
  ·have hm':m=r.count c:=by
    rw [List.count_append,List.count_cons,List.count_eq_zero.2 hc] at hm
    simp at hm
    omega
   simp only [List.length_append,List.length_cons] at hs
   obtain ⟨d',s',h1,h2,h3⟩:=ih n r (d++[p]) (by omega) hm' (by simp<;>omega) (by omega)
   refine ⟨p::d',s',by rw [Rw hc,h1];rfl,by simp<;>omega,?_⟩
   rw [Ab]
   have e1:((p.length:Int)+1)=((p.length+1:Nat):Int):=by omega
   have e2:(d.length:Int)+1=((d.length+1:Nat):Int):=by omega
   have e3:((p.length+1:Nat):Int).toNat=p.length+1:=by omega
   have e4:(((p++c::r).length:Nat):Int)=((p.length+(r.length+1):Nat):Int):=by simp
   have e5:(p++c::r).take p.length=p:=List.take_left' rfl
   have e6:(p++c::r).drop (p.length+1)=r:=by
    rw [show p++c::r=(p++[c])++r by simp,List.drop_left' (by simp)]
   rw [Vj hc]
   have el:(C6 (d++List.replicate (m+1+1) [])).length=d.length+(m+2):=by simp<;>omega
   simp (disch:=first | omega | (simp;omega)) only [C2,D1,F5,cond_true,cond_false,vl,Int.add_zero,D3,T3,K2,el,Int.toNat_natCast,List.length_singleton,Q8,Y7,e5,Bk9]
   rw [decide_eq_true (show d.length<d.length+(m+2) by omega),cond_true,show ((1:Nat):Int)=1 from rfl,e1]
   simp (disch:=first | omega | (simp;omega)) only [D3,T3,cond_true,Q8,e3,e6,e2]
   have h3':((((d++[p]).length+m:Nat):Int))=((d.length+(m+1):Nat):Int):=by simp<;>omega
   have h4':(((d++[p]).length:Nat):Int)=((d.length+1:Nat):Int):=by simp
   rw [h3',h4'] at h3
   rw [h3]
   simp
theorem BF {R:Type} {k0:Unit->Option R} {k1:Nat->LL->Option R} (s p:By) (v n:Int) (h0:A3 s.length=true) (h1:(p.length==1)=true) (h2:(v==0)=true) (h3:(n==(-1))=true) :
  BE LF s p v n k0 k1=k1 (pcs (p.getD 0 0) s).length (C6 (pcs (p.getD 0 0) s)):=by
 have hs:=K8 h0
 have:=D7
 obtain ⟨c,rfl⟩:∃ c,p=[c]:=by
  match p,h1 with
  | [c],_=>exact ⟨c,rfl⟩
 have:v=0:=by simpa using h2
 subst this
 have:n = -1:=by simpa using h3
 subst this
 have hc:=Cm c s
 have hpl:=Ar c s
 obtain ⟨d',s',g1,g2,g3⟩:=QJ (R:=R) (k0:=λs'14 i'15 l'16=>cond (inR i'15 (List.length l'16))
     (cond (decide ((Int.toNat i'15)<(List.length l'16)))
      (vl (A1 (i'15+(1))) λn'17=>
      cond (P0 (0) n'17 (List.length (List.set l'16 (Int.toNat i'15) (G3 (List.getD l'16 (Int.toNat i'15) []) 0 [(SV.str s'14)]))))
       (k1 ((Int.toNat n'17)-0) (List.set l'16 (Int.toNat i'15) (G3 (List.getD l'16 (Int.toNat i'15) []) 0 [(SV.str s'14)])))
       (none))
      (none))
     (none)) c (s.count c) LF s [] hs rfl (by simp<;>omega) (by omega)
 unfold BE
 have e1:A1 ((s.count c:Int)+1)=((s.count c+1:Nat):Int):=A5
 have e2:A1 ((s.length:Int)+1)=((s.length+1:Nat):Int):=A5
 have e3:(if ((s.length+1:Nat):Int)<((s.count c+1:Nat):Int) then ((s.length+1:Nat):Int) else ((s.count c+1:Nat):Int))=((s.count c+1:Nat):Int):=I8
 have e4:((s.count c+1:Nat):Int)-1=(s.count c:Int):=by omega
 have e5:(List.replicate (s.count c+1) [SV.str ([]:By)])=C6 ([]++List.replicate (s.count c+1) []):=by simp [C6]
 simp only [List.getD_cons_zero,vl,List.length_singleton,e1,e2,e3,Int.toNat_natCast,e5]
 rw [show ((-1:Int)==0)=false from rfl,show ([c]==([]:By))=false from rfl,show ltI (-1) 0=true from rfl,decide_eq_true (show (0:Int)<=((s.count c+1:Nat):Int) by omega),decide_eq_true (show ((s.count c+1:Nat):Int)<=((s.count c+1:Nat):Int) by omega),E0 (by omega),e4,A5]
 simp only [cond_true,cond_false,beq_self_eq_true,Bool.and_self]
 simp only [List.length_nil,Nat.zero_add] at g3
 refine Eq.trans g3 ?_
 have e6:(C6 ((([]:List By)++d')++[[]]))=C6 (d'++List.replicate (0+1) []):=by simp
 have hd:d'.length=s.count c:=by grind
 have e7:=Bk9 d' s' 0
 rw [<-hd,e6]
 have el:(C6 (d'++List.replicate (0+1) ([]:By))).length=d'.length+1:=by simp
 have e8:A1 ((d'.length:Int)+1)=((d'.length+1:Nat):Int):=A5
 simp only [Int.toNat_natCast,e7,el,vl,e8]
 rw [I6,decide_eq_true (show d'.length<d'.length+1 by omega),T3 (by omega) (by omega) (by simp),g1]
 simp
theorem QK (s p:By) (v n:Int) (h0:A3 s.length=true) (h1:(p.length==1)=true) (h2:(v==0)=true) (h3:(n==(-1))=true) :
  ∃ r H,BE LF s p v n (λ_=>rv (.fl 0) [.arr true 9 1 []]) (λi l=>rv (.vw 0 0 i) [.arr false 9 1 l])=rv r H/\r.stab [1] H = .s (.sl false false 1 (C6 (pcs (p.getD 0 0) s))):=by
 refine ⟨_,_,BF s p v n h0 h1 h2 h3,?_⟩
 simp [PV.stab,Ld,PV.snap,List.take_of_length_le]
theorem NV {R:Type} {k0:Nat->LL->Option R} (s p:By) (h0:A3 s.length=true) (h1:(p.length==1)=true):Yq LF s p k0=k0 (pcs (p.getD 0 0) s).length (C6 (pcs (p.getD 0 0) s)):=by
 unfold Yq;rw [h0,h1];rfl
theorem GM {l:List By} {i:Nat} (h:i<l.length):l.getD i []∈l:=by grind
theorem ZQ {R:Type} {k0:LL->Option R} (s:By) (h0:A3 s.length=true):parts LF s k0=k0 (C6 (D0 s)):=by
 have hs:=K8 h0
 have hpl:=Ar 46 s
 have hc:=Cm 46 s
 unfold parts
 rw [h0]
 have e1:A1 (((pcs 46 s).length:Int)-1)=(((pcs 46 s).length-1:Nat):Int):=by rw [A5];omega
 simp only [cond_true,vl,List.getD_cons_zero,show ((1:Nat)==1)=true from rfl,D4,e1,Int.toNat_natCast]
 by_cases h1:1<(pcs 46 s).length
 ·rw [A8,I6,L2 (by omega),O7]
  have hg:(pcs 46 s).getD ((pcs 46 s).length-1) []=(pcs 46 s).getLastD []:=by grind
  rw [hg]
  by_cases h2:(pcs 46 s).getLastD []=[]
  ·rw [h2,show (([]:By)==[])=true from rfl,P5]
   have:D0 s=(pcs 46 s).dropLast:=by unfold D0;rw [if_pos ⟨h1,h2⟩]
   rw [this,List.dropLast_eq_take,Y7,Int.toNat_natCast]
   simp [C6]
  ·rw [show ((pcs 46 s).getLastD []==[])=false from beq_eq_false_iff_ne.2 h2]
   have:D0 s=pcs 46 s:=by unfold D0;rw [if_neg (λh=>h2 h.2)]
   grind
 ·rw [A7]
  have:D0 s=pcs 46 s:=by unfold D0;rw [if_neg (λh=>h1 h.1)]
  grind
theorem SP {R:Type} {k0:LL->Option R} (s:By) (h0:A3 s.length=true):NK LF s k0=k0 (C6 (D0 s)):=by
 have hs:=K8 h0
 have hpl:=Ar 46 s
 have hc:=Cm 46 s
 unfold NK
 rw [h0]
 have e1:A1 (((pcs 46 s).length:Int)-1)=(((pcs 46 s).length-1:Nat):Int):=by rw [A5];omega
 simp only [cond_true,vl,show u8n 46=46 from rfl,D4,e1,Int.toNat_natCast]
 by_cases h1:1<(pcs 46 s).length
 ·rw [A8,I6,L2 (by omega),O7]
  have hg:(pcs 46 s).getD ((pcs 46 s).length-1) []=(pcs 46 s).getLastD []:=by grind
  rw [hg]
  by_cases h2:(pcs 46 s).getLastD []=[]
  ·rw [h2,show (([]:By)==[])=true from rfl,P5]
   have:D0 s=(pcs 46 s).dropLast:=by unfold D0;rw [if_pos ⟨h1,h2⟩]
   rw [this,List.dropLast_eq_take,Y7,Int.toNat_natCast]
   simp [C6]
  ·rw [show ((pcs 46 s).getLastD []==[])=false from beq_eq_false_iff_ne.2 h2]
   have:D0 s=pcs 46 s:=by unfold D0;rw [if_neg (λh=>h2 h.2)]
   grind
 ·rw [A7]
  have:D0 s=pcs 46 s:=by unfold D0;rw [if_neg (λh=>h1 h.1)]
  grind
theorem Hj (l:List By) (i:Nat) (h:i<l.length):l.drop i=l.getD i []::l.drop (i+1):=by simp_all
theorem A11 {R:Type} {k0:Unit->Option R} {k1:Int->Option R} (l:List By) (hm1:1<=l.length) (hm:l.length<=4) (hl:∀ x∈l,x.length<=1000000000):∀ (r i v n:Nat),i+r=l.length->0<r->r<n->v<256 ^ i->
  Gr LF n (C6 l) (v:Int) (l.length:Int) (i:Int) k0 k1=match EC (8*(5-l.length)) v (l.drop i) with | some w=>k1 (w:Int) | none=>k0 ():=by
 intro r
 induction r with
 | zero=>intro i v n _ h;omega
 | succ r ih=>
  intro i v n hi _ hn hv
  obtain ⟨n,rfl⟩:∃ m,n=m+1:=⟨n-1,by omega⟩
  rw [Gr,Hj l i (by omega)]
  have hx:=hl _ (GM (show i<l.length by omega))
  have hsat:Ba=1099511627776:=rfl
  have hpw:256 ^ i<=16777216:=by
   have:i=0\/i=1\/i=2\/i=3:=by omega
   rcases this with rfl | rfl | rfl | rfl<;>decide
  simp (disch:=omega) only [C2,D4,K2,cond_true,Int.toNat_natCast,L2,O7,F5,vl]
  simp only [EC]
  have hn1:((i:Int)+1)=((i+1:Nat):Int):=by omega
  cases hq:Z0 (l.getD i []) with
  | none=>rfl
  | some q=>
   have hql:=Ar2 hq
   have ep:A1 ((l.length:Int)-1)=((l.length-1:Nat):Int):=by rw [A5];omega
   simp only [Option.isSome_some,Bool.not_true,cond_false,M5,Option.getD_some,ep]
   by_cases hr:r=0
   ·subst hr
    have hd:l.drop (i+1)=[]:=List.drop_of_length_le (by omega)
    have ef:A1 (8*A1 (5-(l.length:Int)))=((8*(5-l.length):Nat):Int):=by
     rw [D3 (n:=5-(l.length:Int)) (by omega) (by omega),A5];omega
    have hfp:2 ^ (8*(5-l.length))*256 ^ i=4294967296:=by
     have:l.length=1\/l.length=2\/l.length=3\/l.length=4:=by omega
     grind
    have hf1:1*2 ^ (8*(5-l.length))<=4294967296:=by
     rw [<-hfp,Nat.one_mul]
     exact Nat.le_mul_of_pos_right _ (Nat.pow_pos (by omega))
    rw [hd,A7,ef,decide_eq_true (show (0:Int)<=((8*(5-l.length):Nat):Int) by omega)]
    simp only [cond_false,cond_true]
    have s1:=TQ 1 (8*(5-l.length)) (by omega) (by omega)
    have hvf:v*2 ^ (8*(5-l.length))<4294967296:=by
     rw [<-hfp,Nat.mul_comm]
     exact Nat.mul_lt_mul_of_pos_left hv (Nat.pow_pos (by omega))
    have s2:=TQ v (8*(5-l.length)) (by omega) (by omega)
    rw [show ((1:Nat):Int)=1 from rfl] at s1
    rw [s1,s2,Nat.one_mul]
    by_cases hc:q<2 ^ (8*(5-l.length))
    ·rw [A8,if_pos hc,B75 _ _ (by omega) (by omega),Yg v q _ hc]
     simp only [Bool.not_true,cond_false]
     obtain ⟨n,rfl⟩:∃ m,n=m+1:=⟨n-1,by omega⟩
     rw [Gr]
     rw [hn1,A5,A7]
     rfl
    ·rw [A7,if_neg hc];rfl
   ·obtain ⟨y,z,hyz⟩:∃ y z,l.drop (i+1)=y::z:=⟨_,_,Hj l (i+1) (by omega)⟩
    rw [hyz,A8]
    simp only [cond_true]
    by_cases hc:q<=255
    ·have s2:=TQ v 8 (by omega) (by omega)
     rw [show ((8:Nat):Int)=8 from rfl] at s2
     rw [A7,if_pos hc,s2,B75 _ _ (by omega) (by omega),Yg v q 8 (by omega),hn1,A5]
     rw [<-hyz]
     exact ih (i+1) _ n (by omega) (by omega) (by omega) (by rw [Nat.pow_succ];omega)
    ·rw [A8,if_neg hc];rfl
theorem Ar7 (free m:Nat):∀ (l:List By) (v w:Nat),v<256 ^ m->EC free v l=some w->w<256 ^ (m+(l.length-1))*2 ^ free
 | [],v,w,hv,h=>by cases h
 | p::r,v,w,hv,h=>by
  simp only [EC] at h
  cases hq:Z0 p with
  | none=>simp [hq] at h
  | some q=>
   simp only [hq] at h
   cases r with
   | nil=>
    simp only at h
    split at h
    ·rename_i hc
     cases h
     simp only [List.length_cons,List.length_nil,Nat.add_sub_cancel,Nat.add_zero]
     have:(v+1)*2 ^ free<=256 ^ m*2 ^ free:=Nat.mul_le_mul_right _ hv
     grind
    grind
   | cons y z=>
    simp only at h
    split at h
    ·rename_i hc
     have:=Ar7 free (m+1) (y::z) (v*256+q) w (by rw [Nat.pow_succ];omega) h
     grind
    grind
theorem Bh5 {s:By} {w:Nat} (h:pnB s=some w):w<4294967296:=by
 unfold pnB at h
 split at h
 ·cases h
 ·rename_i hc
  have hp:=Bv s
  have:=Ar7 _ 0 (D0 s) 0 w (by decide) h
  have e:(D0 s).length=1\/(D0 s).length=2\/(D0 s).length=3\/(D0 s).length=4:=by omega
  grind
theorem A12 {R:Type} {k0:Int->Bool->Option R} (s:By) (h0:A3 s.length=true):Bz0 LF s k0=k0 (M5 (pnB s):Int) (pnB s).isSome:=by
 have hs:=K8 h0
 have:=D7
 have hp:=Bv s
 unfold Bz0
 rw [h0,D4]
 by_cases h:4<(D0 s).length
 ·rw [A8]
  unfold pnB
  rw [if_pos h]
  rfl
 ·rw [A7]
  simp only [cond_true,cond_false]
  refine Eq.trans (A11 (D0 s) hp.1 (by omega) (λx hx=>Nat.le_trans (Jt hx) hs) (D0 s).length 0 0 LF (by omega) (by omega) (by omega) (by decide)) ?_
  have e:pnB s=EC (8*(5-(D0 s).length)) 0 (D0 s):=by unfold pnB;rw [if_neg h]
  rw [List.drop_zero,<-e]
  cases hq:pnB s with
  | none=>rfl
  | some w=>
   have:=Bh5 hq
   simp only [M5,Option.getD_some,Option.isSome_some]
   rw [Mo]
end
end Go.Proofs.YtelhbgonncceeaaGreatDoor.E
