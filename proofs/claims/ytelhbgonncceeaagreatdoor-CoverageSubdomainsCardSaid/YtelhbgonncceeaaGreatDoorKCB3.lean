/-
  Parts of the proof, merged by a program of the prover's own; no condition.
-/
import Derived.Test.YtelhbgonncceeaaGreatDoorKCB2
import Derived.Deep.Draws
import Derived.KernelRfl
import Derived.LaidMore
import Derived.LaidSub
import Derived.Laws.RangeString
import Derived.Lay
import Derived.Lib.IndexMore
import Derived.Lib.ItoaNum
import Derived.Lib.Join
import Derived.Lib.JoinLaws
import Derived.Lib.LaidTab
import Derived.Lib.LaidU8
import Derived.Lib.LastIndexLaws
import Derived.Lib.RuneCount
import Derived.Lib.TrailingZeros
import Derived.Lib.TrimAscii
import Derived.Lib.ValidU
import Derived.OpenShut
import Derived.ProofKit
import Derived.Shelf.SlSortCmp.Insertion
import Derived.Shelf.Vars
import Derived.Sort.AssemblyPlain
import Derived.Sort.Grow
import Derived.Test.YtelhbgonncceeaaGreatDoorChecked
import Derived.Test.YtelhbgonncceeaaGreatDoorProg
import Derived.Test.YtelhbgonncceeaaGreatDoorRows
namespace Go.Proofs.YtelhbgonncceeaaGreatDoor.E
set_option linter.all false
section
open Go Go.ChangeShapes Go.RowKit Go.WideShapes
def Hz (P:Program) (t:Nat):Bool:=match P.underlying t with
 | some (.struct _)=>true
 | some (.array _ _)=>true
 | _=>false
def Mg (P:Program) (t:Nat) (v:PV):Prop:=∃ tys l,Bc P 20 t=some tys/\Ty.ofL tys l/\((Hz P t=true/\v = .agg (l.map .s))\/(Hz P t=false/\∃ x,l=[x]/\v = .s x))
def Ga (P:Program):List Nat->List PV->Prop
 | [],l=>l=[]
 | t::r,l=>∃ v q,l=v::q/\Mg P t v/\Ga P r q
theorem Mg.nms {P:Program} {t:Nat} {v:PV} (h:Mg P t v):v.nms=[]:=by
 obtain ⟨tys,l,_,_,h⟩:=h
 rcases h with ⟨_,rfl⟩ | ⟨_,x,_,rfl⟩
 ·simp only [PV.nms]
  rw [List.eq_nil_iff_forall_not_mem]
  intro c hc
  obtain ⟨j,hj,hc⟩:=B5.1 hc
  simp [PV.nms] at hc
 ·rfl
theorem Ga.nms {P:Program}:∀ {ts:List Nat} {l:List PV},Ga P ts l->B7 l=[]
 | [],l,h=>by simp only [Ga] at h;subst h;rfl
 | t::r,l,h=>by
  simp only [Ga] at h
  obtain ⟨v,q,rfl,h1,h2⟩:=h
  simp [B7,h1.nms,h2.nms]
section
variable {H : Type} {enc : TypeId × Value -> H} {P : Program} {w : World}
theorem Bf4 {v:Value} {r:Reach} {b:Nat} {t:Nat} (ha:Hz P t=false) (Ht:Value.okWide P w r b t v):∀ cs,v = .agg cs->False:=by
 rintro cs rfl
 simp only [Value.okWide,Cell.okWide] at Ht
 unfold Hz at ha
 split at Ht
 ·grind
 ·grind
 ·revert Ht
  cases hu:P.underlying t with
  | none=>simp [Cell.ok,hu]
  | some d=>cases d<;>simp [Cell.ok,hu]
theorem A02 {Γ:Ctx} {sh:Nat->Option Shp} {sp:Nat->Bool} {held:Bool} {r:Reach} {b b' t:Nat} {v:Value} {d:DataW H} {ps:List MemPlace} (hΓ:∀ g,g<w.heap.size->Γ.St g) (htys:(Bc P 20 t).isSome=true) (Ht:Value.okWide P w r b t v) (hd:DataW.Trod enc P w b' sp held t v d ps) :
  ∃ pv,Mg P t pv/\VP Γ sh w pv v:=by
 obtain ⟨tys,ht⟩:=Option.isSome_iff_exists.1 htys
 obtain ⟨m,hm⟩:=hd
 obtain ⟨svs,h1,h2⟩:=Vh 20 t tys m _ _ ht hm
 have lift:∀ {x:SV} {V:Value},VS (· < w.heap.size) w x V->VS Γ.St w x V:=λh=>h.mono (λ_ _=>rfl) hΓ
 cases ha:Hz P t with
 | true=>
  refine ⟨.agg (svs.map .s),⟨tys,svs,ht,h1,.inl ⟨ha,rfl⟩⟩,?_⟩
  have:∃ cs,v = .agg cs:=by
   unfold Hz at ha
   simp only [Value.okWide] at Ht
   grind
  obtain ⟨cs,rfl⟩:=this
  simp only [Value.cells] at h2
  refine VP.mk_agg (by simpa using h2.1) λj hj=>?_
  have hj':j<svs.length:=by simpa using hj
  obtain ⟨U,e,k⟩:=h2.2 j hj'
  exact ⟨U,by simpa using e,by rw [List.getElem_map];exact .s _ _ (lift k)⟩
 | false=>
  have hc:v.cells = #[v]:=by
   have:=Bf4 ha Ht
   cases v with
   | agg cs=>exact (this cs rfl).elim
   | _=>rfl
  rw [hc] at h2
  have hl:svs.length=1:=by have:=h2.1;simpa using this.symm
  obtain ⟨x,rfl⟩:∃ x,svs=[x]:=by
   match svs,hl with
   | [x],_=>exact ⟨x,rfl⟩
  obtain ⟨U,e,k⟩:=h2.2 0 (by simp)
  simp only [List.getElem?_cons_zero,Option.some.injEq] at e
  subst e
  exact ⟨.s x,⟨tys,[x],ht,h1,.inr ⟨ha,x,rfl,rfl⟩⟩,.s _ _ (lift k)⟩
theorem DJ {Γ:Ctx} {sh:Nat->Option Shp} {sp:Nat->Bool} {held:Bool} {r:Reach} {b b':Nat} (hΓ:∀ g,g<w.heap.size->Γ.St g):∀ (ts:List Nat) (vs:List Value) (ds:List (DataW H)) (ps:List MemPlace),(∀ t∈ts,(Bc P 20 t).isSome=true)->(∀ (j:Nat) t v,ts[j]? = some t->vs[j]? = some v->Value.okWide P w r b t v)->DataW.TrodAll enc P w b' sp held ts vs ds ps->
  ∃ pvs,Ga P ts pvs/\vs.length=pvs.length/\ds.length=ts.length/\∀ j (h:j<pvs.length),∃ U,vs[j]? = some U/\VP Γ sh w (pvs[j]) U
 | [],vs,ds,ps,_,_,h=>by
  obtain ⟨rfl,rfl,_⟩:=trodAll_nil h
  exact ⟨[],rfl,rfl,rfl,λj hj=>by simp at hj⟩
 | t::ts,vs,ds,ps,htys,Ht,h=>by
  obtain ⟨v,vs',d,ds',p,q,rfl,rfl,rfl,h1,h2⟩:=trodAll_cons h
  obtain ⟨pv,k1,k2⟩:=A02 (Γ:=Γ) (sh:=sh) hΓ (htys t (by simp)) (Ht 0 t v rfl rfl) h1
  obtain ⟨pvs,g1,g2,g3,g4⟩:=DJ (Γ:=Γ) (sh:=sh) hΓ ts vs' ds' q (λt ht=>htys t (by simp [ht])) (λj t v hj hv=>Ht (j+1) t v (by simpa using hj) (by simpa using hv)) h2
  refine ⟨pv::pvs,⟨pv,pvs,rfl,k1,g1⟩,by simp [g2],by simp [g3],λj hj=>?_⟩
  cases j with
  | zero=>exact ⟨v,rfl,k2⟩
  | succ j=>
   obtain ⟨U,e,k⟩:=g4 j (by simpa using hj)
   grind
theorem Wv (hl:laidOutB P=true) {w':World} {ts:List Nat} {vs:List Value} {ds:List (DataW H)} {ps:List MemPlace}:∀ {ts:List Nat} {vs:List Value} {ds:List (DataW H)} {ps:List MemPlace},(∀ t∈ts,P.readableRec t=true/\t<P.types.size)->DataW.TrodAll enc P w 0 (λ_=>true) true ts vs ds ps->(∀ x∈ps,w.sameAt w' x)->∀ sp:Nat->Bool,(∀ x∈ps,sp x.block=true)->
  DataW.TrodAll enc P w' 0 sp true ts vs ds ps
 | [],vs,ds,ps,_,h,_,sp,_=>by
  obtain ⟨rfl,rfl,rfl⟩:=trodAll_nil h
  exact trodAll_mk0
 | t::ts,vs,ds,ps,hr,h,hs,sp,hsp=>by
  obtain ⟨v,vs',d,ds',p,q,rfl,rfl,rfl,h1,h2⟩:=trodAll_cons h
  refine ⟨p,q,WideElems.Trod_stays hl (hr t (by simp)).1 (hr t (by simp)).2 h1 (λx hx=>hs x (by simp [hx])) (λx hx=>hsp x (by simp [hx])),Wv hl (w':=w') (ts:=ts) (vs:=vs') (ds:=ds') (ps:=q) (λt ht=>hr t (by simp [ht])) h2 (λx hx=>hs x (by simp [hx])) sp (λx hx=>hsp x (by simp [hx])),rfl⟩
theorem AE {f:Func} {s:ChangeSpec} {apart fresh handsOn again:Bool} {W W':World} {args:Array Value} {v:Value} {ds gs:List (DataW H)} {before pa pv:List MemPlace}
  (hW:DataW.Whole enc P f.params.toList s.vars apart W args.toList ds gs before)
  (hres:∀ (b:Nat) (sp:Nat->Bool) (hd:Bool),DataW.TrodAll enc P W' b sp hd f.resultTypes.toList (v.resultList f.resultTypes.size) (s.fn H (ds++gs)).results [])
  (hargs:∀ sp:Nat->Bool,(∀ p∈before,sp p.block=true)->DataW.TrodAll enc P W' 0 sp true f.params.toList args.toList (s.fn H (ds++gs)).args pa)
  (hvars:∀ sp:Nat->Bool,(∀ p∈before,sp p.block=true)->DataW.TrodVars enc P W' sp s.vars (s.fn H (ds++gs)).vars pv)
  (hps:before=pa++pv) (hb:Below W.heap.size W W')
  (hok:∀ (j:Nat) (t:TypeId) (r:Value),f.resultTypes[j]? = some t->(v.resultList f.resultTypes.size)[j]? = some r->Value.okWide P W' .any 0 t r) :
  s.post enc P f apart fresh handsOn again W args v W':=by
 have hold:∀ p∈before,(λb=>decide (b<W.heap.size)) p.block=true:=λp hp=>by simpa using hW.lt p hp
 refine ⟨ds,gs,before,[],pa,pv,hW,hres _ _ _,hargs _ hold,hvars _ hold,hb.frame _,λ_=>?_⟩
 have hlt:=hW.lt
 obtain ⟨_,_,_,_,_,hz,hn⟩:=hW
 refine ⟨hok,_,_,([]++pa)++pv,⟨[]++pa,pv,trodAll_append (hargs _ (λ_ _=>rfl)) (hres _ _ _),hvars _ (λ_ _=>rfl),rfl,?_,?_⟩,?_⟩
 ·intro b off hp
  have hp':MemPlace.cell b off∈before:=by rw [hps];simpa using hp
  rw [hb.frozen (hlt _ hp')]
  exact hz b off hp'
 ·intro ha
  have:=hn ha
  rw [hps] at this
  simpa using this
 ·intro p hp _
  rw [hps]
  simpa using hp
end
theorem XT {P:Program} {f:Nat} {Vs:Array Value} {w:World} {R:Value->World->Prop} (hrun:(callFunc f Vs).run P w = .ok (.enter f Vs) w) (h:K8 P ((callFunc f Vs).run P w) R):Calls P f Vs w λe w'=>∃ V,e = .returned V/\R V w':=by
 rw [hrun] at h
 have:=h none 1 { op:=.move (.const undef),dst:=some 0,guard:=none,type:=0,after:=#[],pos:=default } { tmps:=#[undef],defers:=[] } (λa' w'=>∃ V,a'.tmps[0]? = some V/\R V w') (λ_ _ _=>False) (λV w' hR=>⟨V,by simp [Act.put],hR⟩)
 rw [Oper.uponIn_enter] at this
 have h2:CallsIn Fence.wide 0 P f Vs w _:=this.2
 refine (callsIn_wide.1 h2).mono λe w' he=>?_
 cases e with
 | returned v=>
  obtain ⟨V,e1,e2⟩:=he
  simp [Act.put] at e1
  grind
 | panicked c=>exact he.elim
 | outgrown=>obtain ⟨_,_,h⟩:=he;exact h.elim
def noY:Yh Unit:=λ_ _=>none
theorem Au5 {H:Type} {enc:TypeId × Value->H} {C:Cfg} {f tb:Nat} {fn:Func} {c:Code} {s:ChangeSpec} {apart fresh handsOn again:Bool} (hX:XOK C) (hO:Fg C) (hm:C.P.follows .mixedOrders=true) (hl:laidOutB C.P=true) (hfn:C.P.funcs[f]? = some fn) (hb:fn.body=some c) (hname:(fn.name == "runtime.NumGoroutine")=false)
  (hp:∀ t∈fn.params.toList,(C.P.readableRec t=true/\t<C.P.types.size)/\(Bc C.P 20 t).isSome=true) (hres:fn.resultTypes = #[tb]) (hbool:C.P.underlying tb=some .bool) (hvars:s.vars=[])
  (hspec:∀ ds:List (DataW H),ds.length=fn.params.toList.length->s.fn H ds = { results:=[.lit (.bool true)],args:=ds })
  (hev:∀ args,Ga C.P fn.params.toList args->∃ d Hc,evC C d Unit noY f args [] ()=some (.s (.bool true),Hc,()))
  (W:World) (hG:GOK C (· < W.heap.size) W) (base:Nat) (args:Array Value) (ds gs:List (DataW H)) (before:List MemPlace)
  (Ht:∀ (j:Nat) t v,fn.params[j]? = some t->args[j]? = some v->Value.okWide C.P W .any base t v)
  (hW:DataW.Whole enc C.P fn.params.toList s.vars apart W args.toList ds gs before) :
  Calls C.P f args W λe W'=>∃ v,e = .returned v/\s.post enc C.P fn apart fresh handsOn again W args v W':=by
 have hW':=hW
 obtain ⟨p,q,hA,hV,rfl,hfz,hnd⟩:=hW
 rw [hvars] at hV
 obtain ⟨rfl,rfl⟩:=trodVars_none hV
 let Γ:Ctx:={ St:=(· < W.heap.size),nm:=λ_=>none,yv:=.nilFunc,yv1:=rfl }
 obtain ⟨pvs,h1,h2,h3,h4⟩:=DJ (Γ:=Γ) (sh:=A3 []) (λ_ h=>h) fn.params.toList args.toList ds p (λt ht=>(hp t ht).2) (λj t v hj hv=>Ht j t v (by simpa using hj) (by simpa using hv)) hA
 obtain ⟨d,Hc,hd⟩:=hev pvs h1
 have hS:=Fm hX hO hm d Unit I0 noY .nilFunc An3 An4 f pvs [] () _ Hc () hd Γ noΦ W args rfl (Ge (λ_=>rfl) (λ_ h=>h)) hG (λ_ h=>h) (λb g h=>by cases h)
  ⟨by rw [<-Array.length_toList];exact h2,λj hj=>by obtain ⟨U,e,k⟩:=h4 j hj;exact ⟨U,by simpa using e,k⟩⟩ (by rw [h1.nms];simp)
 refine (XT (Ig hfn hb hname) hS).mono ?_
 rintro e W' ⟨V,rfl,Γ',Φ',hs,hH,hv,_⟩
 have hV:=hv.inv_bool
 subst hV
 have hbel:Below W.heap.size W W':=⟨hs.os,hs.tape,hs.output,hs.size,λk hk=>hs.frame k hk (λb=>by simp [Γ]) (λx=>x)⟩
 simp only [List.append_nil] at hW'
 refine ⟨_,rfl,?_⟩
 have hsp:=hspec ds h3
 have hlt:=hW'.lt
 refine AE (pa:=p) (pv:=[]) hW' (λb sp hd=>?_) (λsp hsp'=>?_) (λsp _=>?_) (by simp) hbel ?_
 ·rw [List.append_nil,hsp,hres]
  exact trodAll_cons_mk (shut_bool hbool _) trodAll_mk0
 ·rw [List.append_nil,hsp]
  exact Wv hl (w:=W) (ts:=fn.params.toList) (vs:=args.toList) (ds:=ds) (ps:=p) (λt ht=>(hp t ht).1) hA (λx hx=>hbel.same (hlt x hx)) sp hsp'
 ·rw [List.append_nil,hsp,hvars]
  rfl
 ·exact ok_one hres rfl (okWide_bool_mk hbool _)
end
section
open Go
def B1 (P:Program) (G:GT) (g:Nat) (pf:List PV->Tr):Prop:=
 ∀ args ret Hc,I7 (pf args)=some (ret,Hc)->∀ C:Cfg,C.P=P->C.G=G->∀ Γ w Vs,(∀ b,Γ.nm b=none)->HR Γ [] w->GOK C Γ.St w->CR Γ (A3 []) w args Vs->
  K8 P ((callFunc g Vs).run P w) (Ah C I0 Γ [] w noΦ ret Hc ())
theorem Jj {C₀:Cfg} {g:Nat} {pf:List PV->Tr} (hX:XOK C₀) (hO:Fg C₀) (hm:C₀.P.follows .mixedOrders=true)
  (h:∀ args ret Hc,I7 (pf args)=some (ret,Hc)->B7 args=[]/\∃ d,evC C₀ d Unit noY g args [] ()=some (ret,Hc,())):B1 C₀.P C₀.G g pf:=by
 intro args ret Hc hpf C hP hGe Γ w Vs hnm hH hG hc
 obtain ⟨hna,d,hev⟩:=h args ret Hc hpf
 have hG0:GOK C₀ Γ.St w:=hG.congr hGe.symm
 refine (Fm hX hO hm d Unit I0 noY Γ.yv An3 An4 g args [] () ret Hc () hev Γ noΦ w Vs rfl hH hG0 (λ_ h=>h) (λb g h=>by rw [hnm] at h;cases h) hc (by rw [hna];simp)).mono ?_
 rintro V w' ⟨Γ1,Φ1,hs,hH1,hv,hvn,hi1,hd1⟩
 exact ⟨Γ1,Φ1,⟨hs.os,hs.tape,hs.output,hs.size,hs.sub,hs.stnew,hs.own,hs.foot,hs.frame,hs.yv,hs.len,λb hb=>by simp at hb⟩,hH1,hv,hvn,hi1,hd1⟩
def Tr.snap:Tr->Tr
 | .ret v H=>cond (v.snap H).nms.isEmpty (.ret (v.snap H) []) .fail
 | .need c t=>.need c t.snap
 | .split c a b=>.split c a.snap b.snap
 | .fail=>.fail
theorem Tr.snap_res:∀ {t:Tr} {v:PV} {H:List Blk},I7 t.snap=some (v,H)->∃ v' H',I7 t=some (v',H')/\v=v'.snap H'/\H=[]/\v.nms=[]
 | .ret v' H',v,H,h=>by
  simp only [Tr.snap] at h
  cases he:(v'.snap H').nms.isEmpty with
  | false=>rw [he] at h;cases h
  | true=>
   rw [he] at h
   simp only [cond_true,I7,Dd,Option.some.injEq,Prod.mk.injEq] at h
   obtain ⟨rfl,rfl⟩:=h
   exact ⟨v',H',rfl,rfl,rfl,List.isEmpty_iff.1 he⟩
 | .need c t,v,H,h=>by
  cases c with
  | true=>exact Tr.snap_res (t:=t) h
  | false=>cases h
 | .split c a b,v,H,h=>by
  cases c with
  | true=>exact Tr.snap_res (t:=a) h
  | false=>exact Tr.snap_res (t:=b) h
 | .fail,_,_,h=>by cases h
theorem B1.snap {P:Program} {G:GT} {g:Nat} {pf:List PV->Tr} (h:B1 P G g pf):B1 P G g (λargs=>(pf args).snap):=by
 intro args ret Hc hpf C hP hGe Γ w Vs hnm hH hG hc
 obtain ⟨ret',Hc',hpf',rfl,rfl,hnr⟩:=Tr.snap_res hpf
 refine (h args ret' Hc' hpf' C hP hGe Γ w Vs hnm hH hG hc).mono ?_
 rintro V w' ⟨Γ1,Φ1,hs,hH1,hv,hvn,hi1,hd1⟩
 let Γ2:Ctx:={ Γ1.all with nm:=λ_=>none }
 have hlt:∀ g,Γ2.St g->g<w'.heap.size:=λg hg=>by
  rcases hg with hg | ⟨b,hb⟩
  ·exact hH1.stlt g hg
  ·exact (hH1.lt b g hb).2.1
 refine ⟨Γ2,Φ1,⟨hs.os,hs.tape,hs.output,hs.size,λg hg=>.inl (hs.sub g hg),λg hg=>?_,λb g h=>by simp [Γ2] at h,hs.foot,hs.frame,hs.yv,Nat.le_refl _,λb hb=>by simp at hb⟩,
  Ge (λ_=>rfl) hlt,?_,by rw [hnr];simp,hi1,λb g h=>by simp [Γ2] at h⟩
 ·rcases hg with hg | ⟨b,hb⟩
  ·exact hs.stnew g hg
  ·rcases hs.own b g hb with ⟨h',_⟩ | h'
   all_goals grind
 ·exact VP.mono (Γ:=Γ1.all) (Γ':=Γ2) (w:=w') (w':=w') (sh:=A3 Hc') (ok:=λ_=>False) ⟨λ_ _=>rfl,λ_ h=>h,λ_ h=>h.elim,λ_ h=>h.elim,λ_ _ h=>h.elim,rfl⟩ (hv.snap hH1) (by rw [hnr];simp)
def JS:List (Nat × (List PV->Tr))->Nat->Option (List PV->Tr)
 | [],_=>none
 | (g,pf)::r,n=>cond (Nat.beq n g) (some pf) (JS r n)
def K5 (P:Program) (G:GT):List (Nat × (List PV->Tr))->Prop
 | []=>True
 | (g,pf)::r=>B1 P G g pf/\K5 P G r
theorem K5.x1 {C:Cfg} {l:List (Nat × (List PV->Tr))} (hl:C.X=JS l) (h:K5 C.P C.G l):Bx8 C:=by
 intro g pf args ret Hc hg hpf Γ w Vs hnm hH hG hc
 rw [hl] at hg
 have key:∀ l:List (Nat × (List PV->Tr)),K5 C.P C.G l->JS l g=some pf->B1 C.P C.G g pf:=by
  intro l
  induction l with
  | nil=>intro _ h;cases h
  | cons e r ih=>
   intro h1 h2
   obtain ⟨n,q⟩:=e
   simp only [JS] at h2
   cases hb:Nat.beq g n with
   | true=>
    rw [hb] at h2
    simp only [cond_true,Option.some.injEq] at h2
    have:=Nat.eq_of_beq_eq_true hb
    subst this;subst h2
    exact h1.1
   | false=>
    rw [hb] at h2
    exact ih h1.2 h2
 exact key l h hg args ret Hc hpf C rfl rfl Γ w Vs hnm hH hG hc
theorem Xu {C C':Cfg} (h:C.P=C'.P):Ev C=Ev C':=by
 funext s
 unfold Ev
 split
 ·simp only [Gm,Cfg.sh,h]
 ·rfl
 ·rfl
theorem Stp.congr {C C':Cfg} (h:C.P=C'.P) {Γ Γ':Ctx} {H H':List Blk} {w w':World} {Φ Φ':Nat->Prop} (s:Stp C Γ H w Φ Γ' H' w' Φ'):Stp C' Γ H w Φ Γ' H' w' Φ':=
 ⟨s.os,s.tape,s.output,s.size,s.sub,s.stnew,s.own,s.foot,s.frame,s.yv,s.len,λb hb hf=>s.keep b hb (by rw [Xu h];exact hf)⟩
def Sn (P:Program) (G:GT) (g:Nat) (pf:List PV->List Blk->Tr):Prop:=
 ∀ C:Cfg,C.P=P->C.G=G->∀ (σ:Type) (I:σ->(Nat->Prop)->(Nat->Prop)->World->Prop) (yh:Yh σ) (yv:Value),HI I->QA P I yh yv->
  ∀ args H s ret Hc,I7 (pf args H)=some (ret,Hc)->∀ Γ Φ w Vs,Γ.yv=yv->HR Γ H w->GOK C Γ.St w->I s Γ.St Φ w->(∀ b g,Γ.nm b=some g->¬ Φ g)->CR Γ (A3 H) w args Vs->(∀ c∈B7 args,c<H.length)->
   K8 P ((callFunc g Vs).run P w) (Ah C I Γ H w Φ ret Hc s)
def KD (P:Program) (G:GT) (g:Nat) (pf:List PV->List Blk->Option (Bool × List (List PV))):Prop:=
 ∀ C:Cfg,C.P=P->C.G=G->∀ (σ:Type) (I:σ->(Nat->Prop)->(Nat->Prop)->World->Prop) (yh:Yh σ) (yv:Value),HI I->QA P I yh yv->
  ∀ args H L s s',pf args H=some (true,L)->H.all Ya=true->Q0 yh L s=some s'->∀ Γ Φ w Vs,Γ.yv=yv->HR Γ H w->GOK C Γ.St w->I s Γ.St Φ w->(∀ b g,Γ.nm b=some g->¬ Φ g)->CR Γ (A3 H) w args Vs->(∀ c∈B7 args,c<H.length)->
   K8 P ((callFunc g Vs).run P w) (Ah C I Γ H w Φ (.tup []) (H.map Fi) s')
theorem Ar6 {C C₀:Cfg} {σ:Type} {I:σ->(Nat->Prop)->(Nat->Prop)->World->Prop} {Γ:Ctx} {H Hc:List Blk} {w w':World} {Φ:Nat->Prop} {s':σ} {V:Value} (hP:C₀.P=C.P) (hb:H.all Ya=true) (hH:HR Γ H w) (h:Ah C₀ I Γ H w Φ (.tup []) Hc s' V w'):Ah C I Γ H w Φ (.tup []) (H.map Fi) s' V w':=by
 obtain ⟨Γ1,Φ1,hs,k1,k2,k3,k4,k5⟩:=h
 have hn:∀ b g,(if b<H.length then Γ1.nm b else none)=some g->b<H.length/\Γ1.nm b=some g:=λb g h=>by grind
 have hlen:(H.map Fi).length=H.length:=List.length_map _
 refine ⟨{ Γ1 with nm:=λb=>if b<H.length then Γ1.nm b else none },Φ1,⟨hs.os,hs.tape,hs.output,hs.size,hs.sub,hs.stnew,λb g hg=>hs.own b g (hn b g hg).2,hs.foot,hs.frame,hs.yv,by rw [hlen];exact Nat.le_refl _,λb hbl hf=>?_⟩,
  ⟨λb b' g h1 h2=>k1.inj b b' g (hn b g h1).2 (hn b' g h2).2,λb g hg=>?_,k1.stlt,λb hbl c hc=>?_,λb hbl=>?_⟩,?_,by simp [PV.nms,B7],k4,λb g hg=>k5 b g (hn b g hg).2⟩
 ·obtain ⟨m1,m2,m3⟩:=hs.keep b hbl (by rw [Xu hP];exact hf)
  refine ⟨by simp only;rw [if_pos hbl];exact m1,?_,m3⟩
  simp only [A3,List.getElem?_map]
  cases H[b]? with
  | none=>rfl
  | some x=>exact congrArg some (AY x)
 ·obtain ⟨q1,q2⟩:=hn b g hg
  have:=k1.lt b g q2
  grind
 ·rw [List.getElem_map,AX] at hc
  simp at hc
 ·rw [hlen] at hbl
  rw [List.getElem_map]
  have hbx:=List.all_eq_true.1 hb _ (List.getElem_mem hbl)
  have hB:=hH.blk b hbl
  cases hx:H[b] with
  | box cells=>
   rw [hx] at hB
   obtain ⟨g,cur,e,h1,h2,h3,_⟩:=hB
   obtain ⟨m1,m2,m3⟩:=hs.keep b hbl (by simp only [A3,List.getElem?_eq_getElem hbl,hx];exact trivial)
   have hl2:b<Hc.length:=Nat.lt_of_lt_of_le hbl hs.len
   have hB2:=k1.blk b hl2
   have hshp:(Hc[b]).shp = .box:=by
    simp only [A3,List.getElem?_eq_getElem hbl,List.getElem?_eq_getElem hl2,Option.map_some,Option.some.injEq] at m2
    rw [m2,hx];rfl
   cases hy:Hc[b] with
   | box cells'=>
    rw [hy] at hB2
    obtain ⟨g',cur',e',h1',h2',h3',h4'⟩:=hB2
    have hgg:g'=g:=by grind
    subst hgg
    have hsz:=m3 g' h1
    simp only [World.shape?,h2,h2',Option.some.injEq,Prod.mk.injEq] at hsz
    refine ⟨g',cur',e',by simp only;rw [if_pos hbl];exact h1',h2',by rw [hsz.2,h3];simp,λj hj=>?_⟩
    have hj':j<cur'.size:=by rw [hsz.2,h3];simpa using hj
    exact ⟨cur'[j],Array.getElem?_eq_getElem hj',by rw [List.getElem_map];exact .bad _⟩
   | arr a b c d=>rw [hy] at hshp;cases hshp
   | iter a b=>rw [hy] at hshp;cases hshp
   | dead=>rw [hy] at hshp;cases hshp
  | arr a b c d=>rw [hx] at hbx;cases hbx
  | iter a b=>rw [hx] at hbx;cases hbx
  | dead=>rw [hx] at hbx;cases hbx
 ·obtain ⟨A,rfl,hA,hcA⟩:=k2.inv_tup
  exact VP.mk_tup hA λj hj=>by simp at hj
theorem Tu {C₀:Cfg} {g:Nat} {pf:List PV->List Blk->Option (Bool × List (List PV))} (hX:XOK C₀) (hO:Fg C₀) (hm:C₀.P.follows .mixedOrders=true)
  (h:∀ args H L,pf args H=some (true,L)->∀ (σ:Type) (yh:Yh σ) (s s':σ),Q0 yh L s=some s'->∃ d Hc,evC C₀ d σ yh g args H s=some (.tup [],Hc,s')):KD C₀.P C₀.G g pf:=by
 intro C hP hG σ I yh yv hI hy args H L s s' hpf hb hrun Γ Φ w Vs hyv hH hg hi hdis hc hn
 obtain ⟨d,Hc,hev⟩:=h args H L hpf σ yh s s' hrun
 exact (Fm hX hO hm d σ I yh yv hI hy g args H s _ Hc s' hev Γ Φ w Vs hyv hH (hg.congr hG.symm) hi hdis hc hn).mono λV w' hr=>Ar6 hP.symm hb hH hr
def Fx {α:Type}:List (Nat × α)->Nat->Option α
 | [],_=>none
 | (g,pf)::r,n=>cond (Nat.beq n g) (some pf) (Fx r n)
theorem Pl {α:Type}:∀ {l:List (Nat × α)} {g:Nat} {pf:α},Fx l g=some pf->(g,pf)∈l
 | [],_,_,h=>by cases h
 | (n,q)::r,g,pf,h=>by
  simp only [Fx] at h
  cases hb:Nat.beq g n with
  | true=>
   simp_all
  | false=>
   rw [hb] at h
   exact List.mem_cons_of_mem _ (Pl h)
def Em (P:Program) (G:GT):List (Nat × (List PV->List Blk->Tr))->Prop
 | []=>True
 | (g,pf)::r=>Sn P G g pf/\Em P G r
def Ej (P:Program) (G:GT):List (Nat × (List PV->List Blk->Option (Bool × List (List PV))))->Prop
 | []=>True
 | (g,pf)::r=>KD P G g pf/\Ej P G r
theorem Em.mem {P:Program} {G:GT}:∀ {l:List (Nat × (List PV->List Blk->Tr))} {g:Nat} {pf:List PV->List Blk->Tr},Em P G l->(g,pf)∈l->Sn P G g pf
 | [],_,_,_,hm=>by simp at hm
 | (n,q)::r,g,pf,h,hm=>by
  rcases List.mem_cons.1 hm with e | hm
  ·cases e;exact h.1
  ·exact Em.mem h.2 hm
theorem Ej.mem {P:Program} {G:GT}:∀ {l:List (Nat × (List PV->List Blk->Option (Bool × List (List PV))))} {g:Nat} {pf:List PV->List Blk->Option (Bool × List (List PV))},Ej P G l->(g,pf)∈l->KD P G g pf
 | [],_,_,_,hm=>by simp at hm
 | (n,q)::r,g,pf,h,hm=>by
  rcases List.mem_cons.1 hm with e | hm
  ·cases e;exact h.1
  ·exact Ej.mem h.2 hm
theorem Em.ok {C:Cfg} {l:List (Nat × (List PV->List Blk->Tr))} (hl:C.Y=Fx l) (h:Em C.P C.G l):V8 C (clY C):=by
 intro σ I yh yv hI hy g args H s ret Hc s' hcl Γ Φ w Vs hyv hH hg hi hd hc hn
 simp only [clY,hl] at hcl
 split at hcl
 ·rename_i pf hpf
  split at hcl
  ·rename_i r' h' hr
   simp only [Option.some.injEq,Prod.mk.injEq] at hcl
   obtain ⟨rfl,rfl,rfl⟩:=hcl
   exact h.mem (Pl hpf) C rfl rfl σ I yh yv hI hy args H s _ _ hr Γ Φ w Vs hyv hH hg hi hd hc hn
  grind
 ·cases hcl
theorem Ej.ok {C:Cfg} {l:List (Nat × (List PV->List Blk->Option (Bool × List (List PV))))} (hl:C.S=Fx l) (h:Ej C.P C.G l):V8 C (clS C):=by
 intro σ I yh yv hI hy g args H s ret Hc s' hcl Γ Φ w Vs hyv hH hg hi hd hc hn
 simp only [clS,hl] at hcl
 split at hcl
 ·rename_i pf hpf
  split at hcl
  ·rename_i hb
   split at hcl
   ·rename_i L hL
    split at hcl
    ·rename_i s2 hr
     simp only [Option.some.injEq,Prod.mk.injEq] at hcl
     obtain ⟨rfl,rfl,rfl⟩:=hcl
     exact h.mem (Pl hpf) C rfl rfl σ I yh yv hI hy args H L s _ hL hb hr Γ Φ w Vs hyv hH hg hi hd hc hn
    grind
   grind
  grind
 ·cases hcl
theorem Dn {C:Cfg} {lx:List (Nat × (List PV->Tr))} {ly:List (Nat × (List PV->List Blk->Tr))} {ls:List (Nat × (List PV->List Blk->Option (Bool × List (List PV))))} (h1:C.X=JS lx) (h2:C.Y=Fx ly) (h3:C.S=Fx ls) (x:K5 C.P C.G lx) (y:Em C.P C.G ly) (s:Ej C.P C.G ls) (h4:C.Z=Fx []:=by rfl):XOK C:=
 ⟨K5.x1 h1 x,Em.ok h2 y,Ej.ok h3 s,λg pf h=>by rw [h4] at h;cases h⟩
theorem K5.ok {C:Cfg} {l:List (Nat × (List PV->Tr))} (hl:C.X=JS l) (h:K5 C.P C.G l) (h2:C.Y=Fx []:=by rfl) (h3:C.S=Fx []:=by rfl) (h4:C.Z=Fx []:=by rfl):XOK C:=
 Dn hl h2 h3 h trivial trivial h4
def okL:List Nat->Nat->Bool
 | [],_=>false
 | a::r,n=>Nat.beq n a || okL r n
def UJ (C:Cfg) (l:List Nat):Bool:=l.all λf=>match C.P.funcs[f]? with
 | some fn=>match fn.body with
  | some c=>Au4 C c && !(fn.name == "runtime.NumGoroutine")
  | none=>true
 | none=>true
theorem F0 {C:Cfg} {l:List Nat} (hl:C.okf=okL l) (h:UJ C l=true):Fg C:=by
 intro f fn c hok hf hb
 have key:∀ l:List Nat,okL l f=true->f∈l:=by
  intro l
  induction l with
  | nil=>intro h;cases h
  | cons a r ih=>
   intro h
   simp only [okL,Bool.or_eq_true] at h
   rcases h with h | h
   all_goals simp_all
 have hm:f∈l:=key l (by rw [<-hl];exact hok)
 simp only [UJ,List.all_eq_true] at h
 grind
def cd:List Nat->Code->Code
 | [],c=>c
 | 0::p,.seq a _=>cd p a
 | 1::p,.seq _ b=>cd p b
 | 0::p,.cond _ a _=>cd p a
 | 1::p,.cond _ _ b=>cd p b
 | 0::p,.block _ a=>cd p a
 | 0::p,.loop a=>cd p a
 | 0::p,.scope a=>cd p a
 | 0::p,.rangeFunc _ _ a _=>cd p a
 | 1::p,.rangeFunc _ _ _ b=>cd p b
 | _,_=>.skip
def S7:List Nat->Code->Code->Code
 | [],b,_=>b
 | 0::p,b,.seq x y=>.seq (S7 p b x) y
 | 1::p,b,.seq x y=>.seq x (S7 p b y)
 | 0::p,b,.cond c x y=>.cond c (S7 p b x) y
 | 1::p,b,.cond c x y=>.cond c x (S7 p b y)
 | 0::p,b,.block id x=>.block id (S7 p b x)
 | 0::p,b,.loop x=>.loop (S7 p b x)
 | 0::p,b,.scope x=>.scope (S7 p b x)
 | 0::p,b,.rangeFunc g ps x y=>.rangeFunc g ps (S7 p b x) y
 | 1::p,b,.rangeFunc g ps x y=>.rangeFunc g ps x (S7 p b y)
 | _,_,c=>c
def D2 (f:Func):Code:=f.body.getD .skip
section
variable {σ R : Type}
def bd (C:Cfg) (cl:D4) (yh:Yh σ) (c:Code):St σ->(Out->St σ->Option R)->Option R:=λst k=>B2 C cl yh c st k
def I5 (C:Cfg) (cl:D4) (yh:Yh σ) (b:Code) (k:Out->St σ->Option R):Out->St σ->Option R:=λo st'=>match o with
 | .normal=>B2 C cl yh b st' k
 | o=>k o st'
def H4 (id:Nat) (k:Out->St σ->Option R):Out->St σ->Option R:=λo st'=>match o with
 | .exit j=>if j=id then k .normal st' else k (.exit j) st'
 | o=>k o st'
def G9 (C:Cfg) (fn:Func):Out->St σ->Option (PV × List Blk × σ):=λo st=>match o with
 | .normal=>Uf C st.sl st.hp fn.results.toList λvs=>some (W8 vs,st.hp,st.s)
 | .ret=>Uf C st.sl st.hp fn.results.toList λvs=>some (W8 vs,st.hp,st.s)
 | _=>none
def lpK (L:Nat) (ds:Option (List Nat)) (body:St σ->(Out->St σ->Option R)->Option R) (n:Nat) (k:Out->St σ->Option R):Out->St σ->Option R:=λo st'=>match o with
 | .normal=>E4 L ds body n (Gp ds (R5 L st')) k
 | o=>k o (Gp ds st')
end
theorem Bq6 {C:Cfg} {d f:Nat} {fn:Func} {σ:Type} {yh:Yh σ} {args:List PV} {H:List Blk} {s:σ} (h2:C.P.funcs[f]? = some fn) (h1:C.okf f=true) (h3:fn.body=some (D2 fn)) :
  evC C (d+1) σ yh f args H s=B2 C (evC C d) yh (D2 fn) { sl:=args++List.replicate (fn.ntmps-args.length) (.tup []),hp:=H,s:=s } (G9 C fn):=by
 simp only [evC,h1,h2]
 split
 ·rename_i c hc
  rw [hc] at h3
  simp only [Option.some.injEq] at h3
  rw [<-h3]
  rfl
 ·rename_i hc
  rw [hc] at h3
  cases h3
theorem evE {C:Cfg} {d f:Nat} {fn:Func} {σ:Type} {yh:Yh σ} {args:List PV} {H:List Blk} {s:σ} (h:(C.P.funcs[f]?,C.okf f,fn.body)=(some fn,true,some (D2 fn))) :
  evC C (d+1) σ yh f args H s=B2 C (evC C d) yh (D2 fn) { sl:=args++List.replicate (fn.ntmps-args.length) (.tup []),hp:=H,s:=s } (G9 C fn):=by
 simp only [Prod.mk.injEq] at h
 exact Bq6 h.1 h.2.1 h.2.2
def Et:List Nat->List Blk->List Blk
 | [],H=>H
 | i::r,H=>Et r (H.set i .dead)
def SK (idx:List Nat) (ret:PV) (H:List Blk):Bool:=idx.all λi=>!(ret.nms.contains i)&&(Et idx H).all λb=>!(b.nms.contains i)
theorem Sx:∀ (idx:List Nat) (H:List Blk),(Et idx H).length=H.length/\∀ i (h:i<(Et idx H).length) (h':i<H.length),(i∈idx/\(Et idx H)[i] = .dead)\/(i∉idx/\(Et idx H)[i]=H[i])
 | [],H=>⟨rfl,λi h h'=>.inr ⟨by simp,rfl⟩⟩
 | a::r,H=>by
  obtain ⟨h1,h2⟩:=Sx r (H.set a .dead)
  simp only [Et]
  grind
theorem Ah.dead {C:Cfg} {Γ:Ctx} {w w':World} {ret:PV} {Hc:List Blk} {V:Value} {idx:List Nat} (h:Ah C I0 Γ [] w noΦ ret Hc () V w') (hok:SK idx ret Hc=true):Ah C I0 Γ [] w noΦ ret (Et idx Hc) () V w':=by
 obtain ⟨Γ1,Φ1,hs,hH1,hv,hvn,hi1,hd1⟩:=h
 obtain ⟨hl,hsp⟩:=Sx idx Hc
 simp only [SK,List.all_eq_true,Bool.and_eq_true,Bool.not_eq_true',List.contains_iff_mem,<-Bool.not_eq_true] at hok
 let Γ2:Ctx:={ Γ1 with nm:=λb=>if b∈idx then none else Γ1.nm b }
 have hnm:∀ b g,Γ2.nm b=some g->b∉idx/\Γ1.nm b=some g:=λb g h=>by
  simp only [Γ2] at h
  split at h
  ·cases h
  ·exact ⟨‹_›,h⟩
 have M:T4 Γ1 (A3 Hc) w' Γ2 (A3 (Et idx Hc)) w' (·∉idx):=⟨λ_ _=>rfl,λ_ h=>h,λb hb=>by simp only [Γ2];rw [if_neg hb],λb hb=>by
  simp only [A3]
  by_cases hlt:b<Hc.length
  ·rcases hsp b (by omega) hlt with ⟨q,_⟩ | ⟨_,q⟩
   ·exact absurd q hb
   ·rw [List.getElem?_eq_getElem (by omega),List.getElem?_eq_getElem hlt,q]
  ·rw [List.getElem?_eq_none (by omega),List.getElem?_eq_none (by omega)],λ_ _ _ _=>rfl,rfl⟩
 refine ⟨Γ2,Φ1,⟨hs.os,hs.tape,hs.output,hs.size,hs.sub,hs.stnew,λb g h=>hs.own b g (hnm b g h).2,hs.foot,hs.frame,hs.yv,Nat.zero_le _,λb hb=>by simp at hb⟩,
  ⟨λb b' g h1 h2=>hH1.inj b b' g (hnm b g h1).2 (hnm b' g h2).2,λb g h=>by have:=hH1.lt b g (hnm b g h).2;rw [hl];exact this,hH1.stlt,λb hb c hc=>?_,λb hb=>?_⟩,
  hv.mono M (λb hb hi=>by have:=(hok b hi).1;exact this hb),λc hc=>by rw [hl];exact hvn c hc,hi1,λb g h=>hd1 b g (hnm b g h).2⟩
 ·have hlt:b<Hc.length:=by omega
  rcases hsp b hb hlt with ⟨_,q⟩ | ⟨_,q⟩
  ·rw [q] at hc;simp [Blk.nms] at hc
  ·rw [q] at hc;rw [hl];exact hH1.nms b hlt c hc
 ·have hlt:b<Hc.length:=by omega
  rcases hsp b hb hlt with ⟨_,q⟩ | ⟨q0,q⟩
  ·rw [q];trivial
  ·rw [q]
   refine (hH1.blk b hlt).mono M (M.nm b q0) (λ_ _=>rfl) (λc hc hi=>?_)
   have:=(hok c hi).2 _ (List.getElem_mem hb)
   rw [q] at this
   exact this hc
theorem O8 {C₀:Cfg} {g:Nat} {pf:List PV->Tr} (hX:XOK C₀) (hO:Fg C₀) (hm:C₀.P.follows .mixedOrders=true)
  (h:∀ args ret Hc,I7 (pf args)=some (ret,Hc)->B7 args=[]/\∃ d H0 idx,evC C₀ d Unit noY g args [] ()=some (ret,H0,())/\SK idx ret H0=true/\Et idx H0=Hc):B1 C₀.P C₀.G g pf:=by
 intro args ret Hc hpf C hP hGe Γ w Vs hnm hH hG hc
 obtain ⟨hna,d,H0,idx,hev,hd,rfl⟩:=h args ret Hc hpf
 have h0:=Jj (C₀:=C₀) (g:=g) (pf:=λa=>match I7 (pf a) with | some _=>(match evC C₀ d Unit noY g a [] () with | some (r,H,_)=>cond (B7 a).isEmpty (.ret r H) .fail | none=>.fail) | none=>.fail) hX hO hm (λa r H hr=>by
  split at hr
  ·split at hr
   ·rename_i r' H' _ he
    cases hn:(B7 a).isEmpty with
    | true=>
     rw [hn] at hr
     simp only [cond_true,I7,Dd,Option.some.injEq,Prod.mk.injEq] at hr
     grind
    | false=>rw [hn] at hr;cases hr
   ·cases hr
  ·cases hr)
 refine (h0 args ret H0 ?_ C hP hGe Γ w Vs hnm hH hG hc).mono λV w' hR=>hR.dead hd
 dsimp only
 rw [hpf]
 dsimp only
 rw [hev]
 dsimp only
 rw [hna]
 rfl
theorem JX {C₀:Cfg} {g:Nat} {pf:List PV->Tr} (hX:XOK C₀) (hO:Fg C₀) (hm:C₀.P.follows .mixedOrders=true)
  (h:∀ args ret Hc,I7 (pf args)=some (ret,Hc)->B7 args=[]/\Hc=[]/\ret.nms=[]/\∃ d ret' H0,evC C₀ d Unit noY g args [] ()=some (ret',H0,())/\ret'.snap H0=ret):B1 C₀.P C₀.G g pf:=by
 intro args ret Hc hpf C hP hGe Γ w Vs hnm hH hG hc
 obtain ⟨hna,rfl,hnr,d,ret',H0,hev,rfl⟩:=h args ret Hc hpf
 have h0:=Jj (C₀:=C₀) (g:=g) (pf:=λa=>match evC C₀ d Unit noY g a [] () with | some (r,H,_)=>cond (B7 a).isEmpty (.ret r H) .fail | none=>.fail) hX hO hm (λa r H hr=>by
  split at hr
  ·rename_i r' H' _ he
   cases hn:(B7 a).isEmpty with
   | true=>
    rw [hn] at hr
    simp only [cond_true,I7,Dd,Option.some.injEq,Prod.mk.injEq] at hr
    grind
   | false=>rw [hn] at hr;cases hr
  ·cases hr)
 refine h0.snap args (ret'.snap H0) [] ?_ C hP hGe Γ w Vs hnm hH hG hc
 dsimp only
 rw [hev]
 dsimp only
 rw [hna]
 simp only [List.isEmpty_nil,cond_true,Tr.snap,hnr]
 rfl
section
variable {σ R : Type} {C : Cfg} {cl : D4} {yh : Yh σ} {c a b : Code} {st : St σ} {k : Out -> St σ -> Option R} {id : Nat}
theorem A0 {b:Bool} {x y x' y':Option R} (hx:x=x') (hy:y=y'):cond b x y=cond b x' y':=by rw [hx,hy]
end
def A4 {α:Type}:List (Nat × α)->Nat->Option α
 | [],_=>none
 | (a,l)::r,n=>cond (Nat.beq n a) (some l) (A4 r n)
def bds (n:Nat):List PV:=List.replicate n .bad
def tps (n:Nat):List PV:=List.replicate n (.tup [])
def gp:List (Nat × PV)->Nat->List PV
 | [],n=>bds n
 | (m,v)::r,n=>bds m++v::gp r n
abbrev LL:=List (List SV)
abbrev By:=List UInt8
def A1 (n:Int):Int:=IntKind.wrap .i64 n
def Am4 (n:Int):Int:=IntKind.wrap .u64 n
def B03 (n:Int):Int:=IntKind.wrap .u32 n
def A38 (n:Int):Int:=IntKind.wrap .u16 n
def wu8 (n:Int):Int:=IntKind.wrap .u8 n
def bOr (k:IntKind) (a b:Int):Int:=k.wrap (BitVec.ofInt k.bits a ||| BitVec.ofInt k.bits b).toNat
def XI (k:IntKind) (a b:Int):Int:=k.wrap (a*2 ^ min b.toNat k.bits)
def Ak8 (k:IntKind) (a b:Int):Int:=a.fdiv (2 ^ min b.toNat k.bits)
def inR (n:Int) (m:Nat):Bool:=decide (0<=n)&&decide (n<m)
def Fw:TI:=⟨true,false,[.int .i64]⟩
def Dh:TI:=⟨true,false,[.str]⟩
def okE (t:TI) (l:LL) (i o:Nat):Bool:=decide (i<l.length)&&okS t (l.getD i []) o
def gC (l:LL) (i j:Nat):SV:=(l.getD i []).getD j .nilp
def gE (l:LL) (i j:Nat):Int:=(gC l i j).gI
def gX (l:LL) (i j:Nat):By:=(gC l i j).gS
def gY (l:LL) (i j:Nat):Bool:=(gC l i j).gB
def bAt (s:By) (n:Int):Int:=((s.getD n.toNat 0).toNat:Int)
def O6 (l h:Int) (n:Nat):Bool:=decide (0<=l)&&decide (l<=h)&&decide (h<=n)
def cut {α:Type} (s:List α) (l h:Int):List α:=(s.take h.toNat).drop l.toNat
def B18:Code->Bool | .rangeFunc _ _ _ _=>true | _=>false
def rgX:Code->Operand | .rangeFunc x _ _ _=>x | _=>.tmp 0
def rgP:Code->Array Tmp | .rangeFunc _ p _ _=>p | _=>#[]
theorem HV:∀ (p:List Nat),cd p .skip = .skip
 | []=>rfl
 | 0::_=>rfl
 | 1::_=>rfl
 | (_+2)::_=>rfl
theorem Cl:∀ (p q:List Nat) (c:Code),cd (p++q) c=cd q (cd p c)
 | [],q,c=>rfl
 | i::p,q,c=>by
  rw [List.cons_append]
  match i,c with
  | 0,.seq a b=>exact Cl p q a
  | 1,.seq a b=>exact Cl p q b
  | 0,.cond _ a b=>exact Cl p q a
  | 1,.cond _ a b=>exact Cl p q b
  | 0,.block _ a=>exact Cl p q a
  | 0,.loop a=>exact Cl p q a
  | 0,.scope a=>exact Cl p q a
  | 0,.rangeFunc _ _ a b=>exact Cl p q a
  | 1,.rangeFunc _ _ a b=>exact Cl p q b
  | 0,.skip | 0,.region _ _ _ | 0,.exit _ | 0,.label _ | 0,.goto _ | 0,.ret | 0,.refuse _=>exact (HV q).symm
  | 1,.skip | 1,.region _ _ _ | 1,.exit _ | 1,.scope _ | 1,.label _ | 1,.goto _ | 1,.ret | 1,.refuse _ | 1,.block _ _ | 1,.loop _=>exact (HV q).symm
  | _+2,.skip | _+2,.region _ _ _ | _+2,.exit _ | _+2,.scope _ | _+2,.label _ | _+2,.goto _ | _+2,.ret | _+2,.refuse _ | _+2,.block _ _ | _+2,.loop _ | _+2,.seq _ _ | _+2,.cond _ _ _ | _+2,.rangeFunc _ _ _ _=>exact (HV q).symm
section
variable {σ R : Type} {C : Cfg} {cl : D4} {yh : Yh σ} {B : Code} {st : St σ} {k : Out -> St σ -> Option R}
theorem LN (p:List Nat) (h:B18 (cd p B)=true):B2 C cl yh (cd p B) st k=Mb C cl (opnd C st.sl (rgX (cd p B))) st (λsl0=>Ex (rgP (cd p B)) sl0 (bd C cl yh (cd (p++[0]) B)) (bd C cl yh (cd (p++[1]) B))) (λsl0=>N4 (rgP (cd p B)) sl0 (bd C cl yh (cd (p++[0]) B)) (bd C cl yh (cd (p++[1]) B))) k:=by
 rw [Cl,Cl]
 cases hc:cd p B<;>rw [hc] at h<;>first | rfl | cases h
theorem Cw {c:Bool} {x y:Option R} (h:x=y):need c x=cond c y none:=by rw [h];rfl
end
abbrev pS (l:List UInt8):PV:=.s (.str l)
abbrev pB (b:Bool):PV:=.s (.bool b)
abbrev pI (n:Int):PV:=.s (.int .i64 n)
abbrev p8 (n:Int):PV:=.s (.int .u8 n)
abbrev p16 (n:Int):PV:=.s (.int .u16 n)
abbrev p32 (n:Int):PV:=.s (.int .u32 n)
abbrev vl {α β:Type} (e:α) (f:α->β):β:=f e
theorem A8 {α R:Type} {e:α} {f g:α->Option R} (h:∀ x,f x=g x):vl e f=vl e g:=h e
def At0 (m n:Nat):Bool:=decide (m+n<4611686018427387904)
theorem fx1 {A R:Type} {f g:A->R} (h0:∀ a,f a=g a):f=g:=funext h0
theorem fx2 {A B R:Type} {f g:A->B->R} (h0:∀ a b,f a b=g a b):f=g:=funext λa=>fx1 (h0 a)
theorem fx3 {A B C R:Type} {f g:A->B->C->R} (h0:∀ a b c,f a b c=g a b c):f=g:=funext λa=>fx2 (h0 a)
theorem fx4 {A B C D R:Type} {f g:A->B->C->D->R} (h0:∀ a b c d,f a b c d=g a b c d):f=g:=funext λa=>fx3 (h0 a)
theorem fx5 {A B C D E R:Type} {f g:A->B->C->D->E->R} (h0:∀ a b c d e,f a b c d e=g a b c d e):f=g:=funext λa=>fx4 (h0 a)
theorem fx6 {A B C D E H R:Type} {f g:A->B->C->D->E->H->R} (h0:∀ a b c d e h,f a b c d e h=g a b c d e h):f=g:=funext λa=>fx5 (h0 a)
theorem fx7 {A B C D E H I R:Type} {f g:A->B->C->D->E->H->I->R} (h0:∀ a b c d e h i,f a b c d e h i=g a b c d e h i):f=g:=funext λa=>fx6 (h0 a)
theorem fx8 {A B C D E H I J R:Type} {f g:A->B->C->D->E->H->I->J->R} (h0:∀ a b c d e h i j,f a b c d e h i j=g a b c d e h i j):f=g:=funext λa=>fx7 (h0 a)
theorem fx9 {A B C D E H I J K R:Type} {f g:A->B->C->D->E->H->I->J->K->R} (h0:∀ a b c d e h i j k,f a b c d e h i j k=g a b c d e h i j k):f=g:=funext λa=>fx8 (h0 a)
theorem Bb4 {A B C D E H I J K L R:Type} {f g:A->B->C->D->E->H->I->J->K->L->R} (h0:∀ a b c d e h i j k l,f a b c d e h i j k l=g a b c d e h i j k l):f=g:=funext λa=>fx9 (h0 a)
def VO {α β:Type} (z:α) (f:β->List β->α->α):List β->α
 | []=>z
 | x::xs=>f x xs (VO z f xs)
def Rm (n:Nat):PV->PV
 | .s (.sl z t k els)=>if n=0 then .s (.sl z t k els) else if k=n then .s (.sl z t k els) else .s (.sl z t (cond z n k) els)
 | v=>v
def Im:List Nat->List PV->List PV
 | n::r,v::l=>Rm n v::Im r l
 | _,l=>l
def Bq7 (szs:List Nat):PV->PV
 | .agg l=>.agg (Im szs l)
 | v=>Rm (szs.headD 0) v
def C9:List (List Nat)->List PV->List PV
 | s::r,v::l=>Bq7 s v::C9 r l
 | _,l=>l
section
variable {Γ : Ctx} {sh : Nat -> Option Shp} {w : World}
theorem Gl {n:Nat} {v:PV} {V:Value} (h:VP Γ sh w v V):VP Γ sh w (Rm n v) V:=by
 unfold Rm
 split
 ·rename_i z t k els
  split
  ·exact h
  ·split
   ·exact h
   ·cases z with
    | false=>exact h
    | true=>
     have hs:=h.inv_s
     cases hs with
     | nil=>exact .s _ _ (.nil _ _)
 ·exact h
theorem Fp:∀ (szs:List Nat) (l:List PV),(Im szs l).length=l.length
 | [],_=>rfl
 | _::_,[]=>rfl
 | n::r,v::l=>by simp [Im,Fp r l]
theorem Io:∀ (szs:List Nat) (l:List PV) (j:Nat) (h:j<l.length) (h':j<(Im szs l).length),∃ n,(Im szs l)[j]=Rm n l[j]
 | [],l,j,h,h'=>⟨0,by
  have e:Im [] l=l:=by cases l<;>rfl
  simp only [e]
  unfold Rm
  split
  ·rename_i he;rw [he];simp
  ·rfl⟩
 | n::r,v::l,0,h,h'=>⟨n,rfl⟩
 | n::r,v::l,j+1,h,h'=>by
  obtain ⟨m,e⟩:=Io r l j (by simpa using h) (by simpa [Im] using h')
  exact ⟨m,by simpa [Im] using e⟩
theorem Bb2 {szs:List Nat} {v:PV} {V:Value} (h:VP Γ sh w v V):VP Γ sh w (Bq7 szs v) V:=by
 unfold Bq7
 split
 ·rename_i l
  obtain ⟨A,rfl,hA,hc⟩:=h.inv_agg
  refine VP.mk_agg (by rw [Fp];exact hA) λj hj=>?_
  have hj':j<l.length:=by rw [Fp] at hj;exact hj
  obtain ⟨U,e,k⟩:=hc j hj'
  obtain ⟨m,e2⟩:=Io szs l j hj' hj
  exact ⟨U,e,by rw [e2];exact Gl k⟩
 ·exact Gl h
theorem LT:∀ (szs:List (List Nat)) (l:List PV),(C9 szs l).length=l.length
 | [],_=>rfl
 | _::_,[]=>rfl
 | n::r,v::l=>by simp [C9,LT r l]
theorem Bb3:∀ (szs:List (List Nat)) (l:List PV) (V:Array Value),CR Γ sh w l V->CR Γ sh w (C9 szs l) V:=by
 intro szs l V h
 refine ⟨by rw [LT];exact h.1,?_⟩
 have key:∀ (szs:List (List Nat)) (l:List PV) (As:Nat->Option Value),(∀ j (h:j<l.length),∃ U,As j=some U/\VP Γ sh w (l[j]) U)->∀ j (h:j<(C9 szs l).length),∃ U,As j=some U/\VP Γ sh w ((C9 szs l)[j]) U:=by
  intro szs
  induction szs with
  | nil=>intro l As hl j hj;exact hl j (by cases l<;>exact hj)
  | cons s r ih=>
   intro l As hl j hj
   cases l with
   | nil=>simp [C9] at hj
   | cons v l=>
    cases j with
    | zero=>
     obtain ⟨U,e,k⟩:=hl 0 (by simp)
     exact ⟨U,e,Bb2 k⟩
    | succ j=>
     have:=ih l (λj=>As (j+1)) (λj h=>hl (j+1) (by simpa using h)) j (by simpa [C9] using hj)
     simpa [C9] using this
 exact key szs l (λj=>V[j]?) h.2
end
theorem B1.fix {P:Program} {G:GT} {g:Nat} {pf:List PV->Tr} (szs:List (List Nat)) (h:B1 P G g pf):B1 P G g (λargs=>pf (C9 szs args)):=
 λargs ret Hc hpf C hP hGe Γ w Vs hnm hH hG hc=>h (C9 szs args) ret Hc hpf C hP hGe Γ w Vs hnm hH hG (Bb3 szs args Vs hc)
theorem H3 {v:PV} {H:List Blk} {ret:PV} {Hc:List Blk} (h:I7 (.ret v H)=some (ret,Hc)):ret=v/\Hc=H:=by
 simp only [I7,Dd,Option.some.injEq,Prod.mk.injEq] at h
 grind
theorem B4 {c:Bool} {t:Tr} {ret:PV} {Hc:List Blk} (h:I7 (.need c t)=some (ret,Hc)):c=true/\I7 t=some (ret,Hc):=by
 cases c with
 | true=>exact ⟨rfl,h⟩
 | false=>cases h
theorem Fz {c:Bool} {a b:Tr} {ret:PV} {Hc:List Blk} (h:I7 (.split c a b)=some (ret,Hc)):(c=true/\I7 a=some (ret,Hc))\/(c=false/\I7 b=some (ret,Hc)):=by
 cases c with
 | true=>exact .inl ⟨rfl,h⟩
 | false=>exact .inr ⟨rfl,h⟩
theorem Bn4:∃ n:Nat,100000000000000000000<=n:=⟨_,Nat.le_refl _⟩
noncomputable def LF:Nat:=Classical.choose Bn4
theorem E8:100000000000000000000<=LF:=Classical.choose_spec Bn4
attribute [irreducible] LF
theorem Ad2 (b:UInt8):Zx (F5 b)=b:=by
 simp [Zx,F5,SV.gI]
theorem Nz (l:List UInt8):(l.map F5).map Zx=l:=by
 rw [List.map_map]
 have:Zx ∘ F5=id:=by funext b;exact Ad2 b
 rw [this,List.map_id]
theorem Ae6 (b:UInt8):II (F5 b)=true:=by
 have:=b.toNat_lt
 simp only [II,F5,Bool.and_eq_true,decide_eq_true_eq]
 omega
theorem Ml (l:List UInt8):(l.map F5).all II=true:=by
 rw [List.all_map]
 simp [Function.comp_def,Ae6]
theorem Bu0 (n:Nat):IntKind.wrap .u8 (n:Int)=((n % 256:Nat):Int):=by simp [IntKind.wrap,IntKind.bits,IntKind.signed]
theorem Bl0 (n:Nat):IntKind.wrap .u16 (n:Int)=((n % 65536:Nat):Int):=by simp [IntKind.wrap,IntKind.bits,IntKind.signed]
theorem Bl1 (n:Nat):IntKind.wrap .u32 (n:Int)=((n % 4294967296:Nat):Int):=by simp [IntKind.wrap,IntKind.bits,IntKind.signed]
theorem Bl2 (n:Nat):IntKind.wrap .u64 (n:Int)=((n % 18446744073709551616:Nat):Int):=by simp [IntKind.wrap,IntKind.bits,IntKind.signed]
theorem Bk9 (n:Int) (h0:-9223372036854775808<=n) (h1:n<9223372036854775808):IntKind.wrap .i64 n=n:=by
 simp [IntKind.wrap,IntKind.bits,IntKind.signed]
 split<;>omega
theorem Av6 (n m:Nat):Int.fdiv (n:Int) (m:Int)=((n / m:Nat):Int):=by
 rw [Int.fdiv_eq_ediv_of_nonneg _ (by omega)]
 rfl
theorem K2 (n m:Nat):Int.tdiv (n:Int) (m:Int)=((n / m:Nat):Int):=by
 rw [Int.tdiv_eq_ediv_of_nonneg (by omega)]
 rfl
theorem Fy (n m:Nat):Int.tmod (n:Int) (m:Int)=((n % m:Nat):Int):=by
 rw [Int.tmod_eq_emod_of_nonneg (by omega)]
 rfl
end
section
open Go Go.ChangeShapes Go.RowKit Go.Sort Go.WideShapes
theorem Ag {P:Program} {f:Nat} {fn:Func} {Vs:Array Value} {w:World} {R:Value->World->Prop} (hf:P.funcs[f]? = some fn) (hb:fn.body.isSome=true) (hn:(fn.name == "runtime.NumGoroutine")=false)
  (h:Calls P f Vs w λe w'=>∃ V,e = .returned V/\R V w'):K8 P ((callFunc f Vs).run P w) R:=by
 obtain ⟨c,hb⟩:=Option.isSome_iff_exists.1 hb
 intro ro n o a next Q hnext
 have hrun:(callFunc f Vs).run P w = .ok (.enter f Vs) w:=by
  have hn':¬ fn.name = "runtime.NumGoroutine":=by simpa using hn
  simp [callFunc,hf,hb,hn',Result.andThen]
 rw [hrun]
 simp only [Oper.uponIn_enter]
 refine ⟨λh=>(by simp [E0,Fence.wide] at h),?_⟩
 have key:CallsIn Fence.wide (n-1) P f Vs w λe w'=>∃ V,e = .returned V/\R V w':=callsIn_wide.2 h
 have key':CallsIn (E0 ro) (n-1) P f Vs w λe w'=>∃ V,e = .returned V/\R V w':=key
 refine key'.mono ?_
 rintro e w' ⟨V,rfl,hR⟩
 exact hnext V w' hR
theorem Au6 {C:Cfg} {Γ:Ctx} {w w':World} {ret:PV} {V:Value} (hnm:∀ b,Γ.nm b=none) (hH:HR Γ [] w) (hb:Below w.heap.size w w') (hv:VP Γ (A3 []) w' ret V) (hr:ret.nms=[]):Ah C I0 Γ [] w noΦ ret [] () V w':=by
 refine ⟨Γ,noΦ,⟨hb.os,hb.tape,hb.output,hb.size,λ_ h=>h,λ_ h=>.inl h,λb g h=>(by rw [hnm] at h;cases h),λ_ h=>h.elim,λg hg _ _=>hb.block g hg,rfl,Nat.le_refl _,λb h=>(by simp at h)⟩,
  ⟨λb b' g h=>(by rw [hnm] at h;cases h),λb g h=>(by rw [hnm] at h;cases h),λg hg=>Nat.lt_of_lt_of_le (hH.stlt g hg) hb.size,λb h=>(by simp at h),λb h=>(by simp at h)⟩,hv,by rw [hr];simp,λ_ h=>h,λb g h=>(by rw [hnm] at h;cases h)⟩
theorem KT (w:World) (n:Nat):Below w.heap.size w (w.drewN n):=⟨rfl,rfl,rfl,Nat.le_refl _,λ_ _=>rfl⟩
section
variable {Γ : Ctx} {sh : Nat -> Option Shp} {w : World}
theorem CR.arr1 {a:PV} {A:Array Value} (h:CR Γ sh w [a] A):∃ U,A = #[U]/\VP Γ sh w a U:=by
 obtain ⟨U,e,k⟩:=h.2 0 (by simp)
 refine ⟨U,?_,k⟩
 have hs:A.size=1:=h.1
 grind
theorem CR.arr2 {a b:PV} {A:Array Value} (h:CR Γ sh w [a,b] A):∃ U V,A = #[U,V]/\VP Γ sh w a U/\VP Γ sh w b V:=by
 obtain ⟨U,e,k⟩:=h.2 0 (by simp)
 obtain ⟨V,e',k'⟩:=h.2 1 (by simp)
 refine ⟨U,V,?_,k,k'⟩
 have hs:A.size=2:=h.1
 grind
theorem CR.arr3 {a b c:PV} {A:Array Value} (h:CR Γ sh w [a,b,c] A):∃ U V W,A = #[U,V,W]/\VP Γ sh w a U/\VP Γ sh w b V/\VP Γ sh w c W:=by
 obtain ⟨U,e,k⟩:=h.2 0 (by simp)
 obtain ⟨V,e',k'⟩:=h.2 1 (by simp)
 obtain ⟨W,e'',k''⟩:=h.2 2 (by simp)
 refine ⟨U,V,W,?_,k,k',k''⟩
 have hs:A.size=3:=h.1
 grind
theorem VP.mk_str (l:List UInt8):VP Γ sh w (.s (.str l)) (.string ⟨l.toArray⟩):=by
 have:=VP.s (Γ:=Γ) (sh:=sh) (w:=w) _ _ (VS.str (St:=Γ.St) (w:=w) ⟨l.toArray⟩)
 omega
theorem VP.mk_int (k:IntKind) (n:Int):VP Γ sh w (.s (.int k n)) (.int k n):=.s _ _ (.int k n)
theorem VP.mk_bool (b:Bool):VP Γ sh w (.s (.bool b)) (.bool b):=.s _ _ (.bool b)
theorem VP.mk_tup3 {a b c:PV} {U V W:Value} (h:VP Γ sh w a U) (k:VP Γ sh w b V) (l:VP Γ sh w c W):VP Γ sh w (.tup [a,b,c]) (.tuple #[U,V,W]):=
 VP.mk_tup rfl λj hj=>by grind
end
theorem Dl {P:Program} {G:GT} {g:Nat} {fn:Func} {pf:List PV->Tr} (hf:P.funcs[g]? = some fn) (hb:fn.body.isSome=true) (hn:(fn.name == "runtime.NumGoroutine")=false)
  (h:∀ args ret Hc,I7 (pf args)=some (ret,Hc)->Hc=[]/\ret.nms=[]/\∀ C:Cfg,C.P=P->C.G=G->∀ Γ w Vs,GOK C Γ.St w->(∀ g,Γ.St g->g<w.heap.size)->CR Γ (A3 []) w args Vs->
   Calls P g Vs w λe w'=>∃ V,e = .returned V/\Below w.heap.size w w'/\VP Γ (A3 []) w' ret V):B1 P G g pf:=by
 intro args ret Hc hpf C hP hG Γ w Vs hnm hH hg hc
 obtain ⟨rfl,hr,h1⟩:=h args ret Hc hpf
 exact Ag hf hb hn ((h1 C hP hG Γ w Vs hg hH.stlt hc).mono λe w' ⟨V,he,hb,hv⟩=>⟨V,he,Au6 hnm hH hb hv hr⟩)
def PV.stab (szs:List Nat) (H:List Blk):PV->PV
 | .tup l=>.tup (Im szs (I6 H l))
 | v=>Rm (szs.headD 0) (v.snap H)
theorem VP.stab {Γ:Ctx} {H:List Blk} {w:World} (szs:List Nat) (hH:HR Γ H w) {v:PV} {V:Value} (h:VP Γ (A3 H) w v V):VP Γ.all (A3 H) w (v.stab szs H) V:=by
 by_cases ht:∃ l,v = .tup l
 ·obtain ⟨l,rfl⟩:=ht
  obtain ⟨A,rfl,hA,hc⟩:=h.inv_tup
  simp only [PV.stab]
  have hl:(Im szs (I6 H l)).length=l.length:=by rw [Fp,T7,List.length_map]
  refine VP.mk_tup (by rw [hl];exact hA) λj hj=>?_
  obtain ⟨U,e,k⟩:=hc j (by omega)
  refine ⟨U,e,?_⟩
  have hj':j<(I6 H l).length:=by rw [T7,List.length_map];omega
  obtain ⟨n,en⟩:=Io szs (I6 H l) j hj' hj
  rw [en]
  have e2:(I6 H l)[j]=(l[j]'(by omega)).snap H:=by
   simp only [T7,List.getElem_map]
  rw [e2]
  exact Gl (k.snap hH)
 ·have e:v.stab szs H=Rm (szs.headD 0) (v.snap H):=by
   cases v with
   | tup l=>exact absurd ⟨l,rfl⟩ ht
   | _=>rfl
  rw [e]
  exact Gl (h.snap hH)
theorem Zt (f:List Blk->PV->PV) (hf:∀ {Γ:Ctx} {H:List Blk} {w:World},HR Γ H w->∀ {v:PV} {V:Value},VP Γ (A3 H) w v V->VP Γ.all (A3 H) w (f H v) V) {C₀:Cfg} {g:Nat} {pf:List PV->Tr} (hX:XOK C₀) (hO:Fg C₀) (hm:C₀.P.follows .mixedOrders=true)
  (h:∀ args ret Hc,I7 (pf args)=some (ret,Hc)->B7 args=[]/\Hc=[]/\ret.nms=[]/\∃ d ret' H0,evC C₀ d Unit noY g args [] ()=some (ret',H0,())/\f H0 ret'=ret):B1 C₀.P C₀.G g pf:=by
 intro args ret Hc hpf C hP hGe Γ w Vs hnm hH hG hc
 obtain ⟨hna,rfl,hnr,d,ret',H0,hev,rfl⟩:=h args ret Hc hpf
 have h0:=Jj (C₀:=C₀) (g:=g) (pf:=λa=>match evC C₀ d Unit noY g a [] () with | some (r,H,_)=>cond (B7 a).isEmpty (.ret r H) .fail | none=>.fail) hX hO hm (λa r H hr=>by
  split at hr
  ·rename_i r' H' _ he
   cases hn:(B7 a).isEmpty with
   | true=>
    rw [hn] at hr
    simp only [cond_true,I7,Dd,Option.some.injEq,Prod.mk.injEq] at hr
    grind
   | false=>rw [hn] at hr;cases hr
  ·cases hr)
 refine (h0 args ret' H0 (by dsimp only;rw [hev];dsimp only;rw [hna];rfl) C hP hGe Γ w Vs hnm hH hG hc).mono ?_
 rintro V w' ⟨Γ1,Φ1,hs,hH1,hv,hvn,hi1,hd1⟩
 let Γ2:Ctx:={ Γ1.all with nm:=λ_=>none }
 have hlt:∀ g,Γ2.St g->g<w'.heap.size:=λg hg=>by
  rcases hg with hg | ⟨b,hb⟩
  ·exact hH1.stlt g hg
  ·exact (hH1.lt b g hb).2.1
 refine ⟨Γ2,Φ1,⟨hs.os,hs.tape,hs.output,hs.size,λg hg=>.inl (hs.sub g hg),λg hg=>?_,λb g h=>by simp [Γ2] at h,hs.foot,hs.frame,hs.yv,Nat.le_refl _,λb hb=>by simp at hb⟩,
  Ge (λ_=>rfl) hlt,?_,by rw [hnr];simp,hi1,λb g h=>by simp [Γ2] at h⟩
 ·rcases hg with hg | ⟨b,hb⟩
  ·exact hs.stnew g hg
  ·rcases hs.own b g hb with ⟨h',_⟩ | h'
   ·simp at h'
   ·exact .inr h'
 ·exact VP.mono (Γ:=Γ1.all) (Γ':=Γ2) (w:=w') (w':=w') (sh:=A3 H0) (ok:=λ_=>False) ⟨λ_ _=>rfl,λ_ h=>h,λ_ h=>h.elim,λ_ h=>h.elim,λ_ _ h=>h.elim,rfl⟩ (hf hH1 hv) (by rw [hnr];simp)
theorem L4 (szs:List Nat) {C₀:Cfg} {g:Nat} {pf:List PV->Tr} (hX:XOK C₀) (hO:Fg C₀) (hm:C₀.P.follows .mixedOrders=true)
  (h:∀ args ret Hc,I7 (pf args)=some (ret,Hc)->B7 args=[]/\Hc=[]/\ret.nms=[]/\∃ d ret' H0,evC C₀ d Unit noY g args [] ()=some (ret',H0,())/\ret'.stab szs H0=ret):B1 C₀.P C₀.G g pf:=
 Zt (λH v=>v.stab szs H) (λhH _ _ h=>h.stab szs hH) hX hO hm h
def Tr.Good (szs:List Nat) (args:List PV) (e:Option (PV × List Blk × Unit)):Tr->Prop
 | .ret v H=>B7 args=[]/\H=[]/\v.nms=[]/\∃ r H0,e=some (r,H0,())/\r.stab szs H0=v
 | .need c t=>c=true->Good szs args e t
 | .split c a b=>(c=true->Good szs args e a)/\(c=false->Good szs args e b)
 | .fail=>True
theorem Tr.Good.res {szs:List Nat} {args:List PV} {e:Option (PV × List Blk × Unit)} {ret:PV} {Hc:List Blk}:∀ {t:Tr},t.Good szs args e->I7 t=some (ret,Hc)->B7 args=[]/\Hc=[]/\ret.nms=[]/\∃ r H0,e=some (r,H0,())/\r.stab szs H0=ret
 | .ret v H,h,hr=>by
  obtain ⟨rfl,rfl⟩:=H3 hr
  exact h
 | .need c t,h,hr=>by
  obtain ⟨h0,hr⟩:=B4 hr
  exact res (h h0) hr
 | .split c a b,h,hr=>by
  rcases Fz hr with ⟨h0,hr⟩ | ⟨h0,hr⟩
  ·exact res (h.1 h0) hr
  ·exact res (h.2 h0) hr
theorem xf (szs:List Nat) (C₀:Cfg) {g:Nat} (pf:List PV->Tr) {ss:List (List Nat)} {l:List (Nat × (List PV->Tr))} {lo:List Nat} (hl:C₀.X=JS l) (hx:K5 C₀.P C₀.G l) (ho:C₀.okf=okL lo) (hb:UJ C₀ lo=true) (hm:C₀.P.follows .mixedOrders=true)
  (h:∀ args,(pf args).Good szs args (evC C₀ 1 Unit noY g args [] ())) (h2:C₀.Y=Fx []:=by rfl) (h3:C₀.S=Fx []:=by rfl) (h4:C₀.Z=Fx []:=by rfl):B1 C₀.P C₀.G g (λargs=>pf (C9 ss args)):=
 B1.fix ss (L4 szs (K5.ok hl hx h2 h3 h4) (F0 ho hb) hm λargs ret Hc hr=>by
  obtain ⟨q1,q2,q3,r,H0,q4,q5⟩:=(h args).res hr
  exact ⟨q1,q2,q3,1,r,H0,q4,q5⟩)
end
section
open Go
def TF (n:Nat) (ret:PV) (H:List Blk):Bool:=ret.nms.all (Nat.blt · n)&&H.all λb=>b.nms.all (Nat.blt · n)
theorem Ah.head {C:Cfg} {σ:Type} {I:σ->(Nat->Prop)->(Nat->Prop)->World->Prop} {Γ:Ctx} {H Hc T:List Blk} {w w':World} {Φ:Nat->Prop} {s':σ} {ret:PV} {V:Value}
  (h:Ah C I Γ H w Φ ret (Hc++T) s' V w') (hl:H.length<=Hc.length) (hok:TF Hc.length ret Hc=true):Ah C I Γ H w Φ ret Hc s' V w':=by
 obtain ⟨Γ1,Φ1,hs,hH1,hv,hvn,hi1,hd1⟩:=h
 simp only [TF,Bool.and_eq_true,List.all_eq_true,Nat.blt_eq] at hok
 let Γ2:Ctx:={ Γ1 with nm:=λb=>if b<Hc.length then Γ1.nm b else none }
 have hnm:∀ b g,Γ2.nm b=some g->b<Hc.length/\Γ1.nm b=some g:=λb g h=>by grind
 have get:∀ b (h:b<Hc.length) (h':b<(Hc++T).length),(Hc++T)[b]=Hc[b]:=λb h h'=>List.getElem_append_left h
 have shp:∀ b,b<Hc.length->A3 Hc b=A3 (Hc++T) b:=λb hb=>by
  simp only [A3]
  grind
 have M:T4 Γ1 (A3 (Hc++T)) w' Γ2 (A3 Hc) w' (· < Hc.length):=⟨λ_ _=>rfl,λ_ h=>h,λb hb=>by simp only [Γ2];rw [if_pos hb],λb hb=>shp b hb,λ_ _ _ _=>rfl,rfl⟩
 refine ⟨Γ2,Φ1,⟨hs.os,hs.tape,hs.output,hs.size,hs.sub,hs.stnew,λb g h=>hs.own b g (hnm b g h).2,hs.foot,hs.frame,hs.yv,hl,λb hb hf=>?_⟩,
  ⟨λb b' g h1 h2=>hH1.inj b b' g (hnm b g h1).2 (hnm b' g h2).2,λb g h=>by have:=hH1.lt b g (hnm b g h).2;exact ⟨(hnm b g h).1,this.2⟩,hH1.stlt,λb hb c hc=>hok.2 _ (List.getElem_mem hb) c hc,λb hb=>?_⟩,
  hv.mono M (λb hb=>hok.1 b hb),λc hc=>hok.1 c hc,hi1,λb g h=>hd1 b g (hnm b g h).2⟩
 ·obtain ⟨m1,m2,m3⟩:=hs.keep b hb hf
  have hb2:b<Hc.length:=Nat.lt_of_lt_of_le hb hl
  exact ⟨by simp only [Γ2];rw [if_pos hb2];exact m1,by rw [shp b hb2];exact m2,m3⟩
 ·have hb':b<(Hc++T).length:=by rw [List.length_append];omega
  have:=hH1.blk b hb'
  rw [get b hb hb'] at this
  exact this.mono M (M.nm b hb) (λ_ _=>rfl) (λc hc=>hok.2 _ (List.getElem_mem hb) c hc)
theorem Bp {C₀:Cfg} {g:Nat} {pf:List PV->List Blk->Tr} (hX:XOK C₀) (hO:Fg C₀) (hm:C₀.P.follows .mixedOrders=true)
  (h:∀ args H ret Hc,I7 (pf args H)=some (ret,Hc)->Nat.ble H.length Hc.length=true/\TF Hc.length ret Hc=true/\∀ (σ:Type) (yh:Yh σ) (s:σ),∃ d H0,evC C₀ d σ yh g args H s=some (ret,H0,s)/\H0.take Hc.length=Hc):Sn C₀.P C₀.G g pf:=by
 intro C hP hG σ I yh yv hI hy args H s ret Hc hpf Γ Φ w Vs hyv hH hg hi hd hc hn
 obtain ⟨hl,hok,h1⟩:=h args H ret Hc hpf
 obtain ⟨d,H0,hev,ht⟩:=h1 σ yh s
 rw [<-List.take_append_drop Hc.length H0,ht] at hev
 refine (Fm hX hO hm d σ I yh yv hI hy g args H s ret (Hc++H0.drop Hc.length) s hev Γ Φ w Vs hyv hH (hg.congr hG.symm) hi hd hc hn).mono ?_
 rintro V w' hr
 obtain ⟨Γ1,Φ1,hs,k1,k2,k3,k4,k5⟩:=hr.head (Nat.le_of_ble_eq_true hl) hok
 exact ⟨Γ1,Φ1,hs.congr hP.symm,k1,k2,k3,k4,k5⟩
def PV.snapQ (szc:List Nat) (H:List Blk):PV->PV
 | .ptr b 0 0=>match H[b]? with
  | some (.box cells)=>match Jh (Im szc (I6 H cells)) with
   | some vs=>.s (.sp [vs] 0 0)
   | none=>.bad
  | _=>.bad
 | v=>v.snap H
def PV.stabQ (szs szc:List Nat) (H:List Blk):PV->PV
 | .tup l=>.tup (Im szs (l.map (PV.snapQ szc H)))
 | v=>Rm (szs.headD 0) (v.snapQ szc H)
theorem VP.snapQ {Γ:Ctx} {H:List Blk} {w:World} (szc:List Nat) (hH:HR Γ H w) {v:PV} {V:Value} (h:VP Γ (A3 H) w v V):VP Γ.all (A3 H) w (v.snapQ szc H) V:=by
 unfold PV.snapQ
 split
 ·rename_i b
  split
  ·rename_i cells hb
   split
   ·rename_i vs hvs
    obtain ⟨g,cur,e,hg,hh,hcur,hcells,_⟩:=hH.box' hb
    have hV:V = .pointer (some ⟨g,0,none⟩):=by
     cases h with
     | ptrA _ _ _ g' v e sz n h' hg'=>simp [A3,hb,Blk.shp] at h'
     | ptrB _ _ g' h' hg'=>rw [hg] at hg';cases hg';rfl
    subst hV
    have hl:(Im szc (I6 H cells)).length=cells.length:=by rw [Fp,T7,List.length_map]
    obtain ⟨f1,f2⟩:=T0 (Γ:=Γ.all) (w:=w) (sh:=A3 H) (As:=cur.toList) hvs (by rw [hl];simpa using hcur.symm) (λj hj=>by
     obtain ⟨U,e1,k⟩:=hcells j (by omega)
     have hj':j<(I6 H cells).length:=by rw [T7,List.length_map];omega
     obtain ⟨n,en⟩:=Io szc (I6 H cells) j hj' hj
     refine ⟨U,by simpa using e1,?_⟩
     rw [en]
     have e2:(I6 H cells)[j]=(cells[j]'(by omega)).snap H:=by simp only [T7,List.getElem_map]
     rw [e2]
     exact Gl (k.snap hH))
    refine .s _ _ ?_
    have hvl:vs.length=cells.length:=by rw [f1];simpa using hcur
    have:=VS.sp (St:=Γ.all.St) (w:=w) [vs] 0 0 g 0 vs.length (λ_ j=>cur.getD j undef) (.inr ⟨b,hg⟩) (λi hi=>by
      have:i=0:=by simpa using hi
      subst this;rfl) (λi hi j hj=>?_) (λi hi j hj=>?_)
    ·simpa using this
    ·have:i=0:=by simpa using hi
     subst this
     have hj':j<cur.size:=by rw [hcur,<-hvl];exact hj
     simp [World.cell?,hh,hj']
    ·have:i=0:=by simpa using hi
     subst this
     have hj1:j<vs.length:=hj
     obtain ⟨U,e1,k⟩:=f2 j hj1
     have e3:cur.getD j undef=U:=by rw [Array.getD_eq_getD_getElem?,<-Array.getElem?_toList,e1];rfl
     rw [e3]
     exact k
   ·exact .bad _
  ·exact .bad _
 ·exact h.snap hH
theorem VP.stabQ {Γ:Ctx} {H:List Blk} {w:World} (szs szc:List Nat) (hH:HR Γ H w) {v:PV} {V:Value} (h:VP Γ (A3 H) w v V):VP Γ.all (A3 H) w (v.stabQ szs szc H) V:=by
 unfold PV.stabQ
 split
 ·rename_i l
  obtain ⟨A,rfl,hA,hc⟩:=h.inv_tup
  have hl:(Im szs (l.map (PV.snapQ szc H))).length=l.length:=by rw [Fp,List.length_map]
  refine VP.mk_tup (by rw [hl];exact hA) λj hj=>?_
  obtain ⟨U,e,k⟩:=hc j (by omega)
  refine ⟨U,e,?_⟩
  obtain ⟨n,en⟩:=Io szs (l.map (PV.snapQ szc H)) j (by rw [List.length_map];omega) hj
  rw [en,List.getElem_map]
  exact Gl (k.snapQ szc hH)
 ·exact Gl (h.snapQ szc hH)
theorem Dm (szs szc:List Nat) {C₀:Cfg} {g:Nat} {pf:List PV->Tr} (hX:XOK C₀) (hO:Fg C₀) (hm:C₀.P.follows .mixedOrders=true)
  (h:∀ args ret Hc,I7 (pf args)=some (ret,Hc)->B7 args=[]/\Hc=[]/\ret.nms=[]/\∃ d ret' H0,evC C₀ d Unit noY g args [] ()=some (ret',H0,())/\ret'.stabQ szs szc H0=ret):B1 C₀.P C₀.G g pf:=
 Zt (λH v=>v.stabQ szs szc H) (λhH _ _ h=>h.stabQ szs szc hH) hX hO hm h
def orT:Tr->Tr->Tr
 | .fail,t=>t
 | t,_=>t
theorem Uh {P:Program} {G:GT} {g:Nat} {p q:List PV->Tr} (h:B1 P G g p) (k:B1 P G g q):B1 P G g λa=>orT (p a) (q a):=by
 intro args ret Hc hr
 dsimp only at hr
 cases e:p args with
 | fail=>rw [e] at hr;exact k args ret Hc hr
 | _=>rw [e] at hr;exact h args ret Hc (by rw [e];exact hr)
def Ws (P:Program):List (Nat × (SV->List (List SV)->Bool × List (List SV)))->Prop
 | []=>True
 | (g,pf)::r=>KJ P g pf/\Ws P r
theorem Ws.mem {P:Program}:∀ {l:List (Nat × (SV->List (List SV)->Bool × List (List SV)))} {g:Nat} {pf:SV->List (List SV)->Bool × List (List SV)},Ws P l->(g,pf)∈l->KJ P g pf
 | [],_,_,_,hm=>by simp at hm
 | (n,q)::r,g,pf,h,hm=>by
  rcases List.mem_cons.1 hm with e | hm
  ·cases e;exact h.1
  ·exact Ws.mem h.2 hm
theorem Bo8 {C:Cfg} {lx:List (Nat × (List PV->Tr))} {ly:List (Nat × (List PV->List Blk->Tr))} {ls:List (Nat × (List PV->List Blk->Option (Bool × List (List PV))))} {lz:List (Nat × (SV->List (List SV)->Bool × List (List SV)))} (h1:C.X=JS lx) (h2:C.Y=Fx ly) (h3:C.S=Fx ls) (h4:C.Z=Fx lz) (x:K5 C.P C.G lx) (y:Em C.P C.G ly) (s:Ej C.P C.G ls) (z:Ws C.P lz):XOK C:=
 ⟨K5.x1 h1 x,Em.ok h2 y,Ej.ok h3 s,λg pf h=>by rw [h4] at h;exact z.mem (Pl h)⟩
def Qk:List Int:=(List.range 32).map λi=>((if i % 2=0 then Lib.accLo (i / 2) else Lib.accHi (i / 2):Nat):Int)
def GX:GT:=⟨λg=>cond (Nat.beq g 1) (some (.u8,Lib.firstTab)) (cond (Nat.beq g 2) (some (.u8,Qk)) none),λg=>Nat.beq g 0⟩
def Bz4:List (Nat × Nat × Nat × Nat)->Nat->Nat->Nat × Nat
 | [],_,_=>(0,0)
 | (t,j,e,k)::r,t',j'=>cond (Nat.beq t t'&&Nat.beq j j') (e,k) (Bz4 r t' j')
def Bo3:List (Nat × Nat)->Nat->Option Nat
 | [],_=>none
 | (a,b)::r,i=>cond (Nat.beq a i) (some b) (Bo3 r i)
noncomputable def B8 (lf:Nat) (okf:List Nat) (keep:Nat->Option (List Nat)) (X:List (Nat × (List PV->Tr))) (keepR:Nat->Option (List Nat):=λ_=>none) (xp:List Nat:=[]) (keepE:Nat->Option (List Nat):=λ_=>none) (keepT:Option (List Nat):=none) (Y:List (Nat × (List PV->List Blk->Tr)):=[]) (S:List (Nat × (List PV->List Blk->Option (Bool × List (List PV)))):=[]) (lend:List Nat:=[]) (nt:List (Nat × Nat × Nat × Nat):=[]) (rw:List (Nat × Nat):=[]) (Z:List (Nat × (SV->List (List SV)->Bool × List (List SV))):=[]) (fr:List (Nat × List Nat × List Nat):=[]):Cfg:=
 { P:=Tryz.prog,G:=GX,X:=JS X,lend:=okL lend,okf:=okL okf,lf:=lf,keep:=keep,keepR:=keepR,xp:=okL xp,keepE:=keepE,keepT:=keepT,Y:=Fx Y,S:=Fx S,nilT:=Bz4 nt,rowR:=Bo3 rw,Z:=Fx Z,farR:=A4 fr }
theorem follows:Tryz.prog.follows .mixedOrders=true:=by kernel_rfl
theorem Aj5 {n:Nat}:G0 n=true↔n<=68719476736:=by simp [G0]
theorem G1 {n:Nat} (h:n<=68719476736):G0 n=true:=Aj5.2 h
theorem C6 {a b:Int} (h:a<b):ltI a b=true:=by rw [P9];simpa using h
theorem E5 {a b:Int} (h:b<=a):ltI a b=false:=by rw [P9];simpa using h
theorem ZP {a b:Int}:ltI a b=true↔a<b:=by rw [P9];simp
theorem E3 {n:Int} (h0:-9223372036854775808<=n) (h1:n<9223372036854775808):A1 n=n:=Bk9 n h0 h1
theorem Ab3 {n:Int} (h0:0<=n) (h1:n<18446744073709551616):Am4 n=n:=by
 obtain ⟨m,rfl⟩:=Int.eq_ofNat_of_zero_le h0
 unfold Am4;rw [Bl2,Nat.mod_eq_of_lt (by omega)]
theorem Bl4 {n:Int} (h0:0<=n) (h1:n<4294967296):B03 n=n:=by
 obtain ⟨m,rfl⟩:=Int.eq_ofNat_of_zero_le h0
 unfold B03;rw [Bl1,Nat.mod_eq_of_lt (by omega)]
theorem Bl3 {n:Int} (h0:0<=n) (h1:n<65536):A38 n=n:=by
 obtain ⟨m,rfl⟩:=Int.eq_ofNat_of_zero_le h0
 unfold A38;rw [Bl0,Nat.mod_eq_of_lt (by omega)]
theorem A39 {n:Int} (h0:0<=n) (h1:n<256):wu8 n=n:=by
 obtain ⟨m,rfl⟩:=Int.eq_ofNat_of_zero_le h0
 unfold wu8;rw [Bu0,Nat.mod_eq_of_lt (by omega)]
theorem A9 {a b:Int} (h:a<b:=by omega):ltI a b=true:=C6 h
theorem A7 {a b:Int} (h:b<=a:=by omega):ltI a b=false:=E5 h
theorem A5 {n:Int} (h:-9223372036854775808<=n:=by omega) (g:n<9223372036854775808:=by omega):A1 n=n:=E3 h g
theorem Y3 {n:Int} (h:0<=n:=by omega) (g:n<256:=by omega):wu8 n=n:=A39 h g
theorem Fq {α:Sort _} {c:Prop} [Decidable c] {a b:α} (h:c:=by omega):(if c then a else b)=a:=if_pos h
theorem G7 {α:Sort _} {c:Prop} [Decidable c] {a b:α} (h:¬c:=by omega):(if c then a else b)=b:=if_neg h
theorem Bj5 (k:IntKind) (a m:Nat) (h:m<=k.bits):Ak8 k (a:Int) (m:Int)=((a / 2 ^ m:Nat):Int):=by
 unfold Ak8
 rw [Int.toNat_natCast,Nat.min_eq_left h]
 have:(2:Int) ^ m=((2 ^ m:Nat):Int):=by simp
 rw [this,Av6]
theorem U4 {l h:Int} {n:Nat} (h0:0<=l) (h1:l<=h) (h2:h<=n):O6 l h n=true:=by simp [O6,h0,h1,h2]
theorem J6 {i:Int} {n:Nat} (h0:0<=i) (h1:i<n):inR i n=true:=by simp [inR,h0,h1]
theorem Q1 {l h:Int} {n:Nat} (h0:0<=l:=by omega) (h1:l<=h:=by omega) (h2:h<=n:=by omega):O6 l h n=true:=U4 h0 h1 h2
theorem L1 {i:Int} {n:Nat} (h0:0<=i:=by omega) (h1:i<n:=by omega):inR i n=true:=J6 h0 h1
end
section
open Go Go.Proofs
def Vi (r:Option (PV × List Blk × Unit)):Bool:=match r with
 | some (.s (.bool true),_,_)=>true
 | _=>false
theorem JG {r:Option (PV × List Blk × Unit)} (h:Vi r=true):∃ H,r=some (.s (.bool true),H,()):=by
 unfold Vi at h
 split at h
 ·exact ⟨_,rfl⟩
 ·cases h
theorem XY {C₀:Cfg} {g d:Nat} (hX:XOK C₀) (hO:Fg C₀) (hm:C₀.P.follows .mixedOrders=true) (h:Vi (evC C₀ d Unit noY g [] [] ())=true):B1 C₀.P C₀.G g (λargs=>match args with | []=>.ret (.s (.bool true)) [] | _=>.fail):=
 JX hX hO hm λargs ret Hc hr=>by
  cases args with
  | nil=>
   obtain ⟨rfl,rfl⟩:=H3 hr
   obtain ⟨H,e⟩:=JG h
   exact ⟨rfl,rfl,rfl,d,_,H,e,rfl⟩
  | cons a r=>cases hr
theorem GS {P:Program} {t:Nat} {v:PV} {ty:Ty} (h:Mg P t v) (e:Bc P 20 t=some [ty]) (ha:Hz P t=false):∃ x,v = .s x/\ty.of x:=by
 obtain ⟨tys,l,h1,h2,h3⟩:=h
 rw [e] at h1
 simp only [Option.some.injEq] at h1
 subst h1
 rcases h3 with ⟨h3,_⟩ | ⟨_,x,rfl,rfl⟩
 ·rw [ha] at h3;cases h3
 ·simp only [Ty.ofL] at h2
  obtain ⟨v,q,h4,h5,rfl⟩:=h2
  simp only [List.cons.injEq,and_true] at h4
  subst h4
  exact ⟨_,rfl,h5⟩
theorem A68 {P:Program} {t:Nat} {v:PV} {k:IntKind} (h:Mg P t v) (e:Bc P 20 t=some [.int k]) (ha:Hz P t=false):∃ n,v = .s (.int k n)/\k.min<=n/\n<=k.max:=by
 obtain ⟨x,rfl,n,rfl,h1,h2⟩:=GS h e ha
 exact ⟨n,rfl,h1,h2⟩
end
section
open Go
def H6 (l:List By):LL:=l.map λs=>[SV.str s]
def B20 (l:List Nat):LL:=l.map λn=>[SV.int .u16 (Int.ofNat n)]
def G5 (c:UInt8):By->By->List By
 | acc,[]=>[acc]
 | acc,b::r=>if b=c then acc::G5 c [] r else G5 c (acc++[b]) r
def pcs (c:UInt8) (s:By):List By:=G5 c [] s
theorem Eg (c:UInt8):∀ (s acc:By),(G5 c acc s).length=s.count c+1
 | [],acc=>rfl
 | b::r,acc=>by
  simp only [G5,List.count_cons]
  by_cases h:b=c
  ·simp [h,Eg c r]
  ·simp [h,Eg c r]
theorem Bm (c:UInt8):∀ (s acc:By),c∉s->G5 c acc s=[acc++s]
 | [],acc,_=>by simp [G5]
 | b::r,acc,h=>by
  simp only [List.mem_cons,not_or] at h
  simp only [G5]
  rw [if_neg (λe=>h.1 e.symm),Bm c r _ h.2]
  simp
theorem Tv (c:UInt8):∀ (p acc s:By),c∉p->G5 c acc (p++c::s)=(acc++p)::G5 c [] s
 | [],acc,s,_=>by simp [G5]
 | b::r,acc,s,h=>by
  simp only [List.mem_cons,not_or] at h
  simp only [List.cons_append,G5]
  rw [if_neg (λe=>h.1 e.symm),Tv c r _ s h.2]
  simp
theorem XK (c:UInt8) (s acc:By):G5 c acc s≠[]:=by
 intro h
 have:=Eg c s acc
 rw [h] at this
 simp at this
theorem Jg (c:UInt8):∀ (s acc:By),c∉acc->∀ x∈G5 c acc s,c∉x/\x.length<=acc.length+s.length
 | [],acc,h,x,hx=>by
  simp only [G5,List.mem_singleton] at hx
  subst hx
  exact ⟨h,by simp⟩
 | b::r,acc,h,x,hx=>by
  simp only [G5] at hx
  split at hx
  ·rcases List.mem_cons.1 hx with rfl | hx
   ·exact ⟨h,by simp⟩
   ·have:=Jg c r [] (by simp) x hx
    refine ⟨this.1,?_⟩
    have:=this.2
    simp at this ⊢
    omega
  ·rename_i hb
   have:=Jg c r (acc++[b]) (by simp [h,Ne.symm hb]) x hx
   refine ⟨this.1,?_⟩
   have:=this.2
   simp at this ⊢
   omega
def TY (b:UInt8):UInt8:=if 65<=b/\b<=90 then b+32 else b
def Y1 (s:By):By:=s.map TY
def dig (b:UInt8):Nat:=
 if 48<=b.toNat/\b.toNat<=57 then b.toNat-48 else if 97<=b.toNat/\b.toNat<=102 then b.toNat-87 else if 65<=b.toNat/\b.toNat<=70 then b.toNat-55 else 99
def Ez:Nat:=1099511627776
def D9 (base:Nat):Nat->By->Option Nat
 | n,[]=>some n
 | n,b::r=>if dig b<base then D9 base (min (n*base+dig b) Ez) r else none
def W6 (s:By):Bool:=s.getD 0 0==48&&(s.getD 1 0==120 || s.getD 1 0==88)
def Y0 (s:By):Option Nat:=
 if s=[] then none else if W6 s then D9 16 0 (s.drop 2) else if 1<s.length/\s.getD 0 0=48 then D9 8 0 (s.drop 1) else D9 10 0 s
def D8 (s:By):List By:=if 1<(pcs 46 s).length/\(pcs 46 s).getLastD []=[] then (pcs 46 s).dropLast else pcs 46 s
def Az (s:By):By:=(D8 s).getLastD []
def N5 (s:By):Bool:=if W6 (Az s) then (D9 16 0 ((Az s).drop 2)).isSome else !(Az s).isEmpty&&(D9 10 0 (Az s)).isSome
def Bs5 (free:Nat):Nat->List By->Option Nat
 | _,[]=>none
 | v,p::r=>match Y0 p with
  | none=>none
  | some n=>match r with
   | []=>if n<2 ^ free then some (v*2 ^ free+n) else none
   | r=>if n<=255 then Bs5 free (v*256+n) r else none
def oct (s:By):Option Nat:=match D9 10 0 s with
 | some n=>if n<=255/\Lib.decDigits n=s then some n else none
 | none=>none
def Bz5:Nat->List By->Option Nat
 | v,[]=>some v
 | v,p::r=>match oct p with
  | some n=>Bz5 (v*256+n) r
  | none=>none
def v4B (s:By):Option Nat:=if (pcs 46 s).length=4 then Bz5 0 (pcs 46 s) else none
def B00 (v:Nat):By:=Lib.decDigits (v / 16777216)++46::(Lib.decDigits (v / 65536 % 256)++46::(Lib.decDigits (v / 256 % 256)++46::Lib.decDigits (v % 256)))
def Bo1:Nat->By->Option Nat
 | n,[]=>some n
 | n,b::r=>if dig b<16 then Bo1 (n*16+dig b) r else none
def grp (s:By):Option Nat:=if s=[]\/4<s.length then none else Bo1 0 s
def By5 (last:Bool):List By->Option (List Nat)
 | []=>some []
 | x::r=>match grp x with
  | some v=>(By5 last r).map (v::·)
  | none=>match v4B x with
   | some v=>if last=true/\r=[] then some [v / 65536,v % 65536] else none
   | none=>none
def Bo2 (s:By) (last:Bool):Option (List Nat):=if s=[] then some [] else By5 last (pcs 58 s)
def Bz7 (l:List Nat):Nat:=(l.takeWhile (· == 0)).length
def zGo:List Nat->Nat->Nat->Nat->Nat × Nat
 | [],_,z,m=>(z,m)
 | x::r,i,z,m=>if m<Bz7 (x::r) then zGo r (i+1) i (Bz7 (x::r)) else zGo r (i+1) z m
def By7 (n:Nat):UInt8:=if n<10 then UInt8.ofNat (48+n) else UInt8.ofNat (87+n)
def Bq8 (v:Nat):By:=if h:v<16 then [By7 v] else Bq8 (v / 16)++[By7 (v % 16)]
 termination_by v
 decreasing_by omega
def By9 (l:List Nat):By:=Lib.join (l.map Bq8) [58]
def Q6 (n:Nat):Bool:=Nat.ble n 1114111&&(Nat.blt n 55296 || Nat.blt 57343 n)
def Ql (d k:Nat):Nat:=if h:455<d then Ql (d / 35) (k+36) else k+36*d / (d+38)
 termination_by d
 decreasing_by omega
def L7 (delta count:Nat) (first:Bool):Nat:=
 let d:=if first then delta / 700 else delta / 2
 Ql (d+d / count) 0
def thr (k bias:Nat):Nat:=max 1 (min 26 (36*(k+1)-bias))
theorem P6 (k bias:Nat):1<=thr k bias/\thr k bias<=26:=by unfold thr;omega
def T6 (d:Nat):UInt8:=if d<26 then UInt8.ofNat (97+d) else UInt8.ofNat (22+d)
def Hs (b:UInt8):Option Nat:=
 if 97<=b.toNat/\b.toNat<=122 then some (b.toNat-97) else if 65<=b.toNat/\b.toNat<=90 then some (b.toNat-65) else if 48<=b.toNat/\b.toNat<=57 then some (b.toNat-22) else none
def L0 (q k bias:Nat):By:=
 if h:q<thr k bias then [T6 q] else T6 (thr k bias+(q-thr k bias) % (36-thr k bias))::L0 ((q-thr k bias) / (36-thr k bias)) (k+1) bias
 termination_by q
 decreasing_by
  have:=P6 k bias
  exact Nat.lt_of_le_of_lt (Nat.div_le_self _ _) (by omega)
structure KA where
 delta:Nat
 bias:Nat
 done:Nat
 out:By
def F6 (n basic:Nat):List Nat->KA->KA
 | [],s=>s
 | p::r,s=>if p<n then F6 n basic r { s with delta:=s.delta+1 }
  else if p=n then F6 n basic r { delta:=0,bias:=L7 s.delta (s.done+1) (s.done==basic),done:=s.done+1,out:=s.out++L0 s.delta 0 s.bias }
  else F6 n basic r s
def G8 (n:Nat):List Nat->Nat->Nat
 | [],m=>m
 | p::r,m=>G8 n r (if n<=p then min m p else m)
def T2 (pts:List Nat) (basic:Nat):Nat->Nat->KA->KA
 | 0,_,s=>s
 | f+1,n,s=>if s.done<pts.length then
   let m:=G8 n pts 1114112
   let s':=F6 m basic pts { s with delta:=s.delta+(m-n)*(s.done+1) }
   T2 pts basic f (m+1) { s' with delta:=s'.delta+1 }
  else s
def F4 (pts:List Nat):By:=(pts.filter (· < 128)).map UInt8.ofNat
def Gj (pts:List Nat):By × Nat:=
 if 256<pts.length then ([],3) else if !(pts.all Q6) then ([],2)
 else ((T2 pts (F4 pts).length 256 128 { delta:=0,bias:=72,done:=(F4 pts).length,out:=if (F4 pts).isEmpty then [] else F4 pts++[45] }).out,0)
def C2 (bias:Nat):By->Nat->Nat->Nat->Nat × By × Nat
 | [],i,w,k=>(0,[],4)
 | b::r,i,w,k=>match Hs b with
  | none=>(0,[],4)
  | some x=>if Ez<i+x*w then (0,[],19) else if x<thr k bias then (i+x*w,r,0)
   else if Ez<w*(36-thr k bias) then (0,[],19) else C2 bias r (i+x*w) (w*(36-thr k bias)) (k+1)
theorem Jr (bias:Nat):∀ (s:By) (i w k:Nat),(C2 bias s i w k).2.2=0->(C2 bias s i w k).2.1.length<s.length
 | [],i,w,k,h=>by simp [C2] at h
 | b::r,i,w,k,h=>by
  unfold C2 at h ⊢
  cases hv:Hs b with
  | none=>simp [hv] at h
  | some x=>
   simp only [hv] at h ⊢
   split at h
   ·simp at h
   ·rename_i h1
    rw [if_neg h1]
    split at h
    ·rename_i h2
     rw [if_pos h2]
     simp
    ·rename_i h2
     rw [if_neg h2]
     split at h
     ·simp at h
     ·rename_i h3
      rw [if_neg h3]
      have:=Jr bias r _ _ _ h
      simp only [List.length_cons]
      omega
def P0 (l:List Nat) (i n:Nat):List Nat:=l.take i++n::l.drop i
def E9 (s:By) (pts:List Nat) (n i bias:Nat) (first:Bool):List Nat × Nat:=
 if hs:s=[] then (pts,0) else
  let q:=C2 bias s i 1 0
  if hq:q.2.2=0 then
   let count:=pts.length+1
   let n':=n+q.1 / count
   if Q6 n' then (if 256<count then ([],3) else E9 q.2.1 (P0 pts (q.1 % count) n') n' (q.1 % count+1) (L7 (q.1-i) count first) false)
   else ([],2)
  else ([],q.2.2)
 termination_by s.length
 decreasing_by exact Jr bias s i 1 0 hq
def E1:By->Nat
 | []=>0
 | b::r=>if 45∈r then E1 r+1 else 0
def J5 (s:By):List Nat × Nat:=
 if 1024<s.length then ([],3) else if s.any (λb=>Nat.ble 128 b.toNat) then ([],4)
 else if 256<E1 s then ([],3)
 else E9 (if E1 s=0 then s else s.drop (E1 s+1)) ((s.take (E1 s)).map (·.toNat)) 128 0 72 true
def Tn:Nat->By->Option (List Nat)
 | 0,_=>some []
 | f+1,l=>if l=[] then some [] else if (Lib.decodeL l).1=65533/\(Lib.decodeL l).2=1 then none else (Tn f (l.drop (Lib.decodeL l).2)).map ((Lib.decodeL l).1::·)
def Sb (s:By):Option (List Nat):=Tn s.length s
def Ad (s:By):Bool:=
 (J5 s).2==0 && !((J5 s).1.any λp=>Nat.ble 65 p&&Nat.ble p 90)&&((J5 s).1.any λp=>Nat.ble 128 p)&&(Gj (J5 s).1).2==0&&(Gj (J5 s).1).1==s
def Q5 (b:UInt8):Bool:=(Nat.ble 97 b.toNat&&Nat.ble b.toNat 122) || (Nat.ble 48 b.toNat&&Nat.ble b.toNat 57) || b==45 || b==95
def xnB:By:=[120,110,45,45]
def O7 (s:By):Bool:=
 !s.isEmpty&&Nat.ble s.length 63&&s.getD 0 0 != 45&&s.getD (s.length-1) 0 != 45&&s.all Q5&&(!(xnB.isPrefixOf s) || Ad (s.drop 4))
def Bo6 (s:By):By × Nat:=match Sb s with
 | none=>([],4)
 | some p=>if 256<p.length then ([],3)
  else if p.length<s.length then (match Sb (Y1 s) with
   | none=>([],14)
   | some q=>if (Gj q).2=0 then (if O7 (xnB++(Gj q).1) then (xnB++(Gj q).1,0) else ([],14)) else ([],14))
  else if O7 (Y1 s) then (Y1 s,0) else ([],14)
structure YB where
 kind:Nat
 name:By
 v4:Nat
 v6:List Nat
 deriving DecidableEq
def z8:List Nat:=[0,0,0,0,0,0,0,0]
def D3 (s:By):Bool:=Nat.ble s.length 253 && !(N5 s)&&(pcs 46 s).all O7
def X7 (h:YB):Bool:=
 if h.kind=1 then D3 h.name&&h.v4==0&&h.v6==z8 else if h.kind=2 then h.name.isEmpty&&h.v6==z8 else if h.kind=3 then h.name.isEmpty&&h.v4==0 else false
def X5:List By->List By
 | []=>[]
 | [_]=>[]
 | _::r=>Lib.join r [46]::X5 r
def F9 (s:By):List By:=if D3 s then X5 (pcs 46 s) else []
def E6 (a b:By):Bool:=D3 a&&D3 b&&(a==b || (46::a).isSuffixOf b)
def A2 (n:Nat):Bool:=decide (n<=1000000000)
theorem DU {n:Nat}:A2 n=true↔n<=1000000000:=by simp [A2]
def isS:List SV->Bool | [.str _]=>true | _=>false
def elS (el:List SV):By:=(el.getD 0 .nilp).gS
def Iz (o:Option Nat):Nat:=o.getD 0
def u8n (c:Int):UInt8:=UInt8.ofNat c.toNat
def Xl (s p:By):By:=if p.isPrefixOf s then s.drop p.length else s
def ltN (v:Int) (n:Nat):Bool:=match v with
 | .ofNat m=>Nat.ble (m+1) n
 | .negSucc _=>false
theorem I3 {v:Int} {n:Nat}:ltN v n=true↔0<=v/\v<(n:Int):=by
 cases v with
 | ofNat m=>
  simp only [ltN,Nat.ble_eq,Int.ofNat_eq_natCast]
  omega
 | negSucc m=>
  refine ⟨λh=>(by cases h),λh=>?_⟩
  have:=Int.negSucc_lt_zero m
  omega
def Br3 (n:Int):Bool:=ltN (n+9223372036854775808) 18446744073709551616
theorem Aw2 {n:Int}:Br3 n=true↔-9223372036854775808<=n/\n<9223372036854775808:=by
 unfold Br3
 rw [I3]
 constructor<;>rintro ⟨h1,h2⟩<;>constructor<;>omega
def Bn7 (b:Nat):List PV->Tr
 | [.s (.int .i64 n)]=>.need (ltN n b) (.ret (.s (.str (Lib.decDigits (Int.toNat n)))) [])
 | _=>.fail
def gvs (s:By) (last:Bool):List Nat:=(Bo2 s last).getD []
def n8 (a b c d e f g h:Int):List Nat:=[a.toNat,b.toNat,c.toNat,d.toNat,e.toNat,f.toNat,g.toNat,h.toNat]
def ok8 (a b c d e f g h:Int):Bool:=[a,b,c,d,e,f,g,h].all λx=>ltN x 65536
def By8:List SV->Bool | [.int .u16 n]=>ltN n 65536 | _=>false
def elN (el:List SV):Nat:=(el.getD 0 .nilp).gI.toNat
def ptI (n:Int):Bool:=match n with | .ofNat m=>Q6 m | .negSucc _=>false
def C3 (b:UInt8):Int:=match Hs b with | some n=>n | none=>-1
def H9 (k b:Int):Int:=max 1 (min 26 (k+36-b))
def Ns:List SV->Bool | [.int .i64 _]=>true | _=>false
def elI (el:List SV):Int:=(el.getD 0 .nilp).gI
def X9 (l:List Int):By × Nat:=if 256<l.length then ([],3) else if l.all ptI then Gj (l.map Int.toNat) else ([],2)
def N7 (b:Int):By->Int->Int->Int->Int × By × Int
 | [],i,w,k=>(4,[],i)
 | c::r,i,w,k=>if C3 c<0 then (4,c::r,i) else if 1099511627776<i+C3 c*w then (19,r,i+C3 c*w)
  else if C3 c<H9 k b then (0,r,i+C3 c*w) else if 1099511627776<w*(36-H9 k b) then (19,r,i+C3 c*w)
  else N7 b r (i+C3 c*w) (w*(36-H9 k b)) (k+36)
def Ym (b:Int) (s:By) (i:Int):Int:=(N7 b s i 1 0).1
def Yn (b:Int) (s:By) (i:Int):By:=(N7 b s i 1 0).2.1
def Lx (b:Int) (s:By) (i:Int):Int:=(N7 b s i 1 0).2.2
def Gr (l:List (List SV)) (i:Nat) (n:Int):List (List SV):=l.take i++[SV.int .i64 n]::l.drop i
structure DS where
 rest:By
 n:Int
 i:Int
 b:Int
 st:Bool
 l:List (List SV)
def D0 (s:DS):Int × DS:=
 if Ym s.b s.rest s.i=0 then
  let c:Int:=s.l.length+1
  let x:=Lx s.b s.rest s.i
  let d:DS:={ rest:=Yn s.b s.rest s.i,n:=s.n+Int.tdiv x c,i:=Int.tmod x c,b:=L7 (x-s.i).toNat c.toNat (!s.st),st:=true,l:=s.l }
  if ptI d.n then (if 256<c then (3,d) else (0,{ d with i:=d.i+1,l:=Gr s.l d.i.toNat d.n })) else (2,d)
 else (Ym s.b s.rest s.i,{ s with rest:=Yn s.b s.rest s.i,i:=Lx s.b s.rest s.i })
def G3 (c:UInt8):By->Int
 | []=>-1
 | b::r=>if G3 c r<0 then (if b=c then 0 else -1) else G3 c r+1
def Rz (l:List Nat):List (List SV):=l.map λx:Nat=>[SV.int .i64 (x:Int)]
def Bh3 (s:By):List Nat:=(Sb s).getD []
def Ba5 (b:UInt8):Int:=if dig b<16 then dig b else -1
def mkH (kd:Int) (nm:By) (v4:Int) (a:List Nat):YB:=⟨if ltN kd 4 then kd.toNat else 0,nm,v4.toNat,a⟩
def Fb (n:Int) (l:List By):Bool:=l.all λs=>!(ltI n (s.length:Int))
attribute [simp] C6 E5 E3 Ab3 Bl4 Bl3 A39 U4 J6 G1
attribute [simp] vl
@[simp] theorem I9 {n:Nat} (h:n<=1000000000):A2 n=true:=DU.2 h
@[simp] theorem ZQ {v:Int} {n:Nat} (h:0<=v) (h1:v<n):ltN v n=true:=I3.2 ⟨h,h1⟩
theorem Aa8 {n:Nat} (h:n<=1000000000:=by omega):A2 n=true:=I9 h
theorem L2 {v:Int} {n:Nat} (h:0<=v:=by omega) (g:v<n:=by omega):ltN v n=true:=ZQ h g
@[simp] theorem A84 {m n:Nat} (h:m+n<4611686018427387904):At0 m n=true:=by simp [At0,h]
abbrev rv (v:PV) (H:List Blk):Option (PV × List Blk × Unit):=some (v,H,())
theorem N8 {n:Nat} (h:A2 n=true):n<=1000000000:=DU.1 h
theorem L5 (s:By) (i:Nat) (h:i<s.length):s.drop i=s.getD i 0::s.drop (i+1):=by
 rw [List.getD_eq_getElem?_getD,List.getElem?_eq_getElem h,Option.getD_some,List.getElem_cons_drop]
theorem Al6 (s:By) (i:Nat) (h:i<s.length):s.take (i+1)=s.take i++[s.getD i 0]:=by
 rw [List.take_add_one,List.getD_eq_getElem?_getD,List.getElem?_eq_getElem h]
 rfl
theorem TZ (b:UInt8):(b.toNat<65/\TY b=b)\/(90<b.toNat/\TY b=b)\/(65<=b.toNat/\b.toNat<=90/\((TY b).toNat=b.toNat+32)):=by
 unfold TY
 by_cases h1:b.toNat<65
 ·refine .inl ⟨h1,if_neg ?_⟩
  intro h
  have:=UInt8.le_iff_toNat_le.1 h.1
  simp at this
  omega
 ·by_cases h2:90<b.toNat
  ·refine .inr (.inl ⟨h2,if_neg ?_⟩)
   intro h
   have:=UInt8.le_iff_toNat_le.1 h.2
   simp at this
   omega
  ·refine .inr (.inr ⟨by omega,by omega,?_⟩)
   rw [if_pos (by constructor<;>(rw [UInt8.le_iff_toNat_le];simp;omega)),UInt8.toNat_add]
   simp
   omega
@[simp] theorem L9 (s:By) (i:Nat):bAt s (i:Int)=((s.getD i 0).toNat:Int):=by simp [bAt]
@[simp] theorem Ia (s:By):bAt s 0=((s.getD 0 0).toNat:Int):=by simp [bAt]
@[simp] theorem YS (s:By):bAt s 1=((s.getD 1 0).toNat:Int):=by simp [bAt]
theorem Nc {α:Type} (s:List α) (a b:Nat):cut s (a:Int) (b:Int)=(s.take b).drop a:=by simp [cut]
@[simp] theorem M7 {α:Type} (s:List α) (a:Int):cut s a (s.length:Int)=s.drop a.toNat:=by simp [cut]
@[simp] theorem Ai {α:Type} (s:List α) (b:Int):cut s 0 b=s.take b.toNat:=by simp [cut]
@[simp] theorem N0 (l:List By):(H6 l).length=l.length:=by simp [H6]
@[simp] theorem Gq (l:List By) (i:Nat):gX (H6 l) i 0=l.getD i []:=by
 unfold gX gC H6
 by_cases h:i<l.length
 ·simp [List.getD_eq_getElem?_getD,List.getElem?_eq_getElem h,SV.gS]
 ·simp [List.getD_eq_getElem?_getD,List.getElem?_eq_none (show l.length<=i by omega),SV.gS]
@[simp] theorem Cy {l:List By} {i:Nat} (h:i<l.length):okE Dh (H6 l) i 0=true:=by
 unfold okE H6
 simp [List.getD_eq_getElem?_getD,List.getElem?_eq_getElem h,h,Dh,okS,SV.has]
theorem Zn (a b:List By):H6 (a++b)=H6 a++H6 b:=by simp [H6]
theorem Vn (b:UInt8):u8n (b.toNat:Int)=b:=by simp [u8n]
theorem A33 (b:UInt8):inR (b.toNat:Int) 256=true:=by
 have:=b.toNat_lt
 exact L1
theorem Bo7 {a b:UInt8}:((a.toNat:Int)==(b.toNat:Int))=(a==b):=by
 rw [Bool.eq_iff_iff]
 simp only [beq_iff_eq]
 constructor
 ·intro h;exact UInt8.toNat_inj.1 (by omega)
 ·intro h;rw [h]
theorem U5 (a:UInt8) (n:Nat) (h:n<256):((a.toNat:Int)==(n:Int))=(a==UInt8.ofNat n):=by
 rw [<-Bo7]
 simp [Nat.mod_eq_of_lt h]
theorem Ho (p s:By):p.isPrefixOf s=(decide (p.length<=s.length)&&(s.take p.length==p)):=by
 rw [Bool.eq_iff_iff]
 simp only [List.isPrefixOf_iff_prefix,Bool.and_eq_true,decide_eq_true_eq,beq_iff_eq]
 constructor
 ·intro h;exact ⟨h.length_le,(List.prefix_iff_eq_take.1 h).symm⟩
 ·rintro ⟨_,h⟩;exact List.prefix_iff_eq_take.2 h.symm
end
section
open Go Go.ChangeAt Go.ChangeShapes Go.Proofs Go.RowKit Go.WideShapes
set_option maxRecDepth 100000
theorem own:ownKnob Tryz.prog.godebug=none:=by kernel_rfl
theorem Bc9:laidOutB Tryz.prog=true:=by kernel_rfl
noncomputable def gTy (g:Nat):Nat:=match Tryz.prog.globals[g]? with | some x=>x.type | none=>0
noncomputable def GO:Nat:=gTy 2
noncomputable def Bb1:Nat:=gTy 1
noncomputable def GN:Nat:=match Tryz.prog.underlying GO with | some (.array _ e)=>e | _=>0
noncomputable def Qj:Array Field:=match Tryz.prog.underlying GN with | some (.struct fs)=>fs | _=>#[]
noncomputable def AR:Field:=match Qj.toList with | a::_=>a | _=>default
noncomputable def AS:Field:=match Qj.toList with | _::a::_=>a | _=>default
theorem Bp2:Qj[0]? = some AR:=by unfold AR Qj GN GO gTy;kernel_rfl
theorem Bp3:Qj[1]? = some AS:=by unfold AS Qj GN GO gTy;kernel_rfl
def Dv:List (String × DataW Unit):=[("unicode/utf8.acceptRanges", Rows.laid_unicode_utf8_acceptRanges), ("unicode/utf8.first", Rows.laid_unicode_utf8_first)]
theorem EB {W:World} {n:String} {g:Nat} {cs:Array Value} (hg:Tryz.prog.globalNamed n=some g) (h:W.var? Tryz.prog n=some cs):∃ e x,W.heap[g]? = some (.cells cs e x):=by
 unfold World.var? at h
 rw [hg,Option.bind_some] at h
 split at h
 ·rename_i c e x hh
  simp only [Option.some.injEq] at h
  subst h
  exact ⟨e,x,hh⟩
 ·cases h
theorem Al5 {W:World} {n:String} {g t e m:Nat} {k:IntKind} {zs:List Int} (hg:Tryz.prog.globalNamed n=some g) (hty:(Tryz.prog.globals[g]?).map (·.type)=some t) (ht:Tryz.prog.underlying t=some (.array m e)) (he:Tryz.prog.underlying e=some (.int k)) (hce:Tryz.prog.cellsOf e=1) (hct:Tryz.prog.cellsOf t=m)
  (h:Lib.VarReads Tryz.prog W n (Lib.tabData k zs)):∃ e x,W.heap[g]? = some (.cells (zs.map λz=>Value.int k z).toArray e x):=by
 obtain ⟨g',t',cs,fuel,p,h1,h2,h3,h4⟩:=h
 obtain rfl:=Option.some.inj (hg.symm.trans h1)
 obtain rfl:=Option.some.inj (hty.symm.trans h2)
 have hcs:=Lib.cells_of_tab ht he hce hct h4
 have:cs=(zs.map λz=>Value.int k z).toArray:=by rw [<-hcs]
 rw [this] at h3
 exact EB hg h3
theorem Zp {H:Type} {enc:TypeId × Value->H} {P:Program} {w:World} {base:Nat} {sp:Nat->Bool} {held:Bool} {fuel:Nat} {t e:TypeId} {n:Nat} {cs:List Value} {d:DataW H} {p:List MemPlace} (ht:P.underlying t=some (.array n e))
  (h:DataW.trod enc P w base sp held fuel t cs=some (d,p)):cs.length=P.cellsOf t:=by
 cases fuel with
 | zero=>simp [DataW.trod] at h
 | succ fuel=>
  simp only [DataW.trod,ht] at h
  split at h
  ·rename_i hl
   simpa using hl
  ·cases h
theorem Ab9 {W:World} (hg : Tryz.prog.globalNamed "unicode/utf8.acceptRanges" = some 2) (h:Lib.VarReads Tryz.prog W "unicode/utf8.acceptRanges" Lib.acceptData) :
  ∃ e x,W.heap[2]? = some (.cells (Qk.map λz=>Value.int .u8 z).toArray e x):=by
 obtain ⟨g',t,cs,fuel,p,h1,h2,h3,h4⟩:=h
 obtain rfl:=Option.some.inj (hg.symm.trans h1)
 have hty:(Tryz.prog.globals[2]?).map (·.type)=some GO:=by unfold GO;kernel_rfl
 obtain rfl:=Option.some.inj (hty.symm.trans h2)
 have ht:Tryz.prog.underlying GO=some (.array 16 GN):=by unfold GO GN;kernel_rfl
 have hl:=Zp ht h4
 have hct:Tryz.prog.cellsOf GO=32:=by unfold GO;kernel_rfl
 have hce:Tryz.prog.cellsOf GN=2:=by unfold GN;kernel_rfl
 have hu:∃ fs,Tryz.prog.underlying GN=some (.struct fs)/\fs.size=2/\∀ (i:Nat) (f:Field),fs[i]? = some f->Tryz.prog.underlying f.type=some (.int .u8)/\f.offset=i/\Tryz.prog.cellsOf f.type=1:=by
  refine ⟨Qj,by unfold GN Qj;kernel_rfl,by unfold Qj;kernel_rfl,λi f hf=>?_⟩
  have:i<2:=by
   have:=(Array.getElem?_eq_some_iff.1 hf).1
   rwa [show Qj.size=2 by unfold Qj;kernel_rfl] at this
  match i,this with
  | 0,_=>
   obtain rfl:=Option.some.inj (hf.symm.trans (show Qj[0]? = some AR from Bp2))
   exact ⟨by unfold AR;kernel_rfl,by unfold AR;kernel_rfl,by unfold AR;kernel_rfl⟩
  | 1,_=>
   obtain rfl:=Option.some.inj (hf.symm.trans (show Qj[1]? = some AS from Bp3))
   exact ⟨by unfold AS;kernel_rfl,by unfold AS;kernel_rfl,by unfold AS;kernel_rfl⟩
 obtain ⟨fs,hu1,hu2,hu3⟩:=hu
 have hcs:cs.toList=Qk.map λz=>Value.int .u8 z:=by
  have hlen:(Qk.map λz=>Value.int .u8 z).length=32:=by rw [List.length_map];rfl
  apply List.ext_getElem?
  intro q
  by_cases hq:q<32
  ·obtain ⟨fuel',d,q',hdi,he⟩:=Lib.array_elem ht h4 (q / 2) (by omega)
   simp only [List.getElem?_map,List.getElem?_range (show q / 2<16 by omega),Option.map_some,Option.some.injEq] at hdi
   subst hdi
   rw [hce] at he
   have hz:=Lib.ints_of_struct hu1 hu3 (by rw [hce,hu2]) he
   have e0:=congrArg (·[q % 2]?) hz
   simp only [List.getElem?_take,List.getElem?_drop] at e0
   rw [Fq,show q / 2*2+q % 2=q by omega] at e0
   rw [e0]
   unfold Qk
   have er:∀ g:Nat->Value,(List.map g (List.range 32))[q]? = some (g q):=λg=>by
    rw [List.getElem?_map,List.getElem?_range hq]
    rfl
   rw [List.map_map,er]
   rcases Nat.mod_two_eq_zero_or_one q with h2 | h2
   ·simp [h2]
   ·simp [h2]
  ·rw [List.getElem?_eq_none (by omega),List.getElem?_eq_none (by omega)]
 have:cs=(Qk.map λz=>Value.int .u8 z).toArray:=by rw [<-hcs]
 rw [this] at h3
 exact EB hg h3
theorem TE {C:Cfg} (hC:C.G=GX) {W:World} (hL:laidMet Tryz.prog Dv W) (hsh:W.ShapedOpen Tryz.prog):GOK C (· < W.heap.size) W:=by
 have lt:∀ {g:Nat} {o:Obj},W.heap[g]? = some o->g<W.heap.size:=λh=>(Array.getElem?_eq_some_iff.1 h).1
 have r3:Lib.VarReads Tryz.prog W "unicode/utf8.acceptRanges" Lib.acceptData:=Lib.laidMet.reads hL (by rw [show Lib.acceptData=Rows.laid_unicode_utf8_acceptRanges by kernel_rfl];simp [Dv])
 have r4:Lib.VarReads Tryz.prog W "unicode/utf8.first" (Lib.tabData .u8 Lib.firstTab):=Lib.laidMet.reads hL (by rw [show (Lib.tabData .u8 Lib.firstTab:DataW Unit)=Rows.laid_unicode_utf8_first by kernel_rfl];simp [Dv])
 have c3:=Ab9 (by kernel_rfl) r3
 have c4:=Al5 (g:=1) (t:=Bb1) (e:=5) (m:=256) (by kernel_rfl) (by unfold Bb1;kernel_rfl) (by unfold Bb1;kernel_rfl) (by kernel_rfl) (by kernel_rfl) (by unfold Bb1;kernel_rfl) r4
 have c5:=cell_of_shapedOpen_int (k:=.i64) (g:=0) (t:=3) (zero:=#[.int .i64 0]) hsh (of_decide_eq_true (by kernel_rfl)) (by kernel_rfl) rfl (by kernel_rfl) (by kernel_rfl) (by kernel_rfl)
 refine ⟨λg k zs h=>?_,λg h=>?_⟩
 ·rw [hC] at h
  simp only [GX] at h
  have key:∀ {g0:Nat} {k0:IntKind} {zs0:List Int},(∃ e x,W.heap[g0]? = some (.cells (zs0.map λz=>Value.int k0 z).toArray e x))->g=g0->(k0,zs0)=(k,zs)->g<W.heap.size/\∃ e x,W.heap[g]? = some (.cells (zs.map λz=>Value.int k z).toArray e x):=λhx e1 e2=>by
   subst e1
   cases e2
   obtain ⟨e,x,hx⟩:=hx
   exact ⟨lt hx,e,x,hx⟩
  cases b1:Nat.beq g 1 with
  | true=>rw [b1,cond_true] at h;exact key c4 (Nat.eq_of_beq_eq_true b1) (Option.some.inj h)
  | false=>
   rw [b1,cond_false] at h
   cases b2:Nat.beq g 2 with
   | true=>rw [b2,cond_true] at h;exact key c3 (Nat.eq_of_beq_eq_true b2) (Option.some.inj h)
   | false=>
    rw [b2,cond_false] at h;cases h
 ·rw [hC] at h
  have e:=Nat.eq_of_beq_eq_true h
  subst e
  obtain ⟨m,hm⟩:=c5
  refine ⟨?_,m,hm⟩
  apply Classical.byContradiction
  intro hge
  simp [World.cell?,Array.getElem?_eq_none (Nat.le_of_not_lt hge)] at hm
theorem Ru (os:Os) (args:Array Value):((World.laidAll Tryz.prog os Dv).forCall (λ_ _=>0) ⟨#[],args,[]⟩).Shaped Tryz.prog:=
 World.shaped_of_ZipB (by kernel_rfl) (by kernel_rfl)
theorem AA (os:Os) (args:Array Value):laidMetH Tryz.prog Dv ((World.laidAll Tryz.prog os Dv).forCall (λ_ _=>0) ⟨#[],args,[]⟩).memory:=by
 rw [MakeChecks.laidMetH_plain _ _ _ (by kernel_rfl)]
 exact laidMet_laidAll _ (by kernel_rfl) (by kernel_rfl)
theorem TN {H:Type} {enc:TypeId × Value->H} {os:Os} (started:os.Started) {C:Cfg} (hCP:C.P=Tryz.prog) (hCG:C.G=GX) (hX:XOK C) (hO:Fg C) {f tb:Nat} {fn:Func} {c:Code} {s:ChangeSpec} {conds:List PathCond} {apart fresh handsOn again:Bool} (noInit:Tryz.prog.inits.idxOf? f=none) (hfn:Tryz.prog.funcs[f]? = some fn) (hb:fn.body=some c) (hname:(fn.name == "runtime.NumGoroutine")=false)
  (hp:∀ t∈fn.params.toList,(Tryz.prog.readableRec t=true/\t<Tryz.prog.types.size)/\(Bc Tryz.prog 20 t).isSome=true) (hres:fn.resultTypes = #[tb]) (hbool:Tryz.prog.underlying tb=some .bool) (hvars:s.vars=[])
  (hspec:∀ ds:List (DataW H),ds.length=fn.params.toList.length->s.fn H ds = { results:=[.lit (.bool true)],args:=ds })
  (wit:Array Value) (fuel:Nat) (hok:Input.okWideB Tryz.prog ((World.laidAll Tryz.prog os Dv).forCall (λ_ _=>0) ⟨#[],wit,[]⟩) f ⟨#[],wit,[]⟩=true)
  (MB:s.preB enc Tryz.prog fn conds apart ((World.laidAll Tryz.prog os Dv).forCall (λ_ _=>0) ⟨#[],wit,[]⟩).memory wit fuel=true)
  (hsz:s.sizedB enc Tryz.prog fn apart ((World.laidAll Tryz.prog os Dv).forCall (λ_ _=>0) ⟨#[],wit,[]⟩).memory wit fuel=true)
  (hev:∀ args,Ga Tryz.prog fn.params.toList args->∃ d Hc,evC C d Unit noY f args [] ()=some (.s (.bool true),Hc,())) :
  ReturnsInHanded {} Tryz.checked os f .any (λw args=>(s.pre enc Tryz.prog fn conds apart w args/\laidMetH Tryz.prog Dv w)/\sizedMet enc Tryz.prog fn (OpenSpec.ofChange s) apart w args) (s.post enc Tryz.prog fn apart fresh handsOn again):=by
 obtain ⟨P,G,X,lend,okf,lf,keep,keepR,xp,keepE,keepT,Y,S,nt,rw0⟩:=C
 simp only at hCP hCG
 subst hCP
 refine returnsInHanded_of_calls (C:=Tryz.checked) own started noInit
  (ChangeSpec.witness_shaped (enc:=enc) (C:=Tryz.checked) (os:=os) (X:=λw _=>laidMetH Tryz.prog Dv w) false (World.laidAll Tryz.prog os Dv) wit fuel (World.laidAll_os _ _ _) (Ru os wit) hok MB hsz (AA os wit)) ?_
 intro w tape i _ hsh _ hok MB hholds
 obtain ⟨_,_,_,fn',hfn',_,_,_,_,Ht⟩:=hok
 have e:fn'=fn:=Option.some.inj (hfn'.symm.trans hfn)
 subst e
 obtain ⟨⟨⟨ds,gs,before,hw,hc⟩,hx⟩,hz⟩:=MB
 have hw':=DataW.Whole.of_heap (w':=w.forCall tape i) (by rfl) hw
 have hL:laidMet Tryz.prog Dv (w.forCall tape i):=by
  rw [MakeChecks.laidMetH_plain _ _ _ (by kernel_rfl)] at hx
  exact laidMet.of_heap (w':=w.forCall tape i) (by rfl) hx
 refine (Au5 (apart:=apart) (fresh:=fresh) (handsOn:=handsOn) (again:=again) hX hO follows Bc9 hfn hb hname hp hres hbool hvars hspec hev (w.forCall tape i) (TE hCG hL hsh) w.heap.size i.args ds gs before Ht hw').mono λe W' ⟨v,he,hp⟩=>?_
 subst he
 exact ChangeSpec.post_blind hp
end
section
open Go Go.Proofs
set_option maxRecDepth 100000
section
def Bp0:List PV->Tr
 | [.s (.str s),.s (.str p),.s (.int .i64 v),.s (.int .i64 n)]=>.need (A2 (List.length s)) (.need ((List.length p)==1) (.need (v==(0:Int)) (.need (n==((-1):Int)) (.ret (.vw 0 0 (List.length (pcs (List.getD p 0 0) s))) [.arr false 9 1 (H6 (pcs (List.getD p 0 0) s))]))))
 | _=>.fail
def Bp1:List PV->Tr
 | [.s (.str s),.s (.str p)]=>.need (A2 (List.length s)) (.need ((List.length p)==1) (.ret (.vw 0 0 (List.length (pcs (List.getD p 0 0) s))) [.arr false 9 1 (H6 (pcs (List.getD p 0 0) s))]))
 | _=>.fail
def FE:List PV->Tr
 | [.s (.str s),.s (.str p)]=>.need (A2 (List.length s)) (.ret (.s (.bool (List.isPrefixOf p s))) [])
 | _=>.fail
def PM (args:List PV):Tr:=FE (C9 [[0],[0]] args)
def EP:List PV->Tr
 | [.s (.str s),.s (.str p)]=>.need (A2 (List.length s)) (.ret (.s (.bool (List.isPrefixOf p s))) [])
 | _=>.fail
def Ao4 (args:List PV):Tr:=EP (C9 [[0],[0]] args)
def Vu:List PV->Tr
 | [.s (.str s),.s (.str p)]=>.need (A2 (List.length s)) (.ret (.tup [.s (.str (Xl s p)),.s (.bool (List.isPrefixOf p s))]) [])
 | _=>.fail
def YC (args:List PV):Tr:=Vu (C9 [[0],[0]] args)
def EL:List PV->Tr
 | [.s (.str s),.s (.str p)]=>.need (A2 (List.length s)) (.ret (.tup [.s (.str (Xl s p)),.s (.bool (List.isPrefixOf p s))]) [])
 | _=>.fail
def Ao3 (args:List PV):Tr:=EL (C9 [[0],[0]] args)
def GH:List PV->Tr
 | [.s (.str s),.s (.str p)]=>.need (A2 (List.length s)) (.ret (.s (.int .i64 (Lib.index s p))) [])
 | _=>.fail
def GG (args:List PV):Tr:=GH (C9 [[0],[0]] args)
def GC:List PV->Tr
 | [.s (.str s),.s (.str p)]=>.need ((List.length p)==1) (.ret (.s (.int .i64 (↑(List.count (List.getD p 0 0) s):Int))) [])
 | _=>.fail
def Ap6 (args:List PV):Tr:=GC (C9 [[0],[0]] args)
def Vq:List PV->Tr
 | [.s (.str s),.s (.int .i64 n)]=>.fail
 | _=>.fail
def Jl (args:List PV):Tr:=Vq (C9 [[0],[0]] args)
def Pv:List PV->Tr
 | [.s (.str s),.s (.str p),.s (.int .i64 v),.s (.int .i64 n)]=>.need (A2 (List.length s)) (.need ((List.length p)==1) (.need (v==(0:Int)) (.need (n==((-1):Int)) (.ret (.s (.sl false false 1 (H6 (pcs (List.getD p 0 0) s)))) []))))
 | _=>.fail
def KF (args:List PV):Tr:=Pv (C9 [[0],[0],[0],[0]] args)
def Qi:List PV->Tr
 | [.s (.str s),.s (.str p)]=>.need (A2 (List.length s)) (.need ((List.length p)==1) (.ret (.s (.sl false false 1 (H6 (pcs (List.getD p 0 0) s)))) []))
 | _=>.fail
def KI (args:List PV):Tr:=Qi (C9 [[0],[0]] args)
def B09:List PV->Tr
 | [.s (.int .i64 n)]=>.need (ltN n 4294967296) (.ret (.s (.str (Lib.decDigits (Int.toNat n)))) [])
 | _=>.fail
def B10:List PV->Tr
 | [.s (.str s)]=>.need (A2 (List.length s)) (.ret (.s (.str (Y1 s))) [])
 | _=>.fail
def EO:List PV->Tr
 | [.s (.str s)]=>.need (A2 (List.length s)) (.ret (.s (.bool (W6 s))) [])
 | _=>.fail
def PE (args:List PV):Tr:=EO (C9 [[0]] args)
def EM:List PV->Tr
 | [.s (.str s),.s (.int .i64 base)]=>.need (A2 (List.length s)) (.need (ltN base 17) (.ret (.tup [.s (.int .i64 (↑(Iz (D9 (Int.toNat base) 0 s)):Int)),.s (.bool (Option.isSome (D9 (Int.toNat base) 0 s)))]) []))
 | _=>.fail
def PD (args:List PV):Tr:=EM (C9 [[0],[0]] args)
def PP:List PV->Tr
 | [.s (.str s)]=>.need (A2 (List.length s)) (.ret (.tup [.s (.int .i64 (↑(Iz (Y0 s)):Int)),.s (.bool (Option.isSome (Y0 s)))]) [])
 | _=>.fail
def Bn9 (args:List PV):Tr:=PP (C9 [[0]] args)
def Wa:List PV->Tr
 | [.s (.str s)]=>.need (A2 (List.length s)) (.ret (.s (.sl false false 1 (H6 (D8 s)))) [])
 | _=>.fail
def YG (args:List PV):Tr:=Wa (C9 [[0]] args)
def La:List PV->Tr
 | [.s (.str s)]=>.need (A2 (List.length s)) (.ret (.s (.bool (N5 s))) [])
 | _=>.fail
def Pz (args:List PV):Tr:=La (C9 [[0]] args)
def B12:List PV->Tr
 | [.s (.int .u32 v)]=>.need (ltN v 4294967296) (.ret (.s (.str (B00 (Int.toNat v)))) [])
 | _=>.fail
def Lb:List PV->Tr
 | [.s (.str s)]=>.need (A2 (List.length s)) (.ret (.s (.bool ((not (List.isEmpty s))&&(Option.isSome (D9 10 0 s))))) [])
 | _=>.fail
def AQ (args:List PV):Tr:=Lb (C9 [[0]] args)
def Qh:List PV->Tr
 | [.s (.str s),.s (.int .u8 c)]=>.need (A2 (List.length s)) (.need (inR c 256) (.ret (.s (.sl false false 1 (H6 (pcs (u8n c) s)))) []))
 | _=>.fail
def Wm (args:List PV):Tr:=Qh (C9 [[0],[0]] args)
def FU:List PV->Tr
 | [.s (.int .u8 b)]=>.need (inR b 256) (.ret (.s (.int .i64 (↑(dig (u8n b)):Int))) [])
 | _=>.fail
def Ap1 (args:List PV):Tr:=FU (C9 [[0]] args)
def FZ:List PV->Tr
 | [.s (.str s)]=>.need (A2 (List.length s)) (.ret (.tup [.s (.int .i64 (↑(Iz (Y0 s)):Int)),.s (.bool (Option.isSome (Y0 s)))]) [])
 | _=>.fail
def Ap4 (args:List PV):Tr:=FZ (C9 [[0]] args)
def Qf:List PV->Tr
 | [.s (.str s)]=>.need (A2 (List.length s)) (.ret (.s (.sl false false 1 (H6 (D8 s)))) [])
 | _=>.fail
def KH (args:List PV):Tr:=Qf (C9 [[0]] args)
def Hx:List PV->Tr
 | [.s (.str s)]=>.need (A2 (List.length s)) (.ret (.s (.bool (N5 s))) [])
 | _=>.fail
def Wi (args:List PV):Tr:=Hx (C9 [[0]] args)
def By0:List PV->Tr
 | [.s (.str s),.s (.bool last)]=>.need (A2 (List.length s)) (.ret (.tup [.s (.sl (List.isEmpty (gvs s last)) (List.isEmpty (gvs s last)) 1 (B20 (gvs s last))),.s (.bool (Option.isSome (Bo2 s last)))]) [])
 | _=>.fail
def By1:List PV->Tr
 | [.agg [.s (.int .u16 a0),.s (.int .u16 a1),.s (.int .u16 a2),.s (.int .u16 a3),.s (.int .u16 a4),.s (.int .u16 a5),.s (.int .u16 a6),.s (.int .u16 a7)]]=>.need (ok8 a0 a1 a2 a3 a4 a5 a6 a7) (.ret (.tup [.s (.int .i64 (↑((zGo (n8 a0 a1 a2 a3 a4 a5 a6 a7) 0 0 0)).1:Int)),.s (.int .i64 (↑((zGo (n8 a0 a1 a2 a3 a4 a5 a6 a7) 0 0 0)).2:Int))]) [])
 | _=>.fail
def Bx9:List PV->Tr
 | [.s (.sl ds_z ds_t 0 ds),.s (.int .u64 v),.s (.int .i64 b),.s (.bool neg),.s (.bool app)]=>.need (ltN v 65536) (.need (b==(16:Int)) (.need (not neg) (.need (not app) (.ret (.tup [.s (.sl true true 1 List.nil),.s (.str (Bq8 (Int.toNat v)))]) []))))
 | _=>.fail
def GD:List PV->Tr
 | [.s (.str s),.s (.str p)]=>.need (A2 (List.length s)) (.ret (.tup [.s (.str ((Lib.cut s p)).1),.s (.str (((Lib.cut s p)).2).1),.s (.bool (((Lib.cut s p)).2).2)]) [])
 | _=>.fail
def PU (args:List PV):Tr:=GD (C9 [[0],[0]] args)
def B13:List PV->Tr
 | [.s (.sl l_z l_t 1 l)]=>.need (List.all l By8) (.need (Nat.ble (List.length l) 8) (.ret (.s (.str (By9 (List.map elN l)))) []))
 | _=>.fail
def Qc:List PV->Tr
 | [.s (.int .i64 n)]=>.ret (.s (.bool (ptI n))) []
 | _=>.fail
def Hw (args:List PV):Tr:=Qc (C9 [[0]] args)
def Qa:List PV->Tr
 | [.s (.int .i64 d),.s (.int .i64 c),.s (.bool f)]=>.need (ltN d 1152921504606846976) (.need (ltN c 1000000) (.need (ltI (0:Int) c) (.ret (.s (.int .i64 (↑(L7 (Int.toNat d) (Int.toNat c) f):Int))) [])))
 | _=>.fail
def Hv (args:List PV):Tr:=Qa (C9 [[0],[0],[0]] args)
def FN:List PV->Tr
 | [.s (.int .i64 d)]=>.need (ltN d 36) (.ret (.s (.int .u8 (↑(UInt8.toNat (T6 (Int.toNat d))):Int))) [])
 | _=>.fail
def PQ (args:List PV):Tr:=FN (C9 [[0]] args)
def FT:List PV->Tr
 | [.s (.int .u8 b)]=>.need (inR b 256) (.ret (.s (.int .i64 (C3 (u8n b)))) [])
 | _=>.fail
def PS (args:List PV):Tr:=FT (C9 [[0]] args)
def FR:List PV->Tr
 | [.s (.int .i64 b)]=>.ret (.fnr (Fn.func 201) [] [.ptr 1 0 0,.ptr 0 0 0]) [.box [.s (.int .i64 b)],.box [.s (.int .i64 (0:Int))]]
 | _=>.fail
def Wb (args:List PV):Tr:=FR (C9 [[0]] args)
def Jm:List PV->List Blk->Tr
 | [.ptr 0 0 0,.ptr 1 0 0],[.box [.s (.int .i64 k)],.box [.s (.int .i64 b)]]=>.need (ltN k 1000000000000) (.need (ltN b 1000000) (.ret (.s (.int .i64 (H9 k b))) [.box [.s (.int .i64 (Int.add k (36:Int)))],.box [.s (.int .i64 b)]]))
 | _,_=>.fail
def FK:List PV->List Blk->Tr
 | [.fl 0,.s (.int .i64 q),.s (.int .i64 b)],[.arr z 5 1 l]=>.need (ltN q 1152921504606846976) (.need (ltN b 1000000) (.need (Nat.ble (List.length l) 100000) (.ret (.fl 0) [.arr z 5 1 (List.append l (List.map F5 (L0 (Int.toNat q) 0 (Int.toNat b))))])))
 | _,_=>.fail
def FO:List PV->Tr
 | [.s (.sl p_z p_t 1 p)]=>.need (List.all p Ns) (.ret (.tup [.s (.str ((X9 (List.map elI p))).1),.s (.int .i64 (↑((X9 (List.map elI p))).2:Int))]) [])
 | _=>.fail
def Ap0 (args:List PV):Tr:=FO (C9 [[1]] args)
def GI:List PV->List Blk->Tr
 | [.fl 0,.s (.int .i64 i),.fl 1],[.arr z 3 1 l,.arr false 3 1 [[.int .i64 n]]]=>.need (ltN i (Nat.add (List.length l) 1)) (.need (Nat.ble (List.length l) 100000) (.ret (.fl 0) [.arr z 3 1 (Gr l (Int.toNat i) n),.arr false 3 1 [[.int .i64 n]]]))
 | _,_=>.fail
def EN:List PV->List Blk->Tr
 | [.ptr 0 0 0],[.box [.s (.str rest),.fl 1,.s (.int .i64 n),.s (.int .i64 i),.s (.int .i64 b),.s (.bool st)],.arr z 3 1 l]=>.need (A2 (List.length rest)) (.need (ltN b 1000000) (.need (ltN i 1099511627777) (.ret (.s (.int .i64 (Ym b rest i))) [.box [.s (.str (Yn b rest i)),.fl 1,.s (.int .i64 n),.s (.int .i64 (Lx b rest i)),.s (.int .i64 b),.s (.bool st)],.arr z 3 1 l])))
 | _,_=>.fail
def Ui:List PV->List Blk->Tr
 | [.ptr 0 0 0],[.box [.s (.str rest),.fl 1,.s (.int .i64 n),.s (.int .i64 i),.s (.int .i64 b),.s (.bool st)],.arr z 3 1 l]=>.need (A2 (List.length rest)) (.need (ltN b 1000000) (.need (ltN i 1099511627777) (.need (ltN n 1152921504606846976) (.need (Nat.ble (List.length l) 100000) (.ret (.s (.int .i64 ((D0 (DS.mk rest n i b st l))).1)) [.box [.s (.str (DS.rest ((D0 (DS.mk rest n i b st l))).2)),.fl 1,.s (.int .i64 (DS.n ((D0 (DS.mk rest n i b st l))).2)),.s (.int .i64 (DS.i ((D0 (DS.mk rest n i b st l))).2)),.s (.int .i64 (DS.b ((D0 (DS.mk rest n i b st l))).2)),.s (.bool (DS.st ((D0 (DS.mk rest n i b st l))).2))],.arr z 3 1 (DS.l ((D0 (DS.mk rest n i b st l))).2)])))))
 | _,_=>.fail
def Pw:List PV->Tr
 | [.s (.str s),.s (.int .u8 c)]=>.need (A2 (List.length s)) (.need (inR c 256) (.ret (.s (.int .i64 (G3 (u8n c) s))) []))
 | _=>.fail
def KG (args:List PV):Tr:=Pw (C9 [[0],[0]] args)
def Vt:List PV->Tr
 | [.s (.str s),.s (.int .u8 c)]=>.need (A2 (List.length s)) (.need (inR c 256) (.ret (.s (.int .i64 (G3 (u8n c) s))) []))
 | _=>.fail
def Uj (args:List PV):Tr:=Vt (C9 [[0],[0]] args)
def FM:List PV->Tr
 | [.s (.str s)]=>.need (A2 (List.length s)) (.ret (.tup [.s (.sl (List.isEmpty ((J5 s)).1) (List.isEmpty ((J5 s)).1) 1 (Rz ((J5 s)).1)),.s (.int .i64 (↑((J5 s)).2:Int))]) [])
 | _=>.fail
def Ao9 (args:List PV):Tr:=FM (C9 [[0]] args)
def KE:List PV->Tr
 | [.s (.str t)]=>.fail
 | _=>.fail
def Mj (args:List PV):Tr:=KE (C9 [[0]] args)
def Vz:List PV->Tr
 | [.s (.str t),.s (.str p),.s (.int .i64 n)]=>.ret (.fnr (Fn.func 106) [] [.ptr 1 0 0,.ptr 0 0 0,.ptr 2 0 0]) [.box [.s (.str t)],.box [.s (.str p)],.box [.s (.int .i64 n)]]
 | _=>.fail
def FF (args:List PV):Tr:=Vz (C9 [[0],[0],[0]] args)
def GJ:List PV->Tr
 | [.s (.str t),.s (.str p)]=>.ret (.fnr (Fn.func 106) [] [.ptr 1 0 0,.ptr 0 0 0,.ptr 2 0 0]) [.box [.s (.str t)],.box [.s (.str p)],.box [.s (.int .i64 (0:Int))]]
 | _=>.fail
def PW (args:List PV):Tr:=GJ (C9 [[0],[0]] args)
def Uk:List PV->List Blk->Option (Bool × List (List PV))
 | [.yd,.ptr 0 0 0,.ptr 1 0 0,.ptr 2 0 0],[.box [.s (.str p)],.box [.s (.str t)],.box [.s (.int .i64 n)]]=>some (((A2 (List.length t))&&(((List.length p)==1)&&(n==(0:Int)))),List.map (λ(x:By)=>([.s (.str x)]:List PV)) (pcs (List.getD p 0 0) t))
 | _,_=>none
def EQ:List PV->Tr
 | [.s (.str t)]=>.ret (.fnr (Fn.func 76) [] [.ptr 0 0 0]) [.box [.s (.str t)]]
 | _=>.fail
def Ek (args:List PV):Tr:=EQ (C9 [[0]] args)
def V9:List PV->List Blk->Option (Bool × List (List PV))
 | [.yd,.ptr 0 0 0],[.box [.s (.str t)]]=>some ((A2 (List.length t)),List.map (λ(x:By)=>([.s (.str x)]:List PV)) (F9 t))
 | _,_=>none
def Qg:List PV->Tr
 | [.s (.int .i64 n)]=>.ret (.s (.bool (ptI n))) []
 | _=>.fail
def Wk (args:List PV):Tr:=Qg (C9 [[0]] args)
def Qe:List PV->Tr
 | [.s (.int .i64 d),.s (.int .i64 c),.s (.bool f)]=>.need (ltN d 1152921504606846976) (.need (ltN c 1000000) (.need (ltI (0:Int) c) (.ret (.s (.int .i64 (↑(L7 (Int.toNat d) (Int.toNat c) f):Int))) [])))
 | _=>.fail
def We (args:List PV):Tr:=Qe (C9 [[0],[0],[0]] args)
def GA:List PV->Tr
 | [.s (.int .i64 k),.s (.int .i64 b)]=>.need (ltN k 10000000000) (.need (ltN b 1000000) (.ret (.s (.int .i64 (H9 (Int.mul (36:Int) k) b))) []))
 | _=>.fail
def PT (args:List PV):Tr:=GA (C9 [[0],[0]] args)
def Wf:List PV->Tr
 | [.s (.int .i64 d)]=>.need (ltN d 36) (.ret (.s (.int .u8 (↑(UInt8.toNat (T6 (Int.toNat d))):Int))) [])
 | _=>.fail
def YH (args:List PV):Tr:=Wf (C9 [[0]] args)
def GB:List PV->Tr
 | [.s (.int .u8 b)]=>.need (inR b 256) (.ret (.s (.int .i64 (C3 (u8n b)))) [])
 | _=>.fail
def Ap5 (args:List PV):Tr:=GB (C9 [[0]] args)
def FW:List PV->Tr
 | [.s (.sl p_z p_t 1 p)]=>.need (List.all p Ns) (.ret (.tup [.s (.str ((X9 (List.map elI p))).1),.s (.int .i64 (↑((X9 (List.map elI p))).2:Int))]) [])
 | _=>.fail
def Ap2 (args:List PV):Tr:=FW (C9 [[1]] args)
def Wj:List PV->Tr
 | [.s (.str s)]=>.need (A2 (List.length s)) (.ret (.tup [.s (.sl (List.isEmpty ((J5 s)).1) (List.isEmpty ((J5 s)).1) 1 (Rz ((J5 s)).1)),.s (.int .i64 (↑((J5 s)).2:Int))]) [])
 | _=>.fail
def YJ (args:List PV):Tr:=Wj (C9 [[0]] args)
def Vy:List PV->Tr
 | [.s (.str s)]=>.need (A2 (List.length s)) (.ret (.s (.bool (Ad s))) [])
 | _=>.fail
def YF (args:List PV):Tr:=Vy (C9 [[0]] args)
def FH:List PV->Tr
 | [.s (.str s)]=>.need (A2 (List.length s)) (.ret (.s (.bool (O7 s))) [])
 | _=>.fail
def PO (args:List PV):Tr:=FH (C9 [[0]] args)
def Wl:List PV->Tr
 | [.s (.str s)]=>.need (A2 (List.length s)) (.ret (.s (.bool (Ad s))) [])
 | _=>.fail
def YK (args:List PV):Tr:=Wl (C9 [[0]] args)
def Wh:List PV->Tr
 | [.s (.str s)]=>.need (A2 (List.length s)) (.ret (.s (.bool (O7 s))) [])
 | _=>.fail
def YI (args:List PV):Tr:=Wh (C9 [[0]] args)
def PG:List PV->Tr
 | [.s (.str s)]=>.need (A2 (List.length s)) (.ret (.s (.bool (D3 s))) [])
 | _=>.fail
def AP (args:List PV):Tr:=PG (C9 [[0]] args)
def ER:List PV->Tr
 | [.agg [.s (.int .i64 kd),.s (.str nm),.s (.int .u32 v4),.s (.int .u16 a0),.s (.int .u16 a1),.s (.int .u16 a2),.s (.int .u16 a3),.s (.int .u16 a4),.s (.int .u16 a5),.s (.int .u16 a6),.s (.int .u16 a7)]]=>.need (A2 (List.length nm)) (.need (ltN v4 4294967296) (.need (ok8 a0 a1 a2 a3 a4 a5 a6 a7) (.ret (.s (.bool (X7 (mkH kd nm v4 (n8 a0 a1 a2 a3 a4 a5 a6 a7))))) [])))
 | _=>.fail
def El (args:List PV):Tr:=ER (C9 [[0,0,0,0,0,0,0,0,0,0,0]] args)
def FY:List PV->Tr
 | [.s (.str s)]=>.need (A2 (List.length s)) (.ret (.s (.bool (D3 s))) [])
 | _=>.fail
def Ap3 (args:List PV):Tr:=FY (C9 [[0]] args)
def Wg:List PV->Tr
 | [.s (.str p),.s (.str s)]=>.need (A2 (List.length p)) (.need (A2 (List.length s)) (.ret (.s (.bool (E6 p s))) []))
 | _=>.fail
def FX (args:List PV):Tr:=Wg (C9 [[0],[0]] args)
def Px:List PV->Tr
 | [.s (.int .i64 n),.s (.sl l_z l_t 1 l)]=>.need (List.all l isS) (.need (A2 (List.length l)) (.ret (.s (.bool (Fb n (List.map elS l)))) []))
 | _=>.fail
def Vr (args:List PV):Tr:=Px (C9 [[0],[1]] args)
end
section
variable {σ R : Type} (lf : Nat) (cl : D4) (yh : Yh σ) (s : σ) (k : Out -> St σ -> Option R)
noncomputable def ZA {R:Type} (s0:By) (v1 b2 n3 n4:Int) (b5:Bool) (k0:By->Int->Int->Int->Option R) (k1:Unit->Option R):Option R:=cond b5 (vl (wu8 ((wu8 (b2-65))+10)) λn'4=>vl (bOr .u16 (XI .u16 v1 (4:Int)) (A38 n'4)) λn'5=>k0 s0 n'5 n3 n4) (k1 ())
noncomputable def ZB {R:Type} (s0:By) (v1 b2 n3 n4:Int) (b5:Bool) (k0:By->Int->Int->Int->Option R) (k1:Unit->Option R):Option R:=cond b5 (vl (wu8 ((wu8 (b2-97))+10)) λn'2=>vl (bOr .u16 (XI .u16 v1 (4:Int)) (A38 n'2)) λn'3=>k0 s0 n'3 n3 n4) (cond (not (ltI b2 65)) (ZA s0 v1 b2 n3 n4 (not (ltI 70 b2)) (λs'6 v'7 n'8 n'9=>k0 s'6 v'7 n'8 n'9) (λ_=>k1 ())) (ZA s0 v1 b2 n3 n4 false (λs'10 v'11 n'12 n'13=>k0 s'10 v'11 n'12 n'13) (λ_=>k1 ())))
noncomputable def ZC {R:Type} (s0:By) (v1 b2 n3 n4:Int) (b5:Bool) (k0:By->Int->Int->Int->Option R) (k1:Unit->Option R):Option R:=cond b5 (vl (A38 (wu8 (b2-48))) λn'0=>vl (bOr .u16 (XI .u16 v1 (4:Int)) n'0) λn'1=>k0 s0 n'1 n3 n4) (cond (not (ltI b2 97)) (ZB s0 v1 b2 n3 n4 (not (ltI 102 b2)) (λs'14 v'15 n'16 n'17=>k0 s'14 v'15 n'16 n'17) (λ_=>k1 ())) (ZB s0 v1 b2 n3 n4 false (λs'18 v'19 n'20 n'21=>k0 s'18 v'19 n'20 n'21) (λ_=>k1 ())))
noncomputable def ZD {R:Type} (lf n:Nat) (s0:By) (v1 n2 n3:Int) (k0:Unit->Option R) (k1:Int->Option R):Option R:=match n with | 0=>none | n+1=>cond (ltI n3 n2) (cond (inR n3 s0.length) (cond (not (ltI (bAt s0 n3) (48:Int))) (ZC s0 v1 (bAt s0 n3) n2 n3 (not (ltI 57 (bAt s0 n3))) (λs'22 v'23 n'24 n'25=>vl (A1 (n'25+1)) λn'26=>ZD lf n s'22 v'23 n'24 n'26 k0 k1) (λ_=>k0 ())) (ZC s0 v1 (bAt s0 n3) n2 n3 false (λs'27 v'28 n'29 n'30=>vl (A1 (n'30+1)) λn'31=>ZD lf n s'27 v'28 n'29 n'31 k0 k1) (λ_=>k0 ()))) none) (k1 v1)
noncomputable def Xb (lf:Nat):Cfg:=B8 lf [184] (A4 []) [] (A4 [(1,[2]),(0,[0])]) [] (A4 []) (some [2]) [] [] []
noncomputable def IX {R:Type} (lf:Nat) (n0:Int) (k0:Bool->Option R):Option R:=cond (not (ltI n0 0)) (cond (not (ltI 1114111 n0)) (cond (ltI n0 55296) (k0 true) (k0 (ltI 57343 n0))) (k0 false)) (k0 false)
theorem Ai0 (d:Nat) (n0):evC (Xb lf) (d+1) σ yh 184 [pI n0] [] s=IX lf n0 (λr0=>some (pB r0,[],s)):=by
 refine (evE (fn:=Tryz.f184) (by kernel_rfl)).trans ?_
 generalize evC (Xb lf) d=cl
 unfold IX;kernel_rfl
noncomputable abbrev Ib:Code:=D2 Tryz.f186
noncomputable def Q8 (lf:Nat):Cfg:=B8 lf [186] (A4 [(6,[0,5,0])]) [] (A4 [(9,[6]),(8,[0,6]),(7,[0,6]),(6,[0,6,11]),(5,[0,6]),(4,[0]),(2,[0,0]),(3,[0,0]),(1,[0,0,6]),(0,[0,0,0])]) [] (A4 [(0,[0,6]),(1,[0,6])]) (some [6]) [] [] []
noncomputable def Bw {R:Type} (lf n:Nat) (delta0 kk1:Int) (k0:Int->Int->Option R):Option R:=match n with | 0=>none | n+1=>cond (ltI 455 delta0) (vl (A1 (Int.tdiv delta0 (35:Int))) λn'6=>vl (A1 (kk1+36)) λn'7=>Bw lf n n'6 n'7 k0) (k0 delta0 kk1)
theorem IV (n delta0 kk1):E4 0 ((Q8 lf).keep 6) (bd (Q8 lf) cl yh (cd [1,1,1,1,0,0,0] Ib)) n ⟨gp [(0,pI delta0),(6,pI kk1)] 23,[],s⟩ k =
 Bw lf n delta0 kk1 (λdelta0 kk1=>k (.exit 0) ⟨gp [(0,pI delta0),(6,pI kk1)] 23,[],s⟩):=by
 induction n generalizing delta0 kk1 with
 | zero=>rfl
 | succ n ih=>rw [Bw];simp only [<-ih];kernel_rfl
noncomputable def Bv {R:Type} (lf:Nat) (delta0 count1:Int) (k0:Int->Option R):Option R:=cond (count1 != 0) (vl (A1 (Int.tdiv delta0 count1)) λn'5=>Bw lf lf (A1 (delta0+n'5)) 0 (λdelta'8 kk'9=>vl (A1 ((36:Int)*delta'8)) λn'10=>vl (A1 (delta'8+38)) λn'11=>cond (n'11 != 0) (vl (A1 (Int.tdiv n'10 n'11)) λn'12=>k0 (A1 (kk'9+n'12))) none)) none
abbrev Tj (b:Code):Prop:=∀ (k:Out->St σ->Option R) delta0 count1,B2 (Q8 lf) cl yh b ⟨gp [(0,pI delta0),(0,pI count1)] 29,[],s⟩ k=Bv lf delta0 count1 (λn0=>k .ret ⟨gp [(6,pI n0)] 24,[],s⟩)
theorem IU:Tj (R:=R) lf cl yh s (cd [1,1] Ib):=by
 intro k delta0 count1;unfold Bv;exact (Eq.trans (by kernel_rfl) (A0 (A8 λn'5=>((IV lf cl yh s (H4 0 (I5 (Q8 lf) cl yh (cd [1,1,1,1,1] Ib) k)) lf (A1 (delta0+n'5)) 0).trans (by kernel_rfl))) rfl))
noncomputable def Ys {R:Type} (lf:Nat) (delta0 count1:Int) (first2:Bool) (k0:Int->Option R):Option R:=cond first2 (vl (A1 (Int.tdiv delta0 (700:Int))) λn'2=>Bv lf n'2 count1 (λn'13=>k0 n'13)) (vl (A1 (Int.tdiv delta0 (2:Int))) λn'3=>Bv lf n'3 count1 (λn'14=>k0 n'14))
theorem Ag9 (b_11:Code) (h_padapt_j0:Tj (R:=PV × List Blk × σ) lf cl yh s b_11) (delta0 count1:Int) (first2:Bool):B2 (Q8 lf) cl yh (cd [] (S7 [1,1] b_11 Ib)) ⟨[pI delta0,pI count1,pB first2]++tps 28,[],s⟩ (G9 (Q8 lf) Tryz.f186)=Ys lf delta0 count1 first2 (λr0=>some (pI r0,[],s)):=by
 unfold Ys;exact let K0:=(G9 (Q8 lf) Tryz.f186);(Eq.trans (by kernel_rfl) (A0 (A8 λn'2=>((h_padapt_j0 K0 n'2 count1).trans (by kernel_rfl))) (A8 λn'3=>((h_padapt_j0 K0 n'3 count1).trans (by kernel_rfl)))))
theorem Ah0 (d:Nat) (delta0 count1 first2):evC (Q8 lf) (d+1) σ yh 186 [pI delta0,pI count1,pB first2] [] s=Ys lf delta0 count1 first2 (λr0=>some (pI r0,[],s)):=
 (evE (fn:=Tryz.f186) (by kernel_rfl)).trans (Eq.trans (by kernel_rfl) (Ag9 lf (evC (Q8 lf) d) yh s (cd [1,1] Ib) (IU lf (evC (Q8 lf) d) yh s) delta0 count1 first2))
noncomputable def QY (lf:Nat):Cfg:=B8 lf [195] (A4 []) [] (A4 [(3,[2]),(2,[2]),(1,[0,3]),(0,[0])]) [] (A4 []) (some [2]) [] [] []
noncomputable def Bg3 {R:Type} (lf:Nat) (d0:Int) (k0:Int->Option R):Option R:=cond (ltI d0 26) (vl (wu8 (A1 ((97:Int)+d0))) λn'0=>k0 n'0) (vl (A1 ((A1 ((48:Int)+d0))-26)) λn'1=>k0 (wu8 n'1))
theorem Bg4 (d:Nat) (d0):evC (QY lf) (d+1) σ yh 195 [pI d0] [] s=Bg3 lf d0 (λr0=>some (p8 r0,[],s)):=by
 refine (evE (fn:=Tryz.f195) (by kernel_rfl)).trans ?_
 generalize evC (QY lf) d=cl
 unfold Bg3;kernel_rfl
noncomputable abbrev Lf:Code:=D2 Tryz.f202
noncomputable def Ep (lf:Nat):Cfg:=B8 lf [202] (A4 []) [] (A4 [(7,[2]),(2,[2]),(4,[2]),(6,[2]),(5,[0,22]),(3,[0,12]),(1,[0,2]),(0,[0])]) [] (A4 [(0,[])]) (some [2]) [] [] []
noncomputable def Om {R:Type} (b0:Int) (b1:Bool) (k0:Int->Option R) (k1:Int->Bool->Option R):Option R:=cond b1 (vl (A1 (wu8 (b0-65))) λn'1=>k0 n'1) (cond (not (ltI b0 48)) (cond (not (ltI 57 b0)) (vl (A1 (wu8 (b0-48))) λn'2=>vl (A1 (n'2+26)) λn'3=>k0 n'3) (k1 b0 (not (ltI 57 b0)))) (k1 b0 false))
abbrev DF (b:Code):Prop:=∀ (k:Out->St σ->Option R) b0 b1,B2 (Ep lf) cl yh b ⟨gp [(0,p8 b0),(12,pB b1)] 20,[],s⟩ k=Om b0 b1 (λn0=>k .ret ⟨gp [(2,pI n0)] 31,[],s⟩) (λb0 b1=>k .normal ⟨gp [(0,p8 b0),(22,pB b1)] 10,[],s⟩)
theorem VD:DF (R:=R) lf cl yh s (cd [1,0,0,1,1,1] Lf):=by
 intro k b0 b1;unfold Om;kernel_rfl
noncomputable def On {R:Type} (b0:Int) (b1:Bool) (k0:Int->Option R) (k1:Int->Bool->Option R):Option R:=cond b1 (vl (A1 (wu8 (b0-97))) λn'0=>k0 n'0) (cond (not (ltI b0 65)) (Om b0 (not (ltI 90 b0)) (λn'4=>k0 n'4) (λb'5 b'6=>k1 b'5 b'6)) (Om b0 false (λn'7=>k0 n'7) (λb'8 b'9=>k1 b'8 b'9)))
abbrev Sc (b:Code):Prop:=∀ (k:Out->St σ->Option R) b0 b1,B2 (Ep lf) cl yh b ⟨gp [(0,p8 b0),(2,pB b1)] 30,[],s⟩ k=On b0 b1 (λn0=>k .ret ⟨gp [(2,pI n0)] 31,[],s⟩) (λb0 b1=>k .normal ⟨gp [(0,p8 b0),(22,pB b1)] 10,[],s⟩)
theorem VE (b_100111:Code) (h_pval_j0:DF (R:=R) lf cl yh s b_100111):Sc (R:=R) lf cl yh s (cd [1,0,0,1] (S7 [1,0,0,1,1,1] b_100111 Lf)):=by
 intro k b0 b1;unfold On;simp only [<-h_pval_j0 k];kernel_rfl
theorem VF:Sc (R:=R) lf cl yh s (cd [1,0,0,1] Lf):=by
 intro k b0 b1;exact Eq.trans (by kernel_rfl) (VE lf cl yh s (cd [1,0,0,1,1,1] Lf) (VD lf cl yh s) k b0 b1)
noncomputable def Az8 {R:Type} (lf:Nat) (b0:Int) (k0:Int->Option R):Option R:=cond (not (ltI b0 97)) (On b0 (not (ltI 122 b0)) (λn'10=>k0 n'10) (λb'11 b'12=>k0 (-1))) (On b0 false (λn'13=>k0 n'13) (λb'14 b'15=>k0 (-1)))
theorem Bh6 (b_1001:Code) (h_pval_j1:Sc (R:=PV × List Blk × σ) lf cl yh s b_1001) (b0:Int):B2 (Ep lf) cl yh (cd [] (S7 [1,0,0,1] b_1001 Lf)) ⟨[p8 b0]++tps 33,[],s⟩ (G9 (Ep lf) Tryz.f202)=Az8 lf b0 (λr0=>some (pI r0,[],s)):=by
 unfold Az8;exact let K0:=(H4 0 (I5 (Ep lf) cl yh (cd [1,1] Lf) (G9 (Ep lf) Tryz.f202)));(Eq.trans (by kernel_rfl) (A0 ((h_pval_j1 K0 b0 (not (ltI 122 b0))).trans (by kernel_rfl)) ((h_pval_j1 K0 b0 false).trans (by kernel_rfl))))
theorem Bh7 (d:Nat) (b0):evC (Ep lf) (d+1) σ yh 202 [p8 b0] [] s=Az8 lf b0 (λr0=>some (pI r0,[],s)):=
 (evE (fn:=Tryz.f202) (by kernel_rfl)).trans (Eq.trans (by kernel_rfl) (Bh6 lf (evC (Ep lf) d) yh s (cd [1,0,0,1] Lf) (VF lf (evC (Ep lf) d) yh s) b0))
end
section
variable {σ R : Type} (lf : Nat) (cl : D4) (yh : Yh σ) (s : σ) (k : Out -> St σ -> Option R)
noncomputable def QT (lf:Nat):Cfg:=B8 lf [154] (A4 []) [] (A4 [(1,[4]),(0,[0,0])]) [] (A4 []) (some [4]) [] [] []
noncomputable def Be4 {R:Type} (lf:Nat) (s0 prefix1:By) (k0:Bool->Option R):Option R:=cond (not (ltI (s0.length:Int) (prefix1.length:Int))) (cond (O6 0 (prefix1.length:Int) s0.length) (vl (cut s0 0 (prefix1.length:Int)) λs'0=>k0 (s'0==prefix1)) none) (k0 false)
theorem Be5 (d:Nat) (s0 prefix1):evC (QT lf) (d+1) σ yh 154 [pS s0,pS prefix1] [] s=Be4 lf s0 prefix1 (λr0=>some (pB r0,[],s)):=by
 refine (evE (fn:=Tryz.f154) (by kernel_rfl)).trans ?_
 generalize evC (QT lf) d=cl
 unfold Be4;kernel_rfl
noncomputable def QN (lf:Nat):Cfg:=B8 lf [112] (A4 []) [(154,PM)] (A4 [(1,[4]),(0,[0,0])]) [154] (A4 []) (some [4]) [] [] []
noncomputable def MB {R:Type} (lf:Nat) (s0 prefix1:By) (k0:Bool->Option R):Option R:=cond (A2 s0.length) (k0 (List.isPrefixOf prefix1 s0)) none
theorem Bc0 (d:Nat) (s0 prefix1):evC (QN lf) (d+1) σ yh 112 [pS s0,pS prefix1] [] s=MB lf s0 prefix1 (λr0=>some (pB r0,[],s)):=by
 refine (evE (fn:=Tryz.f112) (by kernel_rfl)).trans ?_
 generalize evC (QN lf) d=cl
 unfold MB;kernel_rfl
noncomputable def HB (lf:Nat):Cfg:=B8 lf [169] (A4 []) [(154,PM)] (A4 [(3,[4,0]),(2,[4,0]),(1,[0,0,7]),(0,[0,0])]) [154] (A4 []) (some [4,0]) [] [] []
noncomputable def ZG {R:Type} (lf:Nat) (s0 prefix1:By) (k0:By->Bool->Option R):Option R:=cond (A2 s0.length) (cond (not (List.isPrefixOf prefix1 s0)) (k0 s0 false) (cond (O6 (prefix1.length:Int) (s0.length:Int) s0.length) (vl (cut s0 (prefix1.length:Int) (s0.length:Int)) λs'0=>k0 s'0 true) none)) none
theorem Aw9 (d:Nat) (s0 prefix1):evC (HB lf) (d+1) σ yh 169 [pS s0,pS prefix1] [] s=ZG lf s0 prefix1 (λr0 r1=>some (.tup [pS r0,pB r1],[],s)):=by
 refine (evE (fn:=Tryz.f169) (by kernel_rfl)).trans ?_
 generalize evC (HB lf) d=cl
 unfold ZG;kernel_rfl
noncomputable def QL (lf:Nat):Cfg:=B8 lf [130] (A4 []) [(169,YC)] (A4 [(1,[4,0]),(0,[0,0])]) [169] (A4 []) (some [4,0]) [] [] []
noncomputable def Ba0 {R:Type} (lf:Nat) (s0 prefix1:By) (k0:By->Bool->Option R):Option R:=cond (A2 s0.length) (k0 (Xl s0 prefix1) (List.isPrefixOf prefix1 s0)) none
theorem Ba1 (d:Nat) (s0 prefix1):evC (QL lf) (d+1) σ yh 130 [pS s0,pS prefix1] [] s=Ba0 lf s0 prefix1 (λr0 r1=>some (.tup [pS r0,pB r1],[],s)):=by
 refine (evE (fn:=Tryz.f130) (by kernel_rfl)).trans ?_
 generalize evC (QL lf) d=cl
 unfold Ba0;kernel_rfl
noncomputable abbrev KM:Code:=D2 Tryz.f158
noncomputable def Cg (lf:Nat):Cfg:=B8 lf [158] (A4 [(11,[0,0,0,0,4,0,0])]) [(181,Jl),(182,Ap6),(108,GG)] (A4 [(18,[8]),(17,[9,0]),(16,[0,0,0,0,5,0]),(15,[0,0,0,0,5,0]),(14,[0,0,0,0,5,0,0]),(13,[0,0,0,0,5,0,0,29]),(12,[0,0,0,0,5,0,0]),(11,[0,0,0,0,5,0,25]),(10,[0,0,0,0,5,0]),(9,[0,0,0,0,5]),(8,[0,0,0,0,5]),(7,[0,0,0,0]),(6,[0,0,0,0]),(5,[0,0,0,0,16]),(4,[8]),(3,[0,0,0,0,11]),(2,[8]),(1,[0,0,0,0,9]),(0,[0,0,0,0])]) [182,108] (A4 [(0,[0,8,0]),(1,[0,0,0,0,5,0])]) (some [8]) [] [] []
noncomputable def V0 {R:Type} (lf n:Nat) (s0 sep1:By) (sepSave2 n3 i4:Int) (l5:LL) (k0:By->Int->LL->Option R):Option R:=match n with | 0=>none | n+1=>cond (ltI i4 n3) (cond (A2 s0.length) (cond (ltI (Lib.index s0 sep1) (0:Int)) (k0 s0 i4 l5) (vl (A1 ((Lib.index s0 sep1)+sepSave2)) λn'12=>cond (O6 0 n'12 s0.length) (cond (inR i4 l5.length) (cond (decide ((Int.toNat i4)<l5.length)) (vl (List.set l5 (Int.toNat i4) (F1 (List.getD l5 (Int.toNat i4) []) 0 [(SV.str (cut s0 0 n'12))])) λl'13=>vl (A1 ((Lib.index s0 sep1)+(sep1.length:Int))) λn'14=>cond (O6 n'14 (s0.length:Int) s0.length) (vl (cut s0 n'14 (s0.length:Int)) λs'15=>V0 lf n s'15 sep1 sepSave2 n3 (A1 (i4+1)) l'13 k0) none) none) none) none)) none) (k0 s0 i4 l5)
theorem Np (n s0 sep1 sepSave2 n3 i4 l5):E4 1 ((Cg lf).keep 11) (bd (Cg lf) cl yh (cd [1,1,1,1,1,1,1,1,0,0,0] KM)) n ⟨gp [(0,pS s0),(0,pS sep1),(0,pI sepSave2),(0,pI n3),(5,.fl 0),(0,pI i4)] 55,[.arr false 9 1 l5],s⟩ k =
 V0 lf n s0 sep1 sepSave2 n3 i4 l5 (λs0 i1 l2=>k (.exit 0) ⟨gp [(0,pS s0),(8,.fl 0),(0,pI i1)] 55,[.arr false 9 1 l2],s⟩):=by
 induction n generalizing s0 sep1 sepSave2 n3 i4 l5 with
 | zero=>rfl
 | succ n ih=>rw [V0];simp only [<-ih];kernel_rfl
noncomputable def Xv {R:Type} (lf:Nat) (s0 sep1:By) (sepSave2 n3:Int) (k0:Unit->Option R) (k1:Nat->LL->Option R):Option R:=cond (n3==0) (k0 ()) (cond (sep1==[]) none (cond (ltI n3 0) (cond (sep1.length==1) (vl (↑(List.count (List.getD sep1 0 0) s0):Int) λn'1=>vl (A1 ((s0.length:Int)+1)) λn'4=>vl (if (n'4<(A1 (n'1+1))) then n'4 else (A1 (n'1+1))) λn'5=>cond (((decide ((0:Int)<=n'5))&&(decide (n'5<=n'5)))&&(G0 (Int.toNat n'5))) (V0 lf lf s0 sep1 sepSave2 (A1 (n'5-1)) 0 (List.replicate (Int.toNat n'5) [(SV.str ([]:List UInt8))]) (λs'16 i'17 l'18=>cond (inR i'17 l'18.length) (cond (decide ((Int.toNat i'17)<l'18.length)) (vl (List.set l'18 (Int.toNat i'17) (F1 (List.getD l'18 (Int.toNat i'17) []) 0 [(SV.str s'16)])) λl'19=>vl (A1 (i'17+1)) λn'20=>cond (O6 0 n'20 l'19.length) (k1 ((Int.toNat n'20)-0) l'19) none) none) none)) none) none) (vl (A1 ((s0.length:Int)+1)) λn'8=>vl (if (n'8<n3) then n'8 else n3) λn'9=>cond (((decide ((0:Int)<=n'9))&&(decide (n'9<=n'9)))&&(G0 (Int.toNat n'9))) (V0 lf lf s0 sep1 sepSave2 (A1 (n'9-1)) 0 (List.replicate (Int.toNat n'9) [(SV.str ([]:List UInt8))]) (λs'21 i'22 l'23=>cond (inR i'22 l'23.length) (cond (decide ((Int.toNat i'22)<l'23.length)) (vl (List.set l'23 (Int.toNat i'22) (F1 (List.getD l'23 (Int.toNat i'22) []) 0 [(SV.str s'21)])) λl'24=>vl (A1 (i'22+1)) λn'25=>cond (O6 0 n'25 l'24.length) (k1 ((Int.toNat n'25)-0) l'24) none) none) none)) none)))
theorem Ad6 (d:Nat) (s0 sep1 sepSave2 n3):evC (Cg lf) (d+1) σ yh 158 [pS s0,pS sep1,pI sepSave2,pI n3] [] s=Xv lf s0 sep1 sepSave2 n3 (λ_=>some (.fl 0,[.arr true 9 1 []],s)) (λr_m0 l1=>some (.vw 0 0 r_m0,[.arr false 9 1 l1],s)):=by
 refine (evE (fn:=Tryz.f158) (by kernel_rfl)).trans ?_
 generalize evC (Cg lf) d=cl
 unfold Xv;exact let K0:=(H4 0 (I5 (Cg lf) cl yh (cd [1,1,1,1,1,1,1,1,1] KM) (G9 (Cg lf) Tryz.f158)));(Eq.trans (by kernel_rfl) (A0 rfl (A0 rfl (A0 (A0 (A8 λn'1=>(A8 λn'4=>(A8 λn'5=>(A0 ((Np lf cl yh s K0 lf s0 sep1 sepSave2 (A1 (n'5-1)) 0 (List.replicate (Int.toNat n'5) [(SV.str ([]:List UInt8))])).trans (by kernel_rfl)) rfl)))) rfl) (A8 λn'8=>(A8 λn'9=>(A0 ((Np lf cl yh s K0 lf s0 sep1 sepSave2 (A1 (n'9-1)) 0 (List.replicate (Int.toNat n'9) [(SV.str ([]:List UInt8))])).trans (by kernel_rfl)) rfl)))))))
noncomputable def Xe (lf:Nat):Cfg:=B8 lf [117] (A4 []) [(158,KF)] (A4 [(1,[4]),(0,[0,0])]) [] (A4 []) (some [4]) [] [] []
noncomputable def JP {R:Type} (lf:Nat) (s0 sep1:By) (k0:LL->Option R):Option R:=cond (A2 s0.length) (cond (sep1.length==1) (cond ((0:Int)==0) (cond (((-1):Int)==((-1):Int)) (vl (H6 (pcs (List.getD sep1 0 0) s0)) λl'0=>k0 l'0) none) none) none) none
theorem Al2 (d:Nat) (s0 sep1):evC (Xe lf) (d+1) σ yh 117 [pS s0,pS sep1] [] s=JP lf s0 sep1 (λr0=>some (.s (.sl false false 1 r0),[],s)):=by
 refine (evE (fn:=Tryz.f117) (by kernel_rfl)).trans ?_
 generalize evC (Xe lf) d=cl
 unfold JP;kernel_rfl
noncomputable def QM (lf:Nat):Cfg:=B8 lf [127] (A4 []) [(112,Ao4)] (A4 [(1,[2]),(0,[0])]) [112] (A4 []) (some [2]) [] [] []
noncomputable def Bb7 {R:Type} (lf:Nat) (s0:By) (k0:Bool->Option R):Option R:=cond (A2 s0.length) (cond (List.isPrefixOf ([48,120]:List UInt8) s0) (k0 true) (cond (A2 s0.length) (k0 (List.isPrefixOf ([48,88]:List UInt8) s0)) none)) none
theorem Bb8 (d:Nat) (s0):evC (QM lf) (d+1) σ yh 127 [pS s0] [] s=Bb7 lf s0 (λr0=>some (pB r0,[],s)):=by
 refine (evE (fn:=Tryz.f127) (by kernel_rfl)).trans ?_
 generalize evC (QM lf) d=cl
 unfold Bb7;kernel_rfl
noncomputable abbrev Av:Code:=D2 Tryz.f129
noncomputable def P8 (lf:Nat):Cfg:=B8 lf [129] (A4 [(3,[0,0,2,0,0,4,0])]) [] (A4 [(18,[4,0]),(17,[0,0,4,4,0]),(16,[0,0,4,4,0]),(15,[4,0]),(14,[0,0,4,1,2,0,39]),(9,[0,0,4,1,2,0]),(11,[0,0,4,1,2,0]),(13,[0,0,4,1,2,0]),(7,[4,0]),(12,[0,0,4,2,1,0,26]),(10,[0,0,4,2,1,0,15]),(8,[0,0,4,2,1,0,5]),(6,[0,0,4,2,1,0]),(5,[0,0,4,0,3,0]),(4,[0,0,4,0,3,0]),(3,[0,0,4,4,0,0]),(2,[0,0,4,4,0]),(1,[0,0,4]),(0,[0,0])]) [] (A4 [(0,[6]),(1,[0,0,4,4,0]),(2,[0,0,4,1,2,0])]) (some [4,0]) [] [] []
noncomputable def Nd {R:Type} (s0:By) (base1 n2 b3 n4 n5:Int) (b6:Bool) (k0:By->Int->Int->Int->Int->Int->Option R) (k1:Unit->Option R):Option R:=cond b6 (vl (A1 (wu8 (b3-97))) λn'1=>vl (A1 (n'1+10)) λn'2=>k0 s0 base1 n2 n'2 n4 n5) (cond (not (ltI b3 65)) (cond (not (ltI 70 b3)) (vl (A1 (wu8 (b3-65))) λn'3=>vl (A1 (n'3+10)) λn'4=>k0 s0 base1 n2 n'4 n4 n5) (k1 ())) (k1 ()))
abbrev CD (b:Code):Prop:=∀ (k:Out->St σ->Option R) s0 base1 n2 b3 n4 n5 b6,B2 (P8 lf) cl yh b ⟨gp [(0,pS s0),(0,pI base1),(4,pI n2),(2,p8 b3),(1,pI n4),(0,pI n5),(15,pB b6)] 32,[],s⟩ k=Nd s0 base1 n2 b3 n4 n5 b6 (λs0 base1 n2 d3 n4 n5=>k .normal ⟨gp [(0,pS s0),(0,pI base1),(4,pI n2),(1,pI d3),(2,pI n4),(0,pI n5)] 48,[],s⟩) (λ_=>k .ret ⟨gp [(4,pI (0:Int)),(0,pB false)] 55,[],s⟩)
theorem SM:CD (R:=R) lf cl yh s (cd [1,1,0,1,0,0,1,1,0,0,1,1,0,1,0,1,1,1] Av):=by
 intro k s0 base1 n2 b3 n4 n5 b6;unfold Nd;kernel_rfl
noncomputable def Nf {R:Type} (s0:By) (base1 n2 b3 n4 n5:Int) (b6:Bool) (k0:By->Int->Int->Int->Int->Int->Option R) (k1:Unit->Option R):Option R:=cond b6 (vl (A1 (wu8 (b3-48))) λn'0=>k0 s0 base1 n2 n'0 n4 n5) (cond (not (ltI b3 97)) (Nd s0 base1 n2 b3 n4 n5 (not (ltI 102 b3)) (λs'5 base'6 n'7 d'8 n'9 n'10=>k0 s'5 base'6 n'7 d'8 n'9 n'10) (λ_=>k1 ())) (Nd s0 base1 n2 b3 n4 n5 false (λs'11 base'12 n'13 d'14 n'15 n'16=>k0 s'11 base'12 n'13 d'14 n'15 n'16) (λ_=>k1 ())))
abbrev Js (b:Code):Prop:=∀ (k:Out->St σ->Option R) s0 base1 n2 b3 n4 n5 b6,B2 (P8 lf) cl yh b ⟨gp [(0,pS s0),(0,pI base1),(4,pI n2),(2,p8 b3),(1,pI n4),(0,pI n5),(5,pB b6)] 42,[],s⟩ k=Nf s0 base1 n2 b3 n4 n5 b6 (λs0 base1 n2 d3 n4 n5=>k .normal ⟨gp [(0,pS s0),(0,pI base1),(4,pI n2),(1,pI d3),(2,pI n4),(0,pI n5)] 48,[],s⟩) (λ_=>k .ret ⟨gp [(4,pI (0:Int)),(0,pB false)] 55,[],s⟩)
theorem SN (b_110100110011010111:Code) (h_digs_j0:CD (R:=R) lf cl yh s b_110100110011010111):Js (R:=R) lf cl yh s (cd [1,1,0,1,0,0,1,1,0,0,1,1,0,1,0,1] (S7 [1,1,0,1,0,0,1,1,0,0,1,1,0,1,0,1,1,1] b_110100110011010111 Av)):=by
 intro k s0 base1 n2 b3 n4 n5 b6;unfold Nf;simp only [<-h_digs_j0 k];kernel_rfl
theorem SO:Js (R:=R) lf cl yh s (cd [1,1,0,1,0,0,1,1,0,0,1,1,0,1,0,1] Av):=by
 intro k s0 base1 n2 b3 n4 n5 b6;exact Eq.trans (by kernel_rfl) (SN lf cl yh s (cd [1,1,0,1,0,0,1,1,0,0,1,1,0,1,0,1,1,1] Av) (SM lf cl yh s) k s0 base1 n2 b3 n4 n5 b6)
noncomputable def Ng {R:Type} (s0:By) (base1 n2 d3 n4 n5:Int) (k0:Unit->Option R) (k1:By->Int->Int->Int->Int->Option R):Option R:=cond (not (ltI d3 base1)) (k0 ()) (vl (A1 ((A1 (n2*base1))+d3)) λn'23=>vl (if ((1099511627776:Int)<n'23) then (1099511627776:Int) else n'23) λn'24=>k1 s0 base1 n'24 n4 n5)
abbrev Rh (b:Code):Prop:=∀ (k:Out->St σ->Option R) s0 base1 n2 d3 n4 n5,B2 (P8 lf) cl yh b ⟨gp [(0,pS s0),(0,pI base1),(4,pI n2),(1,pI d3),(2,pI n4),(0,pI n5)] 48,[],s⟩ k=Ng s0 base1 n2 d3 n4 n5 (λ_=>k .ret ⟨gp [(4,pI (0:Int)),(0,pB false)] 55,[],s⟩) (λs0 base1 n2 n3 n4=>k .normal ⟨gp [(0,pS s0),(0,pI base1),(4,pI n2),(4,pI n3),(0,pI n4)] 48,[],s⟩)
theorem SP:Rh (R:=R) lf cl yh s (cd [1,1,0,1,0,0,1,1,0,0,1,1,1] Av):=by
 intro k s0 base1 n2 d3 n4 n5;unfold Ng;kernel_rfl
noncomputable def Dq {R:Type} (lf n:Nat) (s0:By) (base1 n2 n3 n4:Int) (k0:Unit->Option R) (k1:Int->Option R):Option R:=match n with | 0=>none | n+1=>cond (ltI n4 n3) (cond (inR n4 s0.length) (cond (not (ltI (bAt s0 n4) (48:Int))) (Nf s0 base1 n2 (bAt s0 n4) n3 n4 (not (ltI 57 (bAt s0 n4))) (λs'17 base'18 n'19 d'20 n'21 n'22=>Ng s'17 base'18 n'19 d'20 n'21 n'22 (λ_=>k0 ()) (λs'25 base'26 n'27 n'28 n'29=>vl (A1 (n'29+1)) λn'30=>Dq lf n s'25 base'26 n'27 n'28 n'30 k0 k1)) (λ_=>k0 ())) (Nf s0 base1 n2 (bAt s0 n4) n3 n4 false (λs'31 base'32 n'33 d'34 n'35 n'36=>Ng s'31 base'32 n'33 d'34 n'35 n'36 (λ_=>k0 ()) (λs'37 base'38 n'39 n'40 n'41=>vl (A1 (n'41+1)) λn'42=>Dq lf n s'37 base'38 n'39 n'40 n'42 k0 k1)) (λ_=>k0 ()))) none) (k1 n2)
theorem SQ (b_1101001100110101:Code) (h_digs_j1:Js (R:=R) lf cl yh s b_1101001100110101) (b_1101001100111:Code) (h_digs_j2:Rh (R:=R) lf cl yh s b_1101001100111) (n:Nat) (s0:By) (base1 n2 n3 n4:Int):E4 0 ((P8 lf).keep 3) (bd (P8 lf) cl yh (cd [1,1,0,1,0,0] (S7 [1,1,0,1,0,0,1,1,0,0,1,1,1] b_1101001100111 (S7 [1,1,0,1,0,0,1,1,0,0,1,1,0,1,0,1] b_1101001100110101 Av)))) n ⟨gp [(0,pS s0),(0,pI base1),(4,pI n2),(4,pI n3),(0,pI n4)] 48,[],s⟩ k =
 Dq lf n s0 base1 n2 n3 n4 (λ_=>k .ret ⟨gp [(4,pI (0:Int)),(0,pB false)] 55,[],s⟩) (λn0=>k (.exit 0) ⟨gp [(6,pI n0)] 54,[],s⟩):=by
 induction n generalizing s0 base1 n2 n3 n4 with
 | zero=>rfl
 | succ n ih=>rw [Dq];exact let K0:=(H4 1 (I5 (P8 lf) cl yh (cd [1,1,0,1,0,0,1,1,1] Av) (lpK 0 ((P8 lf).keep 3) (bd (P8 lf) cl yh (cd [1,1,0,1,0,0] (S7 [1,1,0,1,0,0,1,1,0,0,1,1,1] b_1101001100111 (S7 [1,1,0,1,0,0,1,1,0,0,1,1,0,1,0,1] b_1101001100110101 Av)))) n k)));let K1:=(H4 2 (I5 (P8 lf) cl yh b_1101001100111 K0));(Eq.trans (by kernel_rfl) (A0 (A0 (A0 ((h_digs_j1 K1 s0 base1 n2 (bAt s0 n4) n3 n4 (not (ltI 57 (bAt s0 n4)))).trans (congr (congr rfl (fx6 λs'17 base'18 n'19 d'20 n'21 n'22=>(Eq.trans (by kernel_rfl) ((h_digs_j2 K0 s'17 base'18 n'19 d'20 n'21 n'22).trans (congr (congr rfl (by kernel_rfl)) (fx5 λs'25 base'26 n'27 n'28 n'29=>(Eq.trans (by kernel_rfl) (A8 λn'30=>(ih s'25 base'26 n'27 n'28 n'30))))))))) (by kernel_rfl))) ((h_digs_j1 K1 s0 base1 n2 (bAt s0 n4) n3 n4 false).trans (congr (congr rfl (fx6 λs'31 base'32 n'33 d'34 n'35 n'36=>(Eq.trans (by kernel_rfl) ((h_digs_j2 K0 s'31 base'32 n'33 d'34 n'35 n'36).trans (congr (congr rfl (by kernel_rfl)) (fx5 λs'37 base'38 n'39 n'40 n'41=>(Eq.trans (by kernel_rfl) (A8 λn'42=>(ih s'37 base'38 n'39 n'40 n'42))))))))) (by kernel_rfl)))) rfl) rfl))
noncomputable def Av0 {R:Type} (lf:Nat) (s0:By) (base1:Int) (k0:Int->Bool->Option R):Option R:=Dq lf lf s0 base1 0 (s0.length:Int) 0 (λ_=>k0 0 false) (λn'43=>k0 n'43 true)
theorem Ba6 (b_1101001100110101:Code) (h_digs_j1:Js (R:=PV × List Blk × σ) lf cl yh s b_1101001100110101) (b_1101001100111:Code) (h_digs_j2:Rh (R:=PV × List Blk × σ) lf cl yh s b_1101001100111) (s0:By) (base1:Int):B2 (P8 lf) cl yh (cd [] (S7 [1,1,0,1,0,0,1,1,0,0,1,1,1] b_1101001100111 (S7 [1,1,0,1,0,0,1,1,0,0,1,1,0,1,0,1] b_1101001100110101 Av))) ⟨[pS s0,pI base1]++tps 59,[],s⟩ (G9 (P8 lf) Tryz.f129)=Av0 lf s0 base1 (λr0 r1=>some (.tup [pI r0,pB r1],[],s)):=by
 unfold Av0;exact (Eq.trans (by kernel_rfl) ((SQ lf cl yh s (H4 0 (I5 (P8 lf) cl yh (cd [1,1,1] Av) (G9 (P8 lf) Tryz.f129))) b_1101001100110101 h_digs_j1 b_1101001100111 h_digs_j2 lf s0 base1 0 (s0.length:Int) 0).trans (by kernel_rfl)))
theorem Ba7 (d:Nat) (s0 base1):evC (P8 lf) (d+1) σ yh 129 [pS s0,pI base1] [] s=Av0 lf s0 base1 (λr0 r1=>some (.tup [pI r0,pB r1],[],s)):=
 (evE (fn:=Tryz.f129) (by kernel_rfl)).trans (Eq.trans (by kernel_rfl) (Ba6 lf (evC (P8 lf) d) yh s (cd [1,1,0,1,0,0,1,1,0,0,1,1,0,1,0,1] Av) (SO lf (evC (P8 lf) d) yh s) (cd [1,1,0,1,0,0,1,1,0,0,1,1,1] Av) (SP lf (evC (P8 lf) d) yh s) s0 base1))
noncomputable def As1 (lf:Nat):Cfg:=B8 lf [128] (A4 []) [(127,PE),(129,PD)] (A4 [(7,[2,0]),(2,[2,0]),(4,[2,0]),(6,[2,0]),(5,[0,14]),(3,[0,6]),(1,[0,3]),(0,[0])]) [127,129] (A4 [(0,[0])]) (some [2,0]) [] [] []
noncomputable def num {R:Type} (lf:Nat) (s0:By) (k0:Int->Bool->Option R):Option R:=cond (s0==[]) (k0 0 false) (cond (A2 s0.length) (cond (W6 s0) (cond (O6 2 (s0.length:Int) s0.length) (vl (cut s0 2 (s0.length:Int)) λs'0=>cond (A2 s'0.length) (cond (ltN 16 17) (vl (↑(Iz (D9 16 0 s'0)):Int) λn'1=>k0 n'1 (Option.isSome (D9 16 0 s'0))) none) none) none) (cond (ltI 1 (s0.length:Int)) (cond (inR 0 s0.length) (cond ((bAt s0 (0:Int))==48) (cond (O6 1 (s0.length:Int) s0.length) (vl (cut s0 1 (s0.length:Int)) λs'2=>cond (A2 s'2.length) (cond (ltN 8 17) (vl (↑(Iz (D9 8 0 s'2)):Int) λn'3=>k0 n'3 (Option.isSome (D9 8 0 s'2))) none) none) none) (cond (A2 s0.length) (cond (ltN 10 17) (vl (↑(Iz (D9 10 0 s0)):Int) λn'4=>k0 n'4 (Option.isSome (D9 10 0 s0))) none) none)) none) (cond (A2 s0.length) (cond (ltN 10 17) (vl (↑(Iz (D9 10 0 s0)):Int) λn'5=>k0 n'5 (Option.isSome (D9 10 0 s0))) none) none))) none)
theorem Bs1 (d:Nat) (s0):evC (As1 lf) (d+1) σ yh 128 [pS s0] [] s=num lf s0 (λr0 r1=>some (.tup [pI r0,pB r1],[],s)):=by
 refine (evE (fn:=Tryz.f128) (by kernel_rfl)).trans ?_
 generalize evC (As1 lf) d=cl
 unfold num;kernel_rfl
noncomputable def HJ (lf:Nat):Cfg:=B8 lf [126] (A4 []) [(117,KI)] (A4 [(5,[2]),(4,[3]),(3,[3,0,13]),(2,[3,0]),(1,[3]),(0,[0])]) [] (A4 []) (some [2]) [] [] []
noncomputable def parts {R:Type} (lf:Nat) (s0:By) (k0:LL->Option R):Option R:=cond (A2 s0.length) (cond (1==1) (vl (H6 (pcs (List.getD ([46]:List UInt8) 0 0) s0)) λl'1=>vl (A1 ((l'1.length:Int)-1)) λn'3=>cond (ltI 0 n'3) (cond (inR n'3 l'1.length) (cond (okE Dh l'1 (Int.toNat n'3) 0) (vl (gX l'1 (Int.toNat n'3) 0) λs'4=>cond (s'4==[]) (cond (O6 0 n'3 l'1.length) (k0 (cut l'1 0 n'3)) none) (k0 l'1)) none) none) (k0 l'1)) none) none
theorem Ay9 (d:Nat) (s0):evC (HJ lf) (d+1) σ yh 126 [pS s0] [] s=parts lf s0 (λr0=>some (.s (.sl false false 1 r0),[],s)):=by
 refine (evE (fn:=Tryz.f126) (by kernel_rfl)).trans ?_
 generalize evC (HJ lf) d=cl
 unfold parts;kernel_rfl
noncomputable def Rc (lf:Nat):Cfg:=B8 lf [93] (A4 []) [(126,YG),(127,PE),(128,Bn9),(129,PD)] (A4 [(7,[2]),(6,[4,3]),(5,[2]),(4,[6]),(3,[4,13]),(2,[4]),(1,[3]),(0,[0])]) [127,128,129] (A4 []) (some [2]) [] [] []
noncomputable def Vc {R:Type} (lf:Nat) (s0:By) (k0:Bool->Option R):Option R:=cond (A2 s0.length) (vl (A1 ((↑(List.length (H6 (D8 s0))):Int)-1)) λn'2=>cond (inR n'2 (List.length (H6 (D8 s0)))) (cond (okE Dh (H6 (D8 s0)) (Int.toNat n'2) 0) (vl (gX (H6 (D8 s0)) (Int.toNat n'2) 0) λs'3=>cond (A2 s'3.length) (cond (W6 s'3) (cond (A2 s'3.length) (vl (↑(Iz (Y0 s'3)):Int) λn'5=>k0 (Option.isSome (Y0 s'3))) none) (cond (A2 s'3.length) (cond (ltN 10 17) (vl (↑(Iz (D9 10 0 s'3)):Int) λn'6=>cond (Option.isSome (D9 10 0 s'3)) (k0 (not (s'3==[]))) (k0 false)) none) none)) none) none) none) none
theorem UI (d:Nat) (s0):evC (Rc lf) (d+1) σ yh 93 [pS s0] [] s=Vc lf s0 (λr0=>some (pB r0,[],s)):=by
 refine (evE (fn:=Tryz.f93) (by kernel_rfl)).trans ?_
 generalize evC (Rc lf) d=cl
 unfold Vc;kernel_rfl
noncomputable abbrev AW:Code:=D2 Tryz.f101
noncomputable def Y5 (lf:Nat):Cfg:=B8 lf [101] (A4 [(2,[0,1,0])]) [] (A4 [(6,[2]),(3,[0,2]),(5,[2]),(4,[0,2,15]),(2,[0,2,3]),(1,[0,2]),(0,[0])]) [] (A4 [(0,[0]),(1,[0,2])]) (some [2]) [] [] []
noncomputable def U2 {R:Type} (lf n:Nat) (s0:By) (i1:Int) (k0:Unit->Option R) (k1:By->Option R):Option R:=match n with | 0=>none | n+1=>cond (ltI i1 (s0.length:Int)) (cond (inR i1 s0.length) (cond (ltI (bAt s0 i1) (48:Int)) (k0 ()) (cond (inR i1 s0.length) (cond (ltI 57 (bAt s0 i1)) (k0 ()) (U2 lf n s0 (A1 (i1+1)) k0 k1)) none)) none) (k1 s0)
theorem AF (n s0 i1):E4 0 ((Y5 lf).keep 2) (bd (Y5 lf) cl yh (cd [1,0,1,0,0] AW)) n ⟨gp [(0,pS s0),(2,pI i1)] 18,[],s⟩ k =
 U2 lf n s0 i1 (λ_=>k .ret ⟨gp [(2,pB false)] 19,[],s⟩) (λs0=>k (.exit 0) ⟨gp [(0,pS s0)] 21,[],s⟩):=by
 induction n generalizing s0 i1 with
 | zero=>rfl
 | succ n ih=>rw [U2];simp only [<-ih];kernel_rfl
noncomputable def Vg {R:Type} (lf:Nat) (s0:By) (k0:Bool->Option R):Option R:=U2 lf lf s0 0 (λ_=>k0 false) (λs'0=>k0 (not (s'0==[])))
theorem VM (d:Nat) (s0):evC (Y5 lf) (d+1) σ yh 101 [pS s0] [] s=Vg lf s0 (λr0=>some (pB r0,[],s)):=by
 refine (evE (fn:=Tryz.f101) (by kernel_rfl)).trans ?_
 generalize evC (Y5 lf) d=cl
 unfold Vg;exact (Eq.trans (by kernel_rfl) ((AF lf cl yh s (H4 0 (I5 (Y5 lf) cl yh (cd [1,1] AW) (G9 (Y5 lf) Tryz.f101))) lf s0 0).trans (by kernel_rfl)))
noncomputable abbrev KQ:Code:=D2 Tryz.f53
noncomputable def Ck (lf:Nat):Cfg:=B8 lf [53] (A4 [(4,[0,0,2,0,0,0])]) [] (A4 [(9,[4]),(5,[0,0,3,0,0]),(8,[0,0,3,0,0]),(7,[0,0,3,1]),(6,[0,0,3,0,0,16]),(4,[0,0,3,0,0,3]),(3,[0,0,3,0,0]),(2,[0,0,3,0]),(1,[0,0,3]),(0,[0,0])]) [] (A4 [(0,[5]),(1,[0,0,3,0,0])]) (some [4]) [] [] []
noncomputable def P4 {R:Type} (lf n:Nat) (s0:By) (at1 from2 i3:Int) (l4:LL) (k0:LL->Option R):Option R:=match n with | 0=>none | n+1=>cond (not (ltI (s0.length:Int) i3)) (cond (i3==(s0.length:Int)) (cond (O6 from2 i3 s0.length) (cond (G0 (l4.length+1)) (P4 lf n s0 at1 (A1 (i3+1)) (A1 (i3+1)) (l4++[[(SV.str (cut s0 from2 i3))]]) k0) none) none) (cond (inR i3 s0.length) (cond ((bAt s0 i3)==at1) (cond (O6 from2 i3 s0.length) (cond (G0 (l4.length+1)) (P4 lf n s0 at1 (A1 (i3+1)) (A1 (i3+1)) (l4++[[(SV.str (cut s0 from2 i3))]]) k0) none) none) (P4 lf n s0 at1 from2 (A1 (i3+1)) l4 k0)) none)) (k0 l4)
theorem JM (n s0 at1 from2 i3 l4):E4 1 ((Ck lf).keep 4) (bd (Ck lf) cl yh (cd [1,1,1,0,1,0,0] KQ)) n ⟨gp [(0,pS s0),(0,p8 at1),(3,.fl 0),(0,pI from2),(0,pI i3)] 27,[.arr true 9 1 l4],s⟩ k =
 P4 lf n s0 at1 from2 i3 l4 (λl0=>k (.exit 0) ⟨gp [(5,.fl 0)] 29,[.arr true 9 1 l0],s⟩):=by
 induction n generalizing s0 at1 from2 i3 l4 with
 | zero=>rfl
 | succ n ih=>rw [P4];simp only [<-ih];kernel_rfl
noncomputable def Zf {R:Type} (lf:Nat) (s0:By) (at1:Int) (k0:LL->Option R):Option R:=P4 lf lf s0 at1 0 0 [] (λl'0=>k0 l'0)
theorem Ak3 (d:Nat) (s0 at1):evC (Ck lf) (d+1) σ yh 53 [pS s0,p8 at1] [] s=Zf lf s0 at1 (λl0=>some (.fl 0,[.arr true 9 1 l0],s)):=by
 refine (evE (fn:=Tryz.f53) (by kernel_rfl)).trans ?_
 generalize evC (Ck lf) d=cl
 unfold Zf;exact (Eq.trans (by kernel_rfl) ((JM lf cl yh s (H4 0 (I5 (Ck lf) cl yh (cd [1,1,1,1] KQ) (G9 (Ck lf) Tryz.f53))) lf s0 at1 0 0 []).trans (by kernel_rfl)))
noncomputable abbrev Lg:Code:=D2 Tryz.f145
noncomputable def Er (lf:Nat):Cfg:=B8 lf [145] (A4 []) [] (A4 [(7,[2]),(2,[2]),(4,[2]),(6,[2]),(5,[0,23]),(3,[0,12]),(1,[0,2]),(0,[0])]) [] (A4 [(0,[])]) (some [2]) [] [] []
noncomputable def Oq {R:Type} (b0:Int) (b1:Bool) (k0:Int->Option R) (k1:Int->Bool->Option R):Option R:=cond b1 (vl (A1 (wu8 (b0-97))) λn'1=>vl (A1 (n'1+10)) λn'2=>k0 n'2) (cond (not (ltI b0 65)) (cond (not (ltI 70 b0)) (vl (A1 (wu8 (b0-65))) λn'3=>vl (A1 (n'3+10)) λn'4=>k0 n'4) (k1 b0 (not (ltI 70 b0)))) (k1 b0 false))
abbrev DG (b:Code):Prop:=∀ (k:Out->St σ->Option R) b0 b1,B2 (Er lf) cl yh b ⟨gp [(0,p8 b0),(12,pB b1)] 21,[],s⟩ k=Oq b0 b1 (λn0=>k .ret ⟨gp [(2,pI n0)] 32,[],s⟩) (λb0 b1=>k .normal ⟨gp [(0,p8 b0),(23,pB b1)] 10,[],s⟩)
theorem VI:DG (R:=R) lf cl yh s (cd [1,0,0,1,1,1] Lg):=by
 intro k b0 b1;unfold Oq;kernel_rfl
noncomputable def Ot {R:Type} (b0:Int) (b1:Bool) (k0:Int->Option R) (k1:Int->Bool->Option R):Option R:=cond b1 (vl (A1 (wu8 (b0-48))) λn'0=>k0 n'0) (cond (not (ltI b0 97)) (Oq b0 (not (ltI 102 b0)) (λn'5=>k0 n'5) (λb'6 b'7=>k1 b'6 b'7)) (Oq b0 false (λn'8=>k0 n'8) (λb'9 b'10=>k1 b'9 b'10)))
abbrev Sd (b:Code):Prop:=∀ (k:Out->St σ->Option R) b0 b1,B2 (Er lf) cl yh b ⟨gp [(0,p8 b0),(2,pB b1)] 31,[],s⟩ k=Ot b0 b1 (λn0=>k .ret ⟨gp [(2,pI n0)] 32,[],s⟩) (λb0 b1=>k .normal ⟨gp [(0,p8 b0),(23,pB b1)] 10,[],s⟩)
theorem VJ (b_100111:Code) (h_rdig_j0:DG (R:=R) lf cl yh s b_100111):Sd (R:=R) lf cl yh s (cd [1,0,0,1] (S7 [1,0,0,1,1,1] b_100111 Lg)):=by
 intro k b0 b1;unfold Ot;simp only [<-h_rdig_j0 k];kernel_rfl
theorem VK:Sd (R:=R) lf cl yh s (cd [1,0,0,1] Lg):=by
 intro k b0 b1;exact Eq.trans (by kernel_rfl) (VJ lf cl yh s (cd [1,0,0,1,1,1] Lg) (VI lf cl yh s) k b0 b1)
noncomputable def A01 {R:Type} (lf:Nat) (b0:Int) (k0:Int->Option R):Option R:=cond (not (ltI b0 48)) (Ot b0 (not (ltI 57 b0)) (λn'11=>k0 n'11) (λb'12 b'13=>k0 99)) (Ot b0 false (λn'14=>k0 n'14) (λb'15 b'16=>k0 99))
theorem Bh8 (b_1001:Code) (h_rdig_j1:Sd (R:=PV × List Blk × σ) lf cl yh s b_1001) (b0:Int):B2 (Er lf) cl yh (cd [] (S7 [1,0,0,1] b_1001 Lg)) ⟨[p8 b0]++tps 34,[],s⟩ (G9 (Er lf) Tryz.f145)=A01 lf b0 (λr0=>some (pI r0,[],s)):=by
 unfold A01;exact let K0:=(H4 0 (I5 (Er lf) cl yh (cd [1,1] Lg) (G9 (Er lf) Tryz.f145)));(Eq.trans (by kernel_rfl) (A0 ((h_rdig_j1 K0 b0 (not (ltI 57 b0))).trans (by kernel_rfl)) ((h_rdig_j1 K0 b0 false).trans (by kernel_rfl))))
theorem Bh9 (d:Nat) (b0):evC (Er lf) (d+1) σ yh 145 [p8 b0] [] s=A01 lf b0 (λr0=>some (pI r0,[],s)):=
 (evE (fn:=Tryz.f145) (by kernel_rfl)).trans (Eq.trans (by kernel_rfl) (Bh8 lf (evC (Er lf) d) yh s (cd [1,0,0,1] Lg) (VK lf (evC (Er lf) d) yh s) b0))
noncomputable abbrev Y4:Code:=D2 Tryz.f102
noncomputable def K9 (lf:Nat):Cfg:=B8 lf [102] (A4 [(10,[0,1,0,0,0,0])]) [(145,Ap1)] (A4 [(16,[2,0]),(11,[0,3,0,0]),(15,[0,3,0,0]),(14,[2,0]),(13,[0,3,0,0,0,44]),(12,[0,3,0,0,0]),(10,[0,3,0,0,36]),(9,[0,3,0,0]),(8,[0,3,0]),(5,[0,3]),(7,[0,3]),(6,[0,3,32]),(4,[0,3,22]),(3,[0,3]),(2,[2,0]),(1,[0,8]),(0,[0])]) [145] (A4 [(0,[5]),(1,[0,3,0,0])]) (some [2,0]) [] [] []
noncomputable def Vj {R:Type} (s0:By) (k0:By->Option R):Option R:=cond (O6 2 (s0.length:Int) s0.length) (vl (cut s0 2 (s0.length:Int)) λs'0=>k0 s'0) none
abbrev DK (b:Code):Prop:=∀ (k:Out->St σ->Option R) s0,B2 (K9 lf) cl yh b ⟨gp [(0,pS s0),(3,pI (10:Int)),(22,pB true)] 32,[],s⟩ k=Vj s0 (λs0=>k .normal ⟨gp [(0,pS s0),(3,pI (16:Int))] 55,[],s⟩)
theorem WG:DK (R:=R) lf cl yh s (cd [1,1,1,0,1] Y4):=by
 intro k s0;unfold Vj;kernel_rfl
noncomputable def Ed {R:Type} (lf n:Nat) (s0:By) (n1 i2:Int) (k0:Unit->Option R) (k1:Int->Option R):Option R:=match n with | 0=>none | n+1=>cond (ltI i2 (s0.length:Int)) (cond (inR i2 s0.length) (cond (inR (bAt s0 i2) 256) (vl (↑(dig (u8n (bAt s0 i2))):Int) λn'3=>cond (not (ltI n'3 16)) (k0 ()) (vl (A1 ((A1 (n1*16))+n'3)) λn'4=>vl (if ((1099511627776:Int)<n'4) then (1099511627776:Int) else n'4) λn'5=>Ed lf n s0 n'5 (A1 (i2+1)) k0 k1)) none) none) (k1 n1)
theorem WL (n s0 n1 i2):E4 0 ((K9 lf).keep 10) (bd (K9 lf) cl yh (cd [1,1,1,1,1,0,1,0,0] Y4)) n ⟨gp [(0,pS s0),(3,pI (16:Int)),(0,pI n1),(0,pI i2)] 53,[],s⟩ k =
 Ed lf n s0 n1 i2 (λ_=>k .ret ⟨gp [(2,pI (0:Int)),(0,pB false)] 56,[],s⟩) (λn0=>k (.exit 0) ⟨gp [(5,pI n0)] 54,[],s⟩):=by
 induction n generalizing s0 n1 i2 with
 | zero=>rfl
 | succ n ih=>rw [Ed];simp only [<-ih];kernel_rfl
noncomputable def Vk {R:Type} (lf:Nat) (s0:By) (k0:Int->Bool->Option R):Option R:=Ed lf lf s0 0 0 (λ_=>k0 0 false) (λn'6=>k0 n'6 true)
abbrev DL (b:Code):Prop:=∀ (k:Out->St σ->Option R) s0,B2 (K9 lf) cl yh b ⟨gp [(0,pS s0),(3,pI (16:Int))] 55,[],s⟩ k=Vk lf s0 (λn0 b1=>k .ret ⟨gp [(2,pI n0),(0,pB b1)] 56,[],s⟩)
theorem WH:DL (R:=R) lf cl yh s (cd [1,1,1,1] Y4):=by
 intro k s0;unfold Vk;exact (Eq.trans (by kernel_rfl) ((WL lf cl yh s (H4 0 (I5 (K9 lf) cl yh (cd [1,1,1,1,1,1] Y4) k)) lf s0 0 0).trans (by kernel_rfl)))
noncomputable def Kg {R:Type} (s0:By) (b1:Bool) (k0:By->Int->Option R) (k1:By->Bool->Option R):Option R:=cond b1 (cond (O6 2 (s0.length:Int) s0.length) (vl (cut s0 2 (s0.length:Int)) λs'9=>k0 s'9 16) none) (cond (not (ltI (s0.length:Int) (2:Int))) (cond (inR 0 s0.length) (cond ((bAt s0 (0:Int))==48) (cond (O6 1 (s0.length:Int) s0.length) (vl (cut s0 1 (s0.length:Int)) λs'10=>k0 s'10 8) none) (k1 s0 ((bAt s0 (0:Int))==48))) none) (k1 s0 false))
abbrev DM (b:Code):Prop:=∀ (k:Out->St σ->Option R) s0 b1,B2 (K9 lf) cl yh b ⟨gp [(0,pS s0),(3,pI (10:Int)),(22,pB b1)] 32,[],s⟩ k=Kg s0 b1 (λs0 base1=>k .normal ⟨gp [(0,pS s0),(3,pI base1)] 55,[],s⟩) (λs0 b1=>k .normal ⟨gp [(0,pS s0),(3,pI (10:Int)),(32,pB b1)] 22,[],s⟩)
theorem WI:DM (R:=R) lf cl yh s (cd [1,1,1,0,1] Y4):=by
 intro k s0 b1;unfold Kg;kernel_rfl
noncomputable def Bi {R:Type} (lf n:Nat) (s0:By) (base1 n2 i3:Int) (k0:Unit->Option R) (k1:Int->Option R):Option R:=match n with | 0=>none | n+1=>cond (ltI i3 (s0.length:Int)) (cond (inR i3 s0.length) (cond (inR (bAt s0 i3) 256) (vl (↑(dig (u8n (bAt s0 i3))):Int) λn'16=>cond (not (ltI n'16 base1)) (k0 ()) (vl (A1 ((A1 (n2*base1))+n'16)) λn'17=>vl (if ((1099511627776:Int)<n'17) then (1099511627776:Int) else n'17) λn'18=>Bi lf n s0 base1 n'18 (A1 (i3+1)) k0 k1)) none) none) (k1 n2)
theorem Ze (n s0 base1 n2 i3):E4 0 ((K9 lf).keep 10) (bd (K9 lf) cl yh (cd [1,1,1,1,1,0,1,0,0] Y4)) n ⟨gp [(0,pS s0),(3,pI base1),(0,pI n2),(0,pI i3)] 53,[],s⟩ k =
 Bi lf n s0 base1 n2 i3 (λ_=>k .ret ⟨gp [(2,pI (0:Int)),(0,pB false)] 56,[],s⟩) (λn0=>k (.exit 0) ⟨gp [(5,pI n0)] 54,[],s⟩):=by
 induction n generalizing s0 base1 n2 i3 with
 | zero=>rfl
 | succ n ih=>rw [Bi];simp only [<-ih];kernel_rfl
noncomputable def Kh {R:Type} (lf:Nat) (s0:By) (base1:Int) (k0:Int->Bool->Option R):Option R:=Bi lf lf s0 base1 0 0 (λ_=>k0 0 false) (λn'19=>k0 n'19 true)
abbrev DN (b:Code):Prop:=∀ (k:Out->St σ->Option R) s0 base1,B2 (K9 lf) cl yh b ⟨gp [(0,pS s0),(3,pI base1)] 55,[],s⟩ k=Kh lf s0 base1 (λn0 b1=>k .ret ⟨gp [(2,pI n0),(0,pB b1)] 56,[],s⟩)
theorem WJ:DN (R:=R) lf cl yh s (cd [1,1,1,1] Y4):=by
 intro k s0 base1;unfold Kh;exact (Eq.trans (by kernel_rfl) ((Ze lf cl yh s (H4 0 (I5 (K9 lf) cl yh (cd [1,1,1,1,1,1] Y4) k)) lf s0 base1 0 0).trans (by kernel_rfl)))
noncomputable def Ki {R:Type} (lf:Nat) (s0:By) (k0:Int->Bool->Option R):Option R:=Bi lf lf s0 10 0 0 (λ_=>k0 0 false) (λn'22=>k0 n'22 true)
abbrev DO (b:Code):Prop:=∀ (k:Out->St σ->Option R) s0 b1,B2 (K9 lf) cl yh b ⟨gp [(0,pS s0),(3,pI (10:Int)),(32,pB b1)] 22,[],s⟩ k=Ki lf s0 (λn0 b1=>k .ret ⟨gp [(2,pI n0),(0,pB b1)] 56,[],s⟩)
theorem WK:DO (R:=R) lf cl yh s (cd [1,1,1,1] Y4):=by
 intro k s0 b1;unfold Ki;exact (Eq.trans (by kernel_rfl) ((Ze lf cl yh s (H4 0 (I5 (K9 lf) cl yh (cd [1,1,1,1,1,1] Y4) k)) lf s0 10 0 0).trans (by kernel_rfl)))
noncomputable def A08 {R:Type} (lf:Nat) (s0:By) (k0:Int->Bool->Option R):Option R:=cond (s0==[]) (k0 0 false) (cond (not (ltI (s0.length:Int) (2:Int))) (cond (inR 0 s0.length) (cond ((bAt s0 (0:Int))==48) (cond (inR 1 s0.length) (cond ((bAt s0 (1:Int))==120) (Vj s0 (λs'1=>Vk lf s'1 (λn'7 b'8=>k0 n'7 b'8))) (cond (inR 1 s0.length) (Kg s0 ((bAt s0 (1:Int))==88) (λs'11 base'12=>Kh lf s'11 base'12 (λn'20 b'21=>k0 n'20 b'21)) (λs'13 b'14=>Ki lf s'13 (λn'23 b'24=>k0 n'23 b'24))) none)) none) (Kg s0 false (λs'25 base'26=>Kh lf s'25 base'26 (λn'29 b'30=>k0 n'29 b'30)) (λs'27 b'28=>Ki lf s'27 (λn'31 b'32=>k0 n'31 b'32)))) none) (Kg s0 false (λs'33 base'34=>Kh lf s'33 base'34 (λn'37 b'38=>k0 n'37 b'38)) (λs'35 b'36=>Ki lf s'35 (λn'39 b'40=>k0 n'39 b'40))))
theorem Bi6 (b_11101:Code) (h_rnum_j0:DK (R:=PV × List Blk × σ) lf cl yh s b_11101) (h_rnum_j2:DM (R:=PV × List Blk × σ) lf cl yh s b_11101) (b_1111:Code) (h_rnum_j1:DL (R:=PV × List Blk × σ) lf cl yh s b_1111) (h_rnum_j3:DN (R:=PV × List Blk × σ) lf cl yh s b_1111) (h_rnum_j4:DO (R:=PV × List Blk × σ) lf cl yh s b_1111) (s0:By):B2 (K9 lf) cl yh (cd [] (S7 [1,1,1,1] b_1111 (S7 [1,1,1,0,1] b_11101 Y4))) ⟨[pS s0]++tps 59,[],s⟩ (G9 (K9 lf) Tryz.f102)=A08 lf s0 (λr0 r1=>some (.tup [pI r0,pB r1],[],s)):=by
 unfold A08;exact let K0:=(G9 (K9 lf) Tryz.f102);let K1:=(I5 (K9 lf) cl yh b_1111 K0);(Eq.trans (by kernel_rfl) (A0 rfl (A0 (A0 (A0 (A0 (A0 ((h_rnum_j0 K1 s0).trans (congr rfl (fx1 λs'1=>(Eq.trans (by kernel_rfl) ((h_rnum_j1 K0 s'1).trans (by kernel_rfl)))))) (A0 ((h_rnum_j2 K1 s0 ((bAt s0 (1:Int))==88)).trans (congr (congr rfl (fx2 λs'11 base'12=>(Eq.trans (by kernel_rfl) ((h_rnum_j3 K0 s'11 base'12).trans (by kernel_rfl))))) (fx2 λs'13 b'14=>(Eq.trans (by kernel_rfl) ((h_rnum_j4 K0 s'13 b'14).trans (by kernel_rfl)))))) rfl)) rfl) ((h_rnum_j2 K1 s0 false).trans (congr (congr rfl (fx2 λs'25 base'26=>(Eq.trans (by kernel_rfl) ((h_rnum_j3 K0 s'25 base'26).trans (by kernel_rfl))))) (fx2 λs'27 b'28=>(Eq.trans (by kernel_rfl) ((h_rnum_j4 K0 s'27 b'28).trans (by kernel_rfl))))))) rfl) ((h_rnum_j2 K1 s0 false).trans (congr (congr rfl (fx2 λs'33 base'34=>(Eq.trans (by kernel_rfl) ((h_rnum_j3 K0 s'33 base'34).trans (by kernel_rfl))))) (fx2 λs'35 b'36=>(Eq.trans (by kernel_rfl) ((h_rnum_j4 K0 s'35 b'36).trans (by kernel_rfl)))))))))
theorem Bi7 (d:Nat) (s0):evC (K9 lf) (d+1) σ yh 102 [pS s0] [] s=A08 lf s0 (λr0 r1=>some (.tup [pI r0,pB r1],[],s)):=
 (evE (fn:=Tryz.f102) (by kernel_rfl)).trans (Eq.trans (by kernel_rfl) (Bi6 lf (evC (K9 lf) d) yh s (cd [1,1,1,0,1] Y4) (WG lf (evC (K9 lf) d) yh s) (WI lf (evC (K9 lf) d) yh s) (cd [1,1,1,1] Y4) (WH lf (evC (K9 lf) d) yh s) (WJ lf (evC (K9 lf) d) yh s) (WK lf (evC (K9 lf) d) yh s) s0))
noncomputable def Xc (lf:Nat):Cfg:=B8 lf [100] (A4 []) [(53,Wm)] (A4 [(4,[2]),(3,[3]),(2,[3,13]),(1,[3]),(0,[0])]) [] (A4 []) (some [2]) [] [] []
noncomputable def JI {R:Type} (lf:Nat) (s0:By) (k0:LL->Option R):Option R:=cond (A2 s0.length) (vl (H6 (pcs (u8n (46:Int)) s0)) λl'1=>cond (ltI 1 (l'1.length:Int)) (vl (A1 ((l'1.length:Int)-1)) λn'2=>cond (inR n'2 l'1.length) (cond (okE Dh l'1 (Int.toNat n'2) 0) (vl (gX l'1 (Int.toNat n'2) 0) λs'3=>cond (s'3==[]) (vl (A1 ((l'1.length:Int)-1)) λn'4=>cond (O6 0 n'4 l'1.length) (k0 (cut l'1 0 n'4)) none) (k0 l'1)) none) none) (k0 l'1)) none
theorem Aj7 (d:Nat) (s0):evC (Xc lf) (d+1) σ yh 100 [pS s0] [] s=JI lf s0 (λr0=>some (.s (.sl false false 1 r0),[],s)):=by
 refine (evE (fn:=Tryz.f100) (by kernel_rfl)).trans ?_
 generalize evC (Xc lf) d=cl
 unfold JI;kernel_rfl
noncomputable def Lq (lf:Nat):Cfg:=B8 lf [68] (A4 []) [(100,KH),(101,AQ),(102,Ap4)] (A4 [(6,[2]),(5,[4,1]),(4,[2]),(3,[4,11]),(2,[4]),(1,[3]),(0,[0])]) [101,102] (A4 []) (some [2]) [] [] []
noncomputable def Ou {R:Type} (lf:Nat) (s0:By) (k0:Bool->Option R):Option R:=cond (A2 s0.length) (vl (A1 ((↑(List.length (H6 (D8 s0))):Int)-1)) λn'2=>cond (inR n'2 (List.length (H6 (D8 s0)))) (cond (okE Dh (H6 (D8 s0)) (Int.toNat n'2) 0) (vl (gX (H6 (D8 s0)) (Int.toNat n'2) 0) λs'3=>cond (A2 s'3.length) (cond ((not (List.isEmpty s'3))&&(Option.isSome (D9 10 0 s'3))) (k0 true) (cond (A2 s'3.length) (vl (↑(Iz (Y0 s'3)):Int) λn'5=>cond (Option.isSome (Y0 s'3)) (cond (not (ltI (s'3.length:Int) (2:Int))) (cond (inR 1 s'3.length) (cond ((bAt s'3 (1:Int))==120) (k0 true) (cond (inR 1 s'3.length) (k0 ((bAt s'3 (1:Int))==88)) none)) none) (k0 false)) (k0 false)) none)) none) none) none) none
theorem NO (d:Nat) (s0):evC (Lq lf) (d+1) σ yh 68 [pS s0] [] s=Ou lf s0 (λr0=>some (pB r0,[],s)):=by
 refine (evE (fn:=Tryz.f68) (by kernel_rfl)).trans ?_
 generalize evC (Lq lf) d=cl
 unfold Ou;kernel_rfl
noncomputable def Jd {R:Type} (lf n:Nat) (p0:LL) (v1 i2:Int) (k0:Unit->Option R) (k1:Int->Option R):Option R:=match n with | 0=>none | n+1=>cond (ltI i2 (p0.length:Int)) (cond (inR i2 p0.length) (cond (okE Dh p0 (Int.toNat i2) 0) (cond (A2 (List.length (gX p0 (Int.toNat i2) 0))) (vl (↑(Iz (Y0 (gX p0 (Int.toNat i2) 0))):Int) λn'1=>cond (not (Option.isSome (Y0 (gX p0 (Int.toNat i2) 0)))) (k0 ()) (vl (A1 ((p0.length:Int)-1)) λn'7=>cond (i2==n'7) (vl (A1 ((5:Int)-(p0.length:Int))) λn'8=>cond (decide ((0:Int)<=(A1 ((8:Int)*n'8)))) (vl (XI .i64 (1:Int) (A1 ((8:Int)*n'8))) λn'9=>cond (not (ltI n'1 n'9)) (k0 ()) (Jd lf n p0 (A1 (v1+n'1)) (A1 (i2+1)) k0 k1)) none) (cond (ltI 255 n'1) (k0 ()) (vl (A1 ((24:Int)-(A1 ((8:Int)*i2)))) λn'10=>cond (decide ((0:Int)<=n'10)) (vl (A1 (v1+(XI .i64 n'1 n'10))) λn'11=>Jd lf n p0 n'11 (A1 (i2+1)) k0 k1) none)))) none) none) none) (k1 v1)
end
end
section
open Go
theorem Rg (b:UInt8):(48<=b.toNat/\b.toNat<=57/\dig b=b.toNat-48)\/(97<=b.toNat/\b.toNat<=102/\dig b=b.toNat-87)\/(65<=b.toNat/\b.toNat<=70/\dig b=b.toNat-55)\/(¬(48<=b.toNat/\b.toNat<=57)/\¬(97<=b.toNat/\b.toNat<=102)/\¬(65<=b.toNat/\b.toNat<=70)/\dig b=99):=by
 unfold dig
 split
 ·rename_i h;exact .inl ⟨h.1,h.2,rfl⟩
 ·split
  ·rename_i h;exact .inr (.inl ⟨h.1,h.2,rfl⟩)
  ·split
   ·rename_i h;exact .inr (.inr (.inl ⟨h.1,h.2,rfl⟩))
   ·exact .inr (.inr (.inr ⟨by assumption,by assumption,by assumption,rfl⟩))
theorem A14 (m:Nat):(if (1099511627776:Int)<(m:Int) then (1099511627776:Int) else (m:Int))=((min m Ez:Nat):Int):=by
 unfold Ez
 split<;>omega
theorem LG {base:Nat}:∀ {s:By} {n v:Nat},n<=Ez->D9 base n s=some v->v<=Ez
 | [],n,v,h,e=>by simp only [D9,Option.some.injEq] at e;omega
 | b::r,n,v,h,e=>by
  simp only [D9] at e
  split at e
  ·exact LG (by omega) e
  ·cases e
theorem Bf5 {s:By} {v:Nat} (h:Y0 s=some v):v<=Ez:=by
 unfold Y0 at h
 repeat' split at h
 all_goals first | (cases h;done) | exact LG (by unfold Ez;omega) h
theorem Bo4 (a m:Nat) (h:a*2 ^ m<9223372036854775808) (hm:m<=64):XI .i64 (a:Int) (m:Int)=((a*2 ^ m:Nat):Int):=by
 unfold XI
 rw [Int.toNat_natCast,show IntKind.bits .i64=64 from rfl,Nat.min_eq_left hm]
 have:(a:Int)*2 ^ m=((a*2 ^ m:Nat):Int):=by simp
 rw [this]
 exact A5
theorem Jb {c:UInt8} {s:By} (h:c∉s):pcs c s=[s]:=by
 unfold pcs;rw [Bm c s [] h];rfl
theorem Ve {c:UInt8} {p r:By} (h:c∉p):pcs c (p++c::r)=p::pcs c r:=by
 unfold pcs;rw [Tv c p [] r h];rfl
theorem Gy (c:UInt8) (s:By):(pcs c s).length=s.count c+1:=Eg c s []
theorem Ja (c:UInt8) (s:By):pcs c s≠[]:=XK c s []
theorem Kb {c:UInt8} {s x:By} (h:x∈pcs c s):c∉x/\x.length<=s.length:=by
 have:=Jg c s [] (by simp) x h
 simpa using this
theorem Fl (c:UInt8) (s:By):s.count c<=s.length:=List.count_le_length
theorem Eh (c:UInt8):∀ s:By,c∉s\/∃ p r,s=p++c::r/\c∉p
 | []=>.inl (by simp)
 | b::s=>by
  by_cases h:b=c
  ·subst h;exact .inr ⟨[],s,rfl,by simp⟩
  ·rcases Eh c s with h1 | ⟨p,r,rfl,h2⟩
   ·exact .inl (by simp [h1,Ne.symm h])
   ·exact .inr ⟨b::p,r,rfl,by simp [h2,Ne.symm h]⟩
theorem Ls {c:UInt8} {s:By} (h:c∉s):Lib.index s [c] = -1:=by
 rcases Lib.index_spec s [c] with h1 | ⟨i,h1,h2,h3,h4⟩
 ·exact h1.1
 ·exfalso
  simp only [Lib.occAt,List.isPrefixOf_iff_prefix] at h3
  obtain ⟨t,ht⟩:=h3
  have:c∈s.drop i:=by rw [<-ht];simp
  exact h (List.mem_of_mem_drop this)
theorem Rq {c:UInt8} {p r:By} (h:c∉p):Lib.index (p++c::r) [c]=(p.length:Int):=by
 rcases Lib.index_spec (p++c::r) [c] with h1 | ⟨i,h1,h2,h3,h4⟩
 ·exfalso
  have:=h1.2 p.length (by simp)
  simp [Lib.occAt] at this
 ·rw [h1]
  have hi:¬ p.length<i:=by
   intro hlt
   have:=h4 p.length hlt
   simp [Lib.occAt] at this
  have hi2:¬ i<p.length:=by
   intro hlt
   simp only [Lib.occAt,List.isPrefixOf_iff_prefix] at h3
   obtain ⟨t,ht⟩:=h3
   have h5:(p++c::r).drop i=p.drop i++c::r:=by rw [List.drop_append_of_le_length (by omega)]
   rw [h5] at ht
   cases hd:p.drop i with
   | nil=>have:=List.length_drop (i:=i) (l:=p);rw [hd] at this;simp at this;omega
   | cons x y=>
    rw [hd] at ht
    simp at ht
    have:x∈p:=List.mem_of_mem_drop (i:=i) (by rw [hd];simp)
    rw [<-ht.1] at this
    exact h this
  omega
theorem Ah3 (s:By):D8 s≠[]:=by
 unfold D8
 split
 ·rename_i h
  intro e
  have:=congrArg List.length e
  simp at this
  omega
 ·exact Ja _ _
theorem Yt {s x:By} (h:x∈D8 s):x.length<=s.length:=by
 unfold D8 at h
 split at h
 ·exact (Kb ((List.dropLast_sublist _).subset h)).2
 ·exact (Kb h).2
theorem Ly (s:By):1<=(D8 s).length/\(D8 s).length<=s.length+1:=by
 have h1:=List.length_pos_iff.2 (Ah3 s)
 have h2:=Gy 46 s
 have h3:=Fl 46 s
 refine ⟨h1,?_⟩
 unfold D8
 split
 ·rw [List.length_dropLast];omega
 ·omega
theorem Rv (s:By):(D8 s).getD ((D8 s).length-1) []=Az s:=by
 unfold Az
 rw [List.getLastD_eq_getLast?,List.getLast?_eq_getElem?,List.getD_eq_getElem?_getD]
theorem CS (s:By):Az s∈D8 s:=by
 have h:=(Ly s).1
 rw [<-Rv,List.getD_eq_getElem?_getD,List.getElem?_eq_getElem (by omega)]
 exact List.getElem_mem _
theorem Eu {base:Nat}:∀ {s:By} {n i:Nat},i<s.length->base<=dig (s.getD i 0)->D9 base n s=none
 | [],n,i,h,_=>by simp at h
 | b::r,n,0,h,h2=>by
  simp only [List.getD_cons_zero] at h2
  simp only [D9]
  rw [G7]
 | b::r,n,i+1,h,h2=>by
  simp only [List.getD_cons_succ] at h2
  simp only [D9]
  split
  ·exact Eu (i:=i) (by simpa using h) h2
  ·rfl
theorem Rt (s:By):W6 s=true↔s.getD 0 0=48/\(s.getD 1 0=120\/s.getD 1 0=88):=by
 simp [W6]
theorem Ju {s:By} (h:W6 s=true):2<=s.length:=by
 rw [Rt] at h
 match s with
 | []=>simp at h
 | [a]=>simp at h
 | a::b::r=>simp
theorem Ay7 (l:By):(if W6 l then (D9 16 0 (l.drop 2)).isSome else !l.isEmpty&&(D9 10 0 l).isSome) =
  (if (!l.isEmpty&&(D9 10 0 l).isSome)=true then true else (if (Y0 l).isSome=true then decide (2<=l.length)&&(l.getD 1 0==120 || l.getD 1 0==88) else false)):=by
 by_cases hx:W6 l=true
 ·have hl:=Ju hx
  have h1:=(Rt l).1 hx
  have hd:D9 10 0 l=none:=Eu (i:=1) (by omega) (by rcases h1.2 with h | h<;>rw [h]<;>decide)
  have hn:Y0 l=D9 16 0 (l.drop 2):=by
   unfold Y0
   rw [if_neg (by intro e;rw [e] at hl;simp at hl),if_pos hx]
  rw [if_pos hx,hd,hn]
  have h2:(l.getD 1 0==120 || l.getD 1 0==88)=true:=by simpa using h1.2
  rw [h2]
  simp [hl]
 ·rw [if_neg hx]
  cases hc:(!l.isEmpty&&(D9 10 0 l).isSome) with
  | true=>rfl
  | false=>
   rw [if_neg (by simp)]
   cases hn:Y0 l with
   | none=>rfl
   | some v=>
    rw [show (some v).isSome=true from rfl,if_pos rfl]
    symm
    rw [Bool.and_eq_false_iff]
    by_cases h2:2<=l.length
    ·right
     apply Classical.byContradiction
     intro hxx
     have hxx:l.getD 1 0=120\/l.getD 1 0=88:=by
      cases hq:(l.getD 1 0==120 || l.getD 1 0==88) with
      | false=>exact absurd hq hxx
      | true=>simpa using hq
     have h0:¬ l.getD 0 0=48:=λh=>hx ((Rt l).2 ⟨h,hxx⟩)
     have hd:D9 10 0 l=none:=Eu (i:=1) (by omega) (by rcases hxx with h | h<;>rw [h]<;>decide)
     unfold Y0 at hn
     rw [if_neg (by intro e;rw [e] at h2;simp at h2),if_neg hx,if_neg (by intro h;exact h0 h.2),hd] at hn
     cases hn
    ·left;simpa using h2
end
section
open Go Go.Proofs
theorem Ag3 {R:Type} {k0:Bool->Option R} (s p:By) (h0:A2 s.length=true):Be4 LF s p k0=k0 (p.isPrefixOf s):=by
 have:=N8 h0
 unfold Be4
 rw [Ho]
 by_cases h:p.length<=s.length
 ·simp_all
 ·simp (disch:=omega) [h]
theorem Ae0 {R:Type} {k0:Bool->Option R} (s p:By) (h0:A2 s.length=true):MB LF s p k0=k0 (p.isPrefixOf s):=by
 unfold MB;rw [h0];rfl
theorem TP {R:Type} {k0:By->Bool->Option R} (s p:By) (h0:A2 s.length=true):ZG LF s p k0=k0 (Xl s p) (p.isPrefixOf s):=by
 have:=N8 h0
 unfold ZG Xl
 rw [h0]
 cases h:p.isPrefixOf s with
 | false=>simp
 | true=>
  have:p.length<=s.length:=by rw [Ho] at h;simp at h;exact h.1
  simp_all
theorem Ac5 {R:Type} {k0:By->Bool->Option R} (s p:By) (h0:A2 s.length=true):Ba0 LF s p k0=k0 (Xl s p) (p.isPrefixOf s):=by
 unfold Ba0;rw [h0];rfl
theorem OH {R:Type} {k0:LL->Option R} (s p:By) (h0:A2 s.length=true) (h1:(p.length==1)=true):JP LF s p k0=k0 (H6 (pcs (p.getD 0 0) s)):=by
 unfold JP;rw [h0,h1];rfl
theorem Ad7 {R:Type} {k0:Bool->Option R} (s:By) (h0:A2 s.length=true):Bb7 LF s k0=k0 (W6 s):=by
 unfold Bb7
 have key:W6 s=(([48,120]:By).isPrefixOf s || ([48,88]:By).isPrefixOf s):=by
  match s with
  | []=>rfl
  | [a]=>simp [W6,List.isPrefixOf]
  | a::b::r=>
   simp only [W6,List.isPrefixOf,List.getD_cons_zero,List.getD_cons_succ,Bool.and_true]
   rw [BEq.comm (a:=(48:UInt8)),BEq.comm (a:=(120:UInt8)),BEq.comm (a:=(88:UInt8))]
   cases (a==48)<;>simp
 grind
theorem Ac8 {R:Type} {k0:Unit->Option R} {k1:Int->Option R} (s:By) (hs:s.length<=1000000000) (base:Nat) (hb:base<=16):∀ (r i acc n:Nat),i+r=s.length->r<n->acc<=Ez->
  Dq LF n s (base:Int) (acc:Int) (s.length:Int) (i:Int) k0 k1=match D9 base acc (s.drop i) with | some v=>k1 (v:Int) | none=>k0 ():=by
 intro r
 induction r with
 | zero=>
  intro i acc n hi hn ha
  obtain ⟨n,rfl⟩:∃ m,n=m+1:=⟨n-1,by omega⟩
  rw [Dq]
  rw [A7,List.drop_of_length_le (by omega)]
  rfl
 | succ r ih=>
  intro i acc n hi hn ha
  obtain ⟨n,rfl⟩:∃ m,n=m+1:=⟨n-1,by omega⟩
  rw [Dq,L5 s i (by omega)]
  rw [L9]
  have hbt:=(s.getD i 0).toNat_lt
  generalize s.getD i 0=b at *
  have hn1:((i:Int)+1)=((i+1:Nat):Int):=by omega
  have hsat:Ez=1099511627776:=rfl
  have step:∀ d:Nat,d<base->(acc*base+d<100000000000000/\A1 (A1 ((acc:Int)*(base:Int))+(d:Int))=((acc*base+d:Nat):Int)):=by
   intro d hd
   have h1:acc*base<=1099511627776*16:=Nat.mul_le_mul (by omega) (by omega)
   refine ⟨by omega,?_⟩
   have e1:A1 ((acc*base:Nat):Int)=((acc*base:Nat):Int):=A5
   rw [<-Int.natCast_mul,e1,A5]
   rfl
  simp (disch:=omega) only [C6,J6,cond_true,vl,E3,Ng,Nf,Nd]
  rw [hn1]
  simp only [D9]
  rcases Rg b with ⟨h1,h2,e⟩ | ⟨h1,h2,e⟩ | ⟨h1,h2,e⟩ | ⟨h1,h2,h3,e⟩
  ·have e2:wu8 ((b.toNat:Int)-48)=((dig b:Nat):Int):=by rw [Y3];omega
   simp (disch:=omega) only [C6,E5,Bool.not_true,Bool.not_false,cond_false,cond_true,e2,E3]
   by_cases hd:dig b<base
   ·rw [if_pos hd,A9,(step _ hd).2,A14]
    exact ih (i+1) _ n (by omega) (by omega) (by omega)
   ·rw [if_neg hd,A7];rfl
  ·have e2:wu8 ((b.toNat:Int)-97)+10=((dig b:Nat):Int):=by rw [Y3];omega
   have e3:wu8 ((b.toNat:Int)-97)=((b.toNat:Int)-97):=Y3
   rw [e3] at e2
   simp (disch:=omega) only [C6,E5,Bool.not_true,Bool.not_false,cond_false,cond_true,e3,E3,e2]
   by_cases hd:dig b<base
   ·rw [if_pos hd,A9,(step _ hd).2,A14]
    exact ih (i+1) _ n (by omega) (by omega) (by omega)
   ·rw [if_neg hd,A7];rfl
  ·have e2:wu8 ((b.toNat:Int)-65)+10=((dig b:Nat):Int):=by rw [Y3];omega
   have e3:wu8 ((b.toNat:Int)-65)=((b.toNat:Int)-65):=Y3
   rw [e3] at e2
   simp (disch:=omega) only [C6,E5,Bool.not_true,Bool.not_false,cond_false,cond_true,e3,E3,e2]
   by_cases hd:dig b<base
   ·rw [if_pos hd,A9,(step _ hd).2,A14]
    exact ih (i+1) _ n (by omega) (by omega) (by omega)
   ·rw [if_neg hd,A7];rfl
  ·rw [if_neg (show ¬ dig b<base by omega)]
   by_cases c1:b.toNat<48
   ·simp (disch:=omega) only [C6,E5,Bool.not_true,Bool.not_false,cond_false,cond_true]
   ·by_cases c2:b.toNat<65
    ·simp (disch:=omega) only [C6,E5,Bool.not_true,Bool.not_false,cond_false,cond_true]
    ·by_cases c3:b.toNat<97
     ·simp (disch:=omega) only [C6,E5,Bool.not_true,Bool.not_false,cond_false,cond_true]
     ·simp (disch:=omega) only [C6,E5,Bool.not_true,Bool.not_false,cond_false,cond_true]
theorem Ac9 {R:Type} {k0:Int->Bool->Option R} (s:By) (base:Int) (h0:A2 s.length=true) (h1:ltN base 17=true):Av0 LF s base k0=k0 (Iz (D9 base.toNat 0 s):Int) (D9 base.toNat 0 s).isSome:=by
 have hs:=N8 h0
 have:=E8
 obtain ⟨hb0,hb1⟩:=I3.1 h1
 obtain ⟨bn,rfl⟩:=Int.eq_ofNat_of_zero_le hb0
 unfold Av0
 have:=Ac8 (k0:=λ_=>k0 0 false) (k1:=λn=>k0 n true) s hs bn (by omega) s.length 0 0 LF (by omega) (by omega) (by unfold Ez;omega)
 refine Eq.trans this ?_
 rw [List.drop_zero,Int.toNat_natCast]
 cases D9 bn 0 s<;>rfl
theorem Ay6 {R:Type} {k0:Int->Bool->Option R} (s:By) (h0:A2 s.length=true):num LF s k0=k0 (Iz (Y0 s):Int) (Y0 s).isSome:=by
 have hs:=N8 h0
 unfold num Y0
 rw [h0]
 by_cases h1:s=[]
 ·subst h1;rfl
 have h1':(s==([]:By))=false:=by simpa using h1
 have hl:0<s.length:=List.length_pos_iff.2 h1
 rw [if_neg h1,h1']
 simp only [cond_true,cond_false,vl]
 cases hx:W6 s with
 | true=>
  have:=Ju hx
  simp (disch:=first | omega | (simp;omega)) only [cond_true,if_true,U4,M7,I9,ZQ]
  rfl
 | false=>
  simp only [cond_false,Bool.false_eq_true,if_false]
  have hd:(D9 10 0 s)=D9 10 0 s:=rfl
  by_cases h2:1<s.length
  ·simp (disch:=omega) only [C6,J6,cond_true,Ia,h2,true_and]
   have e:=U5 (s.getD 0 0) 48 (by omega)
   rw [show ((48:Nat):Int)=48 from rfl] at e
   rw [e]
   by_cases h3:s.getD 0 0=48
   ·rw [if_pos h3,h3,show ((48:UInt8)==UInt8.ofNat 48)=true from rfl]
    simp (disch:=first | omega | (simp;omega)) only [U4,M7,I9,ZQ,cond_true]
    rfl
   ·rw [if_neg h3,show (s.getD 0 0==UInt8.ofNat 48)=false from beq_eq_false_iff_ne.2 h3]
    rfl
  ·rw [A7,G7]
   rfl
theorem IQ {R:Type} {k0:Bool->Option R} (s:By) (h0:A2 s.length=true):Vc LF s k0=k0 (N5 s):=by
 have hs:=N8 h0
 have hp:=Ly s
 have hm:=Yt (CS s)
 have hg:=Rv s
 have e1:((D8 s).length:Int)-1=(((D8 s).length-1:Nat):Int):=by omega
 unfold Vc N5
 rw [h0]
 simp (disch:=omega) only [cond_true,vl,N0,e1,E3,J6,Int.toNat_natCast,Cy,Gq,hg,I9]
 cases hx:W6 (Az s) with
 | true=>
  have:=Ju hx
  have hn:Y0 (Az s)=D9 16 0 ((Az s).drop 2):=by
   unfold Y0
   grind
  simp [hn]
 | false=>
  simp only [cond_false,Bool.false_eq_true,if_false]
  cases D9 10 0 (Az s) with
  | none=>simp
  | some v=>cases Az s<;>rfl
theorem AG {R:Type} {k0:Bool->Option R} (s:By) (h0:A2 s.length=true):Ou LF s k0=k0 (N5 s):=by
 have hs:=N8 h0
 have hp:=Ly s
 have hm:=Yt (CS s)
 have hg:=Rv s
 have e1:((D8 s).length:Int)-1=(((D8 s).length-1:Nat):Int):=by omega
 unfold Ou N5
 rw [h0,Ay7]
 simp (disch:=omega) only [cond_true,vl,N0,e1,E3,J6,Int.toNat_natCast,Cy,Gq,hg,I9]
 generalize Az s=l at *
 cases (!l.isEmpty&&(D9 10 0 l).isSome) with
 | true=>rfl
 | false=>
  simp only [cond_false,Bool.false_eq_true,if_false]
  cases Y0 l with
  | none=>rfl
  | some v=>
   simp only [Option.isSome_some,cond_true,if_true,YS]
   by_cases h2:2<=l.length
   ·simp (disch:=omega) only [E5,J6,Bool.not_false,cond_true,h2,decide_true,Bool.true_and]
    have ea:=U5 (l.getD 1 0) 120 (by omega)
    have eb:=U5 (l.getD 1 0) 88 (by omega)
    grind
   ·rw [A9]
    simp [h2]
theorem By3 (s:By) (a b:Nat) (h:a<=b) (hb:b<s.length):cut s (a:Int) ((b+1:Nat):Int)=cut s (a:Int) (b:Int)++[s.getD b 0]:=by
 rw [Nc,Nc,Al6 s b hb,List.drop_append_of_le_length (by rw [List.length_take];omega)]
theorem Au8 (s:By) (a:Nat):cut s (a:Int) (a:Int)=[]:=by
 rw [Nc]
 grind
theorem NX {R:Type} {k0:LL->Option R} (s:By) (hs:s.length<=1000000000) (c:UInt8):∀ (r i fr n:Nat) (l:List By),i+r=s.length->r+1<n->fr<=i->l.length<=i->
  P4 LF n s (c.toNat:Int) (fr:Int) (i:Int) (H6 l) k0=k0 (H6 (l++G5 c (cut s (fr:Int) (i:Int)) (s.drop i))):=by
 intro r
 induction r with
 | zero=>
  intro i fr n l hi hn hf hl
  obtain ⟨n,rfl⟩:∃ m,n=m+1:=⟨n-1,by omega⟩
  obtain ⟨n,rfl⟩:∃ m,n=m+1:=⟨n-1,by omega⟩
  have hi':i=s.length:=by omega
  subst hi'
  rw [P4]
  simp (disch:=omega) only [E5,Bool.not_false,cond_true,beq_self_eq_true,U4,N0,G1,E3]
  rw [P4]
  rw [A9,List.drop_length]
  simp only [Bool.not_true,cond_false,G5,Zn]
  rfl
 | succ r ih=>
  intro i fr n l hi hn hf hl
  obtain ⟨n,rfl⟩:∃ m,n=m+1:=⟨n-1,by omega⟩
  rw [P4]
  have hn1:((i:Int)+1)=((i+1:Nat):Int):=by omega
  have hne:((i:Int)==(s.length:Int))=false:=by rw [beq_eq_false_iff_ne];omega
  simp (disch:=omega) only [E5,Bool.not_false,cond_true,cond_false,hne,J6,L9,Bo7,U4,N0,G1,E3]
  rw [hn1,L5 s i (by omega)]
  simp only [G5]
  by_cases h:s.getD i 0=c
  ·rw [show (s.getD i 0==c)=true by simpa using h,if_pos h,cond_true]
   have:=ih (i+1) (i+1) n (l++[cut s (fr:Int) (i:Int)]) (by omega) (by omega) (by omega) (by simp<;>omega)
   rw [Zn] at this
   refine Eq.trans this ?_
   rw [Au8]
   simp
  ·rw [show (s.getD i 0==c)=false from beq_eq_false_iff_ne.2 h,if_neg h,cond_false]
   rw [ih (i+1) fr n l (by omega) (by omega) (by omega) (by omega),By3 s fr i hf (by omega)]
theorem XC {R:Type} {k0:LL->Option R} (s:By) (c:Int) (h0:A2 s.length=true) (h1:inR c 256=true):Zf LF s c k0=k0 (H6 (pcs (u8n c) s)):=by
 have hs:=N8 h0
 have:=E8
 simp only [inR,Bool.and_eq_true,decide_eq_true_eq] at h1
 have hc:c=((u8n c).toNat:Int):=by
  unfold u8n
  simp
  omega
 unfold Zf
 generalize u8n c=b at *
 subst hc
 have:=NX (k0:=k0) s hs b s.length 0 0 LF [] (by omega) (by omega) (by omega) (by simp)
 refine Eq.trans this ?_
 rw [Au8]
 rfl
theorem OJ (c:UInt8) (s:By):(H6 (pcs c s)).isEmpty=false:=by
 cases h:pcs c s with
 | nil=>exact absurd h (Ja c s)
 | cons a r=>rfl
theorem NY (s:By) (c:Int) (h0:A2 s.length=true) (h1:inR c 256=true):∃ r H,Zf LF s c (λl=>rv (.fl 0) [.arr true 9 1 l])=rv r H/\r.stab [1] H = .s (.sl false false 1 (H6 (pcs (u8n c) s))):=by
 refine ⟨_,_,XC s c h0 h1,?_⟩
 simp [PV.stab,Rm,PV.snap,OJ]
theorem A15 (d:List By) (x:By) (m:Nat):List.set (H6 (d++List.replicate (m+1) [])) d.length (F1 (List.getD (H6 (d++List.replicate (m+1) [])) d.length []) 0 [SV.str x])=H6 ((d++[x])++List.replicate m []):=by
 have hg:List.getD (H6 (d++List.replicate (m+1) [])) d.length []=[SV.str []]:=by
  unfold H6
  grind
 rw [hg]
 simp only [F1,List.set_cons_zero,Zn]
 rw [show d.length=(H6 d).length by simp,List.set_append_right _ _ (by omega),Nat.sub_self,List.replicate_succ]
 simp [H6]
theorem LZ {R:Type} {k0:By->Int->LL->Option R} (c:UInt8):∀ (m n:Nat) (s:By) (d:List By),s.length<=1000000000->m=s.count c->d.length+m<=1000000000->m<n->
  ∃ (d':List By) (s':By),pcs c s=d'++[s']/\s'.length<=s.length/\V0 LF n s [c] 0 ((d.length+m:Nat):Int) (d.length:Int) (H6 (d++List.replicate (m+1) [])) k0=k0 s' ((d.length+m:Nat):Int) (H6 ((d++d')++[[]])):=by
 intro m
 induction m with
 | zero=>
  intro n s d hs hm hd hn
  obtain ⟨n,rfl⟩:∃ m,n=m+1:=⟨n-1,by omega⟩
  have hc:c∉s:=List.count_eq_zero.1 hm.symm
  refine ⟨[],s,Jb hc,Nat.le_refl _,?_⟩
  rw [V0]
  rw [A7]
  simp
 | succ m ih=>
  intro n s d hs hm hd hn
  obtain ⟨n,rfl⟩:∃ m,n=m+1:=⟨n-1,by omega⟩
  rcases Eh c s with hc | ⟨p,r,rfl,hc⟩
  ·rw [List.count_eq_zero.2 hc] at hm;omega
  ·have hm':m=r.count c:=by
    rw [List.count_append,List.count_cons,List.count_eq_zero.2 hc] at hm
    simp at hm
    omega
   simp only [List.length_append,List.length_cons] at hs
   obtain ⟨d',s',h1,h2,h3⟩:=ih n r (d++[p]) (by omega) hm' (by simp<;>omega) (by omega)
   refine ⟨p::d',s',by rw [Ve hc,h1];rfl,by simp<;>omega,?_⟩
   rw [V0]
   have e1:((p.length:Int)+1)=((p.length+1:Nat):Int):=by omega
   have e2:(d.length:Int)+1=((d.length+1:Nat):Int):=by omega
   have e3:((p.length+1:Nat):Int).toNat=p.length+1:=by omega
   have e4:(((p++c::r).length:Nat):Int)=((p.length+(r.length+1):Nat):Int):=by simp
   have e5:(p++c::r).take p.length=p:=List.take_left' rfl
   have e6:(p++c::r).drop (p.length+1)=r:=by
    rw [show p++c::r=(p++[c])++r by simp,List.drop_left' (by simp)]
   rw [Rq hc]
   have el:(H6 (d++List.replicate (m+1+1) [])).length=d.length+(m+2):=by simp<;>omega
   simp (disch:=first | omega | (simp;omega)) only [C6,E5,I9,cond_true,cond_false,vl,Int.add_zero,E3,U4,J6,el,Int.toNat_natCast,List.length_singleton,M7,Ai,e5,A15]
   rw [decide_eq_true (show d.length<d.length+(m+2) by omega),cond_true,show ((1:Nat):Int)=1 from rfl,e1]
   simp (disch:=first | omega | (simp;omega)) only [E3,U4,cond_true,M7,e3,e6,e2]
   have h3':((((d++[p]).length+m:Nat):Int))=((d.length+(m+1):Nat):Int):=by simp<;>omega
   have h4':(((d++[p]).length:Nat):Int)=((d.length+1:Nat):Int):=by simp
   rw [h3',h4'] at h3
   rw [h3]
   simp
theorem TD {R:Type} {k0:Unit->Option R} {k1:Nat->LL->Option R} (s p:By) (v n:Int) (h0:A2 s.length=true) (h1:(p.length==1)=true) (h2:(v==0)=true) (h3:(n==(-1))=true) :
  Xv LF s p v n k0 k1=k1 (pcs (p.getD 0 0) s).length (H6 (pcs (p.getD 0 0) s)):=by
 have hs:=N8 h0
 have:=E8
 obtain ⟨c,rfl⟩:∃ c,p=[c]:=by
  match p,h1 with
  | [c],_=>exact ⟨c,rfl⟩
 have:v=0:=by simpa using h2
 subst this
 have:n = -1:=by simpa using h3
 subst this
 have hc:=Fl c s
 have hpl:=Gy c s
 obtain ⟨d',s',g1,g2,g3⟩:=LZ (R:=R) (k0:=λs'14 i'15 l'16=>cond (inR i'15 (List.length l'16))
     (cond (decide ((Int.toNat i'15)<(List.length l'16)))
      (vl (A1 (i'15+(1))) λn'17=>
      cond (O6 (0) n'17 (List.length (List.set l'16 (Int.toNat i'15) (F1 (List.getD l'16 (Int.toNat i'15) []) 0 [(SV.str s'14)]))))
       (k1 ((Int.toNat n'17)-0) (List.set l'16 (Int.toNat i'15) (F1 (List.getD l'16 (Int.toNat i'15) []) 0 [(SV.str s'14)])))
       (none))
      (none))
     (none)) c (s.count c) LF s [] hs rfl (by simp<;>omega) (by omega)
 unfold Xv
 have e1:A1 ((s.count c:Int)+1)=((s.count c+1:Nat):Int):=A5
 have e2:A1 ((s.length:Int)+1)=((s.length+1:Nat):Int):=A5
 have e3:(if ((s.length+1:Nat):Int)<((s.count c+1:Nat):Int) then ((s.length+1:Nat):Int) else ((s.count c+1:Nat):Int))=((s.count c+1:Nat):Int):=G7
 have e4:((s.count c+1:Nat):Int)-1=(s.count c:Int):=by omega
 have e5:(List.replicate (s.count c+1) [SV.str ([]:By)])=H6 ([]++List.replicate (s.count c+1) []):=by simp [H6]
 simp only [List.getD_cons_zero,vl,List.length_singleton,e1,e2,e3,Int.toNat_natCast,e5]
 rw [show ((-1:Int)==0)=false from rfl,show ([c]==([]:By))=false from rfl,show ltI (-1) 0=true from rfl,decide_eq_true (show (0:Int)<=((s.count c+1:Nat):Int) by omega),decide_eq_true (show ((s.count c+1:Nat):Int)<=((s.count c+1:Nat):Int) by omega),G1 (by omega),e4,A5]
 simp only [cond_true,cond_false,beq_self_eq_true,Bool.and_self]
 simp only [List.length_nil,Nat.zero_add] at g3
 refine Eq.trans g3 ?_
 have e6:(H6 ((([]:List By)++d')++[[]]))=H6 (d'++List.replicate (0+1) []):=by simp
 have hd:d'.length=s.count c:=by grind
 have e7:=A15 d' s' 0
 rw [<-hd,e6]
 have el:(H6 (d'++List.replicate (0+1) ([]:By))).length=d'.length+1:=by simp
 have e8:A1 ((d'.length:Int)+1)=((d'.length+1:Nat):Int):=A5
 simp only [Int.toNat_natCast,e7,el,vl,e8]
 rw [L1,decide_eq_true (show d'.length<d'.length+1 by omega),U4 (by omega) (by omega) (by simp),g1]
 simp
theorem MA (s p:By) (v n:Int) (h0:A2 s.length=true) (h1:(p.length==1)=true) (h2:(v==0)=true) (h3:(n==(-1))=true) :
  ∃ r H,Xv LF s p v n (λ_=>rv (.fl 0) [.arr true 9 1 []]) (λi l=>rv (.vw 0 0 i) [.arr false 9 1 l])=rv r H/\r.stab [1] H = .s (.sl false false 1 (H6 (pcs (p.getD 0 0) s))):=by
 refine ⟨_,_,TD s p v n h0 h1 h2 h3,?_⟩
 simp [PV.stab,Rm,PV.snap,List.take_of_length_le]
theorem Bz6 {l:List By} {i:Nat} (h:i<l.length):l.getD i []∈l:=by grind
theorem UP {R:Type} {k0:LL->Option R} (s:By) (h0:A2 s.length=true):parts LF s k0=k0 (H6 (D8 s)):=by
 have hs:=N8 h0
 have hpl:=Gy 46 s
 have hc:=Fl 46 s
 unfold parts
 rw [h0]
 have e1:A1 (((pcs 46 s).length:Int)-1)=(((pcs 46 s).length-1:Nat):Int):=by rw [A5];omega
 simp only [cond_true,vl,List.getD_cons_zero,show ((1:Nat)==1)=true from rfl,N0,e1,Int.toNat_natCast]
 by_cases h1:1<(pcs 46 s).length
 ·rw [A9,L1,Cy (by omega),Gq]
  have hg:(pcs 46 s).getD ((pcs 46 s).length-1) []=(pcs 46 s).getLastD []:=by grind
  rw [hg]
  by_cases h2:(pcs 46 s).getLastD []=[]
  ·rw [h2,show (([]:By)==[])=true from rfl,Q1]
   have:D8 s=(pcs 46 s).dropLast:=by unfold D8;rw [if_pos ⟨h1,h2⟩]
   rw [this,List.dropLast_eq_take,Ai,Int.toNat_natCast]
   simp [H6]
  ·rw [show ((pcs 46 s).getLastD []==[])=false from beq_eq_false_iff_ne.2 h2]
   have:D8 s=pcs 46 s:=by unfold D8;rw [if_neg (λh=>h2 h.2)]
   grind
 ·rw [A7]
  have:D8 s=pcs 46 s:=by unfold D8;rw [if_neg (λh=>h1 h.1)]
  grind
theorem NP {R:Type} {k0:LL->Option R} (s:By) (h0:A2 s.length=true):JI LF s k0=k0 (H6 (D8 s)):=by
 have hs:=N8 h0
 have hpl:=Gy 46 s
 have hc:=Fl 46 s
 unfold JI
 rw [h0]
 have e1:A1 (((pcs 46 s).length:Int)-1)=(((pcs 46 s).length-1:Nat):Int):=by rw [A5];omega
 simp only [cond_true,vl,show u8n 46=46 from rfl,N0,e1,Int.toNat_natCast]
 by_cases h1:1<(pcs 46 s).length
 ·rw [A9,L1,Cy (by omega),Gq]
  have hg:(pcs 46 s).getD ((pcs 46 s).length-1) []=(pcs 46 s).getLastD []:=by grind
  rw [hg]
  by_cases h2:(pcs 46 s).getLastD []=[]
  ·rw [h2,show (([]:By)==[])=true from rfl,Q1]
   have:D8 s=(pcs 46 s).dropLast:=by unfold D8;rw [if_pos ⟨h1,h2⟩]
   rw [this,List.dropLast_eq_take,Ai,Int.toNat_natCast]
   simp [H6]
  ·rw [show ((pcs 46 s).getLastD []==[])=false from beq_eq_false_iff_ne.2 h2]
   have:D8 s=pcs 46 s:=by unfold D8;rw [if_neg (λh=>h2 h.2)]
   grind
 ·rw [A7]
  have:D8 s=pcs 46 s:=by unfold D8;rw [if_neg (λh=>h1 h.1)]
  grind
theorem Az4 (l:List By) (i:Nat) (h:i<l.length):l.drop i=l.getD i []::l.drop (i+1):=by simp_all
theorem Bs8 {R:Type} {k0:Unit->Option R} {k1:Int->Option R} (l:List By) (hm1:1<=l.length) (hm:l.length<=4) (hl:∀ x∈l,x.length<=1000000000):∀ (r i v n:Nat),i+r=l.length->0<r->r<n->v<256 ^ i->
  Jd LF n (H6 l) ((v*2 ^ (32-8*i):Nat):Int) (i:Int) k0 k1=match Bs5 (8*(5-l.length)) v (l.drop i) with | some w=>k1 (w:Int) | none=>k0 ():=by
 intro r
 induction r with
 | zero=>intro i v n _ h;omega
 | succ r ih=>
  intro i v n hi _ hn hv
  obtain ⟨n,rfl⟩:∃ m,n=m+1:=⟨n-1,by omega⟩
  rw [Jd,Az4 l i (by omega)]
  have hx:=hl _ (Bz6 (show i<l.length by omega))
  have hsat:Ez=1099511627776:=rfl
  have hvb:v*2 ^ (32-8*i)<4294967296:=by
   have:i=0\/i=1\/i=2\/i=3:=by omega
   rcases this with rfl | rfl | rfl | rfl
   all_goals omega
  simp (disch:=omega) only [C6,N0,J6,cond_true,Int.toNat_natCast,Cy,Gq,I9,vl]
  simp only [Bs5]
  have hn1:((i:Int)+1)=((i+1:Nat):Int):=by omega
  cases hq:Y0 (l.getD i []) with
  | none=>rfl
  | some q=>
   have hql:=Bf5 hq
   have ep:A1 ((l.length:Int)-1)=((l.length-1:Nat):Int):=by rw [A5];omega
   simp only [Option.isSome_some,Bool.not_true,cond_false,Iz,Option.getD_some,ep]
   by_cases hr:r=0
   ·subst hr
    have hd:l.drop (i+1)=[]:=List.drop_of_length_le (by omega)
    have ef:A1 (8*A1 (5-(l.length:Int)))=((8*(5-l.length):Nat):Int):=by
     rw [E3 (n:=5-(l.length:Int)) (by omega) (by omega),A5];omega
    have hfp:2 ^ (8*(5-l.length))*256 ^ i=4294967296:=by
     have:l.length=1\/l.length=2\/l.length=3\/l.length=4:=by omega
     grind
    have hf1:1*2 ^ (8*(5-l.length))<=4294967296:=by
     rw [<-hfp,Nat.one_mul]
     exact Nat.le_mul_of_pos_right _ (Nat.pow_pos (by omega))
    have he:((i:Int)==((l.length-1:Nat):Int))=true:=by rw [beq_iff_eq];omega
    rw [hd,he,ef,decide_eq_true (show (0:Int)<=((8*(5-l.length):Nat):Int) by omega)]
    simp only [cond_true]
    have s1:=Bo4 1 (8*(5-l.length)) (by omega) (by omega)
    rw [show ((1:Nat):Int)=1 from rfl] at s1
    rw [s1,Nat.one_mul]
    by_cases hc:q<2 ^ (8*(5-l.length))
    ·rw [A9,if_pos hc]
     simp only [Bool.not_true,cond_false]
     obtain ⟨n,rfl⟩:∃ m,n=m+1:=⟨n-1,by omega⟩
     rw [Jd]
     rw [hn1,E3 (n:=((i+1:Nat):Int)) (by omega) (by omega),N0,A7]
     have:32-8*i=8*(5-l.length):=by omega
     rw [this] at hvb ⊢
     rw [cond_false,A5]
     rfl
    ·rw [A7,if_neg hc];rfl
   ·obtain ⟨y,z,hyz⟩:∃ y z,l.drop (i+1)=y::z:=⟨_,_,Az4 l (i+1) (by omega)⟩
    have he:((i:Int)==((l.length-1:Nat):Int))=false:=by rw [beq_eq_false_iff_ne];omega
    rw [hyz,he]
    simp only [cond_false]
    by_cases hc:q<=255
    ·have e1:A1 (24-A1 (8*(i:Int)))=((24-8*i:Nat):Int):=by
      rw [E3 (n:=8*(i:Int)) (by omega) (by omega),A5];omega
     have hqb:q*2 ^ (24-8*i)<4294967296:=by
      have:i=0\/i=1\/i=2:=by omega
      clear hvb
      rcases this with rfl | rfl | rfl
      ·show q*16777216<_;omega
      ·show q*65536<_;omega
      ·show q*256<_;omega
     have s2:=Bo4 q (24-8*i) (by omega) (by omega)
     rw [A7,if_pos hc,e1,decide_eq_true (show (0:Int)<=((24-8*i:Nat):Int) by omega),s2,hn1,E3 (n:=((i+1:Nat):Int)) (by omega) (by omega)]
     have e2:A1 (((v*2 ^ (32-8*i):Nat):Int)+((q*2 ^ (24-8*i):Nat):Int))=(((v*256+q)*2 ^ (32-8*(i+1)):Nat):Int):=by
      rw [A5]
      have:i=0\/i=1\/i=2:=by omega
      clear hvb hqb s2 e1
      rcases this with rfl | rfl | rfl
      ·show ((v*4294967296:Nat):Int)+((q*16777216:Nat):Int)=(((v*256+q)*16777216:Nat):Int);omega
      ·show ((v*16777216:Nat):Int)+((q*65536:Nat):Int)=(((v*256+q)*65536:Nat):Int);omega
      ·show ((v*65536:Nat):Int)+((q*256:Nat):Int)=(((v*256+q)*256:Nat):Int);omega
     rw [e2,<-hyz]
     exact ih (i+1) _ n (by omega) (by omega) (by omega) (by rw [Nat.pow_succ];omega)
    ·rw [A9,if_neg hc];rfl
theorem JC {R:Type} {k0:Unit->Option R} {k1:By->Option R} (s:By) (hs:s.length<=1000000000):∀ (r i n v:Nat),i+r=s.length->r<n->U2 LF n s (i:Int) k0 k1=if (D9 10 v (s.drop i)).isSome then k1 s else k0 ():=by
 intro r
 induction r with
 | zero=>
  intro i n v hi hn
  obtain ⟨n,rfl⟩:∃ m,n=m+1:=⟨n-1,by omega⟩
  rw [U2]
  rw [A7,List.drop_of_length_le (by omega)]
  rfl
 | succ r ih=>
  intro i n v hi hn
  obtain ⟨n,rfl⟩:∃ m,n=m+1:=⟨n-1,by omega⟩
  rw [U2,L5 s i (by omega)]
  rw [L9]
  have hbt:=(s.getD i 0).toNat_lt
  generalize s.getD i 0=b at *
  have hn1:((i:Int)+1)=((i+1:Nat):Int):=by omega
  simp (disch:=omega) only [C6,J6,cond_true,E3]
  simp only [D9]
  rw [hn1,ih (i+1) n (min (v*10+dig b) Ez) (by omega) (by omega)]
  rcases Rg b with ⟨h1,h2,e⟩ | ⟨h1,h2,e⟩ | ⟨h1,h2,e⟩ | ⟨h1,h2,h3,e⟩
  ·simp only [if_pos (show dig b<10 by omega)];rw [A7,A7];rfl
  ·simp only [if_neg (show ¬ dig b<10 by omega)];rw [A7,A9];rfl
  ·simp only [if_neg (show ¬ dig b<10 by omega)];rw [A7,A9];rfl
  ·simp only [if_neg (show ¬ dig b<10 by omega)]
   by_cases c:b.toNat<48
   ·rw [A9];rfl
   ·rw [A7,A9];rfl
theorem JD {R:Type} {k0:Bool->Option R} (s:By) (h0:A2 s.length=true):Vg LF s k0=k0 (!s.isEmpty&&(D9 10 0 s).isSome):=by
 have hs:=N8 h0
 have:=E8
 unfold Vg
 refine Eq.trans (JC s hs s.length 0 LF 0 (by omega) (by omega)) ?_
 rw [List.drop_zero]
 cases hd:D9 10 0 s with
 | none=>simp
 | some v=>cases s<;>rfl
theorem Ai8 {R:Type} {k0:Int->Option R} (b:Int) (h0:inR b 256=true):A01 LF b k0=k0 (dig (u8n b):Int):=by
 simp only [inR,Bool.and_eq_true,decide_eq_true_eq] at h0
 have hc:b=((u8n b).toNat:Int):=by
  unfold u8n
  simp
  omega
 generalize u8n b=c at *
 subst hc
 have hbt:=c.toNat_lt
 unfold A01
 simp only [Ot,Oq,vl]
 rcases Rg c with ⟨h1,h2,e⟩ | ⟨h1,h2,e⟩ | ⟨h1,h2,e⟩ | ⟨h1,h2,h3,e⟩
 ·have e2:A1 (wu8 ((c.toNat:Int)-48))=((dig c:Nat):Int):=by
   rw [Y3,A5];omega
  simp (disch:=omega) only [C6,E5,Bool.not_true,Bool.not_false,cond_false,cond_true,e2]
 ·have e2:A1 (A1 (wu8 ((c.toNat:Int)-97))+10)=((dig c:Nat):Int):=by
   rw [Y3,E3 (n:=(c.toNat:Int)-97) (by omega) (by omega),A5];omega
  simp (disch:=omega) only [C6,E5,Bool.not_true,Bool.not_false,cond_false,cond_true,e2]
 ·have e2:A1 (A1 (wu8 ((c.toNat:Int)-65))+10)=((dig c:Nat):Int):=by
   rw [Y3,E3 (n:=(c.toNat:Int)-65) (by omega) (by omega),A5];omega
  simp (disch:=omega) only [C6,E5,Bool.not_true,Bool.not_false,cond_false,cond_true,e2]
 ·rw [e]
  by_cases c1:c.toNat<48
  ·simp (disch:=omega) only [C6,E5,Bool.not_true,Bool.not_false,cond_false,cond_true]
   rfl
  ·by_cases c2:c.toNat<65
   ·simp (disch:=omega) only [C6,E5,Bool.not_true,Bool.not_false,cond_false,cond_true]
    rfl
   ·by_cases c3:c.toNat<97
    ·simp (disch:=omega) only [C6,E5,Bool.not_true,Bool.not_false,cond_false,cond_true]
     rfl
    ·simp (disch:=omega) only [C6,E5,Bool.not_true,Bool.not_false,cond_false,cond_true]
     rfl
theorem NN {R:Type} {k0:Unit->Option R} {k1:Int->Option R} (s:By) (hs:s.length<=1000000000):∀ (r i acc n:Nat),i+r=s.length->r<n->acc<=Ez->
  Ed LF n s (acc:Int) (i:Int) k0 k1=match D9 16 acc (s.drop i) with | some v=>k1 (v:Int) | none=>k0 ():=by
 intro r
 induction r with
 | zero=>
  intro i acc n hi hn ha
  obtain ⟨n,rfl⟩:∃ m,n=m+1:=⟨n-1,by omega⟩
  rw [Ed]
  rw [A7,List.drop_of_length_le (by omega)]
  rfl
 | succ r ih=>
  intro i acc n hi hn ha
  obtain ⟨n,rfl⟩:∃ m,n=m+1:=⟨n-1,by omega⟩
  rw [Ed,L5 s i (by omega)]
  rw [L9,Vn,A33]
  generalize s.getD i 0=b at *
  have hn1:((i:Int)+1)=((i+1:Nat):Int):=by omega
  have hsat:Ez=1099511627776:=rfl
  simp (disch:=omega) only [C6,J6,cond_true,vl,E3]
  simp only [D9]
  rw [hn1]
  by_cases hd:dig b<16
  ·have e1:A1 (A1 ((acc:Int)*16)+(dig b:Int))=((acc*16+dig b:Nat):Int):=by
    rw [E3 (n:=(acc:Int)*16) (by omega) (by omega),A5];simp
   rw [if_pos hd,A9]
   simp (disch:=omega) only [E3,Bool.not_true,cond_false] at e1 ⊢
   rw [e1,A14]
   exact ih (i+1) _ n (by omega) (by omega) (by omega)
  ·rw [if_neg hd,A7];rfl
theorem WM {R:Type} {k0:Unit->Option R} {k1:Int->Option R} (s:By) (hs:s.length<=1000000000) (base:Nat) (hb:base<=16):∀ (r i acc n:Nat),i+r=s.length->r<n->acc<=Ez->
  Bi LF n s (base:Int) (acc:Int) (i:Int) k0 k1=match D9 base acc (s.drop i) with | some v=>k1 (v:Int) | none=>k0 ():=by
 intro r
 induction r with
 | zero=>
  intro i acc n hi hn ha
  obtain ⟨n,rfl⟩:∃ m,n=m+1:=⟨n-1,by omega⟩
  rw [Bi]
  rw [A7,List.drop_of_length_le (by omega)]
  rfl
 | succ r ih=>
  intro i acc n hi hn ha
  obtain ⟨n,rfl⟩:∃ m,n=m+1:=⟨n-1,by omega⟩
  rw [Bi,L5 s i (by omega)]
  rw [L9,Vn,A33]
  generalize s.getD i 0=b at *
  have hn1:((i:Int)+1)=((i+1:Nat):Int):=by omega
  have hsat:Ez=1099511627776:=rfl
  simp only [D9,vl]
  rw [A9,L1,hn1,E3 (n:=((i+1:Nat):Int)) (by omega) (by omega)]
  simp only [cond_true]
  by_cases hd:dig b<base
  ·have h1:acc*base<=1099511627776*16:=Nat.mul_le_mul (by omega) (by omega)
   have e0:A1 ((acc:Int)*(base:Int))=((acc*base:Nat):Int):=by
    rw [<-Int.natCast_mul];exact A5
   have e1:A1 (((acc*base:Nat):Int)+(dig b:Int))=((acc*base+dig b:Nat):Int):=by
    rw [A5];rfl
   rw [if_pos hd,A9,e0,e1,A14]
   exact ih (i+1) _ n (by omega) (by omega) (by omega)
  ·rw [if_neg hd,A7];rfl
theorem Aj4 {R:Type} {k0:Int->Bool->Option R} (s:By) (h0:A2 s.length=true):A08 LF s k0=k0 (Iz (Y0 s):Int) (Y0 s).isSome:=by
 have hs:=N8 h0
 have:=E8
 have go16:∀ x:By,x.length<=1000000000->Ed LF LF x 0 0 (λ_=>k0 0 false) (λn=>k0 n true)=k0 (Iz (D9 16 0 x):Int) (D9 16 0 x).isSome:=by
  intro x hx
  refine Eq.trans (NN x hx x.length 0 0 LF (by omega) (by omega) (by unfold Ez;omega)) ?_
  rw [List.drop_zero]
  cases D9 16 0 x<;>rfl
 have goB:∀ (x:By) (b:Nat),b<=16->x.length<=1000000000->Bi LF LF x (b:Int) 0 0 (λ_=>k0 0 false) (λn=>k0 n true)=k0 (Iz (D9 b 0 x):Int) (D9 b 0 x).isSome:=by
  intro x b hb hx
  refine Eq.trans (WM x hx b hb x.length 0 0 LF (by omega) (by omega) (by unfold Ez;omega)) ?_
  rw [List.drop_zero]
  cases D9 b 0 x<;>rfl
 have go10:=λx=>goB x 10 (by omega)
 have go8:=λx=>goB x 8 (by omega)
 have gox:=λx=>goB x 16 (by omega)
 rw [show ((10:Nat):Int)=10 from rfl] at go10
 rw [show ((8:Nat):Int)=8 from rfl] at go8
 rw [show ((16:Nat):Int)=16 from rfl] at gox
 unfold A08 Y0
 by_cases h1:s=[]
 ·subst h1;rfl
 have h1':(s==([]:By))=false:=by simpa using h1
 have hl:0<s.length:=List.length_pos_iff.2 h1
 rw [if_neg h1,h1']
 simp only [cond_false,Vj,Vk,Kg,Kh,Ki,vl]
 have ea:=U5 (s.getD 0 0) 48 (by omega)
 have eb:=U5 (s.getD 1 0) 120 (by omega)
 have ec:=U5 (s.getD 1 0) 88 (by omega)
 rw [show ((48:Nat):Int)=48 from rfl] at ea
 rw [show ((120:Nat):Int)=120 from rfl] at eb
 rw [show ((88:Nat):Int)=88 from rfl] at ec
 simp only [Ia,YS,ea,eb,ec,show UInt8.ofNat 48=(48:UInt8) from rfl,show UInt8.ofNat 120=(120:UInt8) from rfl,show UInt8.ofNat 88=(88:UInt8) from rfl]
 by_cases h2:2<=s.length
 ·simp (disch:=omega) only [E5,J6,U4,Bool.not_false,cond_true,M7,show 1<s.length by omega,true_and]
  unfold W6
  grind
 ·rw [A9]
  have hx:W6 s=false:=by
   cases h:W6 s with
   | false=>rfl
   | true=>have:=Ju h;omega
  grind
def r8 (n:Nat):LL:=List.replicate n [SV.int .u16 0]
theorem Bf6 {a0 a1 a2 a3 a4 a5 a6 a7:Int} (h:ok8 a0 a1 a2 a3 a4 a5 a6 a7=true):∃ b0 b1 b2 b3 b4 b5 b6 b7:Nat,a0=b0/\a1=b1/\a2=b2/\a3=b3/\a4=b4/\a5=b5/\a6=b6/\a7=b7/\b0<65536/\b1<65536/\b2<65536/\b3<65536/\b4<65536/\b5<65536/\b6<65536/\b7<65536:=by
 simp only [ok8,List.all_cons,List.all_nil,Bool.and_true,Bool.and_eq_true,I3] at h
 exact ⟨a0.toNat,a1.toNat,a2.toNat,a3.toNat,a4.toNat,a5.toNat,a6.toNat,a7.toNat,by omega,by omega,by omega,by omega,by omega,by omega,by omega,by omega,by omega,by omega,by omega,by omega,by omega,by omega,by omega,by omega⟩
theorem Ha (n:Nat):ptI (n:Int)=Q6 n:=rfl
theorem NE {R:Type} {k0:Bool->Option R} (n:Int):IX LF n k0=k0 (ptI n):=by
 unfold IX
 by_cases h:n<0
 ·rw [C6 h]
  have:ptI n=false:=by
   cases n with
   | ofNat m=>exact absurd h (by simp)
   | negSucc m=>rfl
  grind
 ·obtain ⟨m,rfl⟩:=Int.eq_ofNat_of_zero_le (show 0<=n by omega)
  rw [A7,Ha]
  unfold Q6
  by_cases h1:1114111<m
  ·rw [A9]
   have:Nat.ble m 1114111=false:=by rw [Bool.eq_false_iff,ne_eq,Nat.ble_eq];omega
   grind
  ·rw [A7]
   have:Nat.ble m 1114111=true:=by rw [Nat.ble_eq];omega
   rw [this]
   by_cases h2:m<55296
   ·rw [A9]
    have:Nat.blt m 55296=true:=by rw [Nat.blt_eq];omega
    grind
   ·rw [A7]
    have e:Nat.blt m 55296=false:=by rw [Bool.eq_false_iff,ne_eq,Nat.blt_eq];omega
    rw [e]
    simp only [Bool.not_false,cond_true,cond_false,Bool.false_or,Bool.true_and]
    congr 1
theorem Wt {d k:Nat} (h:455<d):Ql d k=Ql (d / 35) (k+36):=by rw [Ql,dif_pos h]
theorem Lc {d k:Nat} (h:¬ 455<d):Ql d k=k+36*d / (d+38):=by rw [Ql,dif_neg h]
theorem NA {R:Type} {k0:Int->Int->Option R}:∀ (d n k:Nat),d<2305843009213693952->d<n->k+d<=4611686018427387904->
  ∃ d' k',d'<=455/\k'<=k+d/\Ql d k=k'+36*d' / (d'+38)/\Bw LF n (d:Int) (k:Int) k0=k0 (d':Int) (k':Int):=by
 intro d
 induction d using Nat.strongRecOn with
 | _ d ih=>
  intro n k hd hn hk
  obtain ⟨n,rfl⟩:∃ m,n=m+1:=⟨n-1,by omega⟩
  rw [Bw]
  by_cases h:455<d
  ·obtain ⟨d',k',h1,h2,h3,h4⟩:=ih (d / 35) (by omega) n (k+36) (by omega) (by omega) (by omega)
   refine ⟨d',k',h1,by omega,by rw [Wt h];exact h3,?_⟩
   have e:Int.tdiv (d:Int) 35=((d / 35:Nat):Int):=K2 d 35
   have e1:A1 ((d / 35:Nat):Int)=((d / 35:Nat):Int):=A5
   have e2:A1 ((k:Int)+36)=((k+36:Nat):Int):=by rw [A5];rfl
   rw [A9]
   simp only [cond_true,vl,e,e1,e2]
   exact h4
  ·refine ⟨d,k,by omega,by omega,Lc h,?_⟩
   rw [A7]
   rfl
theorem NB {R:Type} {k0:Int->Option R} (d c:Int) (f:Bool) (h0:ltN d 1152921504606846976=true) (h1:ltN c 1000000=true) (h2:ltI 0 c=true):Ys LF d c f k0=k0 (L7 d.toNat c.toNat f:Nat):=by
 obtain ⟨hd0,hd1⟩:=I3.1 h0
 obtain ⟨hc0,hc1⟩:=I3.1 h1
 obtain ⟨d,rfl⟩:=Int.eq_ofNat_of_zero_le hd0
 obtain ⟨c,rfl⟩:=Int.eq_ofNat_of_zero_le hc0
 have hc:=ZP.1 h2
 have hLF:=E8
 have key:∀ x:Nat,x<1152921504606846976->Bv LF (x:Int) (c:Int) k0=k0 ((Ql (x+x / c) 0:Nat):Int):=by
  intro x hx
  have hxc:x / c<=x:=Nat.div_le_self _ _
  unfold Bv
  have e1:Int.tdiv (x:Int) (c:Int)=((x / c:Nat):Int):=K2 x c
  generalize x / c=q at *
  have e2:A1 (q:Int)=(q:Int):=A5
  have e3:A1 ((x:Int)+(q:Int))=((x+q:Nat):Int):=by rw [A5];rfl
  rw [show ((c:Int) != 0)=true by simp;omega]
  simp only [cond_true,vl,e1,e2,e3]
  obtain ⟨d',k',g1,g2,g3,g4⟩:=NA (R:=R) (k0:=λdelta'7 k'8=>vl (A1 ((36)*delta'7)) λn'9=>vl (A1 (delta'7+(38))) λn'10=>cond (n'10 != (0)) (vl (A1 (Int.tdiv n'9 n'10)) λn'11=>k0 (A1 (k'8+n'11))) none) (x+q) LF 0 (by omega) (by omega) (by omega)
  refine Eq.trans g4 ?_
  have hq:36*d' / (d'+38)<=36*d':=Nat.div_le_self _ _
  have f1:A1 (36*(d':Int))=((36*d':Nat):Int):=by rw [A5];rfl
  have f2:A1 ((d':Int)+38)=((d'+38:Nat):Int):=by rw [A5];rfl
  have f3:Int.tdiv ((36*d':Nat):Int) ((d'+38:Nat):Int)=((36*d' / (d'+38):Nat):Int):=K2 _ _
  have f4:A1 ((36*d' / (d'+38):Nat):Int)=((36*d' / (d'+38):Nat):Int):=A5
  have f5:A1 ((k':Int)+((36*d' / (d'+38):Nat):Int))=((k'+36*d' / (d'+38):Nat):Int):=by rw [A5];rfl
  simp only [vl,f1,f2,f3,f4,f5]
  rw [show (((d'+38:Nat):Int) != 0)=true by simp;omega,g3]
  rfl
 unfold Ys L7
 rw [Int.toNat_natCast,Int.toNat_natCast]
 cases f with
 | true=>
  have e1:Int.tdiv (d:Int) 700=((d / 700:Nat):Int):=K2 d 700
  have e2:A1 ((d / 700:Nat):Int)=((d / 700:Nat):Int):=A5
  simp only [cond_true,vl,e1,e2,if_true]
  exact key _ (by omega)
 | false=>
  have e1:Int.tdiv (d:Int) 2=((d / 2:Nat):Int):=K2 d 2
  have e2:A1 ((d / 2:Nat):Int)=((d / 2:Nat):Int):=A5
  simp only [cond_false,vl,e1,e2,Bool.false_eq_true,if_false]
  exact key _ (by omega)
theorem CC {d:Nat} (h:d<36):(T6 d).toNat=if d<26 then 97+d else 22+d:=by
 unfold T6
 split<;>simp<;>omega
theorem Ah8 {R:Type} {k0:Int->Option R} (d:Int) (h0:ltN d 36=true):Bg3 LF d k0=k0 ((T6 d.toNat).toNat:Nat):=by
 obtain ⟨hd0,hd1⟩:=I3.1 h0
 obtain ⟨d,rfl⟩:=Int.eq_ofNat_of_zero_le hd0
 unfold Bg3
 rw [Int.toNat_natCast,CC (by omega)]
 by_cases h:d<26
 ·rw [A9,if_pos h]
  simp only [cond_true,vl]
  congr 1
  rw [A5,Y3]
  rfl
 ·rw [A7,if_neg h]
  simp only [cond_false,vl]
  congr 1
  rw [E3 (n:=48+(d:Int)) (by omega) (by omega),A5,Y3]
  omega
theorem Tz (b:UInt8):(97<=b.toNat/\b.toNat<=122/\Hs b=some (b.toNat-97))\/(65<=b.toNat/\b.toNat<=90/\Hs b=some (b.toNat-65))\/(48<=b.toNat/\b.toNat<=57/\Hs b=some (b.toNat-22))\/(¬(97<=b.toNat/\b.toNat<=122)/\¬(65<=b.toNat/\b.toNat<=90)/\¬(48<=b.toNat/\b.toNat<=57)/\Hs b=none):=by
 unfold Hs
 grind
theorem Ai3 {R:Type} {k0:Int->Option R} (b:Int) (h0:inR b 256=true):Az8 LF b k0=k0 (C3 (u8n b)):=by
 simp only [inR,Bool.and_eq_true,decide_eq_true_eq] at h0
 have hc:b=((u8n b).toNat:Int):=by
  unfold u8n
  simp
  omega
 generalize u8n b=c at *
 subst hc
 have hbt:=c.toNat_lt
 unfold Az8 C3
 simp only [On,Om,vl]
 rcases Tz c with ⟨h1,h2,e⟩ | ⟨h1,h2,e⟩ | ⟨h1,h2,e⟩ | ⟨h1,h2,h3,e⟩
 ·have e2:A1 (wu8 ((c.toNat:Int)-97))=((c.toNat-97:Nat):Int):=by
   rw [Y3,A5];omega
  simp (disch:=omega) only [C6,E5,Bool.not_true,Bool.not_false,cond_false,cond_true,e2,e]
 ·have e2:A1 (wu8 ((c.toNat:Int)-65))=((c.toNat-65:Nat):Int):=by
   rw [Y3,A5];omega
  simp (disch:=omega) only [C6,E5,Bool.not_true,Bool.not_false,cond_false,cond_true,e2,e]
 ·have e2:A1 (A1 (wu8 ((c.toNat:Int)-48))+26)=((c.toNat-22:Nat):Int):=by
   rw [Y3,E3 (n:=(c.toNat:Int)-48) (by omega) (by omega),A5];omega
  simp (disch:=omega) only [C6,E5,Bool.not_true,Bool.not_false,cond_false,cond_true,e2,e]
 ·rw [e]
  by_cases c1:c.toNat<48
  ·simp (disch:=omega) only [C6,E5,Bool.not_true,Bool.not_false,cond_false,cond_true]
  ·by_cases c2:c.toNat<65
   ·simp (disch:=omega) only [C6,E5,Bool.not_true,Bool.not_false,cond_false,cond_true]
   ·by_cases c3:c.toNat<97
    ·simp (disch:=omega) only [C6,E5,Bool.not_true,Bool.not_false,cond_false,cond_true]
    ·simp (disch:=omega) only [C6,E5,Bool.not_true,Bool.not_false,cond_false,cond_true]
end
section
open Go
theorem Lt (x y:By) (r:List By) (p:By):Lib.join (x::y::r) p=x++(p++Lib.join (y::r) p):=by
 simp [Lib.join,List.intercalate]
theorem NC (c:UInt8):∀ l:List By,l≠[]->(∀ x∈l,c∉x)->pcs c (Lib.join l [c])=l
 | [],h,_=>absurd rfl h
 | [x],_,h=>by rw [Lib.join_one,Jb (h x (by simp))]
 | x::y::r,_,h=>by
  rw [Lt,List.singleton_append,Ve (h x (by simp)),NC c (y::r) (by simp) (λz hz=>h z (by simp [hz]))]
theorem ML (c:UInt8):∀ (n:Nat) (s:By),s.length<=n->Lib.join (pcs c s) [c]=s
 | n,s,hn=>by
  rcases Eh c s with h | ⟨p,r,rfl,h⟩
  ·rw [Jb h,Lib.join_one]
  ·rw [Ve h]
   cases n with
   | zero=>simp at hn
   | succ n=>
    have ih:=ML c n r (by simp at hn;omega)
    cases hp:pcs c r with
    | nil=>exact absurd hp (Ja c r)
    | cons y q=>
     rw [Lt,<-hp,ih]
     rfl
theorem Jv (c:UInt8) (s:By):Lib.join (pcs c s) [c]=s:=ML c _ s (Nat.le_refl _)
theorem ZN (b:UInt8):TY b=46↔b=46:=by
 rcases TZ b with ⟨h,e⟩ | ⟨h,e⟩ | ⟨h,h2,e⟩
 ·rw [e]
 ·rw [e]
 ·constructor
  ·intro h3;rw [h3] at e;simp at e;omega
  ·intro h3;subst h3;simp at h
theorem Ag1 (a b:By):Y1 (a++b)=Y1 a++Y1 b:=List.map_append
theorem Fd:∀ (s acc:By),G5 46 (Y1 acc) (Y1 s)=(G5 46 acc s).map Y1
 | [],acc=>rfl
 | b::r,acc=>by
  show (if TY b=46 then _ else _)=_
  simp only [G5]
  by_cases h:b=46
  ·rw [if_pos ((ZN b).2 h),if_pos h,List.map_cons]
   have:=Fd r []
   rw [<-this]
   rfl
  ·rw [if_neg (λe=>h ((ZN b).1 e)),if_neg h,<-Fd r (acc++[b]),Ag1]
   rfl
theorem Ah5 (s:By):pcs 46 (Y1 s)=(pcs 46 s).map Y1:=Fd s []
theorem Ag2 {s:By}:Y1 s=[]↔s=[]:=by unfold Y1;simp
theorem IC (l:List By):(l.map Y1).getLastD []=Y1 (l.getLastD []):=by
 rw [List.getLastD_eq_getLast?,List.getLastD_eq_getLast?,List.getLast?_map]
 cases l.getLast?<;>rfl
theorem Bs4 (s:By):D8 (Y1 s)=(D8 s).map Y1:=by
 unfold D8
 rw [Ah5,IC]
 simp only [List.length_map,Ag2]
 grind
theorem Tf (b:UInt8):Q5 b=true↔(97<=b.toNat/\b.toNat<=122)\/(48<=b.toNat/\b.toNat<=57)\/b=45\/b=95:=by
 simp [Q5,or_assoc]
structure VL (s:By):Prop where
 ne:s≠[]
 le:s.length<=63
 byt:∀ b∈s,Q5 b=true
theorem EA {s:By} (h:O7 s=true):VL s:=by
 unfold O7 at h
 simp only [Bool.and_eq_true,Bool.not_eq_true',List.all_eq_true] at h
 obtain ⟨⟨⟨⟨⟨h1,h2⟩,h3⟩,h4⟩,h5⟩,h6⟩:=h
 refine ⟨by intro e;subst e;simp at h1,Nat.le_of_ble_eq_true h2,λb hb=>h5 b hb⟩
structure VN (s:By):Prop where
 le:s.length<=253
 num:N5 s=false
 all:∀ x∈pcs 46 s,O7 x=true
theorem Dj {s:By}:D3 s=true↔VN s:=by
 unfold D3
 simp only [Bool.and_eq_true,Bool.not_eq_true',List.all_eq_true]
 exact ⟨λh=>⟨Nat.le_of_ble_eq_true h.1.1,h.1.2,h.2⟩,λh=>⟨⟨Nat.ble_eq_true_of_le h.le,h.num⟩,h.all⟩⟩
theorem N9 {a b:By}:E6 a b=true↔VN a/\VN b/\(a=b\/∃ p,b=p++46::a):=by
 unfold E6
 simp only [Bool.and_eq_true,Bool.or_eq_true,Dj,and_assoc,beq_iff_eq,List.isSuffixOf_iff_suffix]
 constructor
 ·rintro ⟨h1,h2,h3 | ⟨p,h3⟩⟩
  all_goals grind
 grind
theorem Sw (a:By):E6 a a=D3 a:=by
 unfold E6
 simp
theorem Gi {a b c:By} (h1:E6 a b=true) (h2:E6 b c=true):E6 a c=true:=by
 obtain ⟨v1,v2,h1⟩:=N9.1 h1
 obtain ⟨_,v3,h2⟩:=N9.1 h2
 refine N9.2 ⟨v1,v3,?_⟩
 grind
theorem Tk {s:By} (h:∀ x∈pcs 46 s,x≠[]):D8 s=pcs 46 s:=by
 unfold D8
 grind
theorem VN.pne {s:By} (h:VN s):∀ x∈pcs 46 s,x≠[]:=λx hx=>(EA (h.all x hx)).ne
theorem VN.super {s x y:By} {r:List By} (h:VN s) (hp:pcs 46 s=x::y::r):s=x++46::Lib.join (y::r) [46]/\VN (Lib.join (y::r) [46])/\pcs 46 (Lib.join (y::r) [46])=y::r:=by
 have hs:=Jv 46 s
 rw [hp,Lt] at hs
 have hpc:pcs 46 (Lib.join (y::r) [46])=y::r:=NC 46 _ (by simp) (λz hz=>(Kb (s:=s) (by rw [hp];simp [hz])).1)
 have hall:∀ z∈y::r,O7 z=true:=λz hz=>h.all z (by rw [hp];exact List.mem_cons_of_mem _ hz)
 refine ⟨hs.symm,⟨?_,?_,by rw [hpc];exact hall⟩,hpc⟩
 ·have:=congrArg List.length hs
  have:=h.le
  grind
 ·have h1:=h.num
  unfold N5 at h1 ⊢
  have e:Az (Lib.join (y::r) [46])=Az s:=by
   unfold Az
   rw [Tk h.pne,Tk (by rw [hpc];exact λz hz=>(EA (hall z hz)).ne),hpc,hp]
   rfl
  grind
def Nb (name:By):By->List By->Prop
 | _,[]=>True
 | last,y::r=>E6 y name=true/\E6 y last=true/\y.length<last.length/\Nb name y r
theorem Pk (name:By):∀ (l:List By) (s:By),VN s->E6 s name=true->pcs 46 s=l->Nb name s (X5 l)
 | [],s,_,_,hp=>absurd hp (Ja 46 s)
 | [x],s,_,_,_=>trivial
 | x::y::r,s,hv,hc,hp=>by
  obtain ⟨h1,h2,h3⟩:=hv.super hp
  have hcs:E6 (Lib.join (y::r) [46]) s=true:=N9.2 ⟨h2,hv,.inr ⟨x,h1⟩⟩
  refine ⟨Gi hcs hc,hcs,?_,Pk name (y::r) _ h2 (Gi hcs hc) h3⟩
  grind
theorem P5 (name:By):Nb name name (F9 name):=by
 unfold F9
 by_cases h:D3 name=true
 ·rw [if_pos h]
  exact Pk name _ name (Dj.1 h) (by rw [Sw];exact h) rfl
 ·rw [if_neg h]
  trivial
def sh (n:Nat) (i:Int):Int:=if i = -1 then -1 else i+n
end
section
open Go Go.Op
abbrev Ent:=By × Bool
abbrev Q7:=By × Bool × Int
def Ue (e:Ent):List SV:=[.str e.1,.bool e.2]
def Az1 (p:Q7):List SV:=[.str p.1,.bool p.2.1,.int .i64 p.2.2]
def D1 (l:List Ent):LL:=l.map Ue
def Z9 (l:List Q7):LL:=l.map Az1
def D5:List SV->Bool | [.str _,.bool _]=>true | _=>false
def F7:List SV->Bool | [.str _,.bool _,.int .i64 n]=>Br3 n | _=>false
def A6 (el:List SV):Ent:=((el.getD 0 .nilp).gS,(el.getD 1 .nilp).gB)
def B0 (el:List SV):Q7:=((el.getD 0 .nilp).gS,(el.getD 1 .nilp).gB,(el.getD 2 .nilp).gI)
theorem Ry {α β:Type} (f:β->α) (g:α->β):∀ l:List α,(∀ x∈l,f (g x)=x)->l=(l.map g).map f
 | [],_=>rfl
 | a::r,h=>by
  rw [List.map_cons,List.map_cons,h a (by simp),<-Ry f g r λx hx=>h x (by simp [hx])]
theorem Gk {l:LL} (h:l.all D5=true):l=D1 (l.map A6):=Ry Ue A6 l λx hx=>by
 have:=List.all_eq_true.1 h x hx
 unfold D5 at this
 split at this
 ·rfl
 ·cases this
theorem Vf {l:LL} (h:l.all F7=true):l=Z9 (l.map B0):=Ry Az1 B0 l λx hx=>by
 have:=List.all_eq_true.1 h x hx
 unfold F7 at this
 split at this
 ·rfl
 ·cases this
theorem Nl (l:List Ent):(D1 l).map A6=l:=by
 unfold D1
 rw [List.map_map]
 exact List.map_id'' (λ_=>rfl) l
theorem Bg8 (l:List Q7):(Z9 l).map B0=l:=by
 unfold Z9
 rw [List.map_map]
 exact List.map_id'' (λ_=>rfl) l
@[simp] theorem D7 (l:List Ent):(D1 l).length=l.length:=List.length_map ..
@[simp] theorem J8 (l:List Q7):(Z9 l).length=l.length:=List.length_map ..
def noE:Ent:=([],false)
def noP:Q7:=([],false,0)
theorem Ik {l:List Ent} {i:Nat} (h:i<l.length):(D1 l).getD i []=Ue (l.getD i noE):=by
 unfold D1
 simp [List.getD_eq_getElem?_getD,List.getElem?_eq_getElem h]
theorem Fu {l:List Q7} {i:Nat} (h:i<l.length):(Z9 l).getD i []=Az1 (l.getD i noP):=by
 unfold Z9
 simp [List.getD_eq_getElem?_getD,List.getElem?_eq_getElem h]
theorem R7:∀ x y:By,bytesLess x y=decide (x<y)
 | [],[]=>by simp [bytesLess]
 | _::_,[]=>by simp [bytesLess]
 | [],_::_=>by simp [bytesLess]
 | a::x,b::y=>by
  rw [bytesLess,R7 x y]
  simp only [List.cons_lt_cons_iff]
  by_cases h1:a<b<;>by_cases h2:a=b<;>by_cases h3:x<y<;>simp [h1,h2,h3]
def rl (s:By):List By:=(pcs 46 s).reverse
def Yj:List By->List By->Bool
 | _,[]=>false
 | [],_::_=>true
 | x::r,y::q=>bytesLess x y || (x==y&&Yj r q)
theorem Uz:∀ x y:List By,Yj x y=decide (x<y)
 | [],[]=>by simp [Yj]
 | _::_,[]=>by simp [Yj]
 | [],_::_=>by simp [Yj]
 | a::x,b::y=>by
  rw [Yj,Uz x y,R7]
  simp only [List.cons_lt_cons_iff]
  by_cases h1:a<b<;>by_cases h2:a=b<;>by_cases h3:x<y<;>simp [h1,h2,h3]
def R2 (a b:By):Bool:=Yj (rl a) (rl b)
def T5 (a b:By):Int:=cond (bytesLess a b) (-1) (cond (bytesLess b a) 1 0)
def HX (a b:Int):Int:=cond (ltI a b) (-1) (cond (ltI b a) 1 0)
def M3 (a b:By):Int:=cond (R2 a b) (-1) (cond (R2 b a) 1 0)
theorem Bs7 {a b:By} (h:rl a=rl b):a=b:=by
 rw [<-Jv 46 a,<-Jv 46 b,List.reverse_inj.1 h]
theorem Ap (a:By):R2 a a=false:=by
 unfold R2
 rw [Uz]
 simp
theorem Lv {a b c:By} (h:R2 a b=true) (g:R2 b c=true):R2 a c=true:=by
 unfold R2 at *
 rw [Uz] at *
 exact decide_eq_true (List.lt_trans (of_decide_eq_true h) (of_decide_eq_true g))
theorem Oe {a b:By} (h:R2 a b=false) (g:R2 b a=false):a=b:=by
 unfold R2 at *
 rw [Uz] at *
 exact Bs7 (List.le_antisymm (List.not_lt.1 (of_decide_eq_false g)) (List.not_lt.1 (of_decide_eq_false h)))
theorem UH {a b:By} (h:R2 a b=true):R2 b a=false:=by
 cases e:R2 b a with
 | false=>rfl
 | true=>exact absurd (Lv h e) (by rw [Ap];simp)
theorem Ti {a b c:By} (h:R2 a b=false) (g:R2 b c=false):R2 a c=false:=by
 cases e:R2 a c with
 | false=>rfl
 | true=>
  cases e1:R2 b a with
  | true=>rw [Lv e1 e] at g;cases g
  | false=>
   obtain rfl:=Oe h e1
   rw [e] at g;cases g
theorem Ii (a b:By):decide (M3 a b<0)=R2 a b:=by
 unfold M3
 cases R2 a b with
 | true=>rfl
 | false=>cases R2 b a<;>rfl
theorem BY (a b:By):(M3 a b==0)=(a==b):=by
 unfold M3
 cases h:R2 a b with
 | true=>
  have:a≠b:=λe=>by rw [e,Ap] at h;cases h
  simp [this]
 | false=>
  cases g:R2 b a with
  | true=>
   have:a≠b:=λe=>by rw [e,Ap] at g;cases g
   simp [this]
  | false=>
   obtain rfl:=Oe h g
   simp
theorem OL {α:Type} [Inhabited α] (f:α->By):Sort.SWO (Go.Proofs.ltOf λx y:α=>M3 (f x) (f y)) where
 irrefl x:=by unfold Go.Proofs.ltOf;rw [Ii,Ap]
 trans x y z h g:=by unfold Go.Proofs.ltOf at *;rw [Ii] at *;exact Lv h g
 ntrans x y z h g:=by unfold Go.Proofs.ltOf at *;rw [Ii] at *;exact Ti h g
def Kl (f:Nat->Int):Nat->Nat->Nat->Nat
 | 0,lo,_=>lo
 | n+1,lo,hi=>if lo<hi then (if f ((lo+hi) / 2)<0 then Kl f n ((lo+hi) / 2+1) hi else Kl f n lo ((lo+hi) / 2)) else lo
theorem Ul (f:Nat->Int):∀ n lo hi,lo<=hi->lo<=Kl f n lo hi/\Kl f n lo hi<=hi
 | 0,lo,hi,h=>⟨Nat.le_refl _,h⟩
 | n+1,lo,hi,h=>by
  unfold Kl
  split
  ·split
   ·have:=Ul f n ((lo+hi) / 2+1) hi (by omega);omega
   ·have:=Ul f n lo ((lo+hi) / 2) (by omega);omega
  ·omega
def bsI (h:List By) (s:By):Nat:=Kl (λi=>M3 (h.getD i []) s) (h.length+1) 0 h.length
def bsB (h:List By) (s:By):Bool:=Nat.blt (bsI h s) h.length&&h.getD (bsI h s) []==s
def asc (h:List By):Bool:=match h with
 | []=>true
 | [_]=>true
 | a::b::r=>R2 a b&&asc (b::r)
theorem Mn {a b:Nat}:Nat.blt a b=true↔a<b:=by rw [Nat.blt_eq]
def Bb6 {α:Type} (key:α->By) (d:α) (T:List α) (u:By):α × Bool:=if bsB (T.map key) u then (T.getD (bsI (T.map key) u) d,true) else (d,false)
abbrev J2:=Bb6 (α:=Ent) Prod.fst noE
abbrev L6:=Bb6 (α:=Q7) Prod.fst noP
theorem Bl (c:UInt8):∀ (p acc s:By),G5 c acc (p++c::s)=G5 c acc p++G5 c [] s
 | [],acc,s=>by simp [G5]
 | b::r,acc,s=>by
  simp only [List.cons_append,G5]
  split
  ·rw [Bl c r [] s];rfl
  ·exact Bl c r _ s
theorem Pj (B:List By) (hB:B≠[]):∀ A:List By,A≠[]->Lib.join B [46]∈X5 (A++B)
 | [],h=>absurd rfl h
 | [x],_=>by
  cases B with
  | nil=>exact absurd rfl hB
  | cons b r=>simp [X5]
 | x::y::r,_=>by
  have:=Pj B hB (y::r) (by simp)
  simp only [List.cons_append,X5] at this ⊢
  exact List.mem_cons_of_mem _ this
theorem Y6 {name:By}:∀ {last:By} {l:List By},Nb name last l->∀ u∈l,E6 u name=true/\u.length<last.length
 | _,[],_,u,hu=>by cases hu
 | last,y::r,h,u,hu=>by
  obtain ⟨h1,h2,h3,h4⟩:=h
  rcases List.mem_cons.1 hu with rfl | hu
  ·exact ⟨h1,h3⟩
  ·have:=Y6 h4 u hu
   exact ⟨this.1,by omega⟩
theorem Zo {s:By} (hs:D3 s=true) (u:By):u∈F9 s↔E6 u s=true/\u≠s:=by
 constructor
 ·intro h
  have:=Y6 (P5 s) u h
  exact ⟨this.1,λe=>by rw [e] at this;omega⟩
 ·rintro ⟨h,hne⟩
  obtain ⟨_,_,h3⟩:=N9.1 h
  rcases h3 with rfl | ⟨p,rfl⟩
  ·exact absurd rfl hne
  ·unfold F9
   rw [if_pos hs]
   have e:pcs 46 (p++46::u)=pcs 46 p++pcs 46 u:=Bl 46 p [] u
   rw [e]
   have:=Pj (pcs 46 u) (Ja 46 u) (pcs 46 p) (Ja 46 p)
   rwa [Jv] at this
theorem Xj {name:By} (P:By->Bool):∀ {last:By} {l:List By},Nb name last l->(∃ u,l.find? P=some u/\u∈l/\P u=true/\∀ v∈l,P v=true->v.length<=u.length)\/(l.find? P=none/\∀ v∈l,P v=false)
 | _,[],_=>.inr ⟨rfl,λv hv=>by cases hv⟩
 | last,y::r,h=>by
  obtain ⟨h1,h2,h3,h4⟩:=h
  rw [List.find?_cons]
  cases hp:P y with
  | true=>
   refine .inl ⟨y,rfl,by simp,hp,λv hv _=>?_⟩
   rcases List.mem_cons.1 hv with rfl | hv
   ·exact Nat.le_refl _
   ·have:=(Y6 h4 v hv).2;omega
  | false=>
   rcases Xj P h4 with ⟨u,a,b,c,d⟩ | ⟨a,b⟩
   ·refine .inl ⟨u,a,by simp [b],c,λv hv hpv=>?_⟩
    rcases List.mem_cons.1 hv with rfl | hv
    ·rw [hp] at hpv;cases hpv
    ·exact d v hv hpv
   ·refine .inr ⟨a,λv hv=>?_⟩
    rcases List.mem_cons.1 hv with rfl | hv
    ·exact hp
    ·exact b v hv
theorem BS {s:By} (hs:D3 s=true) (P:By->Bool):(∃ u,(s::F9 s).find? P=some u/\E6 u s=true/\P u=true/\∀ v,E6 v s=true->P v=true->v.length<=u.length)\/((s::F9 s).find? P=none/\∀ v,E6 v s=true->P v=false):=by
 have mem:∀ v,E6 v s=true->v∈s::F9 s:=λv hv=>by
  by_cases e:v=s
  ·rw [e];simp
  ·exact List.mem_cons_of_mem _ ((Zo hs v).2 ⟨hv,e⟩)
 have hss:E6 s s=true:=by rw [Sw];exact hs
 have hle:∀ v,E6 v s=true->v.length<=s.length:=λv hv=>by
  by_cases e:v=s
  ·rw [e];omega
  ·have:=(Y6 (P5 s) v ((Zo hs v).2 ⟨hv,e⟩)).2
   omega
 rw [List.find?_cons]
 cases hp:P s with
 | true=>exact .inl ⟨s,rfl,hss,hp,λv hv _=>hle v hv⟩
 | false=>
  rcases Xj P (P5 s) with ⟨u,a,b,c,d⟩ | ⟨a,b⟩
  ·refine .inl ⟨u,a,(Y6 (P5 s) u b).1,c,λv hv hpv=>?_⟩
   rcases List.mem_cons.1 (mem v hv) with rfl | hm
   ·rw [hp] at hpv;cases hpv
   ·exact d v hm hpv
  ·refine .inr ⟨a,λv hv=>?_⟩
   rcases List.mem_cons.1 (mem v hv) with rfl | hm
   ·exact hp
   ·exact b v hm
def A99 (s:By) (e:Ent):Bool:=D3 s&&(e.1==s || e.2&&E6 e.1 s)
def Nq (l:List Ent) (s u:By):Bool:=(J2 l u).2&&((u==s) || (J2 l u).1.2)
def B21 (l:List Ent) (s:By):Ent × Bool:=if (J2 l s).2 then J2 l s else match (F9 s).find? λu=>(J2 l u).2&&(J2 l u).1.2 with
 | some u=>((J2 l u).1,true)
 | none=>(noE,false)
theorem Xr {α:Type} {p q:α->Bool}:∀ {l:List α},(∀ x∈l,p x=q x)->l.find? p=l.find? q
 | [],_=>rfl
 | a::r,h=>by
  rw [List.find?_cons,List.find?_cons,h a (by simp),Xr λx hx=>h x (by simp [hx])]
theorem Al3 {s u:By} (h:u∈F9 s):u≠s:=λe=>by
 have:=(Y6 (P5 s) u h).2
 rw [e] at this;omega
abbrev Ub:=Int × By × Bool
def noC:Ub:=(0,[],false)
def MQ (now:Int) (p:Q7):Bool:=ltI now p.2.2
def Bq1 (now:Int) (s:By) (p:Q7):Bool:=MQ now p&&D3 s&&(p.1==s || p.2.1&&E6 p.1 s)
def atV (now:Int) (T:List Q7) (L:List Ent) (u:By) (ex:Bool):Ub × Bool:=
 cond ((L6 T u).2&&(MQ now (L6 T u).1&&(ex || (L6 T u).1.2.1))) ((1,u,ex),true) (cond ((J2 L u).2&&(ex || (J2 L u).1.2)) ((2,u,ex),true) (noC,false))
def Al (now:Int) (T:List Q7) (L:List Ent) (s:By):Ub:=if (atV now T L s true).2 then (atV now T L s true).1 else match (F9 s).find? λu=>(atV now T L u false).2 with
 | some u=>(atV now T L u false).1
 | none=>noC
def Cs (now:Int) (T:List Q7) (s u:By):Bool:=(L6 T u).2&&(MQ now (L6 T u).1&&((u==s) || (L6 T u).1.2.1))
theorem Aq3 (now:Int) (T:List Q7) (L:List Ent) (s u:By):atV now T L u (u==s)=if Cs now T s u then ((1,u,u==s),true) else if Nq L s u then ((2,u,u==s),true) else (noC,false):=by
 unfold atV Cs Nq
 cases (L6 T u).2&&(MQ now (L6 T u).1&&((u==s) || (L6 T u).1.2.1))<;>cases (J2 L u).2&&((u==s) || (J2 L u).1.2)<;>rfl
theorem LS (now:Int) (T:List Q7) (L:List Ent) (s:By):Al now T L s=match (s::F9 s).find? λu=>Cs now T s u || Nq L s u with
  | some u=>if Cs now T s u then (1,u,u==s) else (2,u,u==s)
  | none=>noC:=by
 have hat:∀ u,(atV now T L u (u==s)).2=(Cs now T s u || Nq L s u):=λu=>by
  rw [Aq3]
  cases Cs now T s u<;>cases Nq L s u<;>rfl
 have hv:∀ u,(atV now T L u (u==s)).2=true->(atV now T L u (u==s)).1=if Cs now T s u then (1,u,u==s) else (2,u,u==s):=λu h=>by
  rw [hat] at h
  rw [Aq3]
  cases h1:Cs now T s u with
  | true=>rfl
  | false=>
   rw [h1,Bool.false_or] at h
   rw [h];rfl
 have e:∀ u∈F9 s,(u==s)=false:=λu hu=>by simpa using Al3 hu
 have es:(s==s)=true:=beq_self_eq_true s
 have h0:=hat s
 have v0:=hv s
 rw [es] at h0 v0
 unfold Al
 rw [List.find?_cons,<-h0]
 cases h:(atV now T L s true).2 with
 | true=>
  rw [if_pos rfl]
  show _=if Cs now T s s then (1,s,s==s) else (2,s,s==s)
  rw [v0 h,es]
 | false=>
  rw [if_neg (by simp),Xr (p:=λu=>(atV now T L u false).2) (q:=λu=>Cs now T s u || Nq L s u) λu hu=>by rw [<-hat u,e u hu]]
  cases hf:(F9 s).find? λu=>Cs now T s u || Nq L s u with
  | none=>rfl
  | some u=>
   have hu:=List.mem_of_find?_eq_some hf
   have hp:=List.find?_some hf
   have:=hv u (by rw [hat];exact hp)
   rw [e u hu] at this
   show (atV now T L u false).1=if Cs now T s u then (1,u,u==s) else (2,u,u==s)
   rw [e u hu]
   exact this
def smE (el:List SV):Bool:=A2 (elS el).length
def N2 (z:Bool) (l:LL):Bool:=!z || l.isEmpty
def Ah9 (h:By) (e:Int):Bool:=D3 h&&(!ltI e 0 && !ltI 1099511627776 e)
def ixE (l:List Ent):Int:=match l.findIdx? (λe=>!D3 e.1) with | some j=>(j:Int) | none=>-1
def QD (l:List Ent):Bool:=l.any λe=>!D3 e.1
def Ud:List By->Bool
 | []=>false
 | a::r=>r.contains a || Ud r
def Zy (e:Ent):List Ent->List Ent
 | []=>[e]
 | a::r=>if R2 a.1 e.1 then a::Zy e r else e::a::r
def isE (l:List Ent):List Ent:=l.foldl (λacc e=>Zy e acc) []
def Ew (l:List Ent):Nat:=if 1000<l.length then 3 else if QD l then 14 else if Ud (l.map Prod.fst) then 17 else 0
def TR (prev:Option By):List Q7->Nat
 | []=>0
 | p::r=>if Ah9 p.1 p.2.2 then (match prev with
   | some q=>if R2 q p.1 then TR (some p.1) r else 8
   | none=>TR (some p.1) r) else 1
def Ao (cp:Int) (l:List Q7):Nat:=cond (ltI cp (l.length:Nat)) 11 (TR none l)
def Bz0 (h:By) (b:Bool):Ent:=(h,b)
def Bz1 (h:By) (b:Bool) (e:Int):Q7:=(h,b,e)
def Ay (n:Int) (l:LL):Bool:=!ltI n l.length&&l.all λel=>!ltI 300 (elS el).length
def C5 (now:Int) (T:List Q7) (L:List Ent) (kd:Int) (h:YB):Ub:=cond (kd==1) (cond (X7 h) (Al now T L h.name) noC) noC
abbrev Ku:={e:Ent // e.1.length<=1000000000}
instance:Inhabited Ku:=⟨⟨noE,by decide⟩⟩
def mkS (e:Ent):Ku:=if h:e.1.length<=1000000000 then ⟨e,h⟩ else default
def Fe (d:Array Ku):Array Ku:=Sort.pdq (Go.Proofs.ltOf λx y:Ku=>M3 x.1.1 y.1.1) d 0 d.size (Lib.bitLen d.size) true true
def R4 (l:List Ent):List Ent:=(Fe (l.map mkS).toArray).toList.map (·.1)
theorem Ip {l:List Ent} {i:Nat} (h:i<l.length):gX (D1 l) i 0=(l.getD i noE).1:=by unfold gX gC;rw [Ik h];rfl
theorem Av8 {l:List Ent} {i:Nat} (h:i<l.length):gY (D1 l) i 1=(l.getD i noE).2:=by unfold gY gC;rw [Ik h];rfl
theorem Of {l:List Ent} {i:Nat} (h:i<l.length):okE ⟨true,true,[.str,.bool]⟩ (D1 l) i 0=true:=by unfold okE;rw [Ik h];simp [h,okS,Ue,SV.has]
theorem Iq {l:List Q7} {i:Nat} (h:i<l.length):gX (Z9 l) i 0=(l.getD i noP).1:=by unfold gX gC;rw [Fu h];rfl
theorem TC {l:List Q7} {i:Nat} (h:i<l.length):gY (Z9 l) i 1=(l.getD i noP).2.1:=by unfold gY gC;rw [Fu h];rfl
theorem TB {l:List Q7} {i:Nat} (h:i<l.length):gE (Z9 l) i 2=(l.getD i noP).2.2:=by unfold gE gC;rw [Fu h];rfl
theorem Oh {l:List Q7} {i:Nat} (h:i<l.length):okE ⟨true,true,[.str,.bool,.int .i64]⟩ (Z9 l) i 0=true:=by unfold okE;rw [Fu h];simp [h,okS,Az1,SV.has]
theorem Vl {l:List Ent} (h:(D1 l).all smE=true) {i:Nat} (hi:i<l.length):A2 (l.getD i noE).1.length=true:=by
 have:=List.all_eq_true.1 h ((D1 l).getD i []) (by
  rw [List.getD_eq_getElem?_getD,List.getElem?_eq_getElem (by simpa using hi)]
  exact List.getElem_mem _)
 rw [Ik hi] at this
 exact this
theorem Pf {l:List Q7} (h:(Z9 l).all smE=true) {i:Nat} (hi:i<l.length):A2 (l.getD i noP).1.length=true:=by
 have:=List.all_eq_true.1 h ((Z9 l).getD i []) (by
  rw [List.getD_eq_getElem?_getD,List.getElem?_eq_getElem (by simpa using hi)]
  exact List.getElem_mem _)
 rw [Fu hi] at this
 exact this
theorem Uy {α:Type} (f:α->By) {d:α} {l:List α} {i:Nat} (h:i<l.length):(l.map f).getD i []=f (l.getD i d):=by
 simp [List.getD_eq_getElem?_getD,h]
abbrev leE (a b:Ent):Prop:=R2 b.1 a.1=false
theorem Zl (d:Array Ku):(Fe d).toList.Perm d.toList/\(Fe d).size=d.size/\∀ i j,i<j->j<d.size->R2 ((Fe d)[j]!).1.1 ((Fe d)[i]!).1.1=false:=by
 obtain ⟨⟨h1,_,h3⟩,h4⟩:=Sort.pdq_sorts (Go.Proofs.ltOf λx y:Ku=>M3 x.1.1 y.1.1) (OL λx:Ku=>x.1.1) d 0 d.size (Lib.bitLen d.size) true true (Nat.zero_le _) (Nat.le_refl _) (.inl rfl)
 have hs:(Fe d).size=d.size:=h1
 refine ⟨?_,hs,λi j hij hj=>?_⟩
 ·have h3:((Fe d).extract 0 d.size).toList.Perm (d.extract 0 d.size).toList:=h3
  rw [<-hs] at h3
  rw [Array.extract_size,hs,Array.extract_size] at h3
  exact h3
 ·have:=h4 i j (Nat.zero_le _) hij hj
  unfold Go.Proofs.ltOf at this
  rw [Ii] at this
  exact this
theorem ZU {e:Ent} (h:e.1.length<=1000000000):(mkS e).1=e:=by unfold mkS;rw [dif_pos h]
theorem Dg {l:List Ent} (hl:∀ e∈l,e.1.length<=1000000000):(R4 l).Perm l:=by
 have h:=((Zl (l.map mkS).toArray).1).map (·.1)
 unfold R4
 refine h.trans ?_
 simp only [List.map_map]
 rw [show List.map ((λx:Ku=>x.1) ∘ mkS) l=l from (List.map_congr_left (g:=id) λe he=>ZU (hl e he)).trans (List.map_id l)]
theorem Ph (l:List Ent):(R4 l).Pairwise leE:=by
 obtain ⟨_,h2,h3⟩:=Zl (l.map mkS).toArray
 unfold R4
 rw [List.pairwise_map,List.pairwise_iff_getElem]
 intro i j hi hj hij
 have hj':j<(Fe (l.map mkS).toArray).size:=by simpa using hj
 have hi':i<(Fe (l.map mkS).toArray).size:=by simpa using hi
 have:=h3 i j hij (by omega)
 simp only [getElem!_pos,hi',hj'] at this
 simpa using this
theorem Rs (e:Ent):∀ l:List Ent,(Zy e l).Perm (e::l)
 | []=>.refl _
 | a::r=>by
  unfold Zy
  split
  ·exact ((Rs e r).cons a).trans (.swap e a r)
  ·exact .refl _
theorem Td (e:Ent):∀ {l:List Ent},l.Pairwise leE->(Zy e l).Pairwise leE
 | [],_=>by simp [Zy]
 | a::r,h=>by
  rw [List.pairwise_cons] at h
  unfold Zy
  split
  ·rename_i hlt
   rw [List.pairwise_cons]
   refine ⟨λb hb=>?_,Td e h.2⟩
   rcases List.mem_cons.1 ((Rs e r).mem_iff.1 hb) with rfl | hb
   ·exact UH hlt
   ·exact h.1 b hb
  ·rename_i hlt
   have hlt:R2 a.1 e.1=false:=by simpa using hlt
   rw [List.pairwise_cons]
   refine ⟨λb hb=>?_,List.pairwise_cons.2 h⟩
   rcases List.mem_cons.1 hb with rfl | hb
   ·exact hlt
   ·exact Ti (h.1 b hb) hlt
theorem TH:∀ (l acc:List Ent),(l.foldl (λacc e=>Zy e acc) acc).Perm (l++acc)/\(acc.Pairwise leE->(l.foldl (λacc e=>Zy e acc) acc).Pairwise leE)
 | [],acc=>⟨.refl _,id⟩
 | e::r,acc=>by
  obtain ⟨h1,h2⟩:=TH r (Zy e acc)
  exact ⟨h1.trans (((Rs e acc).append_left r).trans List.perm_middle),λh=>h2 (Td e h)⟩
theorem Nr (l:List Ent):(isE l).Perm l:=by simpa [isE] using (TH l []).1
theorem TJ (l:List Ent):(isE l).Pairwise leE:=(TH l []).2 .nil
theorem Ij:∀ {l:List By},Ud l=false↔l.Nodup
 | []=>by simp [Ud]
 | a::r=>by
  unfold Ud
  rw [Bool.or_eq_false_iff,Ij,List.nodup_cons]
  simp
theorem Ak9 {l:List Ent} (hl:∀ e∈l,e.1.length<=1000000000) (hd:Ud (l.map Prod.fst)=false):R4 l=isE l:=by
 have hn:=Ij.1 hd
 have key:∀ a b:Ent,a∈l->b∈l->a.1=b.1->a=b:=by
  clear hl hd
  induction l with
  | nil=>intro a b ha;cases ha
  | cons x r ih=>
   rw [List.map_cons,List.nodup_cons] at hn
   intro a b ha hb e
   rcases List.mem_cons.1 ha with ha | ha<;>rcases List.mem_cons.1 hb with hb | hb
   ·rw [ha,hb]
   ·exact absurd (List.mem_map.2 ⟨b,hb,by rw [<-e,ha]⟩) hn.1
   ·exact absurd (List.mem_map.2 ⟨a,ha,by rw [e,hb]⟩) hn.1
   ·exact ih hn.2 a b ha hb e
 refine List.Perm.eq_of_pairwise (le:=leE) (λa b ha hb h1 h2=>key a b ((Dg hl).mem_iff.1 ha) ((Nr l).mem_iff.1 hb) (Oe h2 h1)) (Ph l) (TJ l) ((Dg hl).trans (Nr l).symm)
def GQ:List Ent->Bool
 | a::b::r=>(b.1==a.1) || GQ (b::r)
 | _=>false
theorem Ap7:∀ {l:List Ent},l.Pairwise leE->GQ l=false->(l.map Prod.fst).Nodup
 | [],_,_=>.nil
 | [a],_,_=>by simp
 | a::b::r,hp,h=>by
  unfold GQ at h
  rw [Bool.or_eq_false_iff] at h
  rw [List.pairwise_cons] at hp
  have ih:=Ap7 hp.2 h.2
  rw [List.map_cons,List.nodup_cons]
  refine ⟨λhm=>?_,ih⟩
  obtain ⟨c,hc,e⟩:=List.mem_map.1 hm
  have hab:R2 a.1 b.1=true:=by
   cases q:R2 a.1 b.1 with
   | true=>rfl
   | false=>
    have:=Oe (hp.1 b (by simp)) q
    rw [this] at h
    simp at h
  rcases List.mem_cons.1 hc with rfl | hc
  ·rw [e,Ap] at hab;cases hab
  ·have:=(List.pairwise_cons.1 hp.2).1 c hc
   have this:R2 c.1 b.1=false:=this
   rw [e,hab] at this;cases this
theorem YP:∀ {l:List Ent},GQ l=true->Ud (l.map Prod.fst)=true
 | a::b::r,h=>by
  unfold GQ at h
  rw [Bool.or_eq_true] at h
  rw [List.map_cons]
  unfold Ud
  rw [Bool.or_eq_true]
  rcases h with h | h
  ·exact .inl (by simp [eq_of_beq h])
  ·exact .inr (YP h)
theorem Ap8 {l:List Ent} (hl:∀ e∈l,e.1.length<=1000000000):GQ (R4 l)=Ud (l.map Prod.fst):=by
 have hp:=(Dg hl).map Prod.fst
 cases h:GQ (R4 l) with
 | true=>
  have:=YP h
  cases hd:Ud (l.map Prod.fst) with
  | true=>rfl
  | false=>
   rw [Ij.2 (hp.nodup_iff.2 (Ij.1 hd))] at this
   cases this
 | false=>exact (Ij.2 (hp.nodup_iff.1 (Ap7 (Ph l) h))).symm
theorem Bc4 {E:List Ent} {e:Ent}:e∈isE E↔e∈E:=(Nr E).mem_iff
end
section
open Go Go.Proofs
set_option maxRecDepth 100000
section
def FJ:List PV->Tr
 | [.s (.str s)]=>.ret (.s (.bool false)) []
 | _=>.fail
def Ao8 (args:List PV):Tr:=FJ (C9 [[0]] args)
def FI:List PV->Tr
 | [.s (.int .i64 n)]=>.ret (.s (.bool false)) []
 | _=>.fail
def Ao7 (args:List PV):Tr:=FI (C9 [[0]] args)
def PC:List PV->Tr
 | [.s (.str s),.s (.str p)]=>.ret (.s (.int .i64 (T5 s p))) []
 | _=>.fail
def Bn6 (args:List PV):Tr:=PC (C9 [[0],[0]] args)
def PB:List PV->Tr
 | [.s (.int .i64 n),.s (.int .i64 m)]=>.ret (.s (.int .i64 (HX n m))) []
 | _=>.fail
def Bn5 (args:List PV):Tr:=PB (C9 [[0],[0]] args)
def FL:List PV->Tr
 | [.s (.str s),.s (.str p)]=>.need (A2 (List.length s)) (.need (A2 (List.length p)) (.ret (.s (.int .i64 (M3 s p))) []))
 | _=>.fail
def Qb (args:List PV):Tr:=FL (C9 [[0],[0]] args)
def FQ:List PV->Tr
 | [.agg [.s (.str h),.s (.bool b),.s (.int .i64 e)]]=>.need (A2 (List.length h)) (.ret (.s (.bool (Ah9 h e))) [])
 | _=>.fail
def FP (args:List PV):Tr:=FQ (C9 [[0,0,0]] args)
def GF:List PV->Tr
 | [.s (.int .i64 n),.s (.int .i64 m)]=>.ret (.s (.bool (not (ltI m n)))) []
 | _=>.fail
def GE (args:List PV):Tr:=GF (C9 [[0],[0]] args)
def FD:List PV->Tr
 | [.agg [.s (.str h),.s (.bool b)]]=>.need (A2 (List.length h)) (.ret (.s (.bool (not (D3 h)))) [])
 | _=>.fail
def Ao6 (args:List PV):Tr:=FD (C9 [[0,0]] args)
def PK:List PV->Tr
 | [.agg [.s (.str h),.s (.bool b)],.s (.str s)]=>.need (A2 (List.length h)) (.need (A2 (List.length s)) (.ret (.s (.int .i64 (M3 h s))) []))
 | _=>.fail
def Bn8 (args:List PV):Tr:=PK (C9 [[0,0],[0]] args)
def PY:List PV->Tr
 | [.agg [.s (.str h),.s (.bool b),.s (.int .i64 e)],.s (.str s)]=>.need (A2 (List.length h)) (.need (A2 (List.length s)) (.ret (.s (.int .i64 (M3 h s))) []))
 | _=>.fail
def Bo0 (args:List PV):Tr:=PY (C9 [[0,0,0],[0]] args)
def EZ:List PV->Tr
 | [.s (.sl l_z l_t 2 l),.s (.fn (Fn.func 58) [] [])]=>.need (List.all l D5) (.need (List.all l smE) (.need (A2 (List.length l)) (.ret (.s (.int .i64 (ixE (List.map A6 l)))) [])))
 | _=>.fail
def Ao5 (args:List PV):Tr:=EZ (C9 [[2],[0]] args)
def EY:List PV->Tr
 | [.s (.sl l_z l_t 2 l),.s (.fn (Fn.func 58) [] [])]=>.need (List.all l D5) (.need (List.all l smE) (.need (A2 (List.length l)) (.ret (.s (.bool (QD (List.map A6 l)))) [])))
 | _=>.fail
def EX (args:List PV):Tr:=EY (C9 [[2],[0]] args)
def EW:List PV->Tr
 | [.s (.sl l_z l_t 2 l)]=>.need (A2 (List.length l)) (.need (N2 l_z l) (.ret (.fl 0) [.arr l_z 63 2 l]))
 | _=>.fail
def EV (args:List PV):Tr:=EW (C9 [[2]] args)
def GM:List PV->Tr
 | [.s (.sl l_z l_t 3 l)]=>.need (A2 (List.length l)) (.need (N2 l_z l) (.ret (.fl 0) [.arr l_z 48 3 l]))
 | _=>.fail
def GL (args:List PV):Tr:=GM (C9 [[3]] args)
def Py:SV->List (List SV)->Bool × List (List SV)
 | .fn (Fn.func 62) [] [],l=>(((List.all l D5)&&((List.all l smE)&&(A2 (List.length l)))),(D1 (R4 (List.map A6 l))))
 | _,_=>(false,[])
def EU:List PV->Tr
 | [.s (.sl l_z l_t 2 l),.s (.str q),.s (.fn (Fn.func 66) [] [])]=>.need (List.all l D5) (.need (List.all l smE) (.need (A2 (List.length l)) (.need (A2 (List.length q)) (.ret (.tup [.s (.int .i64 (↑(bsI (List.map Prod.fst (List.map A6 l)) q):Int)),.s (.bool (bsB (List.map Prod.fst (List.map A6 l)) q))]) []))))
 | _=>.fail
def PJ (args:List PV):Tr:=EU (C9 [[2],[0],[0]] args)
def GK:List PV->Tr
 | [.s (.sl l_z l_t 3 l),.s (.str q),.s (.fn (Fn.func 78) [] [])]=>.need (List.all l F7) (.need (List.all l smE) (.need (A2 (List.length l)) (.need (A2 (List.length q)) (.ret (.tup [.s (.int .i64 (↑(bsI (List.map Prod.fst (List.map B0 l)) q):Int)),.s (.bool (bsB (List.map Prod.fst (List.map B0 l)) q))]) []))))
 | _=>.fail
def PX (args:List PV):Tr:=GK (C9 [[3],[0],[0]] args)
def FC:List PV->Tr
 | [.s (.sl l_z l_t 2 l)]=>.need (List.all l D5) (.need (List.all l smE) (.need (A2 (List.length l)) (.need (N2 l_z l) (.split ((Ew (List.map A6 l))==0) (.ret (.tup [.s (.sp [[.sl l_z l_z 2 (D1 (isE (List.map A6 l)))]] 0 0),.s (.int .i64 (0:Int))]) []) (.ret (.tup [.s (.nilp),.s (.int .i64 (↑(Ew (List.map A6 l)):Int))]) [])))))
 | _=>.fail
def PL (args:List PV):Tr:=FC (C9 [[2]] args)
def Vw:List PV->Tr
 | [.s (.sp [[.sl lz lt 2 l]] 0 0),.s (.str q)]=>.need (List.all l D5) (.need (List.all l smE) (.need (A2 (List.length l)) (.need (A2 (List.length q)) (.ret (.tup [.agg [.s (.str (((J2 (List.map A6 l) q)).1).1),.s (.bool (((J2 (List.map A6 l) q)).1).2)],.s (.bool ((J2 (List.map A6 l) q)).2)]) []))))
 | _=>.fail
def YD (args:List PV):Tr:=Vw (C9 [[0],[0]] args)
def Vx:List PV->Tr
 | [.s (.nilp),.s (.str q)]=>.ret (.tup [.agg [.s (.str ([]:List UInt8)),.s (.bool false)],.s (.bool false)]) []
 | _=>.fail
def YE (args:List PV):Tr:=Vx (C9 [[0],[0]] args)
def Vv (args:List PV):Tr:=(orT (YD args) (YE args))
def Wd:List PV->Tr
 | [.s (.int .i64 n)]=>.need ((ltI (0:Int) n)&&(ltI n (1001:Int))) (.ret (.tup [.ptr 1 0 0,.s (.int .i64 (0:Int))]) [.arr true 48 3 List.nil,.box [.fl 0,.s (.int .i64 n)]])
 | _=>.fail
def FS (args:List PV):Tr:=Wd (C9 [[0]] args)
def Qd:List PV->Tr
 | [.s (.sl t_z t_t 3 t),.s (.int .i64 cp)]=>.need (List.all t F7) (.need (List.all t smE) (.need (A2 (List.length t)) (.need (N2 t_z t) (.need ((ltI (0:Int) cp)&&(ltI cp (1001:Int))) (.split ((Ao cp (List.map B0 t))==0) (.ret (.tup [.s (.sp [[.sl t_z t_z 3 t,.int .i64 cp]] 0 0),.s (.int .i64 (0:Int))]) []) (.ret (.tup [.s (.nilp),.s (.int .i64 (↑(Ao cp (List.map B0 t)):Int))]) []))))))
 | _=>.fail
def Wc (args:List PV):Tr:=Qd (C9 [[3],[0]] args)
def Wn:List PV->Tr
 | [.s (.sp [[.sl tz tt 3 t,.int .i64 cp]] 0 0),.s (.str q)]=>.need (List.all t F7) (.need (List.all t smE) (.need (A2 (List.length t)) (.need (A2 (List.length q)) (.ret (.tup [.s (.int .i64 (↑(bsI (List.map Prod.fst (List.map B0 t)) q):Int)),.s (.bool (bsB (List.map Prod.fst (List.map B0 t)) q))]) []))))
 | _=>.fail
def YL (args:List PV):Tr:=Wn (C9 [[0],[0]] args)
def Wo:List PV->Tr
 | [.s (.nilp),.s (.str q)]=>.ret (.tup [.s (.int .i64 (0:Int)),.s (.bool false)]) []
 | _=>.fail
def YM (args:List PV):Tr:=Wo (C9 [[0],[0]] args)
def PZ (args:List PV):Tr:=(orT (YL args) (YM args))
def Wq:List PV->Tr
 | [.s (.sp [[.sl tz tt 3 t,.int .i64 cp]] 0 0),.s (.str q)]=>.need (List.all t F7) (.need (List.all t smE) (.need (A2 (List.length t)) (.need (A2 (List.length q)) (.ret (.tup [.agg [.s (.str (((L6 (List.map B0 t) q)).1).1),.s (.bool ((((L6 (List.map B0 t) q)).1).2).1),.s (.int .i64 ((((L6 (List.map B0 t) q)).1).2).2)],.s (.bool ((L6 (List.map B0 t) q)).2)]) []))))
 | _=>.fail
def YN (args:List PV):Tr:=Wq (C9 [[0],[0]] args)
def Wr:List PV->Tr
 | [.s (.nilp),.s (.str q)]=>.ret (.tup [.agg [.s (.str ([]:List UInt8)),.s (.bool false),.s (.int .i64 (0:Int))],.s (.bool false)]) []
 | _=>.fail
def YO (args:List PV):Tr:=Wr (C9 [[0],[0]] args)
def Wp (args:List PV):Tr:=(orT (YN args) (YO args))
def ED:List PV->Tr
 | [.s (.int .i64 now),.s (.sp [[.sl tz tt 3 t,.int .i64 cp]] 0 0),.s (.sp [[.sl lz lt 2 l]] 0 0),.s (.str u),.s (.bool ex)]=>.need (List.all t F7) (.need (List.all t smE) (.need (A2 (List.length t)) (.need (List.all l D5) (.need (List.all l smE) (.need (A2 (List.length l)) (.need (A2 (List.length u)) (.ret (.tup [.agg [.s (.int .i64 (((atV now (List.map B0 t) (List.map A6 l) u ex)).1).1),.s (.str ((((atV now (List.map B0 t) (List.map A6 l) u ex)).1).2).1),.s (.bool ((((atV now (List.map B0 t) (List.map A6 l) u ex)).1).2).2)],.s (.bool ((atV now (List.map B0 t) (List.map A6 l) u ex)).2)]) [])))))))
 | _=>.fail
def An5 (args:List PV):Tr:=ED (C9 [[0],[0],[0],[0],[0]] args)
def EE:List PV->Tr
 | [.s (.int .i64 now),.s (.nilp),.s (.sp [[.sl lz lt 2 l]] 0 0),.s (.str u),.s (.bool ex)]=>.need (List.all l D5) (.need (List.all l smE) (.need (A2 (List.length l)) (.need (A2 (List.length u)) (.ret (.tup [.agg [.s (.int .i64 (((atV now List.nil (List.map A6 l) u ex)).1).1),.s (.str ((((atV now List.nil (List.map A6 l) u ex)).1).2).1),.s (.bool ((((atV now List.nil (List.map A6 l) u ex)).1).2).2)],.s (.bool ((atV now List.nil (List.map A6 l) u ex)).2)]) []))))
 | _=>.fail
def An6 (args:List PV):Tr:=EE (C9 [[0],[0],[0],[0],[0]] args)
def EF:List PV->Tr
 | [.s (.int .i64 now),.s (.sp [[.sl tz tt 3 t,.int .i64 cp]] 0 0),.s (.nilp),.s (.str u),.s (.bool ex)]=>.need (List.all t F7) (.need (List.all t smE) (.need (A2 (List.length t)) (.need (A2 (List.length u)) (.ret (.tup [.agg [.s (.int .i64 (((atV now (List.map B0 t) List.nil u ex)).1).1),.s (.str ((((atV now (List.map B0 t) List.nil u ex)).1).2).1),.s (.bool ((((atV now (List.map B0 t) List.nil u ex)).1).2).2)],.s (.bool ((atV now (List.map B0 t) List.nil u ex)).2)]) []))))
 | _=>.fail
def An7 (args:List PV):Tr:=EF (C9 [[0],[0],[0],[0],[0]] args)
def EG:List PV->Tr
 | [.s (.int .i64 now),.s (.nilp),.s (.nilp),.s (.str u),.s (.bool ex)]=>.need (A2 (List.length u)) (.ret (.tup [.agg [.s (.int .i64 (((atV now List.nil List.nil u ex)).1).1),.s (.str ((((atV now List.nil List.nil u ex)).1).2).1),.s (.bool ((((atV now List.nil List.nil u ex)).1).2).2)],.s (.bool ((atV now List.nil List.nil u ex)).2)]) [])
 | _=>.fail
def An8 (args:List PV):Tr:=EG (C9 [[0],[0],[0],[0],[0]] args)
def Mi (args:List PV):Tr:=(orT (An5 args) (orT (An6 args) (orT (An7 args) (An8 args))))
def EH:List PV->Tr
 | [.s (.int .i64 now),.s (.sp [[.sl tz tt 3 t,.int .i64 cp]] 0 0),.s (.sp [[.sl lz lt 2 l]] 0 0),.agg [.s (.int .i64 kd),.s (.str nm),.s (.int .u32 v4),.s (.int .u16 a0),.s (.int .u16 a1),.s (.int .u16 a2),.s (.int .u16 a3),.s (.int .u16 a4),.s (.int .u16 a5),.s (.int .u16 a6),.s (.int .u16 a7)]]=>.need (List.all t F7) (.need (List.all t smE) (.need (A2 (List.length t)) (.need (List.all l D5) (.need (List.all l smE) (.need (A2 (List.length l)) (.need (A2 (List.length nm)) (.need (ltN v4 4294967296) (.need (ok8 a0 a1 a2 a3 a4 a5 a6 a7) (.ret (.agg [.s (.int .i64 ((C5 now (List.map B0 t) (List.map A6 l) kd (mkH kd nm v4 (n8 a0 a1 a2 a3 a4 a5 a6 a7)))).1),.s (.str (((C5 now (List.map B0 t) (List.map A6 l) kd (mkH kd nm v4 (n8 a0 a1 a2 a3 a4 a5 a6 a7)))).2).1),.s (.bool (((C5 now (List.map B0 t) (List.map A6 l) kd (mkH kd nm v4 (n8 a0 a1 a2 a3 a4 a5 a6 a7)))).2).2)]) [])))))))))
 | _=>.fail
def An9 (args:List PV):Tr:=EH (C9 [[0],[0],[0],[0,0,0,0,0,0,0,0,0,0,0]] args)
def EI:List PV->Tr
 | [.s (.int .i64 now),.s (.nilp),.s (.sp [[.sl lz lt 2 l]] 0 0),.agg [.s (.int .i64 kd),.s (.str nm),.s (.int .u32 v4),.s (.int .u16 a0),.s (.int .u16 a1),.s (.int .u16 a2),.s (.int .u16 a3),.s (.int .u16 a4),.s (.int .u16 a5),.s (.int .u16 a6),.s (.int .u16 a7)]]=>.need (List.all l D5) (.need (List.all l smE) (.need (A2 (List.length l)) (.need (A2 (List.length nm)) (.need (ltN v4 4294967296) (.need (ok8 a0 a1 a2 a3 a4 a5 a6 a7) (.ret (.agg [.s (.int .i64 ((C5 now List.nil (List.map A6 l) kd (mkH kd nm v4 (n8 a0 a1 a2 a3 a4 a5 a6 a7)))).1),.s (.str (((C5 now List.nil (List.map A6 l) kd (mkH kd nm v4 (n8 a0 a1 a2 a3 a4 a5 a6 a7)))).2).1),.s (.bool (((C5 now List.nil (List.map A6 l) kd (mkH kd nm v4 (n8 a0 a1 a2 a3 a4 a5 a6 a7)))).2).2)]) []))))))
 | _=>.fail
def Ao0 (args:List PV):Tr:=EI (C9 [[0],[0],[0],[0,0,0,0,0,0,0,0,0,0,0]] args)
def EJ:List PV->Tr
 | [.s (.int .i64 now),.s (.sp [[.sl tz tt 3 t,.int .i64 cp]] 0 0),.s (.nilp),.agg [.s (.int .i64 kd),.s (.str nm),.s (.int .u32 v4),.s (.int .u16 a0),.s (.int .u16 a1),.s (.int .u16 a2),.s (.int .u16 a3),.s (.int .u16 a4),.s (.int .u16 a5),.s (.int .u16 a6),.s (.int .u16 a7)]]=>.need (List.all t F7) (.need (List.all t smE) (.need (A2 (List.length t)) (.need (A2 (List.length nm)) (.need (ltN v4 4294967296) (.need (ok8 a0 a1 a2 a3 a4 a5 a6 a7) (.ret (.agg [.s (.int .i64 ((C5 now (List.map B0 t) List.nil kd (mkH kd nm v4 (n8 a0 a1 a2 a3 a4 a5 a6 a7)))).1),.s (.str (((C5 now (List.map B0 t) List.nil kd (mkH kd nm v4 (n8 a0 a1 a2 a3 a4 a5 a6 a7)))).2).1),.s (.bool (((C5 now (List.map B0 t) List.nil kd (mkH kd nm v4 (n8 a0 a1 a2 a3 a4 a5 a6 a7)))).2).2)]) []))))))
 | _=>.fail
def Ao1 (args:List PV):Tr:=EJ (C9 [[0],[0],[0],[0,0,0,0,0,0,0,0,0,0,0]] args)
def EK:List PV->Tr
 | [.s (.int .i64 now),.s (.nilp),.s (.nilp),.agg [.s (.int .i64 kd),.s (.str nm),.s (.int .u32 v4),.s (.int .u16 a0),.s (.int .u16 a1),.s (.int .u16 a2),.s (.int .u16 a3),.s (.int .u16 a4),.s (.int .u16 a5),.s (.int .u16 a6),.s (.int .u16 a7)]]=>.need (A2 (List.length nm)) (.need (ltN v4 4294967296) (.need (ok8 a0 a1 a2 a3 a4 a5 a6 a7) (.ret (.agg [.s (.int .i64 ((C5 now List.nil List.nil kd (mkH kd nm v4 (n8 a0 a1 a2 a3 a4 a5 a6 a7)))).1),.s (.str (((C5 now List.nil List.nil kd (mkH kd nm v4 (n8 a0 a1 a2 a3 a4 a5 a6 a7)))).2).1),.s (.bool (((C5 now List.nil List.nil kd (mkH kd nm v4 (n8 a0 a1 a2 a3 a4 a5 a6 a7)))).2).2)]) [])))
 | _=>.fail
def Ao2 (args:List PV):Tr:=EK (C9 [[0],[0],[0],[0,0,0,0,0,0,0,0,0,0,0]] args)
def Vo (args:List PV):Tr:=(orT (An9 args) (orT (Ao0 args) (orT (Ao1 args) (Ao2 args))))
def Kw:List PV->Tr
 | [.s (.int .i64 now),.s (.sp [[.sl tz tt 3 t,.int .i64 cp]] 0 0),.s (.sp [[.sl lz lt 2 l]] 0 0),.agg [.s (.int .i64 kd),.s (.str nm),.s (.int .u32 v4),.s (.int .u16 a0),.s (.int .u16 a1),.s (.int .u16 a2),.s (.int .u16 a3),.s (.int .u16 a4),.s (.int .u16 a5),.s (.int .u16 a6),.s (.int .u16 a7)]]=>.need (List.all t F7) (.need (List.all t smE) (.need (A2 (List.length t)) (.need (List.all l D5) (.need (List.all l smE) (.need (A2 (List.length l)) (.need (A2 (List.length nm)) (.need (ltN v4 4294967296) (.need (ok8 a0 a1 a2 a3 a4 a5 a6 a7) (.ret (.s (.bool (((C5 now (List.map B0 t) (List.map A6 l) kd (mkH kd nm v4 (n8 a0 a1 a2 a3 a4 a5 a6 a7)))).1 != (0:Int)))) [])))))))))
 | _=>.fail
def AL (args:List PV):Tr:=Kw (C9 [[0],[0],[0],[0,0,0,0,0,0,0,0,0,0,0]] args)
def Kx:List PV->Tr
 | [.s (.int .i64 now),.s (.nilp),.s (.sp [[.sl lz lt 2 l]] 0 0),.agg [.s (.int .i64 kd),.s (.str nm),.s (.int .u32 v4),.s (.int .u16 a0),.s (.int .u16 a1),.s (.int .u16 a2),.s (.int .u16 a3),.s (.int .u16 a4),.s (.int .u16 a5),.s (.int .u16 a6),.s (.int .u16 a7)]]=>.need (List.all l D5) (.need (List.all l smE) (.need (A2 (List.length l)) (.need (A2 (List.length nm)) (.need (ltN v4 4294967296) (.need (ok8 a0 a1 a2 a3 a4 a5 a6 a7) (.ret (.s (.bool (((C5 now List.nil (List.map A6 l) kd (mkH kd nm v4 (n8 a0 a1 a2 a3 a4 a5 a6 a7)))).1 != (0:Int)))) []))))))
 | _=>.fail
def AM (args:List PV):Tr:=Kx (C9 [[0],[0],[0],[0,0,0,0,0,0,0,0,0,0,0]] args)
def Ky:List PV->Tr
 | [.s (.int .i64 now),.s (.sp [[.sl tz tt 3 t,.int .i64 cp]] 0 0),.s (.nilp),.agg [.s (.int .i64 kd),.s (.str nm),.s (.int .u32 v4),.s (.int .u16 a0),.s (.int .u16 a1),.s (.int .u16 a2),.s (.int .u16 a3),.s (.int .u16 a4),.s (.int .u16 a5),.s (.int .u16 a6),.s (.int .u16 a7)]]=>.need (List.all t F7) (.need (List.all t smE) (.need (A2 (List.length t)) (.need (A2 (List.length nm)) (.need (ltN v4 4294967296) (.need (ok8 a0 a1 a2 a3 a4 a5 a6 a7) (.ret (.s (.bool (((C5 now (List.map B0 t) List.nil kd (mkH kd nm v4 (n8 a0 a1 a2 a3 a4 a5 a6 a7)))).1 != (0:Int)))) []))))))
 | _=>.fail
def AN (args:List PV):Tr:=Ky (C9 [[0],[0],[0],[0,0,0,0,0,0,0,0,0,0,0]] args)
def Kz:List PV->Tr
 | [.s (.int .i64 now),.s (.nilp),.s (.nilp),.agg [.s (.int .i64 kd),.s (.str nm),.s (.int .u32 v4),.s (.int .u16 a0),.s (.int .u16 a1),.s (.int .u16 a2),.s (.int .u16 a3),.s (.int .u16 a4),.s (.int .u16 a5),.s (.int .u16 a6),.s (.int .u16 a7)]]=>.need (A2 (List.length nm)) (.need (ltN v4 4294967296) (.need (ok8 a0 a1 a2 a3 a4 a5 a6 a7) (.ret (.s (.bool (((C5 now List.nil List.nil kd (mkH kd nm v4 (n8 a0 a1 a2 a3 a4 a5 a6 a7)))).1 != (0:Int)))) [])))
 | _=>.fail
def AO (args:List PV):Tr:=Kz (C9 [[0],[0],[0],[0,0,0,0,0,0,0,0,0,0,0]] args)
def Vp (args:List PV):Tr:=(orT (AL args) (orT (AM args) (orT (AN args) (AO args))))
def ET:List PV->Tr
 | [.s (.sl t_z t_t 3 t),.s (.int .i64 n)]=>.need (List.all t F7) (.need (ltI n (1001:Int)) (.ret (.s (.bool (Ay n t))) []))
 | _=>.fail
def PI (args:List PV):Tr:=ET (C9 [[3],[0]] args)
def ES:List PV->Tr
 | [.s (.sl l_z l_t 2 l),.s (.int .i64 n)]=>.need (List.all l D5) (.need (ltI n (1001:Int)) (.ret (.s (.bool (Ay n l))) []))
 | _=>.fail
def PH (args:List PV):Tr:=ES (C9 [[2],[0]] args)
def Kv:List PV->Tr
 | []=>.ret (.s (.bool true)) []
 | _=>.fail
def Pu (args:List PV):Tr:=Kv (C9 [] args)
def FG:List PV->Tr
 | [.s (.sl t_z t_t 3 t),.s (.sl l_z l_t 2 l)]=>.need (List.all t F7) (.need (List.all t smE) (.need (A2 (List.length t)) (.need (List.all l D5) (.need (List.all l smE) (.need (A2 (List.length l)) (.need (N2 t_z t) (.need (N2 l_z l) (.split ((Ao (1000:Int) (List.map B0 t))==0) (.split ((Ew (List.map A6 l))==0) (.ret (.tup [.s (.sp [[.sl t_z t_z 3 t,.int .i64 (1000:Int)]] 0 0),.s (.sp [[.sl l_z l_z 2 (D1 (isE (List.map A6 l)))]] 0 0),.s (.bool true)]) []) (.ret (.tup [.s (.sp [[.sl t_z t_z 3 t,.int .i64 (1000:Int)]] 0 0),.s (.nilp),.s (.bool false)]) [])) (.split ((Ew (List.map A6 l))==0) (.ret (.tup [.s (.nilp),.s (.sp [[.sl l_z l_z 2 (D1 (isE (List.map A6 l)))]] 0 0),.s (.bool false)]) []) (.ret (.tup [.s (.nilp),.s (.nilp),.s (.bool false)]) []))))))))))
 | _=>.fail
def PN (args:List PV):Tr:=FG (C9 [[3],[2]] args)
end
section
variable {σ R : Type} (lf : Nat) (cl : D4) (yh : Yh σ) (s : σ) (k : Out -> St σ -> Option R)
noncomputable def QX (lf:Nat):Cfg:=B8 lf [143] (A4 []) [] (A4 [(1,[2]),(0,[0])]) [] (A4 []) (some [2]) [] [] []
noncomputable def Bf1 {R:Type} (lf:Nat) (x0:By) (k0:Bool->Option R):Option R:=k0 (not (x0==x0))
theorem Bf2 (d:Nat) (x0):evC (QX lf) (d+1) σ yh 143 [pS x0] [] s=Bf1 lf x0 (λr0=>some (pB r0,[],s)):=by
 refine (evE (fn:=Tryz.f143) (by kernel_rfl)).trans ?_
 generalize evC (QX lf) d=cl
 unfold Bf1;kernel_rfl
noncomputable def QW (lf:Nat):Cfg:=B8 lf [144] (A4 []) [] (A4 [(1,[2]),(0,[0])]) [] (A4 []) (some [2]) [] [] []
noncomputable def Be9 {R:Type} (lf:Nat) (x0:Int) (k0:Bool->Option R):Option R:=k0 (x0 != x0)
theorem Bf0 (d:Nat) (x0):evC (QW lf) (d+1) σ yh 144 [pI x0] [] s=Be9 lf x0 (λr0=>some (pB r0,[],s)):=by
 refine (evE (fn:=Tryz.f144) (by kernel_rfl)).trans ?_
 generalize evC (QW lf) d=cl
 unfold Be9;kernel_rfl
noncomputable def Ar9 (lf:Nat):Cfg:=B8 lf [98] (A4 []) [(143,Ao8)] (A4 [(13,[4]),(12,[4]),(11,[19]),(10,[4]),(9,[0,0,14]),(8,[4]),(7,[0,0,11]),(6,[4]),(5,[4]),(4,[12]),(3,[0,0,4,4]),(2,[0,0,3,0]),(1,[0,0,3]),(0,[0,0])]) [143] (A4 []) (some [4]) [] [] []
noncomputable def ccs {R:Type} (lf:Nat) (x0 y1:By) (k0:Int->Option R):Option R:=cond (bytesLess x0 y1) (k0 (-1)) (cond (not ((bytesLess x0 y1) || (x0==y1))) (k0 1) (k0 0))
theorem Bq0 (d:Nat) (x0 y1):evC (Ar9 lf) (d+1) σ yh 98 [pS x0,pS y1] [] s=ccs lf x0 y1 (λr0=>some (pI r0,[],s)):=by
 refine (evE (fn:=Tryz.f98) (by kernel_rfl)).trans ?_
 generalize evC (Ar9 lf) d=cl
 unfold ccs;kernel_rfl
noncomputable def Ar8 (lf:Nat):Cfg:=B8 lf [99] (A4 []) [(144,Ao7)] (A4 [(13,[4]),(12,[4]),(11,[19]),(10,[4]),(9,[0,0,14]),(8,[4]),(7,[0,0,11]),(6,[4]),(5,[4]),(4,[12]),(3,[0,0,4,4]),(2,[0,0,3,0]),(1,[0,0,3]),(0,[0,0])]) [144] (A4 []) (some [4]) [] [] []
noncomputable def cci {R:Type} (lf:Nat) (x0 y1:Int) (k0:Int->Option R):Option R:=cond (ltI x0 y1) (k0 (-1)) (cond (ltI y1 x0) (k0 1) (k0 0))
theorem Bp9 (d:Nat) (x0 y1):evC (Ar8 lf) (d+1) σ yh 99 [pI x0,pI y1] [] s=cci lf x0 y1 (λr0=>some (pI r0,[],s)):=by
 refine (evE (fn:=Tryz.f99) (by kernel_rfl)).trans ?_
 generalize evC (Ar8 lf) d=cl
 unfold cci;kernel_rfl
noncomputable abbrev Ar2:Code:=D2 Tryz.f63
noncomputable def Lo (lf:Nat):Cfg:=B8 lf [63] (A4 [(2,[0,0,2,0,0])]) [(97,Uj),(98,Bn6),(99,Bn5)] (A4 [(8,[4]),(7,[0,0]),(6,[0,0,3,0,22]),(5,[4]),(4,[0,0,3,0,0,14]),(3,[0,0,3,0,0]),(2,[0,0,3,0]),(1,[0,0]),(0,[0,0])]) [97,98,99] (A4 [(0,[5,0]),(1,[0,0])]) (some [4]) [] [] []
noncomputable def Ka {R:Type} (lf n:Nat) (a0 b1:By) (k0:Int->Option R) (k1:Int->Int->Option R):Option R:=match n with | 0=>none | n+1=>cond (A2 a0.length) (vl (G3 (u8n (46:Int)) a0) λn'2=>cond (A2 b1.length) (vl (G3 (u8n (46:Int)) b1) λn'3=>cond (O6 (A1 (n'2+1)) (a0.length:Int) a0.length) (vl (cut a0 (A1 (n'2+1)) (a0.length:Int)) λs'6=>cond (O6 (A1 (n'3+1)) (b1.length:Int) b1.length) (vl (cut b1 (A1 (n'3+1)) (b1.length:Int)) λs'7=>cond ((T5 s'6 s'7) != 0) (k0 (T5 s'6 s'7)) (cond (ltI n'2 0) (k1 n'2 n'3) (cond (ltI n'3 0) (k1 n'2 n'3) (cond (O6 0 n'2 a0.length) (cond (O6 0 n'3 b1.length) (Ka lf n (cut a0 0 n'2) (cut b1 0 n'3) k0 k1) none) none)))) none) none) none) none
theorem UQ (n a0 b1):E4 0 ((Lo lf).keep 2) (bd (Lo lf) cl yh (cd [1,0,1,1,0,0,0] Ar2)) n ⟨gp [(0,pS a0),(0,pS b1)] 39,[],s⟩ k =
 Ka lf n a0 b1 (λn0=>k .ret ⟨gp [(4,pI n0)] 36,[],s⟩) (λi0 kk1=>k (.exit 0) ⟨gp [(5,pI i0),(0,pI kk1)] 34,[],s⟩):=by
 induction n generalizing a0 b1 with
 | zero=>rfl
 | succ n ih=>rw [Ka];simp only [<-ih];kernel_rfl
noncomputable def Bf9 {R:Type} (lf:Nat) (a0 b1:By) (k0:Int->Option R):Option R:=Ka lf lf a0 b1 (λn'8=>k0 n'8) (λi'9 kk'10=>vl (HX (if ((0:Int)<i'9) then (0:Int) else i'9) (if ((0:Int)<kk'10) then (0:Int) else kk'10)) λn'11=>k0 n'11)
theorem Bg0 (d:Nat) (a0 b1):evC (Lo lf) (d+1) σ yh 63 [pS a0,pS b1] [] s=Bf9 lf a0 b1 (λr0=>some (pI r0,[],s)):=by
 refine (evE (fn:=Tryz.f63) (by kernel_rfl)).trans ?_
 generalize evC (Lo lf) d=cl
 unfold Bf9;exact (Eq.trans (by kernel_rfl) ((UQ lf cl yh s (H4 0 (I5 (Lo lf) cl yh (cd [1,0,1,1,1] Ar2) (G9 (Lo lf) Tryz.f63))) lf a0 b1).trans (by kernel_rfl)))
noncomputable def QZ (lf:Nat):Cfg:=B8 lf [45] (A4 []) [(59,AP)] (A4 [(1,[2]),(0,[1])]) [59] (A4 []) (some [2]) [] [] []
noncomputable def Bg9 {R:Type} (lf:Nat) (p0:By) (p1:Bool) (p2:Int) (k0:Bool->By->Bool->Int->Option R):Option R:=cond (A2 p0.length) (cond (D3 p0) (cond (not (ltI p2 0)) (k0 (not (ltI 1099511627776 p2)) p0 p1 p2) (k0 false p0 p1 p2)) (k0 false p0 p1 p2)) none
theorem Bh0 (d:Nat) (p0 p1 p2):evC (QZ lf) (d+1) σ yh 45 [.agg [pS p0,pB p1,pI p2]] [] s=Bg9 lf p0 p1 p2 (λr0 s1 b2 n3=>some (pB r0,[.box [pS s1,pB b2,pI n3]],s)):=by
 refine (evE (fn:=Tryz.f45) (by kernel_rfl)).trans ?_
 generalize evC (QZ lf) d=cl
 unfold Bg9;kernel_rfl
noncomputable def RD (lf:Nat):Cfg:=B8 lf [75] (A4 []) [] (A4 [(1,[4]),(0,[0,0])]) [] (A4 []) (some [4]) [] [] []
noncomputable def Bs9 {R:Type} (lf:Nat) (expiry0 now1:Int) (k0:Bool->Option R):Option R:=k0 (not (ltI now1 expiry0))
theorem Bj3 (d:Nat) (expiry0 now1):evC (RD lf) (d+1) σ yh 75 [pI expiry0,pI now1] [] s=Bs9 lf expiry0 now1 (λr0=>some (pB r0,[],s)):=by
 refine (evE (fn:=Tryz.f75) (by kernel_rfl)).trans ?_
 generalize evC (RD lf) d=cl
 unfold Bs9;kernel_rfl
noncomputable def QS (lf:Nat):Cfg:=B8 lf [58] (A4 []) [(59,AP)] (A4 [(1,[2]),(0,[1])]) [59] (A4 []) (some [2]) [] [] []
noncomputable def Be0 {R:Type} (lf:Nat) (x0:By) (x1:Bool) (k0:Bool->By->Bool->Option R):Option R:=cond (A2 x0.length) (k0 (not (D3 x0)) x0 x1) none
theorem Be1 (d:Nat) (x0 x1):evC (QS lf) (d+1) σ yh 58 [.agg [pS x0,pB x1]] [] s=Be0 lf x0 x1 (λr0 s1 b2=>some (pB r0,[.box [pS s1,pB b2]],s)):=by
 refine (evE (fn:=Tryz.f58) (by kernel_rfl)).trans ?_
 generalize evC (QS lf) d=cl
 unfold Be0;kernel_rfl
noncomputable def As0 (lf:Nat):Cfg:=B8 lf [66] (A4 []) [(63,Qb)] (A4 [(1,[4]),(0,[1,0])]) [63] (A4 []) (some [4]) [] [] []
noncomputable def lgf {R:Type} (lf:Nat) (x0:By) (x1:Bool) (name2:By) (k0:Int->By->Bool->Option R):Option R:=cond (A2 x0.length) (cond (A2 name2.length) (k0 (M3 x0 name2) x0 x1) none) none
theorem Br9 (d:Nat) (x0 x1 name2):evC (As0 lf) (d+1) σ yh 66 [.agg [pS x0,pB x1],pS name2] [] s=lgf lf x0 x1 name2 (λr0 s1 b2=>some (pI r0,[.box [pS s1,pB b2]],s)):=by
 refine (evE (fn:=Tryz.f66) (by kernel_rfl)).trans ?_
 generalize evC (As0 lf) d=cl
 unfold lgf;kernel_rfl
noncomputable def As2 (lf:Nat):Cfg:=B8 lf [78] (A4 []) [(63,Qb)] (A4 [(1,[4]),(0,[1,0])]) [63] (A4 []) (some [4]) [] [] []
noncomputable def tff {R:Type} (lf:Nat) (p0:By) (p1:Bool) (p2:Int) (host3:By) (k0:Int->By->Bool->Int->Option R):Option R:=cond (A2 p0.length) (cond (A2 host3.length) (k0 (M3 p0 host3) p0 p1 p2) none) none
theorem Bt3 (d:Nat) (p0 p1 p2 host3):evC (As2 lf) (d+1) σ yh 78 [.agg [pS p0,pB p1,pI p2],pS host3] [] s=tff lf p0 p1 p2 host3 (λr0 s1 b2 n3=>some (pI r0,[.box [pS s1,pB b2,pI n3]],s)):=by
 refine (evE (fn:=Tryz.f78) (by kernel_rfl)).trans ?_
 generalize evC (As2 lf) d=cl
 unfold tff;kernel_rfl
noncomputable abbrev Aq9:Code:=D2 Tryz.f92
noncomputable def Ll (lf:Nat):Cfg:=B8 lf [92] (A4 [(2,[0,0,2,2,0])]) [(58,Ao6)] (A4 [(7,[4]),(6,[0,0,5,0]),(5,[4]),(4,[0,0,3,1,0,7]),(3,[0,0,3,1,0]),(2,[0,0,5,0,0]),(1,[0,0,5,0]),(0,[0,0])]) [58] (A4 [(0,[]),(1,[0,0,5,0])]) (some [4]) [] [] []
noncomputable def Gv {R:Type} (lf n:Nat) (s_z0 s_t1:Bool) (s2:LL) (n3 n4:Int) (k0:Int->Option R) (k1:Unit->Option R):Option R:=match n with | 0=>none | n+1=>cond (ltI n4 n3) (cond (inR n4 s2.length) (cond (okE ⟨true,true,[.str,.bool]⟩ s2 (Int.toNat n4) 0) (cond (A2 (List.length (gX s2 (Int.toNat n4) 0))) (cond (not (D3 (gX s2 (Int.toNat n4) 0))) (k0 n4) (Gv lf n s_z0 s_t1 s2 n3 (A1 (n4+1)) k0 k1)) none) none) none) (k1 ())
theorem TW (n s_z0 s_t1 s2 n3 n4):E4 0 ((Ll lf).keep 2) (bd (Ll lf) cl yh (cd [1,0,1,0,0] Aq9)) n ⟨gp [(0,.s (.sl s_z0 s_t1 2 s2)),(0,.s (.fn (Fn.func 58) [] [])),(5,pI n3),(0,pI n4)] 10,[],s⟩ k =
 Gv lf n s_z0 s_t1 s2 n3 n4 (λn0=>k .ret ⟨gp [(4,pI n0)] 14,[],s⟩) (λ_=>k (.exit 0) ⟨gp [] 19,[],s⟩):=by
 induction n generalizing s_z0 s_t1 s2 n3 n4 with
 | zero=>rfl
 | succ n ih=>rw [Gv];simp only [<-ih];kernel_rfl
noncomputable def Bd8 {R:Type} (lf:Nat) (l_z l_t:Bool) (l:LL) (k0:Int->Option R):Option R:=Gv lf lf l_z l_t l (l.length:Int) 0 (λn'0=>k0 n'0) (λ_=>k0 (-1))
theorem Bd9 (d:Nat) (l_z l_t l):evC (Ll lf) (d+1) σ yh 92 [.s (.sl l_z l_t 2 l),.s (.fn (Fn.func 58) [] [])] [] s=Bd8 lf l_z l_t l (λr0=>some (pI r0,[],s)):=by
 refine (evE (fn:=Tryz.f92) (by kernel_rfl)).trans ?_
 generalize evC (Ll lf) d=cl
 unfold Bd8;exact (Eq.trans (by kernel_rfl) ((TW lf cl yh s (H4 0 (I5 (Ll lf) cl yh (cd [1,1] Aq9) (G9 (Ll lf) Tryz.f92))) lf l_z l_t l (l.length:Int) 0).trans (by kernel_rfl)))
noncomputable def QR (lf:Nat):Cfg:=B8 lf [57] (A4 []) [(92,Ao5)] (A4 [(1,[4]),(0,[0,0])]) [92] (A4 []) (some [4]) [] [] []
noncomputable def Bd4 {R:Type} (lf:Nat) (l_z l_t:Bool) (l:LL) (k0:Bool->Option R):Option R:=cond (List.all l D5) (cond (List.all l smE) (cond (A2 l.length) (k0 (not (ltI (ixE (List.map A6 l)) (0:Int)))) none) none) none
theorem Bd5 (d:Nat) (l_z l_t l):evC (QR lf) (d+1) σ yh 57 [.s (.sl l_z l_t 2 l),.s (.fn (Fn.func 58) [] [])] [] s=Bd4 lf l_z l_t l (λr0=>some (pB r0,[],s)):=by
 refine (evE (fn:=Tryz.f57) (by kernel_rfl)).trans ?_
 generalize evC (QR lf) d=cl
 unfold Bd4;kernel_rfl
noncomputable def QQ (lf:Nat):Cfg:=B8 lf [60] (A4 []) [] (A4 [(3,[2]),(2,[2]),(1,[0,3]),(0,[0])]) [] (A4 []) (some [2]) [] [] []
noncomputable def Bd2 {R:Type} (lf:Nat) (l_z l_t:Bool) (l:LL) (k0:Bool->LL->Option R):Option R:=cond l_z (k0 true []) (cond (G0 (0+l.length)) (k0 false l) none)
theorem Bd3 (d:Nat) (l_z l_t l):evC (QQ lf) (d+1) σ yh 60 [.s (.sl l_z l_t 2 l)] [] s=Bd2 lf l_z l_t l (λz0 l1=>some (.fl 0,[.arr z0 63 2 l1],s)):=by
 refine (evE (fn:=Tryz.f60) (by kernel_rfl)).trans ?_
 generalize evC (QQ lf) d=cl
 unfold Bd2;kernel_rfl
noncomputable def RF (lf:Nat):Cfg:=B8 lf [74] (A4 []) [] (A4 [(3,[2]),(2,[2]),(1,[0,3]),(0,[0])]) [] (A4 []) (some [2]) [] [] []
noncomputable def Bk3 {R:Type} (lf:Nat) (l_z l_t:Bool) (l:LL) (k0:Bool->LL->Option R):Option R:=cond l_z (k0 true []) (cond (G0 (0+l.length)) (k0 false l) none)
theorem Bk4 (d:Nat) (l_z l_t l):evC (RF lf) (d+1) σ yh 74 [.s (.sl l_z l_t 3 l)] [] s=Bk3 lf l_z l_t l (λz0 l1=>some (.fl 0,[.arr z0 48 3 l1],s)):=by
 refine (evE (fn:=Tryz.f74) (by kernel_rfl)).trans ?_
 generalize evC (RF lf) d=cl
 unfold Bk3;kernel_rfl
noncomputable abbrev Aq7:Code:=D2 Tryz.f65
noncomputable def Lk (lf:Nat):Cfg:=B8 lf [65] (A4 [(3,[0,0,0,3,0,0,0,0])]) [(66,Bn8)] (A4 [(8,[6,0]),(6,[0,0,0,5,0,0]),(7,[0,0,0,5,0,0]),(5,[0,0,0,5,0,0,0,19]),(4,[0,0,0,5,0,0,0]),(3,[0,0,0,5,0,0,6]),(2,[0,0,0,5,0,0]),(1,[0,0,0,5]),(0,[0,0,0])]) [66] (A4 [(0,[0,0,0,5,0]),(1,[0,0,0,5,0,0])]) (some [6,0]) [] [] []
noncomputable def Dw {R:Type} (lf n:Nat) (x_z0 x_t1:Bool) (x2:LL) (target3:By) (n4 i5 j6:Int) (k0:Bool->Bool->LL->By->Int->Int->Option R):Option R:=match n with | 0=>none | n+1=>cond (ltI i5 j6) (vl (Ak8 .u64 (Am4 (A1 (i5+j6))) (1:Int)) λn'1=>cond (inR (A1 n'1) x2.length) (cond (okE ⟨true,true,[.str,.bool]⟩ x2 (Int.toNat (A1 n'1)) 0) (vl (gX x2 (Int.toNat (A1 n'1)) 0) λs'2=>cond (A2 s'2.length) (cond (A2 target3.length) (cond (ltI (M3 s'2 target3) (0:Int)) (vl (A1 ((A1 n'1)+1)) λn'3=>Dw lf n x_z0 x_t1 x2 target3 n4 n'3 j6 k0) (Dw lf n x_z0 x_t1 x2 target3 n4 i5 (A1 n'1) k0)) none) none) none) none) (k0 x_z0 x_t1 x2 target3 n4 i5)
theorem TO (n x_z0 x_t1 x2 target3 n4 i5 j6):E4 0 ((Lk lf).keep 3) (bd (Lk lf) cl yh (cd [1,1,1,0,0,0] Aq7)) n ⟨gp [(0,.s (.sl x_z0 x_t1 2 x2)),(0,pS target3),(0,.s (.fn (Fn.func 66) [] [])),(5,pI n4),(0,pI i5),(0,pI j6)] 38,[],s⟩ k =
 Dw lf n x_z0 x_t1 x2 target3 n4 i5 j6 (λx_z0 x_t1 x2 target3 n4 i5=>k (.exit 0) ⟨gp [(0,.s (.sl x_z0 x_t1 2 x2)),(0,pS target3),(0,.s (.fn (Fn.func 66) [] [])),(5,pI n4),(0,pI i5)] 39,[],s⟩):=by
 induction n generalizing x_z0 x_t1 x2 target3 n4 i5 j6 with
 | zero=>rfl
 | succ n ih=>rw [Dw];simp only [<-ih];kernel_rfl
noncomputable def Bd0 {R:Type} (lf:Nat) (l_z l_t:Bool) (l:LL) (q:By) (k0:Int->Bool->Option R):Option R:=Dw lf lf l_z l_t l q (l.length:Int) 0 (l.length:Int) (λx_z'4 x_t'5 x'6 target'7 n'8 i'9=>cond (ltI i'9 n'8) (cond (inR i'9 x'6.length) (cond (okE ⟨true,true,[.str,.bool]⟩ x'6 (Int.toNat i'9) 0) (vl (gX x'6 (Int.toNat i'9) 0) λs'10=>cond (A2 s'10.length) (cond (A2 target'7.length) (k0 i'9 ((M3 s'10 target'7)==0)) none) none) none) none) (k0 i'9 false))
theorem Bd1 (d:Nat) (l_z l_t l q):evC (Lk lf) (d+1) σ yh 65 [.s (.sl l_z l_t 2 l),pS q,.s (.fn (Fn.func 66) [] [])] [] s=Bd0 lf l_z l_t l q (λr0 r1=>some (.tup [pI r0,pB r1],[],s)):=by
 refine (evE (fn:=Tryz.f65) (by kernel_rfl)).trans ?_
 generalize evC (Lk lf) d=cl
 unfold Bd0;exact (Eq.trans (by kernel_rfl) ((TO lf cl yh s (H4 0 (I5 (Lk lf) cl yh (cd [1,1,1,1] Aq7) (G9 (Lk lf) Tryz.f65))) lf l_z l_t l q (l.length:Int) 0 (l.length:Int)).trans (by kernel_rfl)))
noncomputable abbrev Ar4:Code:=D2 Tryz.f77
noncomputable def Lr (lf:Nat):Cfg:=B8 lf [77] (A4 [(3,[0,0,0,3,0,0,0,0])]) [(78,Bo0)] (A4 [(8,[6,0]),(6,[0,0,0,5,0,0]),(7,[0,0,0,5,0,0]),(5,[0,0,0,5,0,0,0,19]),(4,[0,0,0,5,0,0,0]),(3,[0,0,0,5,0,0,6]),(2,[0,0,0,5,0,0]),(1,[0,0,0,5]),(0,[0,0,0])]) [78] (A4 [(0,[0,0,0,5,0]),(1,[0,0,0,5,0,0])]) (some [6,0]) [] [] []
noncomputable def Ei {R:Type} (lf n:Nat) (x_z0 x_t1:Bool) (x2:LL) (target3:By) (n4 i5 j6:Int) (k0:Bool->Bool->LL->By->Int->Int->Option R):Option R:=match n with | 0=>none | n+1=>cond (ltI i5 j6) (vl (Ak8 .u64 (Am4 (A1 (i5+j6))) (1:Int)) λn'1=>cond (inR (A1 n'1) x2.length) (cond (okE ⟨true,true,[.str,.bool,.int .i64]⟩ x2 (Int.toNat (A1 n'1)) 0) (vl (gX x2 (Int.toNat (A1 n'1)) 0) λs'2=>vl (gE x2 (Int.toNat (A1 n'1)) 2) λn'3=>cond (A2 s'2.length) (cond (A2 target3.length) (cond (ltI (M3 s'2 target3) (0:Int)) (vl (A1 ((A1 n'1)+1)) λn'4=>Ei lf n x_z0 x_t1 x2 target3 n4 n'4 j6 k0) (Ei lf n x_z0 x_t1 x2 target3 n4 i5 (A1 n'1) k0)) none) none) none) none) (k0 x_z0 x_t1 x2 target3 n4 i5)
theorem XN (n x_z0 x_t1 x2 target3 n4 i5 j6):E4 0 ((Lr lf).keep 3) (bd (Lr lf) cl yh (cd [1,1,1,0,0,0] Ar4)) n ⟨gp [(0,.s (.sl x_z0 x_t1 3 x2)),(0,pS target3),(0,.s (.fn (Fn.func 78) [] [])),(5,pI n4),(0,pI i5),(0,pI j6)] 38,[],s⟩ k =
 Ei lf n x_z0 x_t1 x2 target3 n4 i5 j6 (λx_z0 x_t1 x2 target3 n4 i5=>k (.exit 0) ⟨gp [(0,.s (.sl x_z0 x_t1 3 x2)),(0,pS target3),(0,.s (.fn (Fn.func 78) [] [])),(5,pI n4),(0,pI i5)] 39,[],s⟩):=by
 induction n generalizing x_z0 x_t1 x2 target3 n4 i5 j6 with
 | zero=>rfl
 | succ n ih=>rw [Ei];simp only [<-ih];kernel_rfl
noncomputable def Bk1 {R:Type} (lf:Nat) (l_z l_t:Bool) (l:LL) (q:By) (k0:Int->Bool->Option R):Option R:=Ei lf lf l_z l_t l q (l.length:Int) 0 (l.length:Int) (λx_z'5 x_t'6 x'7 target'8 n'9 i'10=>cond (ltI i'10 n'9) (cond (inR i'10 x'7.length) (cond (okE ⟨true,true,[.str,.bool,.int .i64]⟩ x'7 (Int.toNat i'10) 0) (vl (gX x'7 (Int.toNat i'10) 0) λs'11=>vl (gE x'7 (Int.toNat i'10) 2) λn'12=>cond (A2 s'11.length) (cond (A2 target'8.length) (k0 i'10 ((M3 s'11 target'8)==0)) none) none) none) none) (k0 i'10 false))
theorem Bk2 (d:Nat) (l_z l_t l q):evC (Lr lf) (d+1) σ yh 77 [.s (.sl l_z l_t 3 l),pS q,.s (.fn (Fn.func 78) [] [])] [] s=Bk1 lf l_z l_t l q (λr0 r1=>some (.tup [pI r0,pB r1],[],s)):=by
 refine (evE (fn:=Tryz.f77) (by kernel_rfl)).trans ?_
 generalize evC (Lr lf) d=cl
 unfold Bk1;exact (Eq.trans (by kernel_rfl) ((XN lf cl yh s (H4 0 (I5 (Lr lf) cl yh (cd [1,1,1,1] Ar4) (G9 (Lr lf) Tryz.f77))) lf l_z l_t l q (l.length:Int) 0 (l.length:Int)).trans (by kernel_rfl)))
end
section
variable {σ R : Type} (lf : Nat) (cl : D4) (yh : Yh σ) (s : σ) (k : Out -> St σ -> Option R)
noncomputable def RA (lf:Nat):Cfg:=B8 lf [194] (A4 []) [] (A4 [(2,[2]),(1,[1,1]),(0,[1])]) [] (A4 []) (some [2]) [] [] []
noncomputable def Bs6 {R:Type} (lf:Nat) (b:Int) (k0:Int->Option R):Option R:=k0 b
theorem Bh2 (d:Nat) (b):evC (RA lf) (d+1) σ yh 194 [pI b] [] s=Bs6 lf b (λn0=>some (.fnr (Fn.func 201) [] [.ptr 1 0 0,.ptr 0 0 0],[.box [pI n0],.box [pI (0:Int)]],s)):=by
 refine (evE (fn:=Tryz.f194) (by kernel_rfl)).trans ?_
 generalize evC (RA lf) d=cl
 unfold Bs6;kernel_rfl
noncomputable def HL (lf:Nat):Cfg:=B8 lf [201] (A4 []) [] (A4 [(2,[2]),(1,[0,0]),(0,[0,0])]) [] (A4 []) (some [2]) [] [] []
noncomputable def ZX {R:Type} (lf:Nat) (k b:Int) (k0:Int->Int->Int->Option R):Option R:=vl (A1 ((A1 (k+36))-b)) λn'0=>vl (if ((26:Int)<(if ((1:Int) > n'0) then (1:Int) else n'0)) then (26:Int) else (if ((1:Int) > n'0) then (1:Int) else n'0)) λn'1=>k0 n'1 (A1 (k+36)) b
theorem Az5 (d:Nat) (k b):evC (HL lf) (d+1) σ yh 201 [.ptr 0 0 0,.ptr 1 0 0] [.box [pI k],.box [pI b]] s=ZX lf k b (λr0 n1 n2=>some (pI r0,[.box [pI n1],.box [pI n2]],s)):=by
 refine (evE (fn:=Tryz.f201) (by kernel_rfl)).trans ?_
 generalize evC (HL lf) d=cl
 unfold ZX;kernel_rfl
noncomputable abbrev Bp5:Code:=D2 Tryz.f185
noncomputable def Rd (lf:Nat):Cfg:=B8 lf [185] (A4 [(2,[0,0,4,0])]) [(194,Wb),(195,PQ)] (A4 [(6,[0,0,5]),(5,[0,0,5,0]),(4,[6]),(3,[0,0,5,0,6]),(2,[0,0,5,0]),(1,[0,0,5]),(0,[0,0,0])]) [195] (A4 [(0,[6]),(1,[0,0,5])]) (some [6]) [(201,Jm)] [] [201]
noncomputable def Dz {R:Type} (lf n:Nat) (q0:Int) (z1:Bool) (l2:LL) (n3 n4:Int) (k0:Bool->LL->Int->Int->Option R):Option R:=match n with | 0=>none | n+1=>cond (ltN n4 1000000000000) (cond (ltN n3 1000000) (cond (ltI q0 (H9 n4 n3)) (cond (ltN q0 36) (vl (↑(UInt8.toNat (T6 (Int.toNat q0))):Int) λn'1=>cond (G0 (l2.length+1)) (k0 z1 (l2++[[(SV.int .u8 n'1)]]) n3 (Int.add n4 (36:Int))) none) none) (vl (A1 (q0-(H9 n4 n3))) λn'2=>vl (A1 ((36:Int)-(H9 n4 n3))) λn'3=>cond (n'3 != 0) (vl (A1 ((H9 n4 n3)+(Int.tmod n'2 n'3))) λn'4=>cond (ltN n'4 36) (vl (↑(UInt8.toNat (T6 (Int.toNat n'4))):Int) λn'5=>cond (G0 (l2.length+1)) (vl (A1 (q0-(H9 n4 n3))) λn'6=>vl (A1 ((36:Int)-(H9 n4 n3))) λn'7=>cond (n'7 != 0) (vl (A1 (Int.tdiv n'6 n'7)) λn'8=>Dz lf n n'8 z1 (l2++[[(SV.int .u8 n'5)]]) n3 (Int.add n4 (36:Int)) k0) none) none) none) none)) none) none
theorem UO (n q0 z1 l2 n3 n4):E4 3 ((Rd lf).keep 2) (bd (Rd lf) cl yh (cd [1,1,0,0] Bp5)) n ⟨gp [(0,.fl 0),(0,pI q0),(5,.fnr (Fn.func 201) [] [.ptr 2 0 0,.ptr 1 0 0])] 31,[.arr z1 5 1 l2,.box [pI n3],.box [pI n4]],s⟩ k =
 Dz lf n q0 z1 l2 n3 n4 (λz0 l1 n2 n3=>k .ret ⟨gp [(6,.fl 0)] 32,[.arr z0 5 1 l1,.box [pI n2],.box [pI n3]],s⟩):=by
 induction n generalizing q0 z1 l2 n3 n4 with
 | zero=>rfl
 | succ n ih=>rw [Dz];simp only [<-ih];kernel_rfl
noncomputable def Bs3 {R:Type} (lf:Nat) (q b:Int) (z:Bool) (l:LL) (k0:Bool->LL->Int->Int->Option R):Option R:=Dz lf lf q z l b 0 (λz'9 l'10 n'11 n'12=>k0 z'9 l'10 n'11 n'12)
theorem Bf8 (d:Nat) (q b z l):evC (Rd lf) (d+1) σ yh 185 [.fl 0,pI q,pI b] [.arr z 5 1 l] s=Bs3 lf q b z l (λz0 l1 n2 n3=>some (.fl 0,[.arr z0 5 1 l1,.box [pI n2],.box [pI n3]],s)):=by
 refine (evE (fn:=Tryz.f185) (by kernel_rfl)).trans ?_
 generalize evC (Rd lf) d=cl
 unfold Bs3;exact (Eq.trans (by kernel_rfl) ((UO lf cl yh s (H4 0 (G9 (Rd lf) Tryz.f185)) lf q z l b 0).trans (by kernel_rfl)))
noncomputable abbrev Aw:Code:=D2 Tryz.f161
noncomputable def L8 (lf:Nat):Cfg:=B8 lf [161] (A4 [(29,[0,1,0,0,2,0,0,0,0,61,0,0]),(21,[0,1,0,0,2,0,0,0,0,0,38,0,0]),(17,[0,1,0,0,2,0,0,0,0]),(5,[0,1,0,0,15,0,0])]) [(184,Hw),(186,Hv)] (A4 [(40,[2,0]),(18,[0,3,2,0,0,0,0]),(39,[0,3,2,0,0,0,0]),(38,[0,3,2,0,0,0,0,61,0,0]),(32,[0,3,2,0,0,0,0,61,0,0]),(37,[0,3,2,0,0,0,0,61,0,0]),(36,[0,3,2,0,0,0,0,61,0,0]),(35,[0,3,2,0,1,0,61,0,0]),(34,[0,3,2,0,0,1,61,0,0]),(33,[0,3,2,0,0,0,0,61,0,0,9]),(31,[0,3,2,0,0,0,0,4,56,0,0,3]),(30,[0,3,2,0,0,0,0,4,56,0,0]),(29,[0,3,2,0,0,0,0,61,0,0,0]),(28,[0,3,2,0,0,0,0,61,0,0]),(27,[0,3,2,0,0,0,0]),(26,[0,3,2,1,0,0,0]),(25,[0,3,2,0,0,0,0,0,38,0,0]),(24,[0,3,2,0,0,0,0,0,38,0,0]),(23,[0,3,2,0,0,0,0,0,1,36,0,0,5]),(22,[0,3,2,0,0,0,0,0,1,36,0,0]),(21,[0,3,2,0,0,0,0,0,38,0,0,0]),(20,[0,3,2,0,0,0,0,0,38,0,0]),(19,[0,3,2,0,0,0,0,0]),(17,[0,3,2,0,0,0,0,36]),(16,[0,3,2,0,0,0,0]),(15,[0,3,2,0,0,0]),(14,[0,3,2]),(13,[0,3,2,32]),(12,[0,3,2]),(11,[0,3,15,0,0]),(10,[0,3,15,0,0]),(9,[0,3,1,13,0,0,7]),(8,[2,0]),(7,[0,3,1,13,0,0,5]),(6,[0,3,1,13,0,0]),(5,[0,3,15,0,0,0]),(4,[0,3,15,0,0]),(3,[0,3]),(2,[2,0]),(1,[0,18]),(0,[0])]) [184,186] (A4 [(2,[4]),(3,[0,3,2,0,0,0,0]),(6,[0,3,2,0,0,0,0]),(7,[0,3,2,0,0,0,0,61,0,0]),(8,[0,3,2,0,0,0,0,61,0,0]),(4,[0,3,2,0,0,0,0,0]),(5,[0,3,2,0,0,0,0,0,38,0,0]),(0,[0,3]),(1,[0,3,15,0,0])]) (some [2,0]) [(185,FK)] [] [185]
noncomputable def O2 {R:Type} (lf n:Nat) (points_z0 points_t1:Bool) (points2:LL) (n3 n4:Int) (l5:LL) (k0:LL->Option R) (k1:Bool->Bool->LL->LL->Option R):Option R:=match n with | 0=>none | n+1=>cond (ltI n4 n3) (cond (inR n4 points2.length) (cond (okE Fw points2 (Int.toNat n4) 0) (vl (gE points2 (Int.toNat n4) 0) λn'1=>cond (not (ptI n'1)) (k0 l5) (cond (ltI n'1 128) (cond (G0 (l5.length+1)) (O2 lf n points_z0 points_t1 points2 n3 (A1 (n4+1)) (l5++[[(SV.int .u8 (wu8 n'1))]]) k0 k1) none) (O2 lf n points_z0 points_t1 points2 n3 (A1 (n4+1)) l5 k0 k1))) none) none) (k1 points_z0 points_t1 points2 l5)
theorem UX (n points_z0 points_t1 points2 n3 n4 l5):E4 1 ((L8 lf).keep 5) (bd (L8 lf) cl yh (cd [1,1,1,0,1,0,0] Aw)) n ⟨gp [(0,.s (.sl points_z0 points_t1 1 points2)),(3,.fl 0),(15,.s (.sl points_z0 points_t1 1 points2)),(0,pI n3),(0,pI n4)] 84,[.arr true 5 1 l5],s⟩ k =
 O2 lf n points_z0 points_t1 points2 n3 n4 l5 (λl0=>k .ret ⟨gp [(2,pS ([]:List UInt8)),(0,pI (2:Int))] 103,[.arr true 5 1 l0],s⟩) (λpoints_z0 points_t1 points2 l3=>k (.exit 0) ⟨gp [(0,.s (.sl points_z0 points_t1 1 points2)),(3,.fl 0)] 102,[.arr true 5 1 l3],s⟩):=by
 induction n generalizing points_z0 points_t1 points2 n3 n4 l5 with
 | zero=>rfl
 | succ n ih=>rw [O2];simp only [<-ih];kernel_rfl
noncomputable def Eb {R:Type} (lf n:Nat) (points_z0 points_t1:Bool) (points2:LL) (basic3 n4 delta5 bias6 done7 m8 n9 n10:Int) (l11:LL) (k0:Bool->Bool->LL->Int->Int->Int->Int->Int->Int->LL->Option R):Option R:=match n with | 0=>none | n+1=>cond (ltI n10 n9) (cond (inR n10 points2.length) (cond (okE Fw points2 (Int.toNat n10) 0) (vl (gE points2 (Int.toNat n10) 0) λn'9=>cond (not (ltI n'9 n4)) (vl (if (n'9<m8) then n'9 else m8) λn'10=>Eb lf n points_z0 points_t1 points2 basic3 n4 delta5 bias6 done7 n'10 n9 (A1 (n10+1)) l11 k0) (Eb lf n points_z0 points_t1 points2 basic3 n4 delta5 bias6 done7 m8 n9 (A1 (n10+1)) l11 k0)) none) none) (k0 points_z0 points_t1 points2 basic3 n4 delta5 bias6 done7 m8 l11)
theorem UY (n points_z0 points_t1 points2 basic3 n4 delta5 bias6 done7 m8 n9 n10 l11):E4 1 ((L8 lf).keep 21) (bd (L8 lf) cl yh (cd [1,1,1,1,1,1,1,0,1,0,0,1,0,0,1,0,1,0,0] Aw)) n ⟨gp [(0,.s (.sl points_z0 points_t1 1 points2)),(3,.fl 0),(2,pI basic3),(0,pI n4),(0,pI delta5),(0,pI bias6),(0,pI done7),(0,pI m8),(38,.s (.sl points_z0 points_t1 1 points2)),(0,pI n9),(0,pI n10)] 53,[.arr true 5 1 l11],s⟩ k =
 Eb lf n points_z0 points_t1 points2 basic3 n4 delta5 bias6 done7 m8 n9 n10 l11 (λpoints_z0 points_t1 points2 basic3 n4 delta5 bias6 done7 m8 l9=>k (.exit 4) ⟨gp [(0,.s (.sl points_z0 points_t1 1 points2)),(3,.fl 0),(2,pI basic3),(0,pI n4),(0,pI delta5),(0,pI bias6),(0,pI done7),(0,pI m8)] 94,[.arr true 5 1 l9],s⟩):=by
 induction n generalizing points_z0 points_t1 points2 basic3 n4 delta5 bias6 done7 m8 n9 n10 l11 with
 | zero=>rfl
 | succ n ih=>rw [Eb];simp only [<-ih];kernel_rfl
noncomputable def W9 {R:Type} (lf n:Nat) (points_z0 points_t1:Bool) (points2:LL) (basic3 n4 delta5 bias6 done7 n8v n9:Int) (l10:LL) (k0:Bool->Bool->LL->Int->Int->Int->Int->Int->LL->Option R):Option R:=match n with | 0=>none | n+1=>cond (ltI n9 n8v) (cond (inR n9 points2.length) (cond (okE Fw points2 (Int.toNat n9) 0) (vl (gE points2 (Int.toNat n9) 0) λn'26=>cond (ltI n'26 n4) (vl (A1 (delta5+1)) λn'27=>W9 lf n points_z0 points_t1 points2 basic3 n4 n'27 bias6 done7 n8v (A1 (n9+1)) l10 k0) (cond (n'26==n4) (cond (ltN delta5 1152921504606846976) (cond (ltN bias6 1000000) (cond (Nat.ble l10.length 100000) (vl (List.append l10 (List.map F5 (L0 (Int.toNat delta5) 0 (Int.toNat bias6)))) λl'29=>vl (A1 (done7+1)) λn'30=>cond (ltN delta5 1152921504606846976) (cond (ltN n'30 1000000) (cond (ltI 0 n'30) (vl (↑(L7 (Int.toNat delta5) (Int.toNat n'30) (done7==basic3)):Int) λn'31=>vl (A1 (done7+1)) λn'32=>W9 lf n points_z0 points_t1 points2 basic3 n4 0 n'31 n'32 n8v (A1 (n9+1)) l'29 k0) none) none) none) none) none) none) (W9 lf n points_z0 points_t1 points2 basic3 n4 delta5 bias6 done7 n8v (A1 (n9+1)) l10 k0))) none) none) (k0 points_z0 points_t1 points2 basic3 n4 delta5 bias6 done7 l10)
theorem UZ (n points_z0 points_t1 points2 basic3 n4 delta5 bias6 done7 n8v n9 l10):E4 1 ((L8 lf).keep 29) (bd (L8 lf) cl yh (cd [1,1,1,1,1,1,1,0,1,0,0,1,0,0,1,1,1,1,0,1,0,0] Aw)) n ⟨gp [(0,.s (.sl points_z0 points_t1 1 points2)),(3,.fl 0),(2,pI basic3),(0,pI n4),(0,pI delta5),(0,pI bias6),(0,pI done7),(61,.s (.sl points_z0 points_t1 1 points2)),(0,pI n8v),(0,pI n9)] 31,[.arr true 5 1 l10],s⟩ k =
 W9 lf n points_z0 points_t1 points2 basic3 n4 delta5 bias6 done7 n8v n9 l10 (λpoints_z0 points_t1 points2 basic3 n4 delta5 bias6 done7 l8=>k (.exit 6) ⟨gp [(0,.s (.sl points_z0 points_t1 1 points2)),(3,.fl 0),(2,pI basic3),(0,pI n4),(0,pI delta5),(0,pI bias6),(0,pI done7)] 95,[.arr true 5 1 l8],s⟩):=by
 induction n generalizing points_z0 points_t1 points2 basic3 n4 delta5 bias6 done7 n8v n9 l10 with
 | zero=>rfl
 | succ n ih=>rw [W9];simp only [<-ih];kernel_rfl
noncomputable def Bf {R:Type} (lf n:Nat) (points_z0 points_t1:Bool) (points2:LL) (basic3 n4 delta5 bias6 done7:Int) (l8:LL) (k0:LL->Option R):Option R:=match n with | 0=>none | n+1=>cond (ltI done7 (points2.length:Int)) (Eb lf lf points_z0 points_t1 points2 basic3 n4 delta5 bias6 done7 1114112 (points2.length:Int) 0 l8 (λpoints_z'11 points_t'12 points'13 basic'14 n'15 delta'16 bias'17 done'18 m'19 l'20=>vl (A1 (done'18+1)) λn'23=>vl (A1 ((A1 (m'19-n'15))*n'23)) λn'24=>W9 lf lf points_z'11 points_t'12 points'13 basic'14 m'19 (A1 (delta'16+n'24)) bias'17 done'18 (points'13.length:Int) 0 l'20 (λpoints_z'33 points_t'34 points'35 basic'36 n'37 delta'38 bias'39 done'40 l'41=>vl (A1 (delta'38+1)) λn'42=>vl (A1 (n'37+1)) λn'43=>Bf lf n points_z'33 points_t'34 points'35 basic'36 n'43 n'42 bias'39 done'40 l'41 k0))) (k0 l8)
theorem Yv (n points_z0 points_t1 points2 basic3 n4 delta5 bias6 done7 l8):E4 1 ((L8 lf).keep 17) (bd (L8 lf) cl yh (cd [1,1,1,1,1,1,1,0,1,0,0] Aw)) n ⟨gp [(0,.s (.sl points_z0 points_t1 1 points2)),(3,.fl 0),(2,pI basic3),(0,pI n4),(0,pI delta5),(0,pI bias6),(0,pI done7)] 95,[.arr true 5 1 l8],s⟩ k =
 Bf lf n points_z0 points_t1 points2 basic3 n4 delta5 bias6 done7 l8 (λl0=>k (.exit 2) ⟨gp [(4,.fl 0)] 102,[.arr true 5 1 l0],s⟩):=by
 induction n generalizing points_z0 points_t1 points2 basic3 n4 delta5 bias6 done7 l8 with
 | zero=>rfl
 | succ n ih=>rw [Bf];exact (Eq.trans (by kernel_rfl) (A0 ((UY lf cl yh s (H4 4 (I5 (L8 lf) cl yh (cd [1,1,1,1,1,1,1,0,1,0,0,1,0,0,1,1] Aw) (H4 3 (I5 (L8 lf) cl yh (cd [1,1,1,1,1,1,1,0,1,0,0,1,1] Aw) (lpK 1 ((L8 lf).keep 17) (bd (L8 lf) cl yh (cd [1,1,1,1,1,1,1,0,1,0,0] Aw)) n k))))) lf points_z0 points_t1 points2 basic3 n4 delta5 bias6 done7 1114112 (points2.length:Int) 0 l8).trans (congr rfl (Bb4 λpoints_z'11 points_t'12 points'13 basic'14 n'15 delta'16 bias'17 done'18 m'19 l'20=>(Eq.trans (by kernel_rfl) (A8 λn'23=>(A8 λn'24=>((UZ lf cl yh s (H4 6 (I5 (L8 lf) cl yh (cd [1,1,1,1,1,1,1,0,1,0,0,1,0,0,1,1,1,1,1] Aw) (H4 3 (I5 (L8 lf) cl yh (cd [1,1,1,1,1,1,1,0,1,0,0,1,1] Aw) (lpK 1 ((L8 lf).keep 17) (bd (L8 lf) cl yh (cd [1,1,1,1,1,1,1,0,1,0,0] Aw)) n k))))) lf points_z'11 points_t'12 points'13 basic'14 m'19 (A1 (delta'16+n'24)) bias'17 done'18 (points'13.length:Int) 0 l'20).trans (congr rfl (fx9 λpoints_z'33 points_t'34 points'35 basic'36 n'37 delta'38 bias'39 done'40 l'41=>(Eq.trans (by kernel_rfl) (A8 λn'42=>(A8 λn'43=>(ih points_z'33 points_t'34 points'35 basic'36 n'43 n'42 bias'39 done'40 l'41))))))))))))) rfl))
noncomputable def ND {R:Type} (lf:Nat) (p_z p_t:Bool) (p:LL) (k0:Unit->Option R) (k1:By->Int->LL->Option R):Option R:=cond (ltI 256 (p.length:Int)) (k0 ()) (O2 lf lf p_z p_t p (p.length:Int) 0 [] (λl'2=>k1 ([]:List UInt8) 2 l'2) (λpoints_z'3 points_t'4 points'5 l'6=>vl (l'6.length:Int) λn'8=>cond (ltI 0 n'8) (cond (G0 (l'6.length+1)) (Bf lf lf points_z'3 points_t'4 points'5 n'8 128 0 72 n'8 (l'6++[[(SV.int .u8 (45:Int))]]) (λl'44=>cond (List.all l'44 II) (k1 (List.map Zx l'44) 0 l'44) none)) none) (Bf lf lf points_z'3 points_t'4 points'5 n'8 128 0 72 n'8 l'6 (λl'45=>cond (List.all l'45 II) (k1 (List.map Zx l'45) 0 l'45) none))))
theorem Bg5 (d:Nat) (p_z p_t p):evC (L8 lf) (d+1) σ yh 161 [.s (.sl p_z p_t 1 p)] [] s=ND lf p_z p_t p (λ_=>some (.tup [pS ([]:List UInt8),pI (3:Int)],[],s)) (λr0 r1 l2=>some (.tup [pS r0,pI r1],[.arr true 5 1 l2],s)):=by
 refine (evE (fn:=Tryz.f161) (by kernel_rfl)).trans ?_
 generalize evC (L8 lf) d=cl
 unfold ND;exact let K0:=(H4 2 (I5 (L8 lf) cl yh (cd [1,1,1,1,1,1,1,1] Aw) (G9 (L8 lf) Tryz.f161)));(Eq.trans (by kernel_rfl) (A0 rfl ((UX lf cl yh s (H4 0 (I5 (L8 lf) cl yh (cd [1,1,1,1] Aw) (G9 (L8 lf) Tryz.f161))) lf p_z p_t p (p.length:Int) 0 []).trans (congr (congr rfl (by kernel_rfl)) (fx4 λpoints_z'3 points_t'4 points'5 l'6=>(Eq.trans (by kernel_rfl) (A8 λn'8=>(A0 (A0 ((Yv lf cl yh s K0 lf points_z'3 points_t'4 points'5 n'8 128 0 72 n'8 (l'6++[[(SV.int .u8 (45:Int))]])).trans (by kernel_rfl)) rfl) ((Yv lf cl yh s K0 lf points_z'3 points_t'4 points'5 n'8 128 0 72 n'8 l'6).trans (by kernel_rfl))))))))))
end
end
end Go.Proofs.YtelhbgonncceeaaGreatDoor.E
