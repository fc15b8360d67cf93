/-
  Parts of the proof, merged by a program of the prover's own; no condition.
-/
import Derived.Test.YtelhbgonncceeaaGreatDoorKCD2
import Derived.Deep.Draws
import Derived.KernelRfl
import Derived.LaidMore
import Derived.LaidSub
import Derived.Laws.RangeString
import Derived.Lay
import Derived.Lib.IndexMore
import Derived.Lib.ItoaNum
import Derived.Lib.Join
import Derived.Lib.JoinLaws
import Derived.Lib.LaidTab
import Derived.Lib.LaidU8
import Derived.Lib.LastIndexLaws
import Derived.Lib.RuneCount
import Derived.Lib.TrailingZeros
import Derived.Lib.TrimAscii
import Derived.Lib.TrimUEq
import Derived.Lib.ValidLaws
import Derived.Lib.ValidU
import Derived.OpenShut
import Derived.ProofKit
import Derived.Shelf.SlSortCmp.Insertion
import Derived.Shelf.Vars
import Derived.Sort.AssemblyPlain
import Derived.Sort.Grow
import Derived.Test.YtelhbgonncceeaaGreatDoorChecked
import Derived.Test.YtelhbgonncceeaaGreatDoorProg
import Derived.Test.YtelhbgonncceeaaGreatDoorRows
namespace Go.Proofs.YtelhbgonncceeaaGreatDoor.E
set_option linter.all false
section
open Go Go.ChangeShapes Go.RowKit Go.WideShapes
def Mj (P:Program) (t:Nat):Bool:=match P.underlying t with
 | some (.struct _)=>true
 | some (.array _ _)=>true
 | _=>false
def Ub (P:Program) (t:Nat) (v:PV):Prop:=∃ tys l,Dx P 20 t=some tys/\Ty.ofL tys l/\((Mj P t=true/\v = .agg (l.map .s))\/(Mj P t=false/\∃ x,l=[x]/\v = .s x))
def Fs (P:Program):List Nat->List PV->Prop
 | [],l=>l=[]
 | t::r,l=>∃ v q,l=v::q/\Ub P t v/\Fs P r q
theorem Ub.nms {P:Program} {t:Nat} {v:PV} (h:Ub P t v):v.nms=[]:=by
 obtain ⟨tys,l,_,_,h⟩:=h
 rcases h with ⟨_,rfl⟩ | ⟨_,x,_,rfl⟩
 ·simp only [PV.nms]
  rw [List.eq_nil_iff_forall_not_mem]
  intro c hc
  obtain ⟨j,hj,hc⟩:=B2.1 hc
  simp [PV.nms] at hc
 ·rfl
theorem Fs.nms {P:Program}:∀ {ts:List Nat} {l:List PV},Fs P ts l->B4 l=[]
 | [],l,h=>by simp only [Fs] at h;subst h;rfl
 | t::r,l,h=>by
  simp only [Fs] at h
  obtain ⟨v,q,rfl,h1,h2⟩:=h
  simp [B4,h1.nms,h2.nms]
section
variable {H : Type} {enc : TypeId × Value -> H} {P : Program} {w : World}
theorem A25 {v:Value} {r:Reach} {b:Nat} {t:Nat} (ha:Mj P t=false) (Nk:Value.okWide P w r b t v):∀ cs,v = .agg cs->False:=by
 rintro cs rfl
 simp only [Value.okWide,Cell.okWide] at Nk
 unfold Mj at ha
 split at Nk
 ·grind
 ·grind
 ·revert Nk
  cases hu:P.underlying t with
  | none=>simp [Cell.ok,hu]
  | some d=>cases d<;>simp [Cell.ok,hu]
theorem Ap7 {Γ:Ctx} {sh:Nat->Option Shp} {sp:Nat->Bool} {held:Bool} {r:Reach} {b b' t:Nat} {v:Value} {d:DataW H} {ps:List MemPlace} (hΓ:∀ g,g<w.heap.size->Γ.St g) (htys:(Dx P 20 t).isSome=true) (Nk:Value.okWide P w r b t v) (hd:DataW.Trod enc P w b' sp held t v d ps) :
  ∃ pv,Ub P t pv/\VP Γ sh w pv v:=by
 obtain ⟨tys,ht⟩:=Option.isSome_iff_exists.1 htys
 obtain ⟨m,hm⟩:=hd
 obtain ⟨svs,h1,h2⟩:=Tu 20 t tys m _ _ ht hm
 have lift:∀ {x:SV} {V:Value},VS (· < w.heap.size) w x V->VS Γ.St w x V:=λh=>h.mono (λ_ _=>rfl) hΓ
 cases ha:Mj P t with
 | true=>
  refine ⟨.agg (svs.map .s),⟨tys,svs,ht,h1,.inl ⟨ha,rfl⟩⟩,?_⟩
  have:∃ cs,v = .agg cs:=by
   unfold Mj at ha
   simp only [Value.okWide] at Nk
   grind
  obtain ⟨cs,rfl⟩:=this
  simp only [Value.cells] at h2
  refine VP.mk_agg (by simpa using h2.1) λj hj=>?_
  have hj':j<svs.length:=by simpa using hj
  obtain ⟨U,e,k⟩:=h2.2 j hj'
  exact ⟨U,by simpa using e,by rw [List.getElem_map];exact .s _ _ (lift k)⟩
 | false=>
  have hc:v.cells = #[v]:=by
   have:=A25 ha Nk
   cases v with
   | agg cs=>exact (this cs rfl).elim
   | _=>rfl
  rw [hc] at h2
  have hl:svs.length=1:=by have:=h2.1;simpa using this.symm
  obtain ⟨x,rfl⟩:∃ x,svs=[x]:=by
   match svs,hl with
   | [x],_=>exact ⟨x,rfl⟩
  obtain ⟨U,e,k⟩:=h2.2 0 (by simp)
  simp only [List.getElem?_cons_zero,Option.some.injEq] at e
  subst e
  exact ⟨.s x,⟨tys,[x],ht,h1,.inr ⟨ha,x,rfl,rfl⟩⟩,.s _ _ (lift k)⟩
theorem BC {Γ:Ctx} {sh:Nat->Option Shp} {sp:Nat->Bool} {held:Bool} {r:Reach} {b b':Nat} (hΓ:∀ g,g<w.heap.size->Γ.St g):∀ (ts:List Nat) (vs:List Value) (ds:List (DataW H)) (ps:List MemPlace),(∀ t∈ts,(Dx P 20 t).isSome=true)->(∀ (j:Nat) t v,ts[j]? = some t->vs[j]? = some v->Value.okWide P w r b t v)->DataW.TrodAll enc P w b' sp held ts vs ds ps->
  ∃ pvs,Fs P ts pvs/\vs.length=pvs.length/\ds.length=ts.length/\∀ j (h:j<pvs.length),∃ U,vs[j]? = some U/\VP Γ sh w (pvs[j]) U
 | [],vs,ds,ps,_,_,h=>by
  obtain ⟨rfl,rfl,_⟩:=trodAll_nil h
  exact ⟨[],rfl,rfl,rfl,λj hj=>by simp at hj⟩
 | t::ts,vs,ds,ps,htys,Nk,h=>by
  obtain ⟨v,vs',d,ds',p,q,rfl,rfl,rfl,h1,h2⟩:=trodAll_cons h
  obtain ⟨pv,k1,k2⟩:=Ap7 (Γ:=Γ) (sh:=sh) hΓ (htys t (by simp)) (Nk 0 t v rfl rfl) h1
  obtain ⟨pvs,g1,g2,g3,g4⟩:=BC (Γ:=Γ) (sh:=sh) hΓ ts vs' ds' q (λt ht=>htys t (by simp [ht])) (λj t v hj hv=>Nk (j+1) t v (by simpa using hj) (by simpa using hv)) h2
  refine ⟨pv::pvs,⟨pv,pvs,rfl,k1,g1⟩,by simp [g2],by simp [g3],λj hj=>?_⟩
  cases j with
  | zero=>exact ⟨v,rfl,k2⟩
  | succ j=>
   obtain ⟨U,e,k⟩:=g4 j (by simpa using hj)
   grind
theorem Vg (hl:laidOutB P=true) {w':World} {ts:List Nat} {vs:List Value} {ds:List (DataW H)} {ps:List MemPlace}:∀ {ts:List Nat} {vs:List Value} {ds:List (DataW H)} {ps:List MemPlace},(∀ t∈ts,P.readableRec t=true/\t<P.types.size)->DataW.TrodAll enc P w 0 (λ_=>true) true ts vs ds ps->(∀ x∈ps,w.sameAt w' x)->∀ sp:Nat->Bool,(∀ x∈ps,sp x.block=true)->
  DataW.TrodAll enc P w' 0 sp true ts vs ds ps
 | [],vs,ds,ps,_,h,_,sp,_=>by
  obtain ⟨rfl,rfl,rfl⟩:=trodAll_nil h
  exact trodAll_mk0
 | t::ts,vs,ds,ps,hr,h,hs,sp,hsp=>by
  obtain ⟨v,vs',d,ds',p,q,rfl,rfl,rfl,h1,h2⟩:=trodAll_cons h
  refine ⟨p,q,WideElems.Trod_stays hl (hr t (by simp)).1 (hr t (by simp)).2 h1 (λx hx=>hs x (by simp [hx])) (λx hx=>hsp x (by simp [hx])),Vg hl (w':=w') (ts:=ts) (vs:=vs') (ds:=ds') (ps:=q) (λt ht=>hr t (by simp [ht])) h2 (λx hx=>hs x (by simp [hx])) sp (λx hx=>hsp x (by simp [hx])),rfl⟩
theorem Za {f:Func} {s:ChangeSpec} {apart fresh handsOn again:Bool} {W W':World} {args:Array Value} {v:Value} {ds gs:List (DataW H)} {before pa pv:List MemPlace}
  (hW:DataW.Whole enc P f.params.toList s.vars apart W args.toList ds gs before)
  (hres:∀ (b:Nat) (sp:Nat->Bool) (hd:Bool),DataW.TrodAll enc P W' b sp hd f.resultTypes.toList (v.resultList f.resultTypes.size) (s.fn H (ds++gs)).results [])
  (hargs:∀ sp:Nat->Bool,(∀ p∈before,sp p.block=true)->DataW.TrodAll enc P W' 0 sp true f.params.toList args.toList (s.fn H (ds++gs)).args pa)
  (hvars:∀ sp:Nat->Bool,(∀ p∈before,sp p.block=true)->DataW.TrodVars enc P W' sp s.vars (s.fn H (ds++gs)).vars pv)
  (hps:before=pa++pv) (hb:Below W.heap.size W W')
  (hok:∀ (j:Nat) (t:TypeId) (r:Value),f.resultTypes[j]? = some t->(v.resultList f.resultTypes.size)[j]? = some r->Value.okWide P W' .any 0 t r) :
  s.post enc P f apart fresh handsOn again W args v W':=by
 have hold:∀ p∈before,(λb=>decide (b<W.heap.size)) p.block=true:=λp hp=>by simpa using hW.lt p hp
 refine ⟨ds,gs,before,[],pa,pv,hW,hres _ _ _,hargs _ hold,hvars _ hold,hb.frame _,λ_=>?_⟩
 have hlt:=hW.lt
 obtain ⟨_,_,_,_,_,hz,hn⟩:=hW
 refine ⟨hok,_,_,([]++pa)++pv,⟨[]++pa,pv,trodAll_append (hargs _ (λ_ _=>rfl)) (hres _ _ _),hvars _ (λ_ _=>rfl),rfl,?_,?_⟩,?_⟩
 ·intro b off hp
  have hp':MemPlace.cell b off∈before:=by rw [hps];simpa using hp
  rw [hb.frozen (hlt _ hp')]
  exact hz b off hp'
 ·intro ha
  have:=hn ha
  rw [hps] at this
  simpa using this
 ·intro p hp _
  rw [hps]
  simpa using hp
end
theorem TV {P:Program} {f:Nat} {Vs:Array Value} {w:World} {R:Value->World->Prop} (hrun:(callFunc f Vs).run P w = .ok (.enter f Vs) w) (h:K5 P ((callFunc f Vs).run P w) R):Calls P f Vs w λe w'=>∃ V,e = .returned V/\R V w':=by
 rw [hrun] at h
 have:=h none 1 { op:=.move (.const undef),dst:=some 0,guard:=none,type:=0,after:=#[],pos:=default } { tmps:=#[undef],defers:=[] } (λa' w'=>∃ V,a'.tmps[0]? = some V/\R V w') (λ_ _ _=>False) (λV w' hR=>⟨V,by simp [Act.put],hR⟩)
 rw [Oper.uponIn_enter] at this
 have h2:CallsIn Fence.wide 0 P f Vs w _:=this.2
 refine (callsIn_wide.1 h2).mono λe w' he=>?_
 cases e with
 | returned v=>
  obtain ⟨V,e1,e2⟩:=he
  simp [Act.put] at e1
  grind
 | panicked c=>exact he.elim
 | outgrown=>obtain ⟨_,_,h⟩:=he;exact h.elim
def noY:Yh Unit:=λ_ _=>none
theorem Ai6 {H:Type} {enc:TypeId × Value->H} {C:Cfg} {f tb:Nat} {fn:Func} {c:Code} {s:ChangeSpec} {apart fresh handsOn again:Bool} (hX:XOK C) (hO:Bx C) (hm:C.P.follows .mixedOrders=true) (hl:laidOutB C.P=true) (hfn:C.P.funcs[f]? = some fn) (hb:fn.body=some c) (hname:(fn.name == "runtime.NumGoroutine")=false)
  (hp:∀ t∈fn.params.toList,(C.P.readableRec t=true/\t<C.P.types.size)/\(Dx C.P 20 t).isSome=true) (hres:fn.resultTypes = #[tb]) (hbool:C.P.underlying tb=some .bool) (hvars:s.vars=[])
  (hspec:∀ ds:List (DataW H),ds.length=fn.params.toList.length->s.fn H ds = { results:=[.lit (.bool true)],args:=ds })
  (hev:∀ args,Fs C.P fn.params.toList args->∃ d Hc,evC C d Unit noY f args [] ()=some (.s (.bool true),Hc,()))
  (W:World) (hG:GOK C (· < W.heap.size) W) (base:Nat) (args:Array Value) (ds gs:List (DataW H)) (before:List MemPlace)
  (Nk:∀ (j:Nat) t v,fn.params[j]? = some t->args[j]? = some v->Value.okWide C.P W .any base t v)
  (hW:DataW.Whole enc C.P fn.params.toList s.vars apart W args.toList ds gs before) :
  Calls C.P f args W λe W'=>∃ v,e = .returned v/\s.post enc C.P fn apart fresh handsOn again W args v W':=by
 have hW':=hW
 obtain ⟨p,q,hA,hV,rfl,hfz,hnd⟩:=hW
 rw [hvars] at hV
 obtain ⟨rfl,rfl⟩:=trodVars_none hV
 let Γ:Ctx:={ St:=(· < W.heap.size),nm:=λ_=>none,yv:=.nilFunc,yv1:=rfl }
 obtain ⟨pvs,h1,h2,h3,h4⟩:=BC (Γ:=Γ) (sh:=A2 []) (λ_ h=>h) fn.params.toList args.toList ds p (λt ht=>(hp t ht).2) (λj t v hj hv=>Nk j t v (by simpa using hj) (by simpa using hv)) hA
 obtain ⟨d,Hc,hd⟩:=hev pvs h1
 have hS:=Fe hX hO hm d Unit I0 noY .nilFunc Ae1 Ae2 f pvs [] () _ Hc () hd Γ noΦ W args rfl (Fx (λ_=>rfl) (λ_ h=>h)) hG (λ_ h=>h) (λb g h=>by cases h)
  ⟨by rw [<-Array.length_toList];exact h2,λj hj=>by obtain ⟨U,e,k⟩:=h4 j hj;exact ⟨U,by simpa using e,k⟩⟩ (by rw [h1.nms];simp)
 refine (TV (Hw hfn hb hname) hS).mono ?_
 rintro e W' ⟨V,rfl,Γ',Φ',hs,hH,hv,_⟩
 have hV:=hv.inv_bool
 subst hV
 have hbel:Below W.heap.size W W':=⟨hs.os,hs.tape,hs.output,hs.size,λk hk=>hs.frame k hk (λb=>by simp [Γ]) (λx=>x)⟩
 simp only [List.append_nil] at hW'
 refine ⟨_,rfl,?_⟩
 have hsp:=hspec ds h3
 have hlt:=hW'.lt
 refine Za (pa:=p) (pv:=[]) hW' (λb sp hd=>?_) (λsp hsp'=>?_) (λsp _=>?_) (by simp) hbel ?_
 ·rw [List.append_nil,hsp,hres]
  exact trodAll_cons_mk (shut_bool hbool _) trodAll_mk0
 ·rw [List.append_nil,hsp]
  exact Vg hl (w:=W) (ts:=fn.params.toList) (vs:=args.toList) (ds:=ds) (ps:=p) (λt ht=>(hp t ht).1) hA (λx hx=>hbel.same (hlt x hx)) sp hsp'
 ·rw [List.append_nil,hsp,hvars]
  rfl
 ·exact ok_one hres rfl (okWide_bool_mk hbool _)
end
section
open Go
def B1 (P:Program) (G:GT) (g:Nat) (pf:List PV->Tr):Prop:=
 ∀ args ret Hc,I5 (pf args)=some (ret,Hc)->∀ C:Cfg,C.P=P->C.G=G->∀ Γ w Vs,(∀ b,Γ.nm b=none)->HR Γ [] w->GOK C Γ.St w->CR Γ (A2 []) w args Vs->
  K5 P ((callFunc g Vs).run P w) (Aa C I0 Γ [] w noΦ ret Hc ())
theorem Dy {C₀:Cfg} {g:Nat} {pf:List PV->Tr} (hX:XOK C₀) (hO:Bx C₀) (hm:C₀.P.follows .mixedOrders=true)
  (h:∀ args ret Hc,I5 (pf args)=some (ret,Hc)->B4 args=[]/\∃ d,evC C₀ d Unit noY g args [] ()=some (ret,Hc,())):B1 C₀.P C₀.G g pf:=by
 intro args ret Hc hpf C hP hGe Γ w Vs hnm hH hG hc
 obtain ⟨hna,d,hev⟩:=h args ret Hc hpf
 have hG0:GOK C₀ Γ.St w:=hG.congr hGe.symm
 refine (Fe hX hO hm d Unit I0 noY Γ.yv Ae1 Ae2 g args [] () ret Hc () hev Γ noΦ w Vs rfl hH hG0 (λ_ h=>h) (λb g h=>by rw [hnm] at h;cases h) hc (by rw [hna];simp)).mono ?_
 rintro V w' ⟨Γ1,Φ1,hs,hH1,hv,hvn,hi1,hd1⟩
 exact ⟨Γ1,Φ1,⟨hs.os,hs.tape,hs.output,hs.size,hs.sub,hs.stnew,hs.own,hs.foot,hs.frame,hs.yv,hs.len,λb hb=>by simp at hb⟩,hH1,hv,hvn,hi1,hd1⟩
def Tr.snap:Tr->Tr
 | .ret v H=>cond (v.snap H).nms.isEmpty (.ret (v.snap H) []) .fail
 | .need c t=>.need c t.snap
 | .split c a b=>.split c a.snap b.snap
 | .fail=>.fail
theorem Tr.snap_res:∀ {t:Tr} {v:PV} {H:List Blk},I5 t.snap=some (v,H)->∃ v' H',I5 t=some (v',H')/\v=v'.snap H'/\H=[]/\v.nms=[]
 | .ret v' H',v,H,h=>by
  simp only [Tr.snap] at h
  cases he:(v'.snap H').nms.isEmpty with
  | false=>rw [he] at h;cases h
  | true=>
   rw [he] at h
   simp only [cond_true,I5,Cv,Option.some.injEq,Prod.mk.injEq] at h
   obtain ⟨rfl,rfl⟩:=h
   exact ⟨v',H',rfl,rfl,rfl,List.isEmpty_iff.1 he⟩
 | .need c t,v,H,h=>by
  cases c with
  | true=>exact Tr.snap_res (t:=t) h
  | false=>cases h
 | .split c a b,v,H,h=>by
  cases c with
  | true=>exact Tr.snap_res (t:=a) h
  | false=>exact Tr.snap_res (t:=b) h
 | .fail,_,_,h=>by cases h
theorem B1.snap {P:Program} {G:GT} {g:Nat} {pf:List PV->Tr} (h:B1 P G g pf):B1 P G g (λargs=>(pf args).snap):=by
 intro args ret Hc hpf C hP hGe Γ w Vs hnm hH hG hc
 obtain ⟨ret',Hc',hpf',rfl,rfl,hnr⟩:=Tr.snap_res hpf
 refine (h args ret' Hc' hpf' C hP hGe Γ w Vs hnm hH hG hc).mono ?_
 rintro V w' ⟨Γ1,Φ1,hs,hH1,hv,hvn,hi1,hd1⟩
 let Γ2:Ctx:={ Γ1.all with nm:=λ_=>none }
 have hlt:∀ g,Γ2.St g->g<w'.heap.size:=λg hg=>by
  rcases hg with hg | ⟨b,hb⟩
  ·exact hH1.stlt g hg
  ·exact (hH1.lt b g hb).2.1
 refine ⟨Γ2,Φ1,⟨hs.os,hs.tape,hs.output,hs.size,λg hg=>.inl (hs.sub g hg),λg hg=>?_,λb g h=>by simp [Γ2] at h,hs.foot,hs.frame,hs.yv,Nat.le_refl _,λb hb=>by simp at hb⟩,
  Fx (λ_=>rfl) hlt,?_,by rw [hnr];simp,hi1,λb g h=>by simp [Γ2] at h⟩
 ·rcases hg with hg | ⟨b,hb⟩
  ·exact hs.stnew g hg
  ·rcases hs.own b g hb with ⟨h',_⟩ | h'
   all_goals grind
 ·exact VP.mono (Γ:=Γ1.all) (Γ':=Γ2) (w:=w') (w':=w') (sh:=A2 Hc') (ok:=λ_=>False) ⟨λ_ _=>rfl,λ_ h=>h,λ_ h=>h.elim,λ_ h=>h.elim,λ_ _ h=>h.elim,rfl⟩ (hv.snap hH1) (by rw [hnr];simp)
def GZ:List (Nat × (List PV->Tr))->Nat->Option (List PV->Tr)
 | [],_=>none
 | (g,pf)::r,n=>cond (Nat.beq n g) (some pf) (GZ r n)
def K6 (P:Program) (G:GT):List (Nat × (List PV->Tr))->Prop
 | []=>True
 | (g,pf)::r=>B1 P G g pf/\K6 P G r
theorem K6.x1 {C:Cfg} {l:List (Nat × (List PV->Tr))} (hl:C.X=GZ l) (h:K6 C.P C.G l):Bi8 C:=by
 intro g pf args ret Hc hg hpf Γ w Vs hnm hH hG hc
 rw [hl] at hg
 have key:∀ l:List (Nat × (List PV->Tr)),K6 C.P C.G l->GZ l g=some pf->B1 C.P C.G g pf:=by
  intro l
  induction l with
  | nil=>intro _ h;cases h
  | cons e r ih=>
   intro h1 h2
   obtain ⟨n,q⟩:=e
   simp only [GZ] at h2
   cases hb:Nat.beq g n with
   | true=>
    rw [hb] at h2
    simp only [cond_true,Option.some.injEq] at h2
    have:=Nat.eq_of_beq_eq_true hb
    subst this;subst h2
    exact h1.1
   | false=>
    rw [hb] at h2
    exact ih h1.2 h2
 exact key l h hg args ret Hc hpf C rfl rfl Γ w Vs hnm hH hG hc
theorem Wg {C C':Cfg} (h:C.P=C'.P):Ei C=Ei C':=by
 funext s
 unfold Ei
 split
 ·simp only [Gc,Cfg.sh,h]
 ·rfl
 ·rfl
theorem Stp.congr {C C':Cfg} (h:C.P=C'.P) {Γ Γ':Ctx} {H H':List Blk} {w w':World} {Φ Φ':Nat->Prop} (s:Stp C Γ H w Φ Γ' H' w' Φ'):Stp C' Γ H w Φ Γ' H' w' Φ':=
 ⟨s.os,s.tape,s.output,s.size,s.sub,s.stnew,s.own,s.foot,s.frame,s.yv,s.len,λb hb hf=>s.keep b hb (by rw [Wg h];exact hf)⟩
def Rw (P:Program) (G:GT) (g:Nat) (pf:List PV->List Blk->Tr):Prop:=
 ∀ C:Cfg,C.P=P->C.G=G->∀ (σ:Type) (I:σ->(Nat->Prop)->(Nat->Prop)->World->Prop) (yh:Yh σ) (yv:Value),HI I->NC P I yh yv->
  ∀ args H s ret Hc,I5 (pf args H)=some (ret,Hc)->∀ Γ Φ w Vs,Γ.yv=yv->HR Γ H w->GOK C Γ.St w->I s Γ.St Φ w->(∀ b g,Γ.nm b=some g->¬ Φ g)->CR Γ (A2 H) w args Vs->(∀ c∈B4 args,c<H.length)->
   K5 P ((callFunc g Vs).run P w) (Aa C I Γ H w Φ ret Hc s)
def HM (P:Program) (G:GT) (g:Nat) (pf:List PV->List Blk->Option (Bool × List (List PV))):Prop:=
 ∀ C:Cfg,C.P=P->C.G=G->∀ (σ:Type) (I:σ->(Nat->Prop)->(Nat->Prop)->World->Prop) (yh:Yh σ) (yv:Value),HI I->NC P I yh yv->
  ∀ args H L s s',pf args H=some (true,L)->H.all Wo=true->P4 yh L s=some s'->∀ Γ Φ w Vs,Γ.yv=yv->HR Γ H w->GOK C Γ.St w->I s Γ.St Φ w->(∀ b g,Γ.nm b=some g->¬ Φ g)->CR Γ (A2 H) w args Vs->(∀ c∈B4 args,c<H.length)->
   K5 P ((callFunc g Vs).run P w) (Aa C I Γ H w Φ (.tup []) (H.map Ey) s')
theorem Ah5 {C C₀:Cfg} {σ:Type} {I:σ->(Nat->Prop)->(Nat->Prop)->World->Prop} {Γ:Ctx} {H Hc:List Blk} {w w':World} {Φ:Nat->Prop} {s':σ} {V:Value} (hP:C₀.P=C.P) (hb:H.all Wo=true) (hH:HR Γ H w) (h:Aa C₀ I Γ H w Φ (.tup []) Hc s' V w'):Aa C I Γ H w Φ (.tup []) (H.map Ey) s' V w':=by
 obtain ⟨Γ1,Φ1,hs,k1,k2,k3,k4,k5⟩:=h
 have hn:∀ b g,(if b<H.length then Γ1.nm b else none)=some g->b<H.length/\Γ1.nm b=some g:=λb g h=>by grind
 have hlen:(H.map Ey).length=H.length:=List.length_map _
 refine ⟨{ Γ1 with nm:=λb=>if b<H.length then Γ1.nm b else none },Φ1,⟨hs.os,hs.tape,hs.output,hs.size,hs.sub,hs.stnew,λb g hg=>hs.own b g (hn b g hg).2,hs.foot,hs.frame,hs.yv,by rw [hlen];exact Nat.le_refl _,λb hbl hf=>?_⟩,
  ⟨λb b' g h1 h2=>k1.inj b b' g (hn b g h1).2 (hn b' g h2).2,λb g hg=>?_,k1.stlt,λb hbl c hc=>?_,λb hbl=>?_⟩,?_,by simp [PV.nms,B4],k4,λb g hg=>k5 b g (hn b g hg).2⟩
 ·obtain ⟨m1,m2,m3⟩:=hs.keep b hbl (by rw [Wg hP];exact hf)
  refine ⟨by simp only;rw [if_pos hbl];exact m1,?_,m3⟩
  simp only [A2,List.getElem?_map]
  cases H[b]? with
  | none=>rfl
  | some x=>exact congrArg some (Zq x)
 ·obtain ⟨q1,q2⟩:=hn b g hg
  have:=k1.lt b g q2
  grind
 ·rw [List.getElem_map,Zp] at hc
  simp at hc
 ·rw [hlen] at hbl
  rw [List.getElem_map]
  have hbx:=List.all_eq_true.1 hb _ (List.getElem_mem hbl)
  have hB:=hH.blk b hbl
  cases hx:H[b] with
  | box cells=>
   rw [hx] at hB
   obtain ⟨g,cur,e,h1,h2,h3,_⟩:=hB
   obtain ⟨m1,m2,m3⟩:=hs.keep b hbl (by simp only [A2,List.getElem?_eq_getElem hbl,hx];exact trivial)
   have hl2:b<Hc.length:=Nat.lt_of_lt_of_le hbl hs.len
   have hB2:=k1.blk b hl2
   have hshp:(Hc[b]).shp = .box:=by
    simp only [A2,List.getElem?_eq_getElem hbl,List.getElem?_eq_getElem hl2,Option.map_some,Option.some.injEq] at m2
    rw [m2,hx];rfl
   cases hy:Hc[b] with
   | box cells'=>
    rw [hy] at hB2
    obtain ⟨g',cur',e',h1',h2',h3',h4'⟩:=hB2
    have hgg:g'=g:=by grind
    subst hgg
    have hsz:=m3 g' h1
    simp only [World.shape?,h2,h2',Option.some.injEq,Prod.mk.injEq] at hsz
    refine ⟨g',cur',e',by simp only;rw [if_pos hbl];exact h1',h2',by rw [hsz.2,h3];simp,λj hj=>?_⟩
    have hj':j<cur'.size:=by rw [hsz.2,h3];simpa using hj
    exact ⟨cur'[j],Array.getElem?_eq_getElem hj',by rw [List.getElem_map];exact .bad _⟩
   | arr a b c d=>rw [hy] at hshp;cases hshp
   | iter a b=>rw [hy] at hshp;cases hshp
   | dead=>rw [hy] at hshp;cases hshp
  | arr a b c d=>rw [hx] at hbx;cases hbx
  | iter a b=>rw [hx] at hbx;cases hbx
  | dead=>rw [hx] at hbx;cases hbx
 ·obtain ⟨A,rfl,hA,hcA⟩:=k2.inv_tup
  exact VP.mk_tup hA λj hj=>by simp at hj
theorem Sz {C₀:Cfg} {g:Nat} {pf:List PV->List Blk->Option (Bool × List (List PV))} (hX:XOK C₀) (hO:Bx C₀) (hm:C₀.P.follows .mixedOrders=true)
  (h:∀ args H L,pf args H=some (true,L)->∀ (σ:Type) (yh:Yh σ) (s s':σ),P4 yh L s=some s'->∃ d Hc,evC C₀ d σ yh g args H s=some (.tup [],Hc,s')):HM C₀.P C₀.G g pf:=by
 intro C hP hG σ I yh yv hI hy args H L s s' hpf hb hrun Γ Φ w Vs hyv hH hg hi hdis hc hn
 obtain ⟨d,Hc,hev⟩:=h args H L hpf σ yh s s' hrun
 exact (Fe hX hO hm d σ I yh yv hI hy g args H s _ Hc s' hev Γ Φ w Vs hyv hH (hg.congr hG.symm) hi hdis hc hn).mono λV w' hr=>Ah5 hP.symm hb hH hr
def Fq {α:Type}:List (Nat × α)->Nat->Option α
 | [],_=>none
 | (g,pf)::r,n=>cond (Nat.beq n g) (some pf) (Fq r n)
theorem Pb {α:Type}:∀ {l:List (Nat × α)} {g:Nat} {pf:α},Fq l g=some pf->(g,pf)∈l
 | [],_,_,h=>by cases h
 | (n,q)::r,g,pf,h=>by
  simp only [Fq] at h
  cases hb:Nat.beq g n with
  | true=>
   simp_all
  | false=>
   rw [hb] at h
   exact List.mem_cons_of_mem _ (Pb h)
def Ea (P:Program) (G:GT):List (Nat × (List PV->List Blk->Tr))->Prop
 | []=>True
 | (g,pf)::r=>Rw P G g pf/\Ea P G r
def Dz (P:Program) (G:GT):List (Nat × (List PV->List Blk->Option (Bool × List (List PV))))->Prop
 | []=>True
 | (g,pf)::r=>HM P G g pf/\Dz P G r
theorem Ea.mem {P:Program} {G:GT}:∀ {l:List (Nat × (List PV->List Blk->Tr))} {g:Nat} {pf:List PV->List Blk->Tr},Ea P G l->(g,pf)∈l->Rw P G g pf
 | [],_,_,_,hm=>by simp at hm
 | (n,q)::r,g,pf,h,hm=>by
  rcases List.mem_cons.1 hm with e | hm
  ·cases e;exact h.1
  ·exact Ea.mem h.2 hm
theorem Dz.mem {P:Program} {G:GT}:∀ {l:List (Nat × (List PV->List Blk->Option (Bool × List (List PV))))} {g:Nat} {pf:List PV->List Blk->Option (Bool × List (List PV))},Dz P G l->(g,pf)∈l->HM P G g pf
 | [],_,_,_,hm=>by simp at hm
 | (n,q)::r,g,pf,h,hm=>by
  rcases List.mem_cons.1 hm with e | hm
  ·cases e;exact h.1
  ·exact Dz.mem h.2 hm
theorem Ea.ok {C:Cfg} {l:List (Nat × (List PV->List Blk->Tr))} (hl:C.Y=Fq l) (h:Ea C.P C.G l):V7 C (clY C):=by
 intro σ I yh yv hI hy g args H s ret Hc s' hcl Γ Φ w Vs hyv hH hg hi hd hc hn
 simp only [clY,hl] at hcl
 split at hcl
 ·rename_i pf hpf
  split at hcl
  ·rename_i r' h' hr
   simp only [Option.some.injEq,Prod.mk.injEq] at hcl
   obtain ⟨rfl,rfl,rfl⟩:=hcl
   exact h.mem (Pb hpf) C rfl rfl σ I yh yv hI hy args H s _ _ hr Γ Φ w Vs hyv hH hg hi hd hc hn
  grind
 ·cases hcl
theorem Dz.ok {C:Cfg} {l:List (Nat × (List PV->List Blk->Option (Bool × List (List PV))))} (hl:C.S=Fq l) (h:Dz C.P C.G l):V7 C (clS C):=by
 intro σ I yh yv hI hy g args H s ret Hc s' hcl Γ Φ w Vs hyv hH hg hi hd hc hn
 simp only [clS,hl] at hcl
 split at hcl
 ·rename_i pf hpf
  split at hcl
  ·rename_i hb
   split at hcl
   ·rename_i L hL
    split at hcl
    ·rename_i s2 hr
     simp only [Option.some.injEq,Prod.mk.injEq] at hcl
     obtain ⟨rfl,rfl,rfl⟩:=hcl
     exact h.mem (Pb hpf) C rfl rfl σ I yh yv hI hy args H L s _ hL hb hr Γ Φ w Vs hyv hH hg hi hd hc hn
    grind
   grind
  grind
 ·cases hcl
theorem Eu {C:Cfg} {lx:List (Nat × (List PV->Tr))} {ly:List (Nat × (List PV->List Blk->Tr))} {ls:List (Nat × (List PV->List Blk->Option (Bool × List (List PV))))} (h1:C.X=GZ lx) (h2:C.Y=Fq ly) (h3:C.S=Fq ls) (x:K6 C.P C.G lx) (y:Ea C.P C.G ly) (s:Dz C.P C.G ls) (h4:C.Z=Fq []:=by rfl):XOK C:=
 ⟨K6.x1 h1 x,Ea.ok h2 y,Dz.ok h3 s,λg pf h=>by rw [h4] at h;cases h⟩
theorem K6.ok {C:Cfg} {l:List (Nat × (List PV->Tr))} (hl:C.X=GZ l) (h:K6 C.P C.G l) (h2:C.Y=Fq []:=by rfl) (h3:C.S=Fq []:=by rfl) (h4:C.Z=Fq []:=by rfl):XOK C:=
 Eu hl h2 h3 h trivial trivial h4
def okL:List Nat->Nat->Bool
 | [],_=>false
 | a::r,n=>Nat.beq n a || okL r n
def QG (C:Cfg) (l:List Nat):Bool:=l.all λf=>match C.P.funcs[f]? with
 | some fn=>match fn.body with
  | some c=>Ai5 C c && !(fn.name == "runtime.NumGoroutine")
  | none=>true
 | none=>true
theorem F7 {C:Cfg} {l:List Nat} (hl:C.okf=okL l) (h:QG C l=true):Bx C:=by
 intro f fn c hok hf hb
 have key:∀ l:List Nat,okL l f=true->f∈l:=by
  intro l
  induction l with
  | nil=>intro h;cases h
  | cons a r ih=>
   intro h
   simp only [okL,Bool.or_eq_true] at h
   rcases h with h | h
   all_goals simp_all
 have hm:f∈l:=key l (by rw [<-hl];exact hok)
 simp only [QG,List.all_eq_true] at h
 grind
def cd:List Nat->Code->Code
 | [],c=>c
 | 0::p,.seq a _=>cd p a
 | 1::p,.seq _ b=>cd p b
 | 0::p,.cond _ a _=>cd p a
 | 1::p,.cond _ _ b=>cd p b
 | 0::p,.block _ a=>cd p a
 | 0::p,.loop a=>cd p a
 | 0::p,.scope a=>cd p a
 | 0::p,.rangeFunc _ _ a _=>cd p a
 | 1::p,.rangeFunc _ _ _ b=>cd p b
 | _,_=>.skip
def Q2:List Nat->Code->Code->Code
 | [],b,_=>b
 | 0::p,b,.seq x y=>.seq (Q2 p b x) y
 | 1::p,b,.seq x y=>.seq x (Q2 p b y)
 | 0::p,b,.cond c x y=>.cond c (Q2 p b x) y
 | 1::p,b,.cond c x y=>.cond c x (Q2 p b y)
 | 0::p,b,.block id x=>.block id (Q2 p b x)
 | 0::p,b,.loop x=>.loop (Q2 p b x)
 | 0::p,b,.scope x=>.scope (Q2 p b x)
 | 0::p,b,.rangeFunc g ps x y=>.rangeFunc g ps (Q2 p b x) y
 | 1::p,b,.rangeFunc g ps x y=>.rangeFunc g ps x (Q2 p b y)
 | _,_,c=>c
def E3 (f:Func):Code:=f.body.getD .skip
section
variable {σ R : Type}
def bd (C:Cfg) (cl:D1) (yh:Yh σ) (c:Code):St σ->(Out->St σ->Option R)->Option R:=λst k=>B0 C cl yh c st k
def H5 (C:Cfg) (cl:D1) (yh:Yh σ) (b:Code) (k:Out->St σ->Option R):Out->St σ->Option R:=λo st'=>match o with
 | .normal=>B0 C cl yh b st' k
 | o=>k o st'
def G5 (id:Nat) (k:Out->St σ->Option R):Out->St σ->Option R:=λo st'=>match o with
 | .exit j=>if j=id then k .normal st' else k (.exit j) st'
 | o=>k o st'
def I4 (C:Cfg) (fn:Func):Out->St σ->Option (PV × List Blk × σ):=λo st=>match o with
 | .normal=>Th C st.sl st.hp fn.results.toList λvs=>some (W7 vs,st.hp,st.s)
 | .ret=>Th C st.sl st.hp fn.results.toList λvs=>some (W7 vs,st.hp,st.s)
 | _=>none
def lpK (L:Nat) (ds:Option (List Nat)) (body:St σ->(Out->St σ->Option R)->Option R) (n:Nat) (k:Out->St σ->Option R):Out->St σ->Option R:=λo st'=>match o with
 | .normal=>E6 L ds body n (Ge ds (R2 L st')) k
 | o=>k o (Ge ds st')
end
theorem Bc9 {C:Cfg} {d f:Nat} {fn:Func} {σ:Type} {yh:Yh σ} {args:List PV} {H:List Blk} {s:σ} (h2:C.P.funcs[f]? = some fn) (h1:C.okf f=true) (h3:fn.body=some (E3 fn)) :
  evC C (d+1) σ yh f args H s=B0 C (evC C d) yh (E3 fn) { sl:=args++List.replicate (fn.ntmps-args.length) (.tup []),hp:=H,s:=s } (I4 C fn):=by
 simp only [evC,h1,h2]
 split
 ·rename_i c hc
  rw [hc] at h3
  simp only [Option.some.injEq] at h3
  rw [<-h3]
  rfl
 ·rename_i hc
  rw [hc] at h3
  cases h3
theorem evE {C:Cfg} {d f:Nat} {fn:Func} {σ:Type} {yh:Yh σ} {args:List PV} {H:List Blk} {s:σ} (h:(C.P.funcs[f]?,C.okf f,fn.body)=(some fn,true,some (E3 fn))) :
  evC C (d+1) σ yh f args H s=B0 C (evC C d) yh (E3 fn) { sl:=args++List.replicate (fn.ntmps-args.length) (.tup []),hp:=H,s:=s } (I4 C fn):=by
 simp only [Prod.mk.injEq] at h
 exact Bc9 h.1 h.2.1 h.2.2
def Eg:List Nat->List Blk->List Blk
 | [],H=>H
 | i::r,H=>Eg r (H.set i .dead)
def OF (idx:List Nat) (ret:PV) (H:List Blk):Bool:=idx.all λi=>!(ret.nms.contains i)&&(Eg idx H).all λb=>!(b.nms.contains i)
theorem Se:∀ (idx:List Nat) (H:List Blk),(Eg idx H).length=H.length/\∀ i (h:i<(Eg idx H).length) (h':i<H.length),(i∈idx/\(Eg idx H)[i] = .dead)\/(i∉idx/\(Eg idx H)[i]=H[i])
 | [],H=>⟨rfl,λi h h'=>.inr ⟨by simp,rfl⟩⟩
 | a::r,H=>by
  obtain ⟨h1,h2⟩:=Se r (H.set a .dead)
  simp only [Eg]
  grind
theorem Aa.dead {C:Cfg} {Γ:Ctx} {w w':World} {ret:PV} {Hc:List Blk} {V:Value} {idx:List Nat} (h:Aa C I0 Γ [] w noΦ ret Hc () V w') (hok:OF idx ret Hc=true):Aa C I0 Γ [] w noΦ ret (Eg idx Hc) () V w':=by
 obtain ⟨Γ1,Φ1,hs,hH1,hv,hvn,hi1,hd1⟩:=h
 obtain ⟨hl,hsp⟩:=Se idx Hc
 simp only [OF,List.all_eq_true,Bool.and_eq_true,Bool.not_eq_true',List.contains_iff_mem,<-Bool.not_eq_true] at hok
 let Γ2:Ctx:={ Γ1 with nm:=λb=>if b∈idx then none else Γ1.nm b }
 have hnm:∀ b g,Γ2.nm b=some g->b∉idx/\Γ1.nm b=some g:=λb g h=>by
  simp only [Γ2] at h
  split at h
  ·cases h
  ·exact ⟨‹_›,h⟩
 have M:T1 Γ1 (A2 Hc) w' Γ2 (A2 (Eg idx Hc)) w' (·∉idx):=⟨λ_ _=>rfl,λ_ h=>h,λb hb=>by simp only [Γ2];rw [if_neg hb],λb hb=>by
  simp only [A2]
  by_cases hlt:b<Hc.length
  ·rcases hsp b (by omega) hlt with ⟨q,_⟩ | ⟨_,q⟩
   ·exact absurd q hb
   ·rw [List.getElem?_eq_getElem (by omega),List.getElem?_eq_getElem hlt,q]
  ·rw [List.getElem?_eq_none (by omega),List.getElem?_eq_none (by omega)],λ_ _ _ _=>rfl,rfl⟩
 refine ⟨Γ2,Φ1,⟨hs.os,hs.tape,hs.output,hs.size,hs.sub,hs.stnew,λb g h=>hs.own b g (hnm b g h).2,hs.foot,hs.frame,hs.yv,Nat.zero_le _,λb hb=>by simp at hb⟩,
  ⟨λb b' g h1 h2=>hH1.inj b b' g (hnm b g h1).2 (hnm b' g h2).2,λb g h=>by have:=hH1.lt b g (hnm b g h).2;rw [hl];exact this,hH1.stlt,λb hb c hc=>?_,λb hb=>?_⟩,
  hv.mono M (λb hb hi=>by have:=(hok b hi).1;exact this hb),λc hc=>by rw [hl];exact hvn c hc,hi1,λb g h=>hd1 b g (hnm b g h).2⟩
 ·have hlt:b<Hc.length:=by omega
  rcases hsp b hb hlt with ⟨_,q⟩ | ⟨_,q⟩
  ·rw [q] at hc;simp [Blk.nms] at hc
  ·rw [q] at hc;rw [hl];exact hH1.nms b hlt c hc
 ·have hlt:b<Hc.length:=by omega
  rcases hsp b hb hlt with ⟨_,q⟩ | ⟨q0,q⟩
  ·rw [q];trivial
  ·rw [q]
   refine (hH1.blk b hlt).mono M (M.nm b q0) (λ_ _=>rfl) (λc hc hi=>?_)
   have:=(hok c hi).2 _ (List.getElem_mem hb)
   rw [q] at this
   exact this hc
theorem N9 {C₀:Cfg} {g:Nat} {pf:List PV->Tr} (hX:XOK C₀) (hO:Bx C₀) (hm:C₀.P.follows .mixedOrders=true)
  (h:∀ args ret Hc,I5 (pf args)=some (ret,Hc)->B4 args=[]/\∃ d H0 idx,evC C₀ d Unit noY g args [] ()=some (ret,H0,())/\OF idx ret H0=true/\Eg idx H0=Hc):B1 C₀.P C₀.G g pf:=by
 intro args ret Hc hpf C hP hGe Γ w Vs hnm hH hG hc
 obtain ⟨hna,d,H0,idx,hev,hd,rfl⟩:=h args ret Hc hpf
 have h0:=Dy (C₀:=C₀) (g:=g) (pf:=λa=>match I5 (pf a) with | some _=>(match evC C₀ d Unit noY g a [] () with | some (r,H,_)=>cond (B4 a).isEmpty (.ret r H) .fail | none=>.fail) | none=>.fail) hX hO hm (λa r H hr=>by
  split at hr
  ·split at hr
   ·rename_i r' H' _ he
    cases hn:(B4 a).isEmpty with
    | true=>
     rw [hn] at hr
     simp only [cond_true,I5,Cv,Option.some.injEq,Prod.mk.injEq] at hr
     grind
    | false=>rw [hn] at hr;cases hr
   ·cases hr
  ·cases hr)
 refine (h0 args ret H0 ?_ C hP hGe Γ w Vs hnm hH hG hc).mono λV w' hR=>hR.dead hd
 dsimp only
 rw [hpf]
 dsimp only
 rw [hev]
 dsimp only
 rw [hna]
 rfl
theorem HB {C₀:Cfg} {g:Nat} {pf:List PV->Tr} (hX:XOK C₀) (hO:Bx C₀) (hm:C₀.P.follows .mixedOrders=true)
  (h:∀ args ret Hc,I5 (pf args)=some (ret,Hc)->B4 args=[]/\Hc=[]/\ret.nms=[]/\∃ d ret' H0,evC C₀ d Unit noY g args [] ()=some (ret',H0,())/\ret'.snap H0=ret):B1 C₀.P C₀.G g pf:=by
 intro args ret Hc hpf C hP hGe Γ w Vs hnm hH hG hc
 obtain ⟨hna,rfl,hnr,d,ret',H0,hev,rfl⟩:=h args ret Hc hpf
 have h0:=Dy (C₀:=C₀) (g:=g) (pf:=λa=>match evC C₀ d Unit noY g a [] () with | some (r,H,_)=>cond (B4 a).isEmpty (.ret r H) .fail | none=>.fail) hX hO hm (λa r H hr=>by
  split at hr
  ·rename_i r' H' _ he
   cases hn:(B4 a).isEmpty with
   | true=>
    rw [hn] at hr
    simp only [cond_true,I5,Cv,Option.some.injEq,Prod.mk.injEq] at hr
    grind
   | false=>rw [hn] at hr;cases hr
  ·cases hr)
 refine h0.snap args (ret'.snap H0) [] ?_ C hP hGe Γ w Vs hnm hH hG hc
 dsimp only
 rw [hev]
 dsimp only
 rw [hna]
 simp only [List.isEmpty_nil,cond_true,Tr.snap,hnr]
 rfl
section
variable {σ R : Type} {C : Cfg} {cl : D1} {yh : Yh σ} {c a b : Code} {st : St σ} {k : Out -> St σ -> Option R} {id : Nat}
theorem A0 {b:Bool} {x y x' y':Option R} (hx:x=x') (hy:y=y'):cond b x y=cond b x' y':=by rw [hx,hy]
end
def A5 {α:Type}:List (Nat × α)->Nat->Option α
 | [],_=>none
 | (a,l)::r,n=>cond (Nat.beq n a) (some l) (A5 r n)
def bds (n:Nat):List PV:=List.replicate n .bad
def tps (n:Nat):List PV:=List.replicate n (.tup [])
def gp:List (Nat × PV)->Nat->List PV
 | [],n=>bds n
 | (m,v)::r,n=>bds m++v::gp r n
abbrev LL:=List (List SV)
abbrev By:=List UInt8
def A1 (n:Int):Int:=IntKind.wrap .i64 n
def As7 (n:Int):Int:=IntKind.wrap .u64 n
def Bk9 (n:Int):Int:=IntKind.wrap .u32 n
def As6 (n:Int):Int:=IntKind.wrap .u16 n
def wu8 (n:Int):Int:=IntKind.wrap .u8 n
def bOr (k:IntKind) (a b:Int):Int:=k.wrap (BitVec.ofInt k.bits a ||| BitVec.ofInt k.bits b).toNat
def TK (k:IntKind) (a b:Int):Int:=k.wrap (a*2 ^ min b.toNat k.bits)
def Ar1 (k:IntKind) (a b:Int):Int:=a.fdiv (2 ^ min b.toNat k.bits)
def inR (n:Int) (m:Nat):Bool:=decide (0<=n)&&decide (n<m)
def Fp:TI:=⟨true,false,[.int .i64]⟩
def Gw:TI:=⟨true,false,[.str]⟩
def okE (t:TI) (l:LL) (i o:Nat):Bool:=decide (i<l.length)&&okS t (l.getD i []) o
def gC (l:LL) (i j:Nat):SV:=(l.getD i []).getD j .nilp
def gE (l:LL) (i j:Nat):Int:=(gC l i j).gI
def gX (l:LL) (i j:Nat):By:=(gC l i j).gS
def gY (l:LL) (i j:Nat):Bool:=(gC l i j).gB
def bAt (s:By) (n:Int):Int:=((s.getD n.toNat 0).toNat:Int)
def N3 (l h:Int) (n:Nat):Bool:=decide (0<=l)&&decide (l<=h)&&decide (h<=n)
def cut {α:Type} (s:List α) (l h:Int):List α:=(s.take h.toNat).drop l.toNat
def Bm6:Code->Bool | .rangeFunc _ _ _ _=>true | _=>false
def rgX:Code->Operand | .rangeFunc x _ _ _=>x | _=>.tmp 0
def rgP:Code->Array Tmp | .rangeFunc _ p _ _=>p | _=>#[]
theorem EW:∀ (p:List Nat),cd p .skip = .skip
 | []=>rfl
 | 0::_=>rfl
 | 1::_=>rfl
 | (_+2)::_=>rfl
theorem Cc:∀ (p q:List Nat) (c:Code),cd (p++q) c=cd q (cd p c)
 | [],q,c=>rfl
 | i::p,q,c=>by
  rw [List.cons_append]
  match i,c with
  | 0,.seq a b=>exact Cc p q a
  | 1,.seq a b=>exact Cc p q b
  | 0,.cond _ a b=>exact Cc p q a
  | 1,.cond _ a b=>exact Cc p q b
  | 0,.block _ a=>exact Cc p q a
  | 0,.loop a=>exact Cc p q a
  | 0,.scope a=>exact Cc p q a
  | 0,.rangeFunc _ _ a b=>exact Cc p q a
  | 1,.rangeFunc _ _ a b=>exact Cc p q b
  | 0,.skip | 0,.region _ _ _ | 0,.exit _ | 0,.label _ | 0,.goto _ | 0,.ret | 0,.refuse _=>exact (EW q).symm
  | 1,.skip | 1,.region _ _ _ | 1,.exit _ | 1,.scope _ | 1,.label _ | 1,.goto _ | 1,.ret | 1,.refuse _ | 1,.block _ _ | 1,.loop _=>exact (EW q).symm
  | _+2,.skip | _+2,.region _ _ _ | _+2,.exit _ | _+2,.scope _ | _+2,.label _ | _+2,.goto _ | _+2,.ret | _+2,.refuse _ | _+2,.block _ _ | _+2,.loop _ | _+2,.seq _ _ | _+2,.cond _ _ _ | _+2,.rangeFunc _ _ _ _=>exact (EW q).symm
section
variable {σ R : Type} {C : Cfg} {cl : D1} {yh : Yh σ} {B : Code} {st : St σ} {k : Out -> St σ -> Option R}
theorem Aj8 (p:List Nat) (h:Bm6 (cd p B)=true):B0 C cl yh (cd p B) st k=Ma C cl (opnd C st.sl (rgX (cd p B))) st (λsl0=>El (rgP (cd p B)) sl0 (bd C cl yh (cd (p++[0]) B)) (bd C cl yh (cd (p++[1]) B))) (λsl0=>Q0 (rgP (cd p B)) sl0 (bd C cl yh (cd (p++[0]) B)) (bd C cl yh (cd (p++[1]) B))) k:=by
 rw [Cc,Cc]
 cases hc:cd p B<;>rw [hc] at h<;>first | rfl | cases h
theorem Lv {c:Bool} {x y:Option R} (h:x=y):need c x=cond c y none:=by rw [h];rfl
end
abbrev pS (l:List UInt8):PV:=.s (.str l)
abbrev pB (b:Bool):PV:=.s (.bool b)
abbrev pI (n:Int):PV:=.s (.int .i64 n)
abbrev p8 (n:Int):PV:=.s (.int .u8 n)
abbrev vl {α β:Type} (e:α) (f:α->β):β:=f e
theorem A8 {α R:Type} {e:α} {f g:α->Option R} (h:∀ x,f x=g x):vl e f=vl e g:=h e
def IK (m n:Nat):Bool:=decide (m+n<4611686018427387904)
theorem fx1 {A R:Type} {f g:A->R} (h0:∀ a,f a=g a):f=g:=funext h0
theorem fx2 {A B R:Type} {f g:A->B->R} (h0:∀ a b,f a b=g a b):f=g:=funext λa=>fx1 (h0 a)
theorem fx3 {A B C R:Type} {f g:A->B->C->R} (h0:∀ a b c,f a b c=g a b c):f=g:=funext λa=>fx2 (h0 a)
theorem fx4 {A B C D R:Type} {f g:A->B->C->D->R} (h0:∀ a b c d,f a b c d=g a b c d):f=g:=funext λa=>fx3 (h0 a)
theorem fx5 {A B C D E R:Type} {f g:A->B->C->D->E->R} (h0:∀ a b c d e,f a b c d e=g a b c d e):f=g:=funext λa=>fx4 (h0 a)
theorem fx6 {A B C D E H R:Type} {f g:A->B->C->D->E->H->R} (h0:∀ a b c d e h,f a b c d e h=g a b c d e h):f=g:=funext λa=>fx5 (h0 a)
theorem fx7 {A B C D E H I R:Type} {f g:A->B->C->D->E->H->I->R} (h0:∀ a b c d e h i,f a b c d e h i=g a b c d e h i):f=g:=funext λa=>fx6 (h0 a)
theorem fx8 {A B C D E H I J R:Type} {f g:A->B->C->D->E->H->I->J->R} (h0:∀ a b c d e h i j,f a b c d e h i j=g a b c d e h i j):f=g:=funext λa=>fx7 (h0 a)
theorem fx9 {A B C D E H I J K R:Type} {f g:A->B->C->D->E->H->I->J->K->R} (h0:∀ a b c d e h i j k,f a b c d e h i j k=g a b c d e h i j k):f=g:=funext λa=>fx8 (h0 a)
theorem Ax9 {A B C D E H I J K L R:Type} {f g:A->B->C->D->E->H->I->J->K->L->R} (h0:∀ a b c d e h i j k l,f a b c d e h i j k l=g a b c d e h i j k l):f=g:=funext λa=>fx9 (h0 a)
def A46 {α β:Type} (z:α) (f:β->List β->α->α):List β->α
 | []=>z
 | x::xs=>f x xs (A46 z f xs)
def Qw (n:Nat):PV->PV
 | .s (.sl z t k els)=>if n=0 then .s (.sl z t k els) else if k=n then .s (.sl z t k els) else .s (.sl z t (cond z n k) els)
 | v=>v
def Ib:List Nat->List PV->List PV
 | n::r,v::l=>Qw n v::Ib r l
 | _,l=>l
def Bd0 (szs:List Nat):PV->PV
 | .agg l=>.agg (Ib szs l)
 | v=>Qw (szs.headD 0) v
def D3:List (List Nat)->List PV->List PV
 | s::r,v::l=>Bd0 s v::D3 r l
 | _,l=>l
section
variable {Γ : Ctx} {sh : Nat -> Option Shp} {w : World}
theorem Gb {n:Nat} {v:PV} {V:Value} (h:VP Γ sh w v V):VP Γ sh w (Qw n v) V:=by
 unfold Qw
 split
 ·rename_i z t k els
  split
  ·exact h
  ·split
   ·exact h
   ·cases z with
    | false=>exact h
    | true=>
     have hs:=h.inv_s
     cases hs with
     | nil=>exact .s _ _ (.nil _ _)
 ·exact h
theorem Fg:∀ (szs:List Nat) (l:List PV),(Ib szs l).length=l.length
 | [],_=>rfl
 | _::_,[]=>rfl
 | n::r,v::l=>by simp [Ib,Fg r l]
theorem Ic:∀ (szs:List Nat) (l:List PV) (j:Nat) (h:j<l.length) (h':j<(Ib szs l).length),∃ n,(Ib szs l)[j]=Qw n l[j]
 | [],l,j,h,h'=>⟨0,by
  have e:Ib [] l=l:=by cases l<;>rfl
  simp only [e]
  unfold Qw
  split
  ·rename_i he;rw [he];simp
  ·rfl⟩
 | n::r,v::l,0,h,h'=>⟨n,rfl⟩
 | n::r,v::l,j+1,h,h'=>by
  obtain ⟨m,e⟩:=Ic r l j (by simpa using h) (by simpa [Ib] using h')
  exact ⟨m,by simpa [Ib] using e⟩
theorem Ax7 {szs:List Nat} {v:PV} {V:Value} (h:VP Γ sh w v V):VP Γ sh w (Bd0 szs v) V:=by
 unfold Bd0
 split
 ·rename_i l
  obtain ⟨A,rfl,hA,hc⟩:=h.inv_agg
  refine VP.mk_agg (by rw [Fg];exact hA) λj hj=>?_
  have hj':j<l.length:=by rw [Fg] at hj;exact hj
  obtain ⟨U,e,k⟩:=hc j hj'
  obtain ⟨m,e2⟩:=Ic szs l j hj' hj
  exact ⟨U,e,by rw [e2];exact Gb k⟩
 ·exact Gb h
theorem IV:∀ (szs:List (List Nat)) (l:List PV),(D3 szs l).length=l.length
 | [],_=>rfl
 | _::_,[]=>rfl
 | n::r,v::l=>by simp [D3,IV r l]
theorem Ax8:∀ (szs:List (List Nat)) (l:List PV) (V:Array Value),CR Γ sh w l V->CR Γ sh w (D3 szs l) V:=by
 intro szs l V h
 refine ⟨by rw [IV];exact h.1,?_⟩
 have key:∀ (szs:List (List Nat)) (l:List PV) (As:Nat->Option Value),(∀ j (h:j<l.length),∃ U,As j=some U/\VP Γ sh w (l[j]) U)->∀ j (h:j<(D3 szs l).length),∃ U,As j=some U/\VP Γ sh w ((D3 szs l)[j]) U:=by
  intro szs
  induction szs with
  | nil=>intro l As hl j hj;exact hl j (by cases l<;>exact hj)
  | cons s r ih=>
   intro l As hl j hj
   cases l with
   | nil=>simp [D3] at hj
   | cons v l=>
    cases j with
    | zero=>
     obtain ⟨U,e,k⟩:=hl 0 (by simp)
     exact ⟨U,e,Ax7 k⟩
    | succ j=>
     have:=ih l (λj=>As (j+1)) (λj h=>hl (j+1) (by simpa using h)) j (by simpa [D3] using hj)
     simpa [D3] using this
 exact key szs l (λj=>V[j]?) h.2
end
theorem B1.fix {P:Program} {G:GT} {g:Nat} {pf:List PV->Tr} (szs:List (List Nat)) (h:B1 P G g pf):B1 P G g (λargs=>pf (D3 szs args)):=
 λargs ret Hc hpf C hP hGe Γ w Vs hnm hH hG hc=>h (D3 szs args) ret Hc hpf C hP hGe Γ w Vs hnm hH hG (Ax8 szs args Vs hc)
theorem I2 {v:PV} {H:List Blk} {ret:PV} {Hc:List Blk} (h:I5 (.ret v H)=some (ret,Hc)):ret=v/\Hc=H:=by
 simp only [I5,Cv,Option.some.injEq,Prod.mk.injEq] at h
 grind
theorem C4 {c:Bool} {t:Tr} {ret:PV} {Hc:List Blk} (h:I5 (.need c t)=some (ret,Hc)):c=true/\I5 t=some (ret,Hc):=by
 cases c with
 | true=>exact ⟨rfl,h⟩
 | false=>cases h
theorem LV {c:Bool} {a b:Tr} {ret:PV} {Hc:List Blk} (h:I5 (.split c a b)=some (ret,Hc)):(c=true/\I5 a=some (ret,Hc))\/(c=false/\I5 b=some (ret,Hc)):=by
 cases c with
 | true=>exact .inl ⟨rfl,h⟩
 | false=>exact .inr ⟨rfl,h⟩
theorem A93:∃ n:Nat,100000000000000000000<=n:=⟨_,Nat.le_refl _⟩
noncomputable def LF:Nat:=Classical.choose A93
theorem E5:100000000000000000000<=LF:=Classical.choose_spec A93
attribute [irreducible] LF
theorem XX (b:UInt8):Qq (C9 b)=b:=by
 simp [Qq,C9,SV.gI]
theorem Fi (l:List UInt8):(l.map C9).map Qq=l:=by
 rw [List.map_map]
 have:Qq ∘ C9=id:=by funext b;exact XX b
 rw [this,List.map_id]
theorem YM (b:UInt8):Tg (C9 b)=true:=by
 have:=b.toNat_lt
 simp only [Tg,C9,Bool.and_eq_true,decide_eq_true_eq]
 omega
theorem Ew (l:List UInt8):(l.map C9).all Tg=true:=by
 rw [List.all_map]
 simp [Function.comp_def,YM]
theorem Bg1 (n:Nat):IntKind.wrap .u8 (n:Int)=((n % 256:Nat):Int):=by simp [IntKind.wrap,IntKind.bits,IntKind.signed]
theorem A70 (n:Nat):IntKind.wrap .u16 (n:Int)=((n % 65536:Nat):Int):=by simp [IntKind.wrap,IntKind.bits,IntKind.signed]
theorem A71 (n:Nat):IntKind.wrap .u32 (n:Int)=((n % 4294967296:Nat):Int):=by simp [IntKind.wrap,IntKind.bits,IntKind.signed]
theorem A72 (n:Nat):IntKind.wrap .u64 (n:Int)=((n % 18446744073709551616:Nat):Int):=by simp [IntKind.wrap,IntKind.bits,IntKind.signed]
theorem A69 (n:Int) (h0:-9223372036854775808<=n) (h1:n<9223372036854775808):IntKind.wrap .i64 n=n:=by
 simp [IntKind.wrap,IntKind.bits,IntKind.signed]
 split<;>omega
theorem Ak1 (n m:Nat):Int.fdiv (n:Int) (m:Int)=((n / m:Nat):Int):=by
 rw [Int.fdiv_eq_ediv_of_nonneg _ (by omega)]
 rfl
theorem J6 (n m:Nat):Int.tdiv (n:Int) (m:Int)=((n / m:Nat):Int):=by
 rw [Int.tdiv_eq_ediv_of_nonneg (by omega)]
 rfl
theorem Fr (n m:Nat):Int.tmod (n:Int) (m:Int)=((n % m:Nat):Int):=by
 rw [Int.tmod_eq_emod_of_nonneg (by omega)]
 rfl
end
section
open Go Go.ChangeShapes Go.RowKit Go.Sort Go.WideShapes
theorem Z9 {P:Program} {f:Nat} {fn:Func} {Vs:Array Value} {w:World} {R:Value->World->Prop} (hf:P.funcs[f]? = some fn) (hb:fn.body.isSome=true) (hn:(fn.name == "runtime.NumGoroutine")=false)
  (h:Calls P f Vs w λe w'=>∃ V,e = .returned V/\R V w'):K5 P ((callFunc f Vs).run P w) R:=by
 obtain ⟨c,hb⟩:=Option.isSome_iff_exists.1 hb
 intro ro n o a next Q hnext
 have hrun:(callFunc f Vs).run P w = .ok (.enter f Vs) w:=by
  have hn':¬ fn.name = "runtime.NumGoroutine":=by simpa using hn
  simp [callFunc,hf,hb,hn',Result.andThen]
 rw [hrun]
 simp only [Oper.uponIn_enter]
 refine ⟨λh=>(by simp [D7,Fence.wide] at h),?_⟩
 have key:CallsIn Fence.wide (n-1) P f Vs w λe w'=>∃ V,e = .returned V/\R V w':=callsIn_wide.2 h
 have key':CallsIn (D7 ro) (n-1) P f Vs w λe w'=>∃ V,e = .returned V/\R V w':=key
 refine key'.mono ?_
 rintro e w' ⟨V,rfl,hR⟩
 exact hnext V w' hR
theorem Ai7 {C:Cfg} {Γ:Ctx} {w w':World} {ret:PV} {V:Value} (hnm:∀ b,Γ.nm b=none) (hH:HR Γ [] w) (hb:Below w.heap.size w w') (hv:VP Γ (A2 []) w' ret V) (hr:ret.nms=[]):Aa C I0 Γ [] w noΦ ret [] () V w':=by
 refine ⟨Γ,noΦ,⟨hb.os,hb.tape,hb.output,hb.size,λ_ h=>h,λ_ h=>.inl h,λb g h=>(by rw [hnm] at h;cases h),λ_ h=>h.elim,λg hg _ _=>hb.block g hg,rfl,Nat.le_refl _,λb h=>(by simp at h)⟩,
  ⟨λb b' g h=>(by rw [hnm] at h;cases h),λb g h=>(by rw [hnm] at h;cases h),λg hg=>Nat.lt_of_lt_of_le (hH.stlt g hg) hb.size,λb h=>(by simp at h),λb h=>(by simp at h)⟩,hv,by rw [hr];simp,λ_ h=>h,λb g h=>(by rw [hnm] at h;cases h)⟩
theorem ID (w:World) (n:Nat):Below w.heap.size w (w.drewN n):=⟨rfl,rfl,rfl,Nat.le_refl _,λ_ _=>rfl⟩
theorem NI (w:World) (s:ByteArray) (pos:Nat):Below w.heap.size w (w.iter s pos):=(Below.refl _ w).alloc (Nat.le_refl _) _
section
variable {Γ : Ctx} {sh : Nat -> Option Shp} {w : World}
theorem CR.arr1 {a:PV} {A:Array Value} (h:CR Γ sh w [a] A):∃ U,A = #[U]/\VP Γ sh w a U:=by
 obtain ⟨U,e,k⟩:=h.2 0 (by simp)
 refine ⟨U,?_,k⟩
 have hs:A.size=1:=h.1
 grind
theorem CR.arr2 {a b:PV} {A:Array Value} (h:CR Γ sh w [a,b] A):∃ U V,A = #[U,V]/\VP Γ sh w a U/\VP Γ sh w b V:=by
 obtain ⟨U,e,k⟩:=h.2 0 (by simp)
 obtain ⟨V,e',k'⟩:=h.2 1 (by simp)
 refine ⟨U,V,?_,k,k'⟩
 have hs:A.size=2:=h.1
 grind
theorem CR.arr3 {a b c:PV} {A:Array Value} (h:CR Γ sh w [a,b,c] A):∃ U V W,A = #[U,V,W]/\VP Γ sh w a U/\VP Γ sh w b V/\VP Γ sh w c W:=by
 obtain ⟨U,e,k⟩:=h.2 0 (by simp)
 obtain ⟨V,e',k'⟩:=h.2 1 (by simp)
 obtain ⟨W,e'',k''⟩:=h.2 2 (by simp)
 refine ⟨U,V,W,?_,k,k',k''⟩
 have hs:A.size=3:=h.1
 grind
theorem VP.mk_str (l:List UInt8):VP Γ sh w (.s (.str l)) (.string ⟨l.toArray⟩):=by
 have:=VP.s (Γ:=Γ) (sh:=sh) (w:=w) _ _ (VS.str (St:=Γ.St) (w:=w) ⟨l.toArray⟩)
 omega
theorem VP.mk_int (k:IntKind) (n:Int):VP Γ sh w (.s (.int k n)) (.int k n):=.s _ _ (.int k n)
theorem VP.mk_bool (b:Bool):VP Γ sh w (.s (.bool b)) (.bool b):=.s _ _ (.bool b)
theorem VP.mk_tup3 {a b c:PV} {U V W:Value} (h:VP Γ sh w a U) (k:VP Γ sh w b V) (l:VP Γ sh w c W):VP Γ sh w (.tup [a,b,c]) (.tuple #[U,V,W]):=
 VP.mk_tup rfl λj hj=>by grind
end
theorem N4 {P:Program} {G:GT} {g:Nat} {fn:Func} {pf:List PV->Tr} (hf:P.funcs[g]? = some fn) (hb:fn.body.isSome=true) (hn:(fn.name == "runtime.NumGoroutine")=false)
  (h:∀ args ret Hc,I5 (pf args)=some (ret,Hc)->Hc=[]/\ret.nms=[]/\∀ C:Cfg,C.P=P->C.G=G->∀ Γ w Vs,GOK C Γ.St w->(∀ g,Γ.St g->g<w.heap.size)->CR Γ (A2 []) w args Vs->
   Calls P g Vs w λe w'=>∃ V,e = .returned V/\Below w.heap.size w w'/\VP Γ (A2 []) w' ret V):B1 P G g pf:=by
 intro args ret Hc hpf C hP hG Γ w Vs hnm hH hg hc
 obtain ⟨rfl,hr,h1⟩:=h args ret Hc hpf
 exact Z9 hf hb hn ((h1 C hP hG Γ w Vs hg hH.stlt hc).mono λe w' ⟨V,he,hb,hv⟩=>⟨V,he,Ai7 hnm hH hb hv hr⟩)
def PV.stab (szs:List Nat) (H:List Blk):PV->PV
 | .tup l=>.tup (Ib szs (H9 H l))
 | v=>Qw (szs.headD 0) (v.snap H)
theorem VP.stab {Γ:Ctx} {H:List Blk} {w:World} (szs:List Nat) (hH:HR Γ H w) {v:PV} {V:Value} (h:VP Γ (A2 H) w v V):VP Γ.all (A2 H) w (v.stab szs H) V:=by
 by_cases ht:∃ l,v = .tup l
 ·obtain ⟨l,rfl⟩:=ht
  obtain ⟨A,rfl,hA,hc⟩:=h.inv_tup
  simp only [PV.stab]
  have hl:(Ib szs (H9 H l)).length=l.length:=by rw [Fg,T4,List.length_map]
  refine VP.mk_tup (by rw [hl];exact hA) λj hj=>?_
  obtain ⟨U,e,k⟩:=hc j (by omega)
  refine ⟨U,e,?_⟩
  have hj':j<(H9 H l).length:=by rw [T4,List.length_map];omega
  obtain ⟨n,en⟩:=Ic szs (H9 H l) j hj' hj
  rw [en]
  have e2:(H9 H l)[j]=(l[j]'(by omega)).snap H:=by
   simp only [T4,List.getElem_map]
  rw [e2]
  exact Gb (k.snap hH)
 ·have e:v.stab szs H=Qw (szs.headD 0) (v.snap H):=by
   cases v with
   | tup l=>exact absurd ⟨l,rfl⟩ ht
   | _=>rfl
  rw [e]
  exact Gb (h.snap hH)
theorem Yo (f:List Blk->PV->PV) (hf:∀ {Γ:Ctx} {H:List Blk} {w:World},HR Γ H w->∀ {v:PV} {V:Value},VP Γ (A2 H) w v V->VP Γ.all (A2 H) w (f H v) V) {C₀:Cfg} {g:Nat} {pf:List PV->Tr} (hX:XOK C₀) (hO:Bx C₀) (hm:C₀.P.follows .mixedOrders=true)
  (h:∀ args ret Hc,I5 (pf args)=some (ret,Hc)->B4 args=[]/\Hc=[]/\ret.nms=[]/\∃ d ret' H0,evC C₀ d Unit noY g args [] ()=some (ret',H0,())/\f H0 ret'=ret):B1 C₀.P C₀.G g pf:=by
 intro args ret Hc hpf C hP hGe Γ w Vs hnm hH hG hc
 obtain ⟨hna,rfl,hnr,d,ret',H0,hev,rfl⟩:=h args ret Hc hpf
 have h0:=Dy (C₀:=C₀) (g:=g) (pf:=λa=>match evC C₀ d Unit noY g a [] () with | some (r,H,_)=>cond (B4 a).isEmpty (.ret r H) .fail | none=>.fail) hX hO hm (λa r H hr=>by
  split at hr
  ·rename_i r' H' _ he
   cases hn:(B4 a).isEmpty with
   | true=>
    rw [hn] at hr
    simp only [cond_true,I5,Cv,Option.some.injEq,Prod.mk.injEq] at hr
    grind
   | false=>rw [hn] at hr;cases hr
  ·cases hr)
 refine (h0 args ret' H0 (by dsimp only;rw [hev];dsimp only;rw [hna];rfl) C hP hGe Γ w Vs hnm hH hG hc).mono ?_
 rintro V w' ⟨Γ1,Φ1,hs,hH1,hv,hvn,hi1,hd1⟩
 let Γ2:Ctx:={ Γ1.all with nm:=λ_=>none }
 have hlt:∀ g,Γ2.St g->g<w'.heap.size:=λg hg=>by
  rcases hg with hg | ⟨b,hb⟩
  ·exact hH1.stlt g hg
  ·exact (hH1.lt b g hb).2.1
 refine ⟨Γ2,Φ1,⟨hs.os,hs.tape,hs.output,hs.size,λg hg=>.inl (hs.sub g hg),λg hg=>?_,λb g h=>by simp [Γ2] at h,hs.foot,hs.frame,hs.yv,Nat.le_refl _,λb hb=>by simp at hb⟩,
  Fx (λ_=>rfl) hlt,?_,by rw [hnr];simp,hi1,λb g h=>by simp [Γ2] at h⟩
 ·rcases hg with hg | ⟨b,hb⟩
  ·exact hs.stnew g hg
  ·rcases hs.own b g hb with ⟨h',_⟩ | h'
   ·simp at h'
   ·exact .inr h'
 ·exact VP.mono (Γ:=Γ1.all) (Γ':=Γ2) (w:=w') (w':=w') (sh:=A2 H0) (ok:=λ_=>False) ⟨λ_ _=>rfl,λ_ h=>h,λ_ h=>h.elim,λ_ h=>h.elim,λ_ _ h=>h.elim,rfl⟩ (hf hH1 hv) (by rw [hnr];simp)
theorem M7 (szs:List Nat) {C₀:Cfg} {g:Nat} {pf:List PV->Tr} (hX:XOK C₀) (hO:Bx C₀) (hm:C₀.P.follows .mixedOrders=true)
  (h:∀ args ret Hc,I5 (pf args)=some (ret,Hc)->B4 args=[]/\Hc=[]/\ret.nms=[]/\∃ d ret' H0,evC C₀ d Unit noY g args [] ()=some (ret',H0,())/\ret'.stab szs H0=ret):B1 C₀.P C₀.G g pf:=
 Yo (λH v=>v.stab szs H) (λhH _ _ h=>h.stab szs hH) hX hO hm h
def Tr.Good (szs:List Nat) (args:List PV) (e:Option (PV × List Blk × Unit)):Tr->Prop
 | .ret v H=>B4 args=[]/\H=[]/\v.nms=[]/\∃ r H0,e=some (r,H0,())/\r.stab szs H0=v
 | .need c t=>c=true->Good szs args e t
 | .split c a b=>(c=true->Good szs args e a)/\(c=false->Good szs args e b)
 | .fail=>True
theorem Tr.Good.res {szs:List Nat} {args:List PV} {e:Option (PV × List Blk × Unit)} {ret:PV} {Hc:List Blk}:∀ {t:Tr},t.Good szs args e->I5 t=some (ret,Hc)->B4 args=[]/\Hc=[]/\ret.nms=[]/\∃ r H0,e=some (r,H0,())/\r.stab szs H0=ret
 | .ret v H,h,hr=>by
  obtain ⟨rfl,rfl⟩:=I2 hr
  exact h
 | .need c t,h,hr=>by
  obtain ⟨h0,hr⟩:=C4 hr
  exact res (h h0) hr
 | .split c a b,h,hr=>by
  rcases LV hr with ⟨h0,hr⟩ | ⟨h0,hr⟩
  ·exact res (h.1 h0) hr
  ·exact res (h.2 h0) hr
theorem xf (szs:List Nat) (C₀:Cfg) {g:Nat} (pf:List PV->Tr) {ss:List (List Nat)} {l:List (Nat × (List PV->Tr))} {lo:List Nat} (hl:C₀.X=GZ l) (hx:K6 C₀.P C₀.G l) (ho:C₀.okf=okL lo) (hb:QG C₀ lo=true) (hm:C₀.P.follows .mixedOrders=true)
  (h:∀ args,(pf args).Good szs args (evC C₀ 1 Unit noY g args [] ())) (h2:C₀.Y=Fq []:=by rfl) (h3:C₀.S=Fq []:=by rfl) (h4:C₀.Z=Fq []:=by rfl):B1 C₀.P C₀.G g (λargs=>pf (D3 ss args)):=
 B1.fix ss (M7 szs (K6.ok hl hx h2 h3 h4) (F7 ho hb) hm λargs ret Hc hr=>by
  obtain ⟨q1,q2,q3,r,H0,q4,q5⟩:=(h args).res hr
  exact ⟨q1,q2,q3,1,r,H0,q4,q5⟩)
end
section
open Go
def OZ (n:Nat) (ret:PV) (H:List Blk):Bool:=ret.nms.all (Nat.blt · n)&&H.all λb=>b.nms.all (Nat.blt · n)
theorem Aa.head {C:Cfg} {σ:Type} {I:σ->(Nat->Prop)->(Nat->Prop)->World->Prop} {Γ:Ctx} {H Hc T:List Blk} {w w':World} {Φ:Nat->Prop} {s':σ} {ret:PV} {V:Value}
  (h:Aa C I Γ H w Φ ret (Hc++T) s' V w') (hl:H.length<=Hc.length) (hok:OZ Hc.length ret Hc=true):Aa C I Γ H w Φ ret Hc s' V w':=by
 obtain ⟨Γ1,Φ1,hs,hH1,hv,hvn,hi1,hd1⟩:=h
 simp only [OZ,Bool.and_eq_true,List.all_eq_true,Nat.blt_eq] at hok
 let Γ2:Ctx:={ Γ1 with nm:=λb=>if b<Hc.length then Γ1.nm b else none }
 have hnm:∀ b g,Γ2.nm b=some g->b<Hc.length/\Γ1.nm b=some g:=λb g h=>by grind
 have get:∀ b (h:b<Hc.length) (h':b<(Hc++T).length),(Hc++T)[b]=Hc[b]:=λb h h'=>List.getElem_append_left h
 have shp:∀ b,b<Hc.length->A2 Hc b=A2 (Hc++T) b:=λb hb=>by
  simp only [A2]
  grind
 have M:T1 Γ1 (A2 (Hc++T)) w' Γ2 (A2 Hc) w' (· < Hc.length):=⟨λ_ _=>rfl,λ_ h=>h,λb hb=>by simp only [Γ2];rw [if_pos hb],λb hb=>shp b hb,λ_ _ _ _=>rfl,rfl⟩
 refine ⟨Γ2,Φ1,⟨hs.os,hs.tape,hs.output,hs.size,hs.sub,hs.stnew,λb g h=>hs.own b g (hnm b g h).2,hs.foot,hs.frame,hs.yv,hl,λb hb hf=>?_⟩,
  ⟨λb b' g h1 h2=>hH1.inj b b' g (hnm b g h1).2 (hnm b' g h2).2,λb g h=>by have:=hH1.lt b g (hnm b g h).2;exact ⟨(hnm b g h).1,this.2⟩,hH1.stlt,λb hb c hc=>hok.2 _ (List.getElem_mem hb) c hc,λb hb=>?_⟩,
  hv.mono M (λb hb=>hok.1 b hb),λc hc=>hok.1 c hc,hi1,λb g h=>hd1 b g (hnm b g h).2⟩
 ·obtain ⟨m1,m2,m3⟩:=hs.keep b hb hf
  have hb2:b<Hc.length:=Nat.lt_of_lt_of_le hb hl
  exact ⟨by simp only [Γ2];rw [if_pos hb2];exact m1,by rw [shp b hb2];exact m2,m3⟩
 ·have hb':b<(Hc++T).length:=by rw [List.length_append];omega
  have:=hH1.blk b hb'
  rw [get b hb hb'] at this
  exact this.mono M (M.nm b hb) (λ_ _=>rfl) (λc hc=>hok.2 _ (List.getElem_mem hb) c hc)
theorem Bl {C₀:Cfg} {g:Nat} {pf:List PV->List Blk->Tr} (hX:XOK C₀) (hO:Bx C₀) (hm:C₀.P.follows .mixedOrders=true)
  (h:∀ args H ret Hc,I5 (pf args H)=some (ret,Hc)->Nat.ble H.length Hc.length=true/\OZ Hc.length ret Hc=true/\∀ (σ:Type) (yh:Yh σ) (s:σ),∃ d H0,evC C₀ d σ yh g args H s=some (ret,H0,s)/\H0.take Hc.length=Hc):Rw C₀.P C₀.G g pf:=by
 intro C hP hG σ I yh yv hI hy args H s ret Hc hpf Γ Φ w Vs hyv hH hg hi hd hc hn
 obtain ⟨hl,hok,h1⟩:=h args H ret Hc hpf
 obtain ⟨d,H0,hev,ht⟩:=h1 σ yh s
 rw [<-List.take_append_drop Hc.length H0,ht] at hev
 refine (Fe hX hO hm d σ I yh yv hI hy g args H s ret (Hc++H0.drop Hc.length) s hev Γ Φ w Vs hyv hH (hg.congr hG.symm) hi hd hc hn).mono ?_
 rintro V w' hr
 obtain ⟨Γ1,Φ1,hs,k1,k2,k3,k4,k5⟩:=hr.head (Nat.le_of_ble_eq_true hl) hok
 exact ⟨Γ1,Φ1,hs.congr hP.symm,k1,k2,k3,k4,k5⟩
def PV.snapQ (szc:List Nat) (H:List Blk):PV->PV
 | .ptr b 0 0=>match H[b]? with
  | some (.box cells)=>match Jc (Ib szc (H9 H cells)) with
   | some vs=>.s (.sp [vs] 0 0)
   | none=>.bad
  | _=>.bad
 | v=>v.snap H
def PV.stabQ (szs szc:List Nat) (H:List Blk):PV->PV
 | .tup l=>.tup (Ib szs (l.map (PV.snapQ szc H)))
 | v=>Qw (szs.headD 0) (v.snapQ szc H)
theorem VP.snapQ {Γ:Ctx} {H:List Blk} {w:World} (szc:List Nat) (hH:HR Γ H w) {v:PV} {V:Value} (h:VP Γ (A2 H) w v V):VP Γ.all (A2 H) w (v.snapQ szc H) V:=by
 unfold PV.snapQ
 split
 ·rename_i b
  split
  ·rename_i cells hb
   split
   ·rename_i vs hvs
    obtain ⟨g,cur,e,hg,hh,hcur,hcells,_⟩:=hH.box' hb
    have hV:V = .pointer (some ⟨g,0,none⟩):=by
     cases h with
     | ptrA _ _ _ g' v e sz n h' hg'=>simp [A2,hb,Blk.shp] at h'
     | ptrB _ _ g' h' hg'=>rw [hg] at hg';cases hg';rfl
    subst hV
    have hl:(Ib szc (H9 H cells)).length=cells.length:=by rw [Fg,T4,List.length_map]
    obtain ⟨f1,f2⟩:=S6 (Γ:=Γ.all) (w:=w) (sh:=A2 H) (As:=cur.toList) hvs (by rw [hl];simpa using hcur.symm) (λj hj=>by
     obtain ⟨U,e1,k⟩:=hcells j (by omega)
     have hj':j<(H9 H cells).length:=by rw [T4,List.length_map];omega
     obtain ⟨n,en⟩:=Ic szc (H9 H cells) j hj' hj
     refine ⟨U,by simpa using e1,?_⟩
     rw [en]
     have e2:(H9 H cells)[j]=(cells[j]'(by omega)).snap H:=by simp only [T4,List.getElem_map]
     rw [e2]
     exact Gb (k.snap hH))
    refine .s _ _ ?_
    have hvl:vs.length=cells.length:=by rw [f1];simpa using hcur
    have:=VS.sp (St:=Γ.all.St) (w:=w) [vs] 0 0 g 0 vs.length (λ_ j=>cur.getD j undef) (.inr ⟨b,hg⟩) (λi hi=>by
      have:i=0:=by simpa using hi
      subst this;rfl) (λi hi j hj=>?_) (λi hi j hj=>?_)
    ·simpa using this
    ·have:i=0:=by simpa using hi
     subst this
     have hj':j<cur.size:=by rw [hcur,<-hvl];exact hj
     simp [World.cell?,hh,hj']
    ·have:i=0:=by simpa using hi
     subst this
     have hj1:j<vs.length:=hj
     obtain ⟨U,e1,k⟩:=f2 j hj1
     have e3:cur.getD j undef=U:=by rw [Array.getD_eq_getD_getElem?,<-Array.getElem?_toList,e1];rfl
     rw [e3]
     exact k
   ·exact .bad _
  ·exact .bad _
 ·exact h.snap hH
theorem VP.stabQ {Γ:Ctx} {H:List Blk} {w:World} (szs szc:List Nat) (hH:HR Γ H w) {v:PV} {V:Value} (h:VP Γ (A2 H) w v V):VP Γ.all (A2 H) w (v.stabQ szs szc H) V:=by
 unfold PV.stabQ
 split
 ·rename_i l
  obtain ⟨A,rfl,hA,hc⟩:=h.inv_tup
  have hl:(Ib szs (l.map (PV.snapQ szc H))).length=l.length:=by rw [Fg,List.length_map]
  refine VP.mk_tup (by rw [hl];exact hA) λj hj=>?_
  obtain ⟨U,e,k⟩:=hc j (by omega)
  refine ⟨U,e,?_⟩
  obtain ⟨n,en⟩:=Ic szs (l.map (PV.snapQ szc H)) j (by rw [List.length_map];omega) hj
  rw [en,List.getElem_map]
  exact Gb (k.snapQ szc hH)
 ·exact Gb (h.snapQ szc hH)
theorem Yp (szs szc:List Nat) {C₀:Cfg} {g:Nat} {pf:List PV->Tr} (hX:XOK C₀) (hO:Bx C₀) (hm:C₀.P.follows .mixedOrders=true)
  (h:∀ args ret Hc,I5 (pf args)=some (ret,Hc)->B4 args=[]/\Hc=[]/\ret.nms=[]/\∃ d ret' H0,evC C₀ d Unit noY g args [] ()=some (ret',H0,())/\ret'.stabQ szs szc H0=ret):B1 C₀.P C₀.G g pf:=
 Yo (λH v=>v.stabQ szs szc H) (λhH _ _ h=>h.stabQ szs szc hH) hX hO hm h
def orT:Tr->Tr->Tr
 | .fail,t=>t
 | t,_=>t
theorem Bl6 {P:Program} {G:GT} {g:Nat} {p q:List PV->Tr} (h:B1 P G g p) (k:B1 P G g q):B1 P G g λa=>orT (p a) (q a):=by
 intro args ret Hc hr
 dsimp only at hr
 cases e:p args with
 | fail=>rw [e] at hr;exact k args ret Hc hr
 | _=>rw [e] at hr;exact h args ret Hc (by rw [e];exact hr)
def Vd (P:Program):List (Nat × (SV->List (List SV)->Bool × List (List SV)))->Prop
 | []=>True
 | (g,pf)::r=>HV P g pf/\Vd P r
theorem Vd.mem {P:Program}:∀ {l:List (Nat × (SV->List (List SV)->Bool × List (List SV)))} {g:Nat} {pf:SV->List (List SV)->Bool × List (List SV)},Vd P l->(g,pf)∈l->HV P g pf
 | [],_,_,_,hm=>by simp at hm
 | (n,q)::r,g,pf,h,hm=>by
  rcases List.mem_cons.1 hm with e | hm
  ·cases e;exact h.1
  ·exact Vd.mem h.2 hm
theorem Bb0 {C:Cfg} {lx:List (Nat × (List PV->Tr))} {ly:List (Nat × (List PV->List Blk->Tr))} {ls:List (Nat × (List PV->List Blk->Option (Bool × List (List PV))))} {lz:List (Nat × (SV->List (List SV)->Bool × List (List SV)))} (h1:C.X=GZ lx) (h2:C.Y=Fq ly) (h3:C.S=Fq ls) (h4:C.Z=Fq lz) (x:K6 C.P C.G lx) (y:Ea C.P C.G ly) (s:Dz C.P C.G ls) (z:Vd C.P lz):XOK C:=
 ⟨K6.x1 h1 x,Ea.ok h2 y,Dz.ok h3 s,λg pf h=>by rw [h4] at h;exact z.mem (Pb h)⟩
def Bz:List Int:=(List.range 32).map λi=>((if i % 2=0 then Lib.accLo (i / 2) else Lib.accHi (i / 2):Nat):Int)
def GX:GT:=⟨λg=>cond (Nat.beq g 1) (some (.u8,Lib.firstTab)) (cond (Nat.beq g 2) (some (.u8,Bz)) none),λg=>Nat.beq g 0⟩
def Bk1:List (Nat × Nat × Nat × Nat)->Nat->Nat->Nat × Nat
 | [],_,_=>(0,0)
 | (t,j,e,k)::r,t',j'=>cond (Nat.beq t t'&&Nat.beq j j') (e,k) (Bk1 r t' j')
def Ba5:List (Nat × Nat)->Nat->Option Nat
 | [],_=>none
 | (a,b)::r,i=>cond (Nat.beq a i) (some b) (Ba5 r i)
noncomputable def C2 (lf:Nat) (okf:List Nat) (keep:Nat->Option (List Nat)) (X:List (Nat × (List PV->Tr))) (keepR:Nat->Option (List Nat):=λ_=>none) (xp:List Nat:=[]) (keepE:Nat->Option (List Nat):=λ_=>none) (keepT:Option (List Nat):=none) (Y:List (Nat × (List PV->List Blk->Tr)):=[]) (S:List (Nat × (List PV->List Blk->Option (Bool × List (List PV)))):=[]) (lend:List Nat:=[]) (nt:List (Nat × Nat × Nat × Nat):=[]) (rw:List (Nat × Nat):=[]) (Z:List (Nat × (SV->List (List SV)->Bool × List (List SV))):=[]) (fr:List (Nat × List Nat × List Nat):=[]):Cfg:=
 { P:=Tryz.prog,G:=GX,X:=GZ X,lend:=okL lend,okf:=okL okf,lf:=lf,keep:=keep,keepR:=keepR,xp:=okL xp,keepE:=keepE,keepT:=keepT,Y:=Fq Y,S:=Fq S,nilT:=Bk1 nt,rowR:=Ba5 rw,Z:=Fq Z,farR:=A5 fr }
theorem follows:Tryz.prog.follows .mixedOrders=true:=by kernel_rfl
theorem Ab3 {n:Nat}:E4 n=true↔n<=68719476736:=by simp [E4]
theorem E2 {n:Nat} (h:n<=68719476736):E4 n=true:=Ab3.2 h
theorem C0 {a b:Int} (h:a<b):ltI a b=true:=by rw [Ap];simpa using h
theorem E0 {a b:Int} (h:b<=a):ltI a b=false:=by rw [Ap];simpa using h
theorem WD {a b:Int}:ltI a b=true↔a<b:=by rw [Ap];simp
theorem D0 {n:Int} (h0:-9223372036854775808<=n) (h1:n<9223372036854775808):A1 n=n:=A69 n h0 h1
theorem XC {n:Int} (h0:0<=n) (h1:n<18446744073709551616):As7 n=n:=by
 obtain ⟨m,rfl⟩:=Int.eq_ofNat_of_zero_le h0
 unfold As7;rw [A72,Nat.mod_eq_of_lt (by omega)]
theorem A74 {n:Int} (h0:0<=n) (h1:n<4294967296):Bk9 n=n:=by
 obtain ⟨m,rfl⟩:=Int.eq_ofNat_of_zero_le h0
 unfold Bk9;rw [A71,Nat.mod_eq_of_lt (by omega)]
theorem A73 {n:Int} (h0:0<=n) (h1:n<65536):As6 n=n:=by
 obtain ⟨m,rfl⟩:=Int.eq_ofNat_of_zero_le h0
 unfold As6;rw [A70,Nat.mod_eq_of_lt (by omega)]
theorem As8 {n:Int} (h0:0<=n) (h1:n<256):wu8 n=n:=by
 obtain ⟨m,rfl⟩:=Int.eq_ofNat_of_zero_le h0
 unfold wu8;rw [Bg1,Nat.mod_eq_of_lt (by omega)]
theorem A7 {a b:Int} (h:a<b:=by omega):ltI a b=true:=C0 h
theorem A6 {a b:Int} (h:b<=a:=by omega):ltI a b=false:=E0 h
theorem A3 {n:Int} (h:-9223372036854775808<=n:=by omega) (g:n<9223372036854775808:=by omega):A1 n=n:=D0 h g
theorem R3 {n:Int} (h:0<=n:=by omega) (g:n<256:=by omega):wu8 n=n:=As8 h g
theorem Ar {α:Sort _} {c:Prop} [Decidable c] {a b:α} (h:c:=by omega):(if c then a else b)=a:=if_pos h
theorem G4 {α:Sort _} {c:Prop} [Decidable c] {a b:α} (h:¬c:=by omega):(if c then a else b)=b:=if_neg h
theorem A61 (k:IntKind) (a m:Nat) (h:m<=k.bits):Ar1 k (a:Int) (m:Int)=((a / 2 ^ m:Nat):Int):=by
 unfold Ar1
 rw [Int.toNat_natCast,Nat.min_eq_left h]
 have:(2:Int) ^ m=((2 ^ m:Nat):Int):=by simp
 rw [this,Ak1]
theorem U2 {l h:Int} {n:Nat} (h0:0<=l) (h1:l<=h) (h2:h<=n):N3 l h n=true:=by simp [N3,h0,h1,h2]
theorem M8 {i:Int} {n:Nat} (h0:0<=i) (h1:i<n):inR i n=true:=by simp [inR,h0,h1]
theorem P5 {l h:Int} {n:Nat} (h0:0<=l:=by omega) (h1:l<=h:=by omega) (h2:h<=n:=by omega):N3 l h n=true:=U2 h0 h1 h2
theorem I8 {i:Int} {n:Nat} (h0:0<=i:=by omega) (h1:i<n:=by omega):inR i n=true:=M8 h0 h1
end
section
open Go Go.Proofs
def Tv (r:Option (PV × List Blk × Unit)):Bool:=match r with
 | some (.s (.bool true),_,_)=>true
 | _=>false
theorem GJ {r:Option (PV × List Blk × Unit)} (h:Tv r=true):∃ H,r=some (.s (.bool true),H,()):=by
 unfold Tv at h
 split at h
 ·exact ⟨_,rfl⟩
 ·cases h
theorem UC {C₀:Cfg} {g d:Nat} (hX:XOK C₀) (hO:Bx C₀) (hm:C₀.P.follows .mixedOrders=true) (h:Tv (evC C₀ d Unit noY g [] [] ())=true):B1 C₀.P C₀.G g (λargs=>match args with | []=>.ret (.s (.bool true)) [] | _=>.fail):=
 HB hX hO hm λargs ret Hc hr=>by
  cases args with
  | nil=>
   obtain ⟨rfl,rfl⟩:=I2 hr
   obtain ⟨H,e⟩:=GJ h
   exact ⟨rfl,rfl,rfl,d,_,H,e,rfl⟩
  | cons a r=>cases hr
theorem UW {P:Program} {t:Nat} {v:PV} {ty:Ty} (h:Ub P t v) (e:Dx P 20 t=some [ty]) (ha:Mj P t=false):∃ x,v = .s x/\ty.of x:=by
 obtain ⟨tys,l,h1,h2,h3⟩:=h
 rw [e] at h1
 simp only [Option.some.injEq] at h1
 subst h1
 rcases h3 with ⟨h3,_⟩ | ⟨_,x,rfl,rfl⟩
 ·rw [ha] at h3;cases h3
 ·simp only [Ty.ofL] at h2
  obtain ⟨v,q,h4,h5,rfl⟩:=h2
  simp only [List.cons.injEq,and_true] at h4
  subst h4
  exact ⟨_,rfl,h5⟩
theorem Aw0 {P:Program} {t:Nat} {v:PV} (h:Ub P t v) (e:Dx P 20 t=some [.str]) (ha:Mj P t=false):∃ l,v = .s (.str l)/\l.length<=maxLen:=by
 obtain ⟨x,rfl,l,rfl,h1⟩:=UW h e ha
 exact ⟨l,rfl,h1⟩
end
section
open Go
def G8 (l:List By):LL:=l.map λs=>[SV.str s]
def Bn1 (l:List Nat):LL:=l.map λn=>[SV.int .u16 (Int.ofNat n)]
def G2 (c:UInt8):By->By->List By
 | acc,[]=>[acc]
 | acc,b::r=>if b=c then acc::G2 c [] r else G2 c (acc++[b]) r
def pcs (c:UInt8) (s:By):List By:=G2 c [] s
theorem Dv (c:UInt8):∀ (s acc:By),(G2 c acc s).length=s.count c+1
 | [],acc=>rfl
 | b::r,acc=>by
  simp only [G2,List.count_cons]
  by_cases h:b=c
  ·simp [h,Dv c r]
  ·simp [h,Dv c r]
theorem Bj (c:UInt8):∀ (s acc:By),c∉s->G2 c acc s=[acc++s]
 | [],acc,_=>by simp [G2]
 | b::r,acc,h=>by
  simp only [List.mem_cons,not_or] at h
  simp only [G2]
  rw [if_neg (λe=>h.1 e.symm),Bj c r _ h.2]
  simp
theorem Ta (c:UInt8):∀ (p acc s:By),c∉p->G2 c acc (p++c::s)=(acc++p)::G2 c [] s
 | [],acc,s,_=>by simp [G2]
 | b::r,acc,s,h=>by
  simp only [List.mem_cons,not_or] at h
  simp only [List.cons_append,G2]
  rw [if_neg (λe=>h.1 e.symm),Ta c r _ s h.2]
  simp
theorem TM (c:UInt8) (s acc:By):G2 c acc s≠[]:=by
 intro h
 have:=Dv c s acc
 rw [h] at this
 simp at this
theorem Jb (c:UInt8):∀ (s acc:By),c∉acc->∀ x∈G2 c acc s,c∉x/\x.length<=acc.length+s.length
 | [],acc,h,x,hx=>by
  simp only [G2,List.mem_singleton] at hx
  subst hx
  exact ⟨h,by simp⟩
 | b::r,acc,h,x,hx=>by
  simp only [G2] at hx
  split at hx
  ·rcases List.mem_cons.1 hx with rfl | hx
   ·exact ⟨h,by simp⟩
   ·have:=Jb c r [] (by simp) x hx
    refine ⟨this.1,?_⟩
    have:=this.2
    simp at this ⊢
    omega
  ·rename_i hb
   have:=Jb c r (acc++[b]) (by simp [h,Ne.symm hb]) x hx
   refine ⟨this.1,?_⟩
   have:=this.2
   simp at this ⊢
   omega
def Ej (b:UInt8):UInt8:=if 65<=b/\b<=90 then b+32 else b
def D9 (s:By):By:=s.map Ej
def dig (b:UInt8):Nat:=
 if 48<=b.toNat/\b.toNat<=57 then b.toNat-48 else if 97<=b.toNat/\b.toNat<=102 then b.toNat-87 else if 65<=b.toNat/\b.toNat<=70 then b.toNat-55 else 99
def En:Nat:=1099511627776
def D5 (base:Nat):Nat->By->Option Nat
 | n,[]=>some n
 | n,b::r=>if dig b<base then D5 base (min (n*base+dig b) En) r else none
def W5 (s:By):Bool:=s.getD 0 0==48&&(s.getD 1 0==120 || s.getD 1 0==88)
def X7 (s:By):Option Nat:=
 if s=[] then none else if W5 s then D5 16 0 (s.drop 2) else if 1<s.length/\s.getD 0 0=48 then D5 8 0 (s.drop 1) else D5 10 0 s
def D4 (s:By):List By:=if 1<(pcs 46 s).length/\(pcs 46 s).getLastD []=[] then (pcs 46 s).dropLast else pcs 46 s
def Au (s:By):By:=(D4 s).getLastD []
def N1 (s:By):Bool:=if W5 (Au s) then (D5 16 0 ((Au s).drop 2)).isSome else !(Au s).isEmpty&&(D5 10 0 (Au s)).isSome
def Be9 (free:Nat):Nat->List By->Option Nat
 | _,[]=>none
 | v,p::r=>match X7 p with
  | none=>none
  | some n=>match r with
   | []=>if n<2 ^ free then some (v*2 ^ free+n) else none
   | r=>if n<=255 then Be9 free (v*256+n) r else none
def oct (s:By):Option Nat:=match D5 10 0 s with
 | some n=>if n<=255/\Lib.decDigits n=s then some n else none
 | none=>none
def Bk2:Nat->List By->Option Nat
 | v,[]=>some v
 | v,p::r=>match oct p with
  | some n=>Bk2 (v*256+n) r
  | none=>none
def v4B (s:By):Option Nat:=if (pcs 46 s).length=4 then Bk2 0 (pcs 46 s) else none
def Ba3:Nat->By->Option Nat
 | n,[]=>some n
 | n,b::r=>if dig b<16 then Ba3 (n*16+dig b) r else none
def grp (s:By):Option Nat:=if s=[]\/4<s.length then none else Ba3 0 s
def Bj5 (last:Bool):List By->Option (List Nat)
 | []=>some []
 | x::r=>match grp x with
  | some v=>(Bj5 last r).map (v::·)
  | none=>match v4B x with
   | some v=>if last=true/\r=[] then some [v / 65536,v % 65536] else none
   | none=>none
def Ba4 (s:By) (last:Bool):Option (List Nat):=if s=[] then some [] else Bj5 last (pcs 58 s)
def Bj6 (n:Nat):UInt8:=if n<10 then UInt8.ofNat (48+n) else UInt8.ofNat (87+n)
def Bd1 (v:Nat):By:=if h:v<16 then [Bj6 v] else Bd1 (v / 16)++[Bj6 (v % 16)]
 termination_by v
 decreasing_by omega
def Bj8 (l:List Nat):By:=Lib.join (l.map Bd1) [58]
def O4 (n:Nat):Bool:=Nat.ble n 1114111&&(Nat.blt n 55296 || Nat.blt 57343 n)
def Qb (d k:Nat):Nat:=if h:455<d then Qb (d / 35) (k+36) else k+36*d / (d+38)
 termination_by d
 decreasing_by omega
def L2 (delta count:Nat) (first:Bool):Nat:=
 let d:=if first then delta / 700 else delta / 2
 Qb (d+d / count) 0
def thr (k bias:Nat):Nat:=max 1 (min 26 (36*(k+1)-bias))
theorem P0 (k bias:Nat):1<=thr k bias/\thr k bias<=26:=by unfold thr;omega
def T3 (d:Nat):UInt8:=if d<26 then UInt8.ofNat (97+d) else UInt8.ofNat (22+d)
def Hl (b:UInt8):Option Nat:=
 if 97<=b.toNat/\b.toNat<=122 then some (b.toNat-97) else if 65<=b.toNat/\b.toNat<=90 then some (b.toNat-65) else if 48<=b.toNat/\b.toNat<=57 then some (b.toNat-22) else none
def K8 (q k bias:Nat):By:=
 if h:q<thr k bias then [T3 q] else T3 (thr k bias+(q-thr k bias) % (36-thr k bias))::K8 ((q-thr k bias) / (36-thr k bias)) (k+1) bias
 termination_by q
 decreasing_by
  have:=P0 k bias
  exact Nat.lt_of_le_of_lt (Nat.div_le_self _ _) (by omega)
structure BZ where
 delta:Nat
 bias:Nat
 done:Nat
 out:By
def F0 (n basic:Nat):List Nat->BZ->BZ
 | [],s=>s
 | p::r,s=>if p<n then F0 n basic r { s with delta:=s.delta+1 }
  else if p=n then F0 n basic r { delta:=0,bias:=L2 s.delta (s.done+1) (s.done==basic),done:=s.done+1,out:=s.out++K8 s.delta 0 s.bias }
  else F0 n basic r s
def E9 (n:Nat):List Nat->Nat->Nat
 | [],m=>m
 | p::r,m=>E9 n r (if n<=p then min m p else m)
def L6 (pts:List Nat) (basic:Nat):Nat->Nat->BZ->BZ
 | 0,_,s=>s
 | f+1,n,s=>if s.done<pts.length then
   let m:=E9 n pts 1114112
   let s':=F0 m basic pts { s with delta:=s.delta+(m-n)*(s.done+1) }
   L6 pts basic f (m+1) { s' with delta:=s'.delta+1 }
  else s
def F4 (pts:List Nat):By:=(pts.filter (· < 128)).map UInt8.ofNat
def Ay (pts:List Nat):By × Nat:=
 if 256<pts.length then ([],3) else if !(pts.all O4) then ([],2)
 else ((L6 pts (F4 pts).length 256 128 { delta:=0,bias:=72,done:=(F4 pts).length,out:=if (F4 pts).isEmpty then [] else F4 pts++[45] }).out,0)
def B9 (bias:Nat):By->Nat->Nat->Nat->Nat × By × Nat
 | [],i,w,k=>(0,[],4)
 | b::r,i,w,k=>match Hl b with
  | none=>(0,[],4)
  | some x=>if En<i+x*w then (0,[],19) else if x<thr k bias then (i+x*w,r,0)
   else if En<w*(36-thr k bias) then (0,[],19) else B9 bias r (i+x*w) (w*(36-thr k bias)) (k+1)
theorem Jo (bias:Nat):∀ (s:By) (i w k:Nat),(B9 bias s i w k).2.2=0->(B9 bias s i w k).2.1.length<s.length
 | [],i,w,k,h=>by simp [B9] at h
 | b::r,i,w,k,h=>by
  unfold B9 at h ⊢
  cases hv:Hl b with
  | none=>simp [hv] at h
  | some x=>
   simp only [hv] at h ⊢
   split at h
   ·simp at h
   ·rename_i h1
    rw [if_neg h1]
    split at h
    ·rename_i h2
     rw [if_pos h2]
     simp
    ·rename_i h2
     rw [if_neg h2]
     split at h
     ·simp at h
     ·rename_i h3
      rw [if_neg h3]
      have:=Jo bias r _ _ _ h
      simp only [List.length_cons]
      omega
def O2 (l:List Nat) (i n:Nat):List Nat:=l.take i++n::l.drop i
def E8 (s:By) (pts:List Nat) (n i bias:Nat) (first:Bool):List Nat × Nat:=
 if hs:s=[] then (pts,0) else
  let q:=B9 bias s i 1 0
  if hq:q.2.2=0 then
   let count:=pts.length+1
   let n':=n+q.1 / count
   if O4 n' then (if 256<count then ([],3) else E8 q.2.1 (O2 pts (q.1 % count) n') n' (q.1 % count+1) (L2 (q.1-i) count first) false)
   else ([],2)
  else ([],q.2.2)
 termination_by s.length
 decreasing_by exact Jo bias s i 1 0 hq
def D8:By->Nat
 | []=>0
 | b::r=>if 45∈r then D8 r+1 else 0
def J3 (s:By):List Nat × Nat:=
 if 1024<s.length then ([],3) else if s.any (λb=>Nat.ble 128 b.toNat) then ([],4)
 else if 256<D8 s then ([],3)
 else E8 (if D8 s=0 then s else s.drop (D8 s+1)) ((s.take (D8 s)).map (·.toNat)) 128 0 72 true
def S7:Nat->By->Option (List Nat)
 | 0,_=>some []
 | f+1,l=>if l=[] then some [] else if (Lib.decodeL l).1=65533/\(Lib.decodeL l).2=1 then none else (S7 f (l.drop (Lib.decodeL l).2)).map ((Lib.decodeL l).1::·)
def Cr (s:By):Option (List Nat):=S7 s.length s
def Z6 (s:By):Bool:=
 (J3 s).2==0 && !((J3 s).1.any λp=>Nat.ble 65 p&&Nat.ble p 90)&&((J3 s).1.any λp=>Nat.ble 128 p)&&(Ay (J3 s).1).2==0&&(Ay (J3 s).1).1==s
def P9 (b:UInt8):Bool:=(Nat.ble 97 b.toNat&&Nat.ble b.toNat 122) || (Nat.ble 48 b.toNat&&Nat.ble b.toNat 57) || b==45 || b==95
def xnB:By:=[120,110,45,45]
def K2 (s:By):Bool:=
 !s.isEmpty&&Nat.ble s.length 63&&s.getD 0 0 != 45&&s.getD (s.length-1) 0 != 45&&s.all P9&&(!(xnB.isPrefixOf s) || Z6 (s.drop 4))
def Jd (s:By):By × Nat:=match Cr s with
 | none=>([],4)
 | some p=>if 256<p.length then ([],3)
  else if p.length<s.length then (match Cr (D9 s) with
   | none=>([],14)
   | some q=>if (Ay q).2=0 then (if K2 (xnB++(Ay q).1) then (xnB++(Ay q).1,0) else ([],14)) else ([],14))
  else if K2 (D9 s) then (D9 s,0) else ([],14)
def Ek:By->Option By
 | []=>some []
 | b::r=>if b=37 then (match r with
   | x::y::r'=>if dig x<16/\dig y<16 then (Ek r').map (UInt8.ofNat (16*dig x+dig y)::·) else none
   | _=>none)
  else (Ek r).map (b::·)
def D6 (s:By):Bool:=Nat.ble s.length 253 && !(N1 s)&&(pcs 46 s).all K2
def X4:List By->List By
 | []=>[]
 | [_]=>[]
 | _::r=>Lib.join r [46]::X4 r
def I1 (s:By):List By:=if D6 s then X4 (pcs 46 s) else []
def F5 (a b:By):Bool:=D6 a&&D6 b&&(a==b || (46::a).isSuffixOf b)
def A4 (n:Nat):Bool:=decide (n<=1000000000)
theorem BM {n:Nat}:A4 n=true↔n<=1000000000:=by simp [A4]
def isS:List SV->Bool | [.str _]=>true | _=>false
def elS (el:List SV):By:=(el.getD 0 .nilp).gS
def Iu (o:Option Nat):Nat:=o.getD 0
def u8n (c:Int):UInt8:=UInt8.ofNat c.toNat
def Ad3 (s p:By):By:=if p.isSuffixOf s then s.take (s.length-p.length) else s
def Vw (s p:By):By:=if p.isPrefixOf s then s.drop p.length else s
def ltN (v:Int) (n:Nat):Bool:=match v with
 | .ofNat m=>Nat.ble (m+1) n
 | .negSucc _=>false
theorem K9 {v:Int} {n:Nat}:ltN v n=true↔0<=v/\v<(n:Int):=by
 cases v with
 | ofNat m=>
  simp only [ltN,Nat.ble_eq,Int.ofNat_eq_natCast]
  omega
 | negSucc m=>
  refine ⟨λh=>(by cases h),λh=>?_⟩
  have:=Int.negSucc_lt_zero m
  omega
def A96 (b:Nat):List PV->Tr
 | [.s (.int .i64 n)]=>.need (ltN n b) (.ret (.s (.str (Lib.decDigits (Int.toNat n)))) [])
 | _=>.fail
def gvs (s:By) (last:Bool):List Nat:=(Ba4 s last).getD []
def Bj7:List SV->Bool | [.int .u16 n]=>ltN n 65536 | _=>false
def elN (el:List SV):Nat:=(el.getD 0 .nilp).gI.toNat
def ptI (n:Int):Bool:=match n with | .ofNat m=>O4 m | .negSucc _=>false
def C1 (b:UInt8):Int:=match Hl b with | some n=>n | none=>-1
def H4 (k b:Int):Int:=max 1 (min 26 (k+36-b))
def Ig:List SV->Bool | [.int .i64 _]=>true | _=>false
def elI (el:List SV):Int:=(el.getD 0 .nilp).gI
def Q5 (l:List Int):By × Nat:=if 256<l.length then ([],3) else if l.all ptI then Ay (l.map Int.toNat) else ([],2)
def N5 (b:Int):By->Int->Int->Int->Int × By × Int
 | [],i,w,k=>(4,[],i)
 | c::r,i,w,k=>if C1 c<0 then (4,c::r,i) else if 1099511627776<i+C1 c*w then (19,r,i+C1 c*w)
  else if C1 c<H4 k b then (0,r,i+C1 c*w) else if 1099511627776<w*(36-H4 k b) then (19,r,i+C1 c*w)
  else N5 b r (i+C1 c*w) (w*(36-H4 k b)) (k+36)
def Xh (b:Int) (s:By) (i:Int):Int:=(N5 b s i 1 0).1
def Xi (b:Int) (s:By) (i:Int):By:=(N5 b s i 1 0).2.1
def Lx (b:Int) (s:By) (i:Int):Int:=(N5 b s i 1 0).2.2
def Gg (l:List (List SV)) (i:Nat) (n:Int):List (List SV):=l.take i++[SV.int .i64 n]::l.drop i
structure DS where
 rest:By
 n:Int
 i:Int
 b:Int
 st:Bool
 l:List (List SV)
def C7 (s:DS):Int × DS:=
 if Xh s.b s.rest s.i=0 then
  let c:Int:=s.l.length+1
  let x:=Lx s.b s.rest s.i
  let d:DS:={ rest:=Xi s.b s.rest s.i,n:=s.n+Int.tdiv x c,i:=Int.tmod x c,b:=L2 (x-s.i).toNat c.toNat (!s.st),st:=true,l:=s.l }
  if ptI d.n then (if 256<c then (3,d) else (0,{ d with i:=d.i+1,l:=Gg s.l d.i.toNat d.n })) else (2,d)
 else (Xh s.b s.rest s.i,{ s with rest:=Xi s.b s.rest s.i,i:=Lx s.b s.rest s.i })
def G0 (c:UInt8):By->Int
 | []=>-1
 | b::r=>if G0 c r<0 then (if b=c then 0 else -1) else G0 c r+1
def Rj (l:List Nat):List (List SV):=l.map λx:Nat=>[SV.int .i64 (x:Int)]
def A39 (s:By):List Nat:=(Cr s).getD []
def Hz (b:UInt8):Int:=if dig b<16 then dig b else -1
def Be8 (s:By):By:=(Ek s).getD []
attribute [simp] C0 E0 D0 XC A74 A73 As8 U2 M8 E2
attribute [simp] vl
@[simp] theorem I7 {n:Nat} (h:n<=1000000000):A4 n=true:=BM.2 h
@[simp] theorem WE {v:Int} {n:Nat} (h:0<=v) (h1:v<n):ltN v n=true:=K9.2 ⟨h,h1⟩
theorem WZ {n:Nat} (h:n<=1000000000:=by omega):A4 n=true:=I7 h
theorem L0 {v:Int} {n:Nat} (h:0<=v:=by omega) (g:v<n:=by omega):ltN v n=true:=WE h g
@[simp] theorem VC {m n:Nat} (h:m+n<4611686018427387904):IK m n=true:=by simp [IK,h]
abbrev rv (v:PV) (H:List Blk):Option (PV × List Blk × Unit):=some (v,H,())
theorem L8 {n:Nat} (h:A4 n=true):n<=1000000000:=BM.1 h
theorem I3 (s:By) (i:Nat) (h:i<s.length):s.drop i=s.getD i 0::s.drop (i+1):=by
 rw [List.getD_eq_getElem?_getD,List.getElem?_eq_getElem h,Option.getD_some,List.getElem_cons_drop]
theorem BQ (s:By) (i:Nat) (h:i<s.length):s.take (i+1)=s.take i++[s.getD i 0]:=by
 rw [List.take_add_one,List.getD_eq_getElem?_getD,List.getElem?_eq_getElem h]
 rfl
theorem PS (s:By) (i:Nat) (h:i<s.length):(D9 (s.take (i+1))).map C9=(D9 (s.take i)).map C9++[C9 (Ej (s.getD i 0))]:=by
 unfold D9
 rw [BQ s i h,List.map_append,List.map_append]
 rfl
theorem Gk (b:UInt8):(b.toNat<65/\Ej b=b)\/(90<b.toNat/\Ej b=b)\/(65<=b.toNat/\b.toNat<=90/\((Ej b).toNat=b.toNat+32)):=by
 unfold Ej
 by_cases h1:b.toNat<65
 ·refine .inl ⟨h1,if_neg ?_⟩
  intro h
  have:=UInt8.le_iff_toNat_le.1 h.1
  simp at this
  omega
 ·by_cases h2:90<b.toNat
  ·refine .inr (.inl ⟨h2,if_neg ?_⟩)
   intro h
   have:=UInt8.le_iff_toNat_le.1 h.2
   simp at this
   omega
  ·refine .inr (.inr ⟨by omega,by omega,?_⟩)
   rw [if_pos (by constructor<;>(rw [UInt8.le_iff_toNat_le];simp;omega)),UInt8.toNat_add]
   simp
   omega
@[simp] theorem G9 (s:By) (i:Nat):bAt s (i:Int)=((s.getD i 0).toNat:Int):=by simp [bAt]
@[simp] theorem Hr (s:By):bAt s 0=((s.getD 0 0).toNat:Int):=by simp [bAt]
@[simp] theorem UY (s:By):bAt s 1=((s.getD 1 0).toNat:Int):=by simp [bAt]
theorem Mt {α:Type} (s:List α) (a b:Nat):cut s (a:Int) (b:Int)=(s.take b).drop a:=by simp [cut]
@[simp] theorem M3 {α:Type} (s:List α) (a:Int):cut s a (s.length:Int)=s.drop a.toNat:=by simp [cut]
@[simp] theorem Ad {α:Type} (s:List α) (b:Int):cut s 0 b=s.take b.toNat:=by simp [cut]
@[simp] theorem T5 (l:List By):(G8 l).length=l.length:=by simp [G8]
@[simp] theorem Js (l:List By) (i:Nat):gX (G8 l) i 0=l.getD i []:=by
 unfold gX gC G8
 by_cases h:i<l.length
 ·simp [List.getD_eq_getElem?_getD,List.getElem?_eq_getElem h,SV.gS]
 ·simp [List.getD_eq_getElem?_getD,List.getElem?_eq_none (show l.length<=i by omega),SV.gS]
@[simp] theorem Fl {l:List By} {i:Nat} (h:i<l.length):okE Gw (G8 l) i 0=true:=by
 unfold okE G8
 simp [List.getD_eq_getElem?_getD,List.getElem?_eq_getElem h,h,Gw,okS,SV.has]
theorem Yk (a b:List By):G8 (a++b)=G8 a++G8 b:=by simp [G8]
theorem Pe (b:UInt8):u8n (b.toNat:Int)=b:=by simp [u8n]
theorem TU (b:UInt8):inR (b.toNat:Int) 256=true:=by
 have:=b.toNat_lt
 exact I8
theorem Ba8 {a b:UInt8}:((a.toNat:Int)==(b.toNat:Int))=(a==b):=by
 rw [Bool.eq_iff_iff]
 simp only [beq_iff_eq]
 constructor
 ·intro h;exact UInt8.toNat_inj.1 (by omega)
 ·intro h;rw [h]
theorem T0 (a:UInt8) (n:Nat) (h:n<256):((a.toNat:Int)==(n:Int))=(a==UInt8.ofNat n):=by
 rw [<-Ba8]
 simp [Nat.mod_eq_of_lt h]
theorem Hg (p s:By):p.isPrefixOf s=(decide (p.length<=s.length)&&(s.take p.length==p)):=by
 rw [Bool.eq_iff_iff]
 simp only [List.isPrefixOf_iff_prefix,Bool.and_eq_true,decide_eq_true_eq,beq_iff_eq]
 constructor
 ·intro h;exact ⟨h.length_le,(List.prefix_iff_eq_take.1 h).symm⟩
 ·rintro ⟨_,h⟩;exact List.prefix_iff_eq_take.2 h.symm
theorem Hh (p s:By):p.isSuffixOf s=(decide (p.length<=s.length)&&(s.drop (s.length-p.length)==p)):=by
 rw [Bool.eq_iff_iff]
 simp only [List.isSuffixOf_iff_suffix,Bool.and_eq_true,decide_eq_true_eq,beq_iff_eq]
 constructor
 ·intro h;exact ⟨h.length_le,(List.suffix_iff_eq_drop.1 h).symm⟩
 ·rintro ⟨_,h⟩;exact List.suffix_iff_eq_drop.2 h.symm
end
section
open Go Go.ChangeAt Go.ChangeShapes Go.Proofs Go.RowKit Go.WideShapes
set_option maxRecDepth 100000
theorem own:ownKnob Tryz.prog.godebug=none:=by kernel_rfl
theorem Az3:laidOutB Tryz.prog=true:=by kernel_rfl
noncomputable def gTy (g:Nat):Nat:=match Tryz.prog.globals[g]? with | some x=>x.type | none=>0
noncomputable def EC:Nat:=gTy 2
noncomputable def Ax6:Nat:=gTy 1
noncomputable def EB:Nat:=match Tryz.prog.underlying EC with | some (.array _ e)=>e | _=>0
noncomputable def Qa:Array Field:=match Tryz.prog.underlying EB with | some (.struct fs)=>fs | _=>#[]
noncomputable def Zj:Field:=match Qa.toList with | a::_=>a | _=>default
noncomputable def Zk:Field:=match Qa.toList with | _::a::_=>a | _=>default
theorem Bb4:Qa[0]? = some Zj:=by unfold Zj Qa EB EC gTy;kernel_rfl
theorem Bb5:Qa[1]? = some Zk:=by unfold Zk Qa EB EC gTy;kernel_rfl
def Dj:List (String × DataW Unit):=[("math/bits.deBruijn32tab", Rows.laid_math_bits_deBruijn32tab), ("math/bits.deBruijn64tab", Rows.laid_math_bits_deBruijn64tab), ("internal/strconv.uint64pow10", Rows.laid_internal_strconv_uint64pow10), ("unicode/utf8.acceptRanges", Rows.laid_unicode_utf8_acceptRanges), ("unicode/utf8.first", Rows.laid_unicode_utf8_first)]
theorem BU {W:World} {n:String} {g:Nat} {cs:Array Value} (hg:Tryz.prog.globalNamed n=some g) (h:W.var? Tryz.prog n=some cs):∃ e x,W.heap[g]? = some (.cells cs e x):=by
 unfold World.var? at h
 rw [hg,Option.bind_some] at h
 split at h
 ·rename_i c e x hh
  simp only [Option.some.injEq] at h
  subst h
  exact ⟨e,x,hh⟩
 ·cases h
theorem Ad1 {W:World} {n:String} {g t e m:Nat} {k:IntKind} {zs:List Int} (hg:Tryz.prog.globalNamed n=some g) (hty:(Tryz.prog.globals[g]?).map (·.type)=some t) (ht:Tryz.prog.underlying t=some (.array m e)) (he:Tryz.prog.underlying e=some (.int k)) (hce:Tryz.prog.cellsOf e=1) (hct:Tryz.prog.cellsOf t=m)
  (h:Lib.VarReads Tryz.prog W n (Lib.tabData k zs)):∃ e x,W.heap[g]? = some (.cells (zs.map λz=>Value.int k z).toArray e x):=by
 obtain ⟨g',t',cs,fuel,p,h1,h2,h3,h4⟩:=h
 obtain rfl:=Option.some.inj (hg.symm.trans h1)
 obtain rfl:=Option.some.inj (hty.symm.trans h2)
 have hcs:=Lib.cells_of_tab ht he hce hct h4
 have:cs=(zs.map λz=>Value.int k z).toArray:=by rw [<-hcs]
 rw [this] at h3
 exact BU hg h3
theorem Ym {H:Type} {enc:TypeId × Value->H} {P:Program} {w:World} {base:Nat} {sp:Nat->Bool} {held:Bool} {fuel:Nat} {t e:TypeId} {n:Nat} {cs:List Value} {d:DataW H} {p:List MemPlace} (ht:P.underlying t=some (.array n e))
  (h:DataW.trod enc P w base sp held fuel t cs=some (d,p)):cs.length=P.cellsOf t:=by
 cases fuel with
 | zero=>simp [DataW.trod] at h
 | succ fuel=>
  simp only [DataW.trod,ht] at h
  split at h
  ·rename_i hl
   simpa using hl
  ·cases h
theorem XH {W:World} (hg : Tryz.prog.globalNamed "unicode/utf8.acceptRanges" = some 2) (h:Lib.VarReads Tryz.prog W "unicode/utf8.acceptRanges" Lib.acceptData) :
  ∃ e x,W.heap[2]? = some (.cells (Bz.map λz=>Value.int .u8 z).toArray e x):=by
 obtain ⟨g',t,cs,fuel,p,h1,h2,h3,h4⟩:=h
 obtain rfl:=Option.some.inj (hg.symm.trans h1)
 have hty:(Tryz.prog.globals[2]?).map (·.type)=some EC:=by unfold EC;kernel_rfl
 obtain rfl:=Option.some.inj (hty.symm.trans h2)
 have ht:Tryz.prog.underlying EC=some (.array 16 EB):=by unfold EC EB;kernel_rfl
 have hl:=Ym ht h4
 have hct:Tryz.prog.cellsOf EC=32:=by unfold EC;kernel_rfl
 have hce:Tryz.prog.cellsOf EB=2:=by unfold EB;kernel_rfl
 have hu:∃ fs,Tryz.prog.underlying EB=some (.struct fs)/\fs.size=2/\∀ (i:Nat) (f:Field),fs[i]? = some f->Tryz.prog.underlying f.type=some (.int .u8)/\f.offset=i/\Tryz.prog.cellsOf f.type=1:=by
  refine ⟨Qa,by unfold EB Qa;kernel_rfl,by unfold Qa;kernel_rfl,λi f hf=>?_⟩
  have:i<2:=by
   have:=(Array.getElem?_eq_some_iff.1 hf).1
   rwa [show Qa.size=2 by unfold Qa;kernel_rfl] at this
  match i,this with
  | 0,_=>
   obtain rfl:=Option.some.inj (hf.symm.trans (show Qa[0]? = some Zj from Bb4))
   exact ⟨by unfold Zj;kernel_rfl,by unfold Zj;kernel_rfl,by unfold Zj;kernel_rfl⟩
  | 1,_=>
   obtain rfl:=Option.some.inj (hf.symm.trans (show Qa[1]? = some Zk from Bb5))
   exact ⟨by unfold Zk;kernel_rfl,by unfold Zk;kernel_rfl,by unfold Zk;kernel_rfl⟩
 obtain ⟨fs,hu1,hu2,hu3⟩:=hu
 have hcs:cs.toList=Bz.map λz=>Value.int .u8 z:=by
  have hlen:(Bz.map λz=>Value.int .u8 z).length=32:=by rw [List.length_map];rfl
  apply List.ext_getElem?
  intro q
  by_cases hq:q<32
  ·obtain ⟨fuel',d,q',hdi,he⟩:=Lib.array_elem ht h4 (q / 2) (by omega)
   simp only [List.getElem?_map,List.getElem?_range (show q / 2<16 by omega),Option.map_some,Option.some.injEq] at hdi
   subst hdi
   rw [hce] at he
   have hz:=Lib.ints_of_struct hu1 hu3 (by rw [hce,hu2]) he
   have e0:=congrArg (·[q % 2]?) hz
   simp only [List.getElem?_take,List.getElem?_drop] at e0
   rw [Ar,show q / 2*2+q % 2=q by omega] at e0
   rw [e0]
   unfold Bz
   have er:∀ g:Nat->Value,(List.map g (List.range 32))[q]? = some (g q):=λg=>by
    rw [List.getElem?_map,List.getElem?_range hq]
    rfl
   rw [List.map_map,er]
   rcases Nat.mod_two_eq_zero_or_one q with h2 | h2
   ·simp [h2]
   ·simp [h2]
  ·rw [List.getElem?_eq_none (by omega),List.getElem?_eq_none (by omega)]
 have:cs=(Bz.map λz=>Value.int .u8 z).toArray:=by rw [<-hcs]
 rw [this] at h3
 exact BU hg h3
theorem OT {C:Cfg} (hC:C.G=GX) {W:World} (hL:laidMet Tryz.prog Dj W) (hsh:W.ShapedOpen Tryz.prog):GOK C (· < W.heap.size) W:=by
 have lt:∀ {g:Nat} {o:Obj},W.heap[g]? = some o->g<W.heap.size:=λh=>(Array.getElem?_eq_some_iff.1 h).1
 have r3:Lib.VarReads Tryz.prog W "unicode/utf8.acceptRanges" Lib.acceptData:=Lib.laidMet.reads hL (by rw [show Lib.acceptData=Rows.laid_unicode_utf8_acceptRanges by kernel_rfl];simp [Dj])
 have r4:Lib.VarReads Tryz.prog W "unicode/utf8.first" (Lib.tabData .u8 Lib.firstTab):=Lib.laidMet.reads hL (by rw [show (Lib.tabData .u8 Lib.firstTab:DataW Unit)=Rows.laid_unicode_utf8_first by kernel_rfl];simp [Dj])
 have c3:=XH (by kernel_rfl) r3
 have c4:=Ad1 (g:=1) (t:=Ax6) (e:=5) (m:=256) (by kernel_rfl) (by unfold Ax6;kernel_rfl) (by unfold Ax6;kernel_rfl) (by kernel_rfl) (by kernel_rfl) (by unfold Ax6;kernel_rfl) r4
 have c5:=cell_of_shapedOpen_int (k:=.i64) (g:=0) (t:=3) (zero:=#[.int .i64 0]) hsh (of_decide_eq_true (by kernel_rfl)) (by kernel_rfl) rfl (by kernel_rfl) (by kernel_rfl) (by kernel_rfl)
 refine ⟨λg k zs h=>?_,λg h=>?_⟩
 ·rw [hC] at h
  simp only [GX] at h
  have key:∀ {g0:Nat} {k0:IntKind} {zs0:List Int},(∃ e x,W.heap[g0]? = some (.cells (zs0.map λz=>Value.int k0 z).toArray e x))->g=g0->(k0,zs0)=(k,zs)->g<W.heap.size/\∃ e x,W.heap[g]? = some (.cells (zs.map λz=>Value.int k z).toArray e x):=λhx e1 e2=>by
   subst e1
   cases e2
   obtain ⟨e,x,hx⟩:=hx
   exact ⟨lt hx,e,x,hx⟩
  cases b1:Nat.beq g 1 with
  | true=>rw [b1,cond_true] at h;exact key c4 (Nat.eq_of_beq_eq_true b1) (Option.some.inj h)
  | false=>
   rw [b1,cond_false] at h
   cases b2:Nat.beq g 2 with
   | true=>rw [b2,cond_true] at h;exact key c3 (Nat.eq_of_beq_eq_true b2) (Option.some.inj h)
   | false=>
    rw [b2,cond_false] at h;cases h
 ·rw [hC] at h
  have e:=Nat.eq_of_beq_eq_true h
  subst e
  obtain ⟨m,hm⟩:=c5
  refine ⟨?_,m,hm⟩
  apply Classical.byContradiction
  intro hge
  simp [World.cell?,Array.getElem?_eq_none (Nat.le_of_not_lt hge)] at hm
theorem Re (os:Os) (args:Array Value):((World.laidAll Tryz.prog os Dj).forCall (λ_ _=>0) ⟨#[],args,[]⟩).Shaped Tryz.prog:=
 World.shaped_of_ZipB (by kernel_rfl) (by kernel_rfl)
theorem Yw (os:Os) (args:Array Value):laidMetH Tryz.prog Dj ((World.laidAll Tryz.prog os Dj).forCall (λ_ _=>0) ⟨#[],args,[]⟩).memory:=by
 rw [MakeChecks.laidMetH_plain _ _ _ (by kernel_rfl)]
 exact laidMet_laidAll _ (by kernel_rfl) (by kernel_rfl)
theorem PH {H:Type} {enc:TypeId × Value->H} {os:Os} (started:os.Started) {C:Cfg} (hCP:C.P=Tryz.prog) (hCG:C.G=GX) (hX:XOK C) (hO:Bx C) {f tb:Nat} {fn:Func} {c:Code} {s:ChangeSpec} {conds:List PathCond} {apart fresh handsOn again:Bool} (noInit:Tryz.prog.inits.idxOf? f=none) (hfn:Tryz.prog.funcs[f]? = some fn) (hb:fn.body=some c) (hname:(fn.name == "runtime.NumGoroutine")=false)
  (hp:∀ t∈fn.params.toList,(Tryz.prog.readableRec t=true/\t<Tryz.prog.types.size)/\(Dx Tryz.prog 20 t).isSome=true) (hres:fn.resultTypes = #[tb]) (hbool:Tryz.prog.underlying tb=some .bool) (hvars:s.vars=[])
  (hspec:∀ ds:List (DataW H),ds.length=fn.params.toList.length->s.fn H ds = { results:=[.lit (.bool true)],args:=ds })
  (wit:Array Value) (fuel:Nat) (hok:Input.okWideB Tryz.prog ((World.laidAll Tryz.prog os Dj).forCall (λ_ _=>0) ⟨#[],wit,[]⟩) f ⟨#[],wit,[]⟩=true)
  (JB:s.preB enc Tryz.prog fn conds apart ((World.laidAll Tryz.prog os Dj).forCall (λ_ _=>0) ⟨#[],wit,[]⟩).memory wit fuel=true)
  (hsz:s.sizedB enc Tryz.prog fn apart ((World.laidAll Tryz.prog os Dj).forCall (λ_ _=>0) ⟨#[],wit,[]⟩).memory wit fuel=true)
  (hev:∀ args,Fs Tryz.prog fn.params.toList args->∃ d Hc,evC C d Unit noY f args [] ()=some (.s (.bool true),Hc,())) :
  ReturnsInHanded {} Tryz.checked os f .any (λw args=>(s.pre enc Tryz.prog fn conds apart w args/\laidMetH Tryz.prog Dj w)/\sizedMet enc Tryz.prog fn (OpenSpec.ofChange s) apart w args) (s.post enc Tryz.prog fn apart fresh handsOn again):=by
 obtain ⟨P,G,X,lend,okf,lf,keep,keepR,xp,keepE,keepT,Y,S,nt,rw0⟩:=C
 simp only at hCP hCG
 subst hCP
 refine returnsInHanded_of_calls (C:=Tryz.checked) own started noInit
  (ChangeSpec.witness_shaped (enc:=enc) (C:=Tryz.checked) (os:=os) (X:=λw _=>laidMetH Tryz.prog Dj w) false (World.laidAll Tryz.prog os Dj) wit fuel (World.laidAll_os _ _ _) (Re os wit) hok JB hsz (Yw os wit)) ?_
 intro w tape i _ hsh _ hok JB hholds
 obtain ⟨_,_,_,fn',hfn',_,_,_,_,Nk⟩:=hok
 have e:fn'=fn:=Option.some.inj (hfn'.symm.trans hfn)
 subst e
 obtain ⟨⟨⟨ds,gs,before,hw,hc⟩,hx⟩,hz⟩:=JB
 have hw':=DataW.Whole.of_heap (w':=w.forCall tape i) (by rfl) hw
 have hL:laidMet Tryz.prog Dj (w.forCall tape i):=by
  rw [MakeChecks.laidMetH_plain _ _ _ (by kernel_rfl)] at hx
  exact laidMet.of_heap (w':=w.forCall tape i) (by rfl) hx
 refine (Ai6 (apart:=apart) (fresh:=fresh) (handsOn:=handsOn) (again:=again) hX hO follows Az3 hfn hb hname hp hres hbool hvars hspec hev (w.forCall tape i) (OT hCG hL hsh) w.heap.size i.args ds gs before Nk hw').mono λe W' ⟨v,he,hp⟩=>?_
 subst he
 exact ChangeSpec.post_blind hp
end
section
open Go Go.Proofs
set_option maxRecDepth 100000
section
def Kw:List PV->Tr
 | [.s (.str s),.s (.str p),.s (.int .i64 v),.s (.int .i64 n)]=>.need (A4 (List.length s)) (.need ((List.length p)==1) (.need (v==(0:Int)) (.need (n==((-1):Int)) (.ret (.vw 0 0 (List.length (pcs (List.getD p 0 0) s))) [.arr false 9 1 (G8 (pcs (List.getD p 0 0) s))]))))
 | _=>.fail
def Pn (args:List PV):Tr:=Kw (D3 [[0],[0],[0],[0]] args)
def Kz:List PV->Tr
 | [.s (.str s),.s (.str p)]=>.need (A4 (List.length s)) (.need ((List.length p)==1) (.ret (.vw 0 0 (List.length (pcs (List.getD p 0 0) s))) [.arr false 9 1 (G8 (pcs (List.getD p 0 0) s))]))
 | _=>.fail
def Zi (args:List PV):Tr:=Kz (D3 [[0],[0]] args)
def CV:List PV->Tr
 | [.s (.str s),.s (.str p)]=>.need (A4 (List.length s)) (.ret (.s (.bool (List.isPrefixOf p s))) [])
 | _=>.fail
def MU (args:List PV):Tr:=CV (D3 [[0],[0]] args)
def CG:List PV->Tr
 | [.s (.str s),.s (.str p)]=>.need (A4 (List.length s)) (.ret (.s (.bool (List.isPrefixOf p s))) [])
 | _=>.fail
def MM (args:List PV):Tr:=CG (D3 [[0],[0]] args)
def CX:List PV->Tr
 | [.s (.str s),.s (.str p)]=>.need (A4 (List.length s)) (.ret (.s (.bool (List.isSuffixOf p s))) [])
 | _=>.fail
def Ae9 (args:List PV):Tr:=CX (D3 [[0],[0]] args)
def Um:List PV->Tr
 | [.s (.str s),.s (.str p)]=>.need (A4 (List.length s)) (.ret (.s (.str (Ad3 s p))) [])
 | _=>.fail
def UM (args:List PV):Tr:=Um (D3 [[0],[0]] args)
def Vb:List PV->Tr
 | [.s (.str s),.s (.str p)]=>.need (A4 (List.length s)) (.ret (.s (.str (Ad3 s p))) [])
 | _=>.fail
def UT (args:List PV):Tr:=Vb (D3 [[0],[0]] args)
def Ue:List PV->Tr
 | [.s (.str s),.s (.str p)]=>.need (A4 (List.length s)) (.ret (.tup [.s (.str (Vw s p)),.s (.bool (List.isPrefixOf p s))]) [])
 | _=>.fail
def UG (args:List PV):Tr:=Ue (D3 [[0],[0]] args)
def CA:List PV->Tr
 | [.s (.str s),.s (.str p)]=>.need (A4 (List.length s)) (.ret (.tup [.s (.str (Vw s p)),.s (.bool (List.isPrefixOf p s))]) [])
 | _=>.fail
def Ae3 (args:List PV):Tr:=CA (D3 [[0],[0]] args)
def DW:List PV->Tr
 | [.s (.str s),.s (.str p)]=>.need (A4 (List.length s)) (.ret (.s (.int .i64 (Lib.index s p))) [])
 | _=>.fail
def Uz (args:List PV):Tr:=DW (D3 [[0],[0]] args)
def DT:List PV->Tr
 | [.s (.str s),.s (.str p)]=>.need ((List.length p)==1) (.ret (.s (.int .i64 (↑(List.count (List.getD p 0 0) s):Int))) [])
 | _=>.fail
def NB (args:List PV):Tr:=DT (D3 [[0],[0]] args)
def Uc:List PV->Tr
 | [.s (.str s),.s (.int .i64 n)]=>.fail
 | _=>.fail
def Ev (args:List PV):Tr:=Uc (D3 [[0],[0]] args)
def Pm:List PV->Tr
 | [.s (.str s),.s (.str p),.s (.int .i64 v),.s (.int .i64 n)]=>.need (A4 (List.length s)) (.need ((List.length p)==1) (.need (v==(0:Int)) (.need (n==((-1):Int)) (.ret (.s (.sl false false 1 (G8 (pcs (List.getD p 0 0) s)))) []))))
 | _=>.fail
def HO (args:List PV):Tr:=Pm (D3 [[0],[0],[0],[0]] args)
def Px:List PV->Tr
 | [.s (.str s),.s (.str p)]=>.need (A4 (List.length s)) (.need ((List.length p)==1) (.ret (.s (.sl false false 1 (G8 (pcs (List.getD p 0 0) s)))) []))
 | _=>.fail
def HS (args:List PV):Tr:=Px (D3 [[0],[0]] args)
def Bl8:List PV->Tr
 | [.s (.int .i64 n)]=>.need (ltN n 4294967296) (.ret (.s (.str (Lib.decDigits (Int.toNat n)))) [])
 | _=>.fail
def CU:List PV->Tr
 | [.s (.str s)]=>.need (A4 (List.length s)) (.ret (.s (.str (D9 s))) [])
 | _=>.fail
def MT (args:List PV):Tr:=CU (D3 [[0]] args)
def CF:List PV->Tr
 | [.s (.str s)]=>.need (A4 (List.length s)) (.ret (.s (.bool (W5 s))) [])
 | _=>.fail
def ML (args:List PV):Tr:=CF (D3 [[0]] args)
def CB:List PV->Tr
 | [.s (.str s),.s (.int .i64 base)]=>.need (A4 (List.length s)) (.need (ltN base 17) (.ret (.tup [.s (.int .i64 (↑(Iu (D5 (Int.toNat base) 0 s)):Int)),.s (.bool (Option.isSome (D5 (Int.toNat base) 0 s)))]) []))
 | _=>.fail
def MK (args:List PV):Tr:=CB (D3 [[0],[0]] args)
def MV:List PV->Tr
 | [.s (.str s)]=>.need (A4 (List.length s)) (.ret (.tup [.s (.int .i64 (↑(Iu (X7 s)):Int)),.s (.bool (Option.isSome (X7 s)))]) [])
 | _=>.fail
def A99 (args:List PV):Tr:=MV (D3 [[0]] args)
def Un:List PV->Tr
 | [.s (.str s)]=>.need (A4 (List.length s)) (.ret (.s (.sl false false 1 (G8 (D4 s)))) [])
 | _=>.fail
def UN (args:List PV):Tr:=Un (D3 [[0]] args)
def Kx:List PV->Tr
 | [.s (.str s)]=>.need (A4 (List.length s)) (.ret (.s (.bool (N1 s))) [])
 | _=>.fail
def Jg (args:List PV):Tr:=Kx (D3 [[0]] args)
def Ky:List PV->Tr
 | [.s (.str s)]=>.need (A4 (List.length s)) (.ret (.s (.bool ((not (List.isEmpty s))&&(Option.isSome (D5 10 0 s))))) [])
 | _=>.fail
def Zh (args:List PV):Tr:=Ky (D3 [[0]] args)
def Pw:List PV->Tr
 | [.s (.str s),.s (.int .u8 c)]=>.need (A4 (List.length s)) (.need (inR c 256) (.ret (.s (.sl false false 1 (G8 (pcs (u8n c) s)))) []))
 | _=>.fail
def Uy (args:List PV):Tr:=Pw (D3 [[0],[0]] args)
def DK:List PV->Tr
 | [.s (.int .u8 b)]=>.need (inR b 256) (.ret (.s (.int .i64 (↑(dig (u8n b)):Int))) [])
 | _=>.fail
def Af4 (args:List PV):Tr:=DK (D3 [[0]] args)
def DP:List PV->Tr
 | [.s (.str s)]=>.need (A4 (List.length s)) (.ret (.tup [.s (.int .i64 (↑(Iu (X7 s)):Int)),.s (.bool (Option.isSome (X7 s)))]) [])
 | _=>.fail
def Af6 (args:List PV):Tr:=DP (D3 [[0]] args)
def Pu:List PV->Tr
 | [.s (.str s)]=>.need (A4 (List.length s)) (.ret (.s (.sl false false 1 (G8 (D4 s)))) [])
 | _=>.fail
def HQ (args:List PV):Tr:=Pu (D3 [[0]] args)
def Hp:List PV->Tr
 | [.s (.str s)]=>.need (A4 (List.length s)) (.ret (.s (.bool (N1 s))) [])
 | _=>.fail
def Uu (args:List PV):Tr:=Hp (D3 [[0]] args)
def Bj0:List PV->Tr
 | [.s (.str s),.s (.bool last)]=>.need (A4 (List.length s)) (.ret (.tup [.s (.sl (List.isEmpty (gvs s last)) (List.isEmpty (gvs s last)) 1 (Bn1 (gvs s last))),.s (.bool (Option.isSome (Ba4 s last)))]) [])
 | _=>.fail
def Bi9:List PV->Tr
 | [.s (.sl ds_z ds_t 0 ds),.s (.int .u64 v),.s (.int .i64 b),.s (.bool neg),.s (.bool app)]=>.need (ltN v 65536) (.need (b==(16:Int)) (.need (not neg) (.need (not app) (.ret (.tup [.s (.sl true true 1 List.nil),.s (.str (Bd1 (Int.toNat v)))]) []))))
 | _=>.fail
def Va:List PV->Tr
 | [.s (.sl l_z l_t 1 l),.s (.str p)]=>.need (List.all l isS) (.need (A4 (List.length (Lib.join (List.map elS l) p))) (.need (A4 (List.length l)) (.ret (.s (.str (Lib.join (List.map elS l) p))) [])))
 | _=>.fail
def US (args:List PV):Tr:=Va (D3 [[1],[0]] args)
def DV:List PV->Tr
 | [.s (.str s),.s (.str p)]=>.need (A4 (List.length s)) (.ret (.tup [.s (.str ((Lib.cut s p)).1),.s (.str (((Lib.cut s p)).2).1),.s (.bool (((Lib.cut s p)).2).2)]) [])
 | _=>.fail
def DU (args:List PV):Tr:=DV (D3 [[0],[0]] args)
def Bm1:List PV->Tr
 | [.s (.sl l_z l_t 1 l)]=>.need (List.all l Bj7) (.need (Nat.ble (List.length l) 8) (.ret (.s (.str (Bj8 (List.map elN l)))) []))
 | _=>.fail
def Ps:List PV->Tr
 | [.s (.int .i64 n)]=>.ret (.s (.bool (ptI n))) []
 | _=>.fail
def Ho (args:List PV):Tr:=Ps (D3 [[0]] args)
def Pr:List PV->Tr
 | [.s (.int .i64 d),.s (.int .i64 c),.s (.bool f)]=>.need (ltN d 1152921504606846976) (.need (ltN c 1000000) (.need (ltI (0:Int) c) (.ret (.s (.int .i64 (↑(L2 (Int.toNat d) (Int.toNat c) f):Int))) [])))
 | _=>.fail
def Hn (args:List PV):Tr:=Pr (D3 [[0],[0],[0]] args)
def DG:List PV->Tr
 | [.s (.int .i64 d)]=>.need (ltN d 36) (.ret (.s (.int .u8 (↑(UInt8.toNat (T3 (Int.toNat d))):Int))) [])
 | _=>.fail
def MW (args:List PV):Tr:=DG (D3 [[0]] args)
def DJ:List PV->Tr
 | [.s (.int .u8 b)]=>.need (inR b 256) (.ret (.s (.int .i64 (C1 (u8n b)))) [])
 | _=>.fail
def MZ (args:List PV):Tr:=DJ (D3 [[0]] args)
def DI:List PV->Tr
 | [.s (.int .i64 b)]=>.ret (.fnr (Fn.func 201) [] [.ptr 1 0 0,.ptr 0 0 0]) [.box [.s (.int .i64 b)],.box [.s (.int .i64 (0:Int))]]
 | _=>.fail
def Uo (args:List PV):Tr:=DI (D3 [[0]] args)
def Jh:List PV->List Blk->Tr
 | [.ptr 0 0 0,.ptr 1 0 0],[.box [.s (.int .i64 k)],.box [.s (.int .i64 b)]]=>.need (ltN k 1000000000000) (.need (ltN b 1000000) (.ret (.s (.int .i64 (H4 k b))) [.box [.s (.int .i64 (Int.add k (36:Int)))],.box [.s (.int .i64 b)]]))
 | _,_=>.fail
def DD:List PV->List Blk->Tr
 | [.fl 0,.s (.int .i64 q),.s (.int .i64 b)],[.arr z 5 1 l]=>.need (ltN q 1152921504606846976) (.need (ltN b 1000000) (.need (Nat.ble (List.length l) 100000) (.ret (.fl 0) [.arr z 5 1 (List.append l (List.map C9 (K8 (Int.toNat q) 0 (Int.toNat b))))])))
 | _,_=>.fail
def DH:List PV->Tr
 | [.s (.sl p_z p_t 1 p)]=>.need (List.all p Ig) (.ret (.tup [.s (.str ((Q5 (List.map elI p))).1),.s (.int .i64 (↑((Q5 (List.map elI p))).2:Int))]) [])
 | _=>.fail
def MY (args:List PV):Tr:=DH (D3 [[1]] args)
def DY:List PV->List Blk->Tr
 | [.fl 0,.s (.int .i64 i),.fl 1],[.arr z 3 1 l,.arr false 3 1 [[.int .i64 n]]]=>.need (ltN i (Nat.add (List.length l) 1)) (.need (Nat.ble (List.length l) 100000) (.ret (.fl 0) [.arr z 3 1 (Gg l (Int.toNat i) n),.arr false 3 1 [[.int .i64 n]]]))
 | _,_=>.fail
def CC:List PV->List Blk->Tr
 | [.ptr 0 0 0],[.box [.s (.str rest),.fl 1,.s (.int .i64 n),.s (.int .i64 i),.s (.int .i64 b),.s (.bool st)],.arr z 3 1 l]=>.need (A4 (List.length rest)) (.need (ltN b 1000000) (.need (ltN i 1099511627777) (.ret (.s (.int .i64 (Xh b rest i))) [.box [.s (.str (Xi b rest i)),.fl 1,.s (.int .i64 n),.s (.int .i64 (Lx b rest i)),.s (.int .i64 b),.s (.bool st)],.arr z 3 1 l])))
 | _,_=>.fail
def Tj:List PV->List Blk->Tr
 | [.ptr 0 0 0],[.box [.s (.str rest),.fl 1,.s (.int .i64 n),.s (.int .i64 i),.s (.int .i64 b),.s (.bool st)],.arr z 3 1 l]=>.need (A4 (List.length rest)) (.need (ltN b 1000000) (.need (ltN i 1099511627777) (.need (ltN n 1152921504606846976) (.need (Nat.ble (List.length l) 100000) (.ret (.s (.int .i64 ((C7 (DS.mk rest n i b st l))).1)) [.box [.s (.str (DS.rest ((C7 (DS.mk rest n i b st l))).2)),.fl 1,.s (.int .i64 (DS.n ((C7 (DS.mk rest n i b st l))).2)),.s (.int .i64 (DS.i ((C7 (DS.mk rest n i b st l))).2)),.s (.int .i64 (DS.b ((C7 (DS.mk rest n i b st l))).2)),.s (.bool (DS.st ((C7 (DS.mk rest n i b st l))).2))],.arr z 3 1 (DS.l ((C7 (DS.mk rest n i b st l))).2)])))))
 | _,_=>.fail
def Pp:List PV->Tr
 | [.s (.str s),.s (.int .u8 c)]=>.need (A4 (List.length s)) (.need (inR c 256) (.ret (.s (.int .i64 (G0 (u8n c) s))) []))
 | _=>.fail
def HP (args:List PV):Tr:=Pp (D3 [[0],[0]] args)
def Ud:List PV->Tr
 | [.s (.str s),.s (.int .u8 c)]=>.need (A4 (List.length s)) (.need (inR c 256) (.ret (.s (.int .i64 (G0 (u8n c) s))) []))
 | _=>.fail
def Tk (args:List PV):Tr:=Ud (D3 [[0],[0]] args)
def DF:List PV->Tr
 | [.s (.str s)]=>.need (A4 (List.length s)) (.ret (.tup [.s (.sl (List.isEmpty ((J3 s)).1) (List.isEmpty ((J3 s)).1) 1 (Rj ((J3 s)).1)),.s (.int .i64 (↑((J3 s)).2:Int))]) [])
 | _=>.fail
def Af3 (args:List PV):Tr:=DF (D3 [[0]] args)
def HN:List PV->Tr
 | [.s (.str t)]=>.fail
 | _=>.fail
def Mh (args:List PV):Tr:=HN (D3 [[0]] args)
def Ul:List PV->Tr
 | [.s (.str t),.s (.str p),.s (.int .i64 n)]=>.ret (.fnr (Fn.func 106) [] [.ptr 1 0 0,.ptr 0 0 0,.ptr 2 0 0]) [.box [.s (.str t)],.box [.s (.str p)],.box [.s (.int .i64 n)]]
 | _=>.fail
def CW (args:List PV):Tr:=Ul (D3 [[0],[0],[0]] args)
def EA:List PV->Tr
 | [.s (.str t),.s (.str p)]=>.ret (.fnr (Fn.func 106) [] [.ptr 1 0 0,.ptr 0 0 0,.ptr 2 0 0]) [.box [.s (.str t)],.box [.s (.str p)],.box [.s (.int .i64 (0:Int))]]
 | _=>.fail
def DZ (args:List PV):Tr:=EA (D3 [[0],[0]] args)
def Mi:List PV->List Blk->Option (Bool × List (List PV))
 | [.yd,.ptr 0 0 0,.ptr 1 0 0,.ptr 2 0 0],[.box [.s (.str p)],.box [.s (.str t)],.box [.s (.int .i64 n)]]=>some (((A4 (List.length t))&&(((List.length p)==1)&&(n==(0:Int)))),List.map (λ(x:By)=>([.s (.str x)]:List PV)) (pcs (List.getD p 0 0) t))
 | _,_=>none
def CH:List PV->Tr
 | [.s (.str t)]=>.ret (.fnr (Fn.func 76) [] [.ptr 0 0 0]) [.box [.s (.str t)]]
 | _=>.fail
def Po (args:List PV):Tr:=CH (D3 [[0]] args)
def Ft:List PV->List Blk->Option (Bool × List (List PV))
 | [.yd,.ptr 0 0 0],[.box [.s (.str t)]]=>some ((A4 (List.length t)),List.map (λ(x:By)=>([.s (.str x)]:List PV)) (I1 t))
 | _,_=>none
def Pv:List PV->Tr
 | [.s (.int .i64 n)]=>.ret (.s (.bool (ptI n))) []
 | _=>.fail
def Uw (args:List PV):Tr:=Pv (D3 [[0]] args)
def Pt:List PV->Tr
 | [.s (.int .i64 d),.s (.int .i64 c),.s (.bool f)]=>.need (ltN d 1152921504606846976) (.need (ltN c 1000000) (.need (ltI (0:Int) c) (.ret (.s (.int .i64 (↑(L2 (Int.toNat d) (Int.toNat c) f):Int))) [])))
 | _=>.fail
def Up (args:List PV):Tr:=Pt (D3 [[0],[0],[0]] args)
def DQ:List PV->Tr
 | [.s (.int .i64 k),.s (.int .i64 b)]=>.need (ltN k 10000000000) (.need (ltN b 1000000) (.ret (.s (.int .i64 (H4 (Int.mul (36:Int) k) b))) []))
 | _=>.fail
def NA (args:List PV):Tr:=DQ (D3 [[0],[0]] args)
def Uq:List PV->Tr
 | [.s (.int .i64 d)]=>.need (ltN d 36) (.ret (.s (.int .u8 (↑(UInt8.toNat (T3 (Int.toNat d))):Int))) [])
 | _=>.fail
def UO (args:List PV):Tr:=Uq (D3 [[0]] args)
def DR:List PV->Tr
 | [.s (.int .u8 b)]=>.need (inR b 256) (.ret (.s (.int .i64 (C1 (u8n b)))) [])
 | _=>.fail
def Af7 (args:List PV):Tr:=DR (D3 [[0]] args)
def DL:List PV->Tr
 | [.s (.sl p_z p_t 1 p)]=>.need (List.all p Ig) (.ret (.tup [.s (.str ((Q5 (List.map elI p))).1),.s (.int .i64 (↑((Q5 (List.map elI p))).2:Int))]) [])
 | _=>.fail
def Af5 (args:List PV):Tr:=DL (D3 [[1]] args)
def Uv:List PV->Tr
 | [.s (.str s)]=>.need (A4 (List.length s)) (.ret (.tup [.s (.sl (List.isEmpty ((J3 s)).1) (List.isEmpty ((J3 s)).1) 1 (Rj ((J3 s)).1)),.s (.int .i64 (↑((J3 s)).2:Int))]) [])
 | _=>.fail
def UQ (args:List PV):Tr:=Uv (D3 [[0]] args)
def Uk:List PV->Tr
 | [.s (.str s)]=>.need (A4 (List.length s)) (.ret (.s (.bool (Z6 s))) [])
 | _=>.fail
def UL (args:List PV):Tr:=Uk (D3 [[0]] args)
def CZ:List PV->Tr
 | [.s (.str s)]=>.need (A4 (List.length s)) (.ret (.s (.bool (K2 s))) [])
 | _=>.fail
def CY (args:List PV):Tr:=CZ (D3 [[0]] args)
def Pz:List PV->Tr
 | [.s (.str s)]=>.need (A4 (List.length s)) (.ret (.s (.bool (Option.isSome (Cr s)))) [])
 | _=>.fail
def HU (args:List PV):Tr:=Pz (D3 [[0]] args)
def Py:List PV->Tr
 | [.s (.str s)]=>.need (A4 (List.length s)) (.ret (.s (.int .i64 (↑(Lib.runeCountL s):Int))) [])
 | _=>.fail
def HT (args:List PV):Tr:=Py (D3 [[0]] args)
def CJ:List PV->Tr
 | [.s (.str s)]=>.need (A4 (List.length s)) (.ret (.tup [.s (.str ((Jd s)).1),.s (.int .i64 (↑((Jd s)).2:Int))]) [])
 | _=>.fail
def Ae6 (args:List PV):Tr:=CJ (D3 [[0]] args)
def Ux:List PV->Tr
 | [.s (.str s)]=>.need (A4 (List.length s)) (.ret (.s (.bool (Z6 s))) [])
 | _=>.fail
def UR (args:List PV):Tr:=Ux (D3 [[0]] args)
def Ut:List PV->Tr
 | [.s (.str s)]=>.need (A4 (List.length s)) (.ret (.s (.bool (K2 s))) [])
 | _=>.fail
def UP (args:List PV):Tr:=Ut (D3 [[0]] args)
def CE:List PV->Tr
 | [.s (.int .u8 b)]=>.need (inR b 256) (.ret (.s (.int .i64 (Hz (u8n b)))) [])
 | _=>.fail
def Ae5 (args:List PV):Tr:=CE (D3 [[0]] args)
def CD:List PV->Tr
 | [.s (.str s)]=>.need (A4 (List.length s)) (.ret (.tup [.s (.str (Be8 s)),.s (.bool (Option.isSome (Ek s)))]) [])
 | _=>.fail
def Ae4 (args:List PV):Tr:=CD (D3 [[0]] args)
def MN:List PV->Tr
 | [.s (.str s)]=>.need (A4 (List.length s)) (.ret (.s (.bool (D6 s))) [])
 | _=>.fail
def UF (args:List PV):Tr:=MN (D3 [[0]] args)
def DO:List PV->Tr
 | [.s (.str s)]=>.need (A4 (List.length s)) (.ret (.s (.bool (D6 s))) [])
 | _=>.fail
def DN (args:List PV):Tr:=DO (D3 [[0]] args)
def Ur:List PV->Tr
 | [.s (.str p),.s (.str s)]=>.need (A4 (List.length p)) (.need (A4 (List.length s)) (.ret (.s (.bool (F5 p s))) []))
 | _=>.fail
def DM (args:List PV):Tr:=Ur (D3 [[0],[0]] args)
end
section
variable {σ R : Type} (lf : Nat) (cl : D1) (yh : Yh σ) (s : σ) (k : Out -> St σ -> Option R)
noncomputable def VH {R:Type} (s0:By) (v1 b2 n3 n4:Int) (b5:Bool) (k0:By->Int->Int->Int->Option R) (k1:Unit->Option R):Option R:=cond b5 (vl (wu8 ((wu8 (b2-65))+10)) λn'4=>vl (bOr .u16 (TK .u16 v1 (4:Int)) (As6 n'4)) λn'5=>k0 s0 n'5 n3 n4) (k1 ())
noncomputable def VI {R:Type} (s0:By) (v1 b2 n3 n4:Int) (b5:Bool) (k0:By->Int->Int->Int->Option R) (k1:Unit->Option R):Option R:=cond b5 (vl (wu8 ((wu8 (b2-97))+10)) λn'2=>vl (bOr .u16 (TK .u16 v1 (4:Int)) (As6 n'2)) λn'3=>k0 s0 n'3 n3 n4) (cond (not (ltI b2 65)) (VH s0 v1 b2 n3 n4 (not (ltI 70 b2)) (λs'6 v'7 n'8 n'9=>k0 s'6 v'7 n'8 n'9) (λ_=>k1 ())) (VH s0 v1 b2 n3 n4 false (λs'10 v'11 n'12 n'13=>k0 s'10 v'11 n'12 n'13) (λ_=>k1 ())))
noncomputable def VJ {R:Type} (s0:By) (v1 b2 n3 n4:Int) (b5:Bool) (k0:By->Int->Int->Int->Option R) (k1:Unit->Option R):Option R:=cond b5 (vl (As6 (wu8 (b2-48))) λn'0=>vl (bOr .u16 (TK .u16 v1 (4:Int)) n'0) λn'1=>k0 s0 n'1 n3 n4) (cond (not (ltI b2 97)) (VI s0 v1 b2 n3 n4 (not (ltI 102 b2)) (λs'14 v'15 n'16 n'17=>k0 s'14 v'15 n'16 n'17) (λ_=>k1 ())) (VI s0 v1 b2 n3 n4 false (λs'18 v'19 n'20 n'21=>k0 s'18 v'19 n'20 n'21) (λ_=>k1 ())))
noncomputable def VK {R:Type} (lf n:Nat) (s0:By) (v1 n2 n3:Int) (k0:Unit->Option R) (k1:Int->Option R):Option R:=match n with | 0=>none | n+1=>cond (ltI n3 n2) (cond (inR n3 s0.length) (cond (not (ltI (bAt s0 n3) (48:Int))) (VJ s0 v1 (bAt s0 n3) n2 n3 (not (ltI 57 (bAt s0 n3))) (λs'22 v'23 n'24 n'25=>vl (A1 (n'25+1)) λn'26=>VK lf n s'22 v'23 n'24 n'26 k0 k1) (λ_=>k0 ())) (VJ s0 v1 (bAt s0 n3) n2 n3 false (λs'27 v'28 n'29 n'30=>vl (A1 (n'30+1)) λn'31=>VK lf n s'27 v'28 n'29 n'31 k0 k1) (λ_=>k0 ()))) none) (k1 v1)
noncomputable def Vm (lf:Nat):Cfg:=C2 lf [184] (A5 []) [] (A5 [(1,[2]),(0,[0])]) [] (A5 []) (some [2]) [] [] []
noncomputable def GC {R:Type} (lf:Nat) (n0:Int) (k0:Bool->Option R):Option R:=cond (not (ltI n0 0)) (cond (not (ltI 1114111 n0)) (cond (ltI n0 55296) (k0 true) (k0 (ltI 57343 n0))) (k0 false)) (k0 false)
theorem ZZ (d:Nat) (n0):evC (Vm lf) (d+1) σ yh 184 [pI n0] [] s=GC lf n0 (λr0=>some (pB r0,[],s)):=by
 refine (evE (fn:=Tryz.f184) (by kernel_rfl)).trans ?_
 generalize evC (Vm lf) d=cl
 unfold GC;kernel_rfl
noncomputable abbrev Hs:Code:=E3 Tryz.f186
noncomputable def Q3 (lf:Nat):Cfg:=C2 lf [186] (A5 [(6,[0,5,0])]) [] (A5 [(9,[6]),(8,[0,6]),(7,[0,6]),(6,[0,6,11]),(5,[0,6]),(4,[0]),(2,[0,0]),(3,[0,0]),(1,[0,0,6]),(0,[0,0,0])]) [] (A5 [(0,[0,6]),(1,[0,6])]) (some [6]) [] [] []
noncomputable def Br {R:Type} (lf n:Nat) (delta0 kk1:Int) (k0:Int->Int->Option R):Option R:=match n with | 0=>none | n+1=>cond (ltI 455 delta0) (vl (A1 (Int.tdiv delta0 (35:Int))) λn'6=>vl (A1 (kk1+36)) λn'7=>Br lf n n'6 n'7 k0) (k0 delta0 kk1)
theorem GA (n delta0 kk1):E6 0 ((Q3 lf).keep 6) (bd (Q3 lf) cl yh (cd [1,1,1,1,0,0,0] Hs)) n ⟨gp [(0,pI delta0),(6,pI kk1)] 23,[],s⟩ k =
 Br lf n delta0 kk1 (λdelta0 kk1=>k (.exit 0) ⟨gp [(0,pI delta0),(6,pI kk1)] 23,[],s⟩):=by
 induction n generalizing delta0 kk1 with
 | zero=>rfl
 | succ n ih=>rw [Br];simp only [<-ih];kernel_rfl
noncomputable def Bq {R:Type} (lf:Nat) (delta0 count1:Int) (k0:Int->Option R):Option R:=cond (count1 != 0) (vl (A1 (Int.tdiv delta0 count1)) λn'5=>Br lf lf (A1 (delta0+n'5)) 0 (λdelta'8 kk'9=>vl (A1 ((36:Int)*delta'8)) λn'10=>vl (A1 (delta'8+38)) λn'11=>cond (n'11 != 0) (vl (A1 (Int.tdiv n'10 n'11)) λn'12=>k0 (A1 (kk'9+n'12))) none)) none
abbrev Sq (b:Code):Prop:=∀ (k:Out->St σ->Option R) delta0 count1,B0 (Q3 lf) cl yh b ⟨gp [(0,pI delta0),(0,pI count1)] 29,[],s⟩ k=Bq lf delta0 count1 (λn0=>k .ret ⟨gp [(6,pI n0)] 24,[],s⟩)
theorem FZ:Sq (R:=R) lf cl yh s (cd [1,1] Hs):=by
 intro k delta0 count1;unfold Bq;exact (Eq.trans (by kernel_rfl) (A0 (A8 λn'5=>((GA lf cl yh s (G5 0 (H5 (Q3 lf) cl yh (cd [1,1,1,1,1] Hs) k)) lf (A1 (delta0+n'5)) 0).trans (by kernel_rfl))) rfl))
noncomputable def Xn {R:Type} (lf:Nat) (delta0 count1:Int) (first2:Bool) (k0:Int->Option R):Option R:=cond first2 (vl (A1 (Int.tdiv delta0 (700:Int))) λn'2=>Bq lf n'2 count1 (λn'13=>k0 n'13)) (vl (A1 (Int.tdiv delta0 (2:Int))) λn'3=>Bq lf n'3 count1 (λn'14=>k0 n'14))
theorem ZP (b_11:Code) (h_padapt_j0:Sq (R:=PV × List Blk × σ) lf cl yh s b_11) (delta0 count1:Int) (first2:Bool):B0 (Q3 lf) cl yh (cd [] (Q2 [1,1] b_11 Hs)) ⟨[pI delta0,pI count1,pB first2]++tps 28,[],s⟩ (I4 (Q3 lf) Tryz.f186)=Xn lf delta0 count1 first2 (λr0=>some (pI r0,[],s)):=by
 unfold Xn;exact let K0:=(I4 (Q3 lf) Tryz.f186);(Eq.trans (by kernel_rfl) (A0 (A8 λn'2=>((h_padapt_j0 K0 n'2 count1).trans (by kernel_rfl))) (A8 λn'3=>((h_padapt_j0 K0 n'3 count1).trans (by kernel_rfl)))))
theorem ZQ (d:Nat) (delta0 count1 first2):evC (Q3 lf) (d+1) σ yh 186 [pI delta0,pI count1,pB first2] [] s=Xn lf delta0 count1 first2 (λr0=>some (pI r0,[],s)):=
 (evE (fn:=Tryz.f186) (by kernel_rfl)).trans (Eq.trans (by kernel_rfl) (ZP lf (evC (Q3 lf) d) yh s (cd [1,1] Hs) (FZ lf (evC (Q3 lf) d) yh s) delta0 count1 first2))
noncomputable def NX (lf:Nat):Cfg:=C2 lf [195] (A5 []) [] (A5 [(3,[2]),(2,[2]),(1,[0,3]),(0,[0])]) [] (A5 []) (some [2]) [] [] []
noncomputable def A34 {R:Type} (lf:Nat) (d0:Int) (k0:Int->Option R):Option R:=cond (ltI d0 26) (vl (wu8 (A1 ((97:Int)+d0))) λn'0=>k0 n'0) (vl (A1 ((A1 ((48:Int)+d0))-26)) λn'1=>k0 (wu8 n'1))
theorem A35 (d:Nat) (d0):evC (NX lf) (d+1) σ yh 195 [pI d0] [] s=A34 lf d0 (λr0=>some (p8 r0,[],s)):=by
 refine (evE (fn:=Tryz.f195) (by kernel_rfl)).trans ?_
 generalize evC (NX lf) d=cl
 unfold A34;kernel_rfl
noncomputable abbrev Le:Code:=E3 Tryz.f202
noncomputable def Ed (lf:Nat):Cfg:=C2 lf [202] (A5 []) [] (A5 [(7,[2]),(2,[2]),(4,[2]),(6,[2]),(5,[0,22]),(3,[0,12]),(1,[0,2]),(0,[0])]) [] (A5 [(0,[])]) (some [2]) [] [] []
noncomputable def Od {R:Type} (b0:Int) (b1:Bool) (k0:Int->Option R) (k1:Int->Bool->Option R):Option R:=cond b1 (vl (A1 (wu8 (b0-65))) λn'1=>k0 n'1) (cond (not (ltI b0 48)) (cond (not (ltI 57 b0)) (vl (A1 (wu8 (b0-48))) λn'2=>vl (A1 (n'2+26)) λn'3=>k0 n'3) (k1 b0 (not (ltI 57 b0)))) (k1 b0 false))
abbrev AY (b:Code):Prop:=∀ (k:Out->St σ->Option R) b0 b1,B0 (Ed lf) cl yh b ⟨gp [(0,p8 b0),(12,pB b1)] 20,[],s⟩ k=Od b0 b1 (λn0=>k .ret ⟨gp [(2,pI n0)] 31,[],s⟩) (λb0 b1=>k .normal ⟨gp [(0,p8 b0),(22,pB b1)] 10,[],s⟩)
theorem RA:AY (R:=R) lf cl yh s (cd [1,0,0,1,1,1] Le):=by
 intro k b0 b1;unfold Od;kernel_rfl
noncomputable def Oe {R:Type} (b0:Int) (b1:Bool) (k0:Int->Option R) (k1:Int->Bool->Option R):Option R:=cond b1 (vl (A1 (wu8 (b0-97))) λn'0=>k0 n'0) (cond (not (ltI b0 65)) (Od b0 (not (ltI 90 b0)) (λn'4=>k0 n'4) (λb'5 b'6=>k1 b'5 b'6)) (Od b0 false (λn'7=>k0 n'7) (λb'8 b'9=>k1 b'8 b'9)))
abbrev Rl (b:Code):Prop:=∀ (k:Out->St σ->Option R) b0 b1,B0 (Ed lf) cl yh b ⟨gp [(0,p8 b0),(2,pB b1)] 30,[],s⟩ k=Oe b0 b1 (λn0=>k .ret ⟨gp [(2,pI n0)] 31,[],s⟩) (λb0 b1=>k .normal ⟨gp [(0,p8 b0),(22,pB b1)] 10,[],s⟩)
theorem RC (b_100111:Code) (h_pval_j0:AY (R:=R) lf cl yh s b_100111):Rl (R:=R) lf cl yh s (cd [1,0,0,1] (Q2 [1,0,0,1,1,1] b_100111 Le)):=by
 intro k b0 b1;unfold Oe;simp only [<-h_pval_j0 k];kernel_rfl
theorem RD:Rl (R:=R) lf cl yh s (cd [1,0,0,1] Le):=by
 intro k b0 b1;exact Eq.trans (by kernel_rfl) (RC lf cl yh s (cd [1,0,0,1,1,1] Le) (RA lf cl yh s) k b0 b1)
noncomputable def Ap3 {R:Type} (lf:Nat) (b0:Int) (k0:Int->Option R):Option R:=cond (not (ltI b0 97)) (Oe b0 (not (ltI 122 b0)) (λn'10=>k0 n'10) (λb'11 b'12=>k0 (-1))) (Oe b0 false (λn'13=>k0 n'13) (λb'14 b'15=>k0 (-1)))
theorem A42 (b_1001:Code) (h_pval_j1:Rl (R:=PV × List Blk × σ) lf cl yh s b_1001) (b0:Int):B0 (Ed lf) cl yh (cd [] (Q2 [1,0,0,1] b_1001 Le)) ⟨[p8 b0]++tps 33,[],s⟩ (I4 (Ed lf) Tryz.f202)=Ap3 lf b0 (λr0=>some (pI r0,[],s)):=by
 unfold Ap3;exact let K0:=(G5 0 (H5 (Ed lf) cl yh (cd [1,1] Le) (I4 (Ed lf) Tryz.f202)));(Eq.trans (by kernel_rfl) (A0 ((h_pval_j1 K0 b0 (not (ltI 122 b0))).trans (by kernel_rfl)) ((h_pval_j1 K0 b0 false).trans (by kernel_rfl))))
theorem A43 (d:Nat) (b0):evC (Ed lf) (d+1) σ yh 202 [p8 b0] [] s=Ap3 lf b0 (λr0=>some (pI r0,[],s)):=
 (evE (fn:=Tryz.f202) (by kernel_rfl)).trans (Eq.trans (by kernel_rfl) (A42 lf (evC (Ed lf) d) yh s (cd [1,0,0,1] Le) (RD lf (evC (Ed lf) d) yh s) b0))
end
section
variable {σ R : Type} (lf : Nat) (cl : D1) (yh : Yh σ) (s : σ) (k : Out -> St σ -> Option R)
noncomputable def NT (lf:Nat):Cfg:=C2 lf [154] (A5 []) [] (A5 [(1,[4]),(0,[0,0])]) [] (A5 []) (some [4]) [] [] []
noncomputable def A11 {R:Type} (lf:Nat) (s0 prefix1:By) (k0:Bool->Option R):Option R:=cond (not (ltI (s0.length:Int) (prefix1.length:Int))) (cond (N3 0 (prefix1.length:Int) s0.length) (vl (cut s0 0 (prefix1.length:Int)) λs'0=>k0 (s'0==prefix1)) none) (k0 false)
theorem A12 (d:Nat) (s0 prefix1):evC (NT lf) (d+1) σ yh 154 [pS s0,pS prefix1] [] s=A11 lf s0 prefix1 (λr0=>some (pB r0,[],s)):=by
 refine (evE (fn:=Tryz.f154) (by kernel_rfl)).trans ?_
 generalize evC (NT lf) d=cl
 unfold A11;kernel_rfl
noncomputable def NO (lf:Nat):Cfg:=C2 lf [112] (A5 []) [(154,MU)] (A5 [(1,[4]),(0,[0,0])]) [154] (A5 []) (some [4]) [] [] []
noncomputable def JB {R:Type} (lf:Nat) (s0 prefix1:By) (k0:Bool->Option R):Option R:=cond (A4 s0.length) (k0 (List.isPrefixOf prefix1 s0)) none
theorem Ay8 (d:Nat) (s0 prefix1):evC (NO lf) (d+1) σ yh 112 [pS s0,pS prefix1] [] s=JB lf s0 prefix1 (λr0=>some (pB r0,[],s)):=by
 refine (evE (fn:=Tryz.f112) (by kernel_rfl)).trans ?_
 generalize evC (NO lf) d=cl
 unfold JB;kernel_rfl
noncomputable def NU (lf:Nat):Cfg:=C2 lf [180] (A5 []) [] (A5 [(1,[4]),(0,[0,0])]) [] (A5 []) (some [4]) [] [] []
noncomputable def A14 {R:Type} (lf:Nat) (s0 suffix1:By) (k0:Bool->Option R):Option R:=cond (not (ltI (s0.length:Int) (suffix1.length:Int))) (vl (A1 ((s0.length:Int)-(suffix1.length:Int))) λn'0=>cond (N3 n'0 (s0.length:Int) s0.length) (vl (cut s0 n'0 (s0.length:Int)) λs'1=>k0 (s'1==suffix1)) none) (k0 false)
theorem A15 (d:Nat) (s0 suffix1):evC (NU lf) (d+1) σ yh 180 [pS s0,pS suffix1] [] s=A14 lf s0 suffix1 (λr0=>some (pB r0,[],s)):=by
 refine (evE (fn:=Tryz.f180) (by kernel_rfl)).trans ?_
 generalize evC (NU lf) d=cl
 unfold A14;kernel_rfl
noncomputable def EP (lf:Nat):Cfg:=C2 lf [157] (A5 []) [(180,Ae9)] (A5 [(3,[4]),(2,[4]),(1,[0,0,5]),(0,[0,0])]) [180] (A5 []) (some [4]) [] [] []
noncomputable def WF {R:Type} (lf:Nat) (s0 suffix1:By) (k0:By->Option R):Option R:=cond (A4 s0.length) (cond (List.isSuffixOf suffix1 s0) (vl (A1 ((s0.length:Int)-(suffix1.length:Int))) λn'0=>cond (N3 0 n'0 s0.length) (k0 (cut s0 0 n'0)) none) (k0 s0)) none
theorem An5 (d:Nat) (s0 suffix1):evC (EP lf) (d+1) σ yh 157 [pS s0,pS suffix1] [] s=WF lf s0 suffix1 (λr0=>some (pS r0,[],s)):=by
 refine (evE (fn:=Tryz.f157) (by kernel_rfl)).trans ?_
 generalize evC (EP lf) d=cl
 unfold WF;kernel_rfl
noncomputable def EU (lf:Nat):Cfg:=C2 lf [115] (A5 []) [(157,UM)] (A5 [(1,[4]),(0,[0,0])]) [157] (A5 []) (some [4]) [] [] []
noncomputable def XB {R:Type} (lf:Nat) (s0 suffix1:By) (k0:By->Option R):Option R:=cond (A4 s0.length) (k0 (Ad3 s0 suffix1)) none
theorem As0 (d:Nat) (s0 suffix1):evC (EU lf) (d+1) σ yh 115 [pS s0,pS suffix1] [] s=XB lf s0 suffix1 (λr0=>some (pS r0,[],s)):=by
 refine (evE (fn:=Tryz.f115) (by kernel_rfl)).trans ?_
 generalize evC (EU lf) d=cl
 unfold XB;kernel_rfl
noncomputable def EL (lf:Nat):Cfg:=C2 lf [169] (A5 []) [(154,MU)] (A5 [(3,[4,0]),(2,[4,0]),(1,[0,0,7]),(0,[0,0])]) [154] (A5 []) (some [4,0]) [] [] []
noncomputable def VR {R:Type} (lf:Nat) (s0 prefix1:By) (k0:By->Bool->Option R):Option R:=cond (A4 s0.length) (cond (not (List.isPrefixOf prefix1 s0)) (k0 s0 false) (cond (N3 (prefix1.length:Int) (s0.length:Int) s0.length) (vl (cut s0 (prefix1.length:Int) (s0.length:Int)) λs'0=>k0 s'0 true) none)) none
theorem Al8 (d:Nat) (s0 prefix1):evC (EL lf) (d+1) σ yh 169 [pS s0,pS prefix1] [] s=VR lf s0 prefix1 (λr0 r1=>some (.tup [pS r0,pB r1],[],s)):=by
 refine (evE (fn:=Tryz.f169) (by kernel_rfl)).trans ?_
 generalize evC (EL lf) d=cl
 unfold VR;kernel_rfl
noncomputable def NM (lf:Nat):Cfg:=C2 lf [130] (A5 []) [(169,UG)] (A5 [(1,[4,0]),(0,[0,0])]) [169] (A5 []) (some [4,0]) [] [] []
noncomputable def Aw5 {R:Type} (lf:Nat) (s0 prefix1:By) (k0:By->Bool->Option R):Option R:=cond (A4 s0.length) (k0 (Vw s0 prefix1) (List.isPrefixOf prefix1 s0)) none
theorem Aw6 (d:Nat) (s0 prefix1):evC (NM lf) (d+1) σ yh 130 [pS s0,pS prefix1] [] s=Aw5 lf s0 prefix1 (λr0 r1=>some (.tup [pS r0,pB r1],[],s)):=by
 refine (evE (fn:=Tryz.f130) (by kernel_rfl)).trans ?_
 generalize evC (NM lf) d=cl
 unfold Aw5;kernel_rfl
noncomputable abbrev HZ:Code:=E3 Tryz.f158
noncomputable def Ab (lf:Nat):Cfg:=C2 lf [158] (A5 [(11,[0,0,0,0,4,0,0])]) [(181,Ev),(182,NB),(108,Uz)] (A5 [(18,[8]),(17,[9,0]),(16,[0,0,0,0,5,0]),(15,[0,0,0,0,5,0]),(14,[0,0,0,0,5,0,0]),(13,[0,0,0,0,5,0,0,29]),(12,[0,0,0,0,5,0,0]),(11,[0,0,0,0,5,0,25]),(10,[0,0,0,0,5,0]),(9,[0,0,0,0,5]),(8,[0,0,0,0,5]),(7,[0,0,0,0]),(6,[0,0,0,0]),(5,[0,0,0,0,16]),(4,[8]),(3,[0,0,0,0,11]),(2,[8]),(1,[0,0,0,0,9]),(0,[0,0,0,0])]) [182,108] (A5 [(0,[0,8,0]),(1,[0,0,0,0,5,0])]) (some [8]) [] [] []
noncomputable def U9 {R:Type} (lf n:Nat) (s0 sep1:By) (sepSave2 n3 i4:Int) (l5:LL) (k0:By->Int->LL->Option R):Option R:=match n with | 0=>none | n+1=>cond (ltI i4 n3) (cond (A4 s0.length) (cond (ltI (Lib.index s0 sep1) (0:Int)) (k0 s0 i4 l5) (vl (A1 ((Lib.index s0 sep1)+sepSave2)) λn'12=>cond (N3 0 n'12 s0.length) (cond (inR i4 l5.length) (cond (decide ((Int.toNat i4)<l5.length)) (vl (List.set l5 (Int.toNat i4) (F1 (List.getD l5 (Int.toNat i4) []) 0 [(SV.str (cut s0 0 n'12))])) λl'13=>vl (A1 ((Lib.index s0 sep1)+(sep1.length:Int))) λn'14=>cond (N3 n'14 (s0.length:Int) s0.length) (vl (cut s0 n'14 (s0.length:Int)) λs'15=>U9 lf n s'15 sep1 sepSave2 n3 (A1 (i4+1)) l'13 k0) none) none) none) none)) none) (k0 s0 i4 l5)
theorem Nh (n s0 sep1 sepSave2 n3 i4 l5):E6 1 ((Ab lf).keep 11) (bd (Ab lf) cl yh (cd [1,1,1,1,1,1,1,1,0,0,0] HZ)) n ⟨gp [(0,pS s0),(0,pS sep1),(0,pI sepSave2),(0,pI n3),(5,.fl 0),(0,pI i4)] 55,[.arr false 9 1 l5],s⟩ k =
 U9 lf n s0 sep1 sepSave2 n3 i4 l5 (λs0 i1 l2=>k (.exit 0) ⟨gp [(0,pS s0),(8,.fl 0),(0,pI i1)] 55,[.arr false 9 1 l2],s⟩):=by
 induction n generalizing s0 sep1 sepSave2 n3 i4 l5 with
 | zero=>rfl
 | succ n ih=>rw [U9];simp only [<-ih];kernel_rfl
noncomputable def Wh {R:Type} (lf:Nat) (s0 sep1:By) (sepSave2 n3:Int) (k0:Unit->Option R) (k1:Nat->LL->Option R):Option R:=cond (n3==0) (k0 ()) (cond (sep1==[]) none (cond (ltI n3 0) (cond (sep1.length==1) (vl (↑(List.count (List.getD sep1 0 0) s0):Int) λn'1=>vl (A1 ((s0.length:Int)+1)) λn'4=>vl (if (n'4<(A1 (n'1+1))) then n'4 else (A1 (n'1+1))) λn'5=>cond (((decide ((0:Int)<=n'5))&&(decide (n'5<=n'5)))&&(E4 (Int.toNat n'5))) (U9 lf lf s0 sep1 sepSave2 (A1 (n'5-1)) 0 (List.replicate (Int.toNat n'5) [(SV.str ([]:List UInt8))]) (λs'16 i'17 l'18=>cond (inR i'17 l'18.length) (cond (decide ((Int.toNat i'17)<l'18.length)) (vl (List.set l'18 (Int.toNat i'17) (F1 (List.getD l'18 (Int.toNat i'17) []) 0 [(SV.str s'16)])) λl'19=>vl (A1 (i'17+1)) λn'20=>cond (N3 0 n'20 l'19.length) (k1 ((Int.toNat n'20)-0) l'19) none) none) none)) none) none) (vl (A1 ((s0.length:Int)+1)) λn'8=>vl (if (n'8<n3) then n'8 else n3) λn'9=>cond (((decide ((0:Int)<=n'9))&&(decide (n'9<=n'9)))&&(E4 (Int.toNat n'9))) (U9 lf lf s0 sep1 sepSave2 (A1 (n'9-1)) 0 (List.replicate (Int.toNat n'9) [(SV.str ([]:List UInt8))]) (λs'21 i'22 l'23=>cond (inR i'22 l'23.length) (cond (decide ((Int.toNat i'22)<l'23.length)) (vl (List.set l'23 (Int.toNat i'22) (F1 (List.getD l'23 (Int.toNat i'22) []) 0 [(SV.str s'21)])) λl'24=>vl (A1 (i'22+1)) λn'25=>cond (N3 0 n'25 l'24.length) (k1 ((Int.toNat n'25)-0) l'24) none) none) none)) none)))
theorem AC (d:Nat) (s0 sep1 sepSave2 n3):evC (Ab lf) (d+1) σ yh 158 [pS s0,pS sep1,pI sepSave2,pI n3] [] s=Wh lf s0 sep1 sepSave2 n3 (λ_=>some (.fl 0,[.arr true 9 1 []],s)) (λr_m0 l1=>some (.vw 0 0 r_m0,[.arr false 9 1 l1],s)):=by
 refine (evE (fn:=Tryz.f158) (by kernel_rfl)).trans ?_
 generalize evC (Ab lf) d=cl
 unfold Wh;exact let K0:=(G5 0 (H5 (Ab lf) cl yh (cd [1,1,1,1,1,1,1,1,1] HZ) (I4 (Ab lf) Tryz.f158)));(Eq.trans (by kernel_rfl) (A0 rfl (A0 rfl (A0 (A0 (A8 λn'1=>(A8 λn'4=>(A8 λn'5=>(A0 ((Nh lf cl yh s K0 lf s0 sep1 sepSave2 (A1 (n'5-1)) 0 (List.replicate (Int.toNat n'5) [(SV.str ([]:List UInt8))])).trans (by kernel_rfl)) rfl)))) rfl) (A8 λn'8=>(A8 λn'9=>(A0 ((Nh lf cl yh s K0 lf s0 sep1 sepSave2 (A1 (n'9-1)) 0 (List.replicate (Int.toNat n'9) [(SV.str ([]:List UInt8))])).trans (by kernel_rfl)) rfl)))))))
noncomputable def Vp (lf:Nat):Cfg:=C2 lf [117] (A5 []) [(158,HO)] (A5 [(1,[4]),(0,[0,0])]) [] (A5 []) (some [4]) [] [] []
noncomputable def GS {R:Type} (lf:Nat) (s0 sep1:By) (k0:LL->Option R):Option R:=cond (A4 s0.length) (cond (sep1.length==1) (cond ((0:Int)==0) (cond (((-1):Int)==((-1):Int)) (vl (G8 (pcs (List.getD sep1 0 0) s0)) λl'0=>k0 l'0) none) none) none) none
theorem Ac8 (d:Nat) (s0 sep1):evC (Vp lf) (d+1) σ yh 117 [pS s0,pS sep1] [] s=GS lf s0 sep1 (λr0=>some (.s (.sl false false 1 r0),[],s)):=by
 refine (evE (fn:=Tryz.f117) (by kernel_rfl)).trans ?_
 generalize evC (Vp lf) d=cl
 unfold GS;kernel_rfl
noncomputable abbrev Ah0:Code:=E3 Tryz.f111
noncomputable def Lo (lf:Nat):Cfg:=C2 lf [111] (A5 [(3,[0,1,0,6,0])]) [] (A5 [(10,[2]),(9,[0,2,6,0]),(8,[0,2,6,0]),(7,[0,2,1,4,0]),(6,[0,2,1,4,0,10]),(5,[0,2,1,4,0]),(4,[0,2,0,5,0]),(3,[0,2,6,0,0]),(2,[0,2,6,0]),(1,[0,2]),(0,[0])]) [] (A5 [(0,[3]),(1,[0,2,6,0])]) (some [2]) [] [] []
noncomputable def Ba {R:Type} (lf n:Nat) (s0:By) (n1 n2:Int) (l3:LL) (k0:LL->Option R):Option R:=match n with | 0=>none | n+1=>cond (ltI n2 n1) (cond (inR n2 s0.length) (cond (not (ltI (bAt s0 n2) (65:Int))) (cond (not (ltI 90 (bAt s0 n2))) (vl (wu8 ((bAt s0 n2)+32)) λn'0=>cond (E4 (l3.length+1)) (Ba lf n s0 n1 (A1 (n2+1)) (l3++[[(SV.int .u8 n'0)]]) k0) none) (cond (E4 (l3.length+1)) (Ba lf n s0 n1 (A1 (n2+1)) (l3++[[(SV.int .u8 (bAt s0 n2))]]) k0) none)) (cond (E4 (l3.length+1)) (Ba lf n s0 n1 (A1 (n2+1)) (l3++[[(SV.int .u8 (bAt s0 n2))]]) k0) none)) none) (k0 l3)
theorem PP (n s0 n1 n2 l3):E6 1 ((Lo lf).keep 3) (bd (Lo lf) cl yh (cd [1,1,0,1,0,0] Ah0)) n ⟨gp [(0,pS s0),(2,.fl 0),(6,pI n1),(0,pI n2)] 20,[.arr false 5 1 l3],s⟩ k =
 Ba lf n s0 n1 n2 l3 (λl0=>k (.exit 0) ⟨gp [(3,.fl 0)] 28,[.arr false 5 1 l0],s⟩):=by
 induction n generalizing s0 n1 n2 l3 with
 | zero=>rfl
 | succ n ih=>rw [Ba];simp only [<-ih];kernel_rfl
noncomputable def A09 {R:Type} (lf:Nat) (s0:By) (k0:By->LL->Option R):Option R:=cond ((decide ((0:Int)<=(s0.length:Int)))&&(E4 (Int.toNat (s0.length:Int)))) (Ba lf lf s0 (s0.length:Int) 0 [] (λl'1=>cond (List.all l'1 Tg) (k0 (List.map Qq l'1) l'1) none)) none
theorem A10 (d:Nat) (s0):evC (Lo lf) (d+1) σ yh 111 [pS s0] [] s=A09 lf s0 (λr0 l1=>some (pS r0,[.arr false 5 1 l1],s)):=by
 refine (evE (fn:=Tryz.f111) (by kernel_rfl)).trans ?_
 generalize evC (Lo lf) d=cl
 unfold A09;exact (Eq.trans (by kernel_rfl) (A0 ((PP lf cl yh s (G5 0 (H5 (Lo lf) cl yh (cd [1,1,1] Ah0) (I4 (Lo lf) Tryz.f111))) lf s0 (s0.length:Int) 0 []).trans (by kernel_rfl)) rfl))
noncomputable def NN (lf:Nat):Cfg:=C2 lf [127] (A5 []) [(112,MM)] (A5 [(1,[2]),(0,[0])]) [112] (A5 []) (some [2]) [] [] []
noncomputable def Ay6 {R:Type} (lf:Nat) (s0:By) (k0:Bool->Option R):Option R:=cond (A4 s0.length) (cond (List.isPrefixOf ([48,120]:List UInt8) s0) (k0 true) (cond (A4 s0.length) (k0 (List.isPrefixOf ([48,88]:List UInt8) s0)) none)) none
theorem Ay7 (d:Nat) (s0):evC (NN lf) (d+1) σ yh 127 [pS s0] [] s=Ay6 lf s0 (λr0=>some (pB r0,[],s)):=by
 refine (evE (fn:=Tryz.f127) (by kernel_rfl)).trans ?_
 generalize evC (NN lf) d=cl
 unfold Ay6;kernel_rfl
noncomputable abbrev An:Code:=E3 Tryz.f129
noncomputable def P3 (lf:Nat):Cfg:=C2 lf [129] (A5 [(3,[0,0,2,0,0,4,0])]) [] (A5 [(18,[4,0]),(17,[0,0,4,4,0]),(16,[0,0,4,4,0]),(15,[4,0]),(14,[0,0,4,1,2,0,39]),(9,[0,0,4,1,2,0]),(11,[0,0,4,1,2,0]),(13,[0,0,4,1,2,0]),(7,[4,0]),(12,[0,0,4,2,1,0,26]),(10,[0,0,4,2,1,0,15]),(8,[0,0,4,2,1,0,5]),(6,[0,0,4,2,1,0]),(5,[0,0,4,0,3,0]),(4,[0,0,4,0,3,0]),(3,[0,0,4,4,0,0]),(2,[0,0,4,4,0]),(1,[0,0,4]),(0,[0,0])]) [] (A5 [(0,[6]),(1,[0,0,4,4,0]),(2,[0,0,4,1,2,0])]) (some [4,0]) [] [] []
noncomputable def Mu {R:Type} (s0:By) (base1 n2 b3 n4 n5:Int) (b6:Bool) (k0:By->Int->Int->Int->Int->Int->Option R) (k1:Unit->Option R):Option R:=cond b6 (vl (A1 (wu8 (b3-97))) λn'1=>vl (A1 (n'1+10)) λn'2=>k0 s0 base1 n2 n'2 n4 n5) (cond (not (ltI b3 65)) (cond (not (ltI 70 b3)) (vl (A1 (wu8 (b3-65))) λn'3=>vl (A1 (n'3+10)) λn'4=>k0 s0 base1 n2 n'4 n4 n5) (k1 ())) (k1 ()))
abbrev Zx (b:Code):Prop:=∀ (k:Out->St σ->Option R) s0 base1 n2 b3 n4 n5 b6,B0 (P3 lf) cl yh b ⟨gp [(0,pS s0),(0,pI base1),(4,pI n2),(2,p8 b3),(1,pI n4),(0,pI n5),(15,pB b6)] 32,[],s⟩ k=Mu s0 base1 n2 b3 n4 n5 b6 (λs0 base1 n2 d3 n4 n5=>k .normal ⟨gp [(0,pS s0),(0,pI base1),(4,pI n2),(1,pI d3),(2,pI n4),(0,pI n5)] 48,[],s⟩) (λ_=>k .ret ⟨gp [(4,pI (0:Int)),(0,pB false)] 55,[],s⟩)
theorem OH:Zx (R:=R) lf cl yh s (cd [1,1,0,1,0,0,1,1,0,0,1,1,0,1,0,1,1,1] An):=by
 intro k s0 base1 n2 b3 n4 n5 b6;unfold Mu;kernel_rfl
noncomputable def Mv {R:Type} (s0:By) (base1 n2 b3 n4 n5:Int) (b6:Bool) (k0:By->Int->Int->Int->Int->Int->Option R) (k1:Unit->Option R):Option R:=cond b6 (vl (A1 (wu8 (b3-48))) λn'0=>k0 s0 base1 n2 n'0 n4 n5) (cond (not (ltI b3 97)) (Mu s0 base1 n2 b3 n4 n5 (not (ltI 102 b3)) (λs'5 base'6 n'7 d'8 n'9 n'10=>k0 s'5 base'6 n'7 d'8 n'9 n'10) (λ_=>k1 ())) (Mu s0 base1 n2 b3 n4 n5 false (λs'11 base'12 n'13 d'14 n'15 n'16=>k0 s'11 base'12 n'13 d'14 n'15 n'16) (λ_=>k1 ())))
abbrev Jq (b:Code):Prop:=∀ (k:Out->St σ->Option R) s0 base1 n2 b3 n4 n5 b6,B0 (P3 lf) cl yh b ⟨gp [(0,pS s0),(0,pI base1),(4,pI n2),(2,p8 b3),(1,pI n4),(0,pI n5),(5,pB b6)] 42,[],s⟩ k=Mv s0 base1 n2 b3 n4 n5 b6 (λs0 base1 n2 d3 n4 n5=>k .normal ⟨gp [(0,pS s0),(0,pI base1),(4,pI n2),(1,pI d3),(2,pI n4),(0,pI n5)] 48,[],s⟩) (λ_=>k .ret ⟨gp [(4,pI (0:Int)),(0,pB false)] 55,[],s⟩)
theorem OI (b_110100110011010111:Code) (h_digs_j0:Zx (R:=R) lf cl yh s b_110100110011010111):Jq (R:=R) lf cl yh s (cd [1,1,0,1,0,0,1,1,0,0,1,1,0,1,0,1] (Q2 [1,1,0,1,0,0,1,1,0,0,1,1,0,1,0,1,1,1] b_110100110011010111 An)):=by
 intro k s0 base1 n2 b3 n4 n5 b6;unfold Mv;simp only [<-h_digs_j0 k];kernel_rfl
theorem OJ:Jq (R:=R) lf cl yh s (cd [1,1,0,1,0,0,1,1,0,0,1,1,0,1,0,1] An):=by
 intro k s0 base1 n2 b3 n4 n5 b6;exact Eq.trans (by kernel_rfl) (OI lf cl yh s (cd [1,1,0,1,0,0,1,1,0,0,1,1,0,1,0,1,1,1] An) (OH lf cl yh s) k s0 base1 n2 b3 n4 n5 b6)
noncomputable def Mw {R:Type} (s0:By) (base1 n2 d3 n4 n5:Int) (k0:Unit->Option R) (k1:By->Int->Int->Int->Int->Option R):Option R:=cond (not (ltI d3 base1)) (k0 ()) (vl (A1 ((A1 (n2*base1))+d3)) λn'23=>vl (if ((1099511627776:Int)<n'23) then (1099511627776:Int) else n'23) λn'24=>k1 s0 base1 n'24 n4 n5)
abbrev Qp (b:Code):Prop:=∀ (k:Out->St σ->Option R) s0 base1 n2 d3 n4 n5,B0 (P3 lf) cl yh b ⟨gp [(0,pS s0),(0,pI base1),(4,pI n2),(1,pI d3),(2,pI n4),(0,pI n5)] 48,[],s⟩ k=Mw s0 base1 n2 d3 n4 n5 (λ_=>k .ret ⟨gp [(4,pI (0:Int)),(0,pB false)] 55,[],s⟩) (λs0 base1 n2 n3 n4=>k .normal ⟨gp [(0,pS s0),(0,pI base1),(4,pI n2),(4,pI n3),(0,pI n4)] 48,[],s⟩)
theorem OK:Qp (R:=R) lf cl yh s (cd [1,1,0,1,0,0,1,1,0,0,1,1,1] An):=by
 intro k s0 base1 n2 d3 n4 n5;unfold Mw;kernel_rfl
noncomputable def De {R:Type} (lf n:Nat) (s0:By) (base1 n2 n3 n4:Int) (k0:Unit->Option R) (k1:Int->Option R):Option R:=match n with | 0=>none | n+1=>cond (ltI n4 n3) (cond (inR n4 s0.length) (cond (not (ltI (bAt s0 n4) (48:Int))) (Mv s0 base1 n2 (bAt s0 n4) n3 n4 (not (ltI 57 (bAt s0 n4))) (λs'17 base'18 n'19 d'20 n'21 n'22=>Mw s'17 base'18 n'19 d'20 n'21 n'22 (λ_=>k0 ()) (λs'25 base'26 n'27 n'28 n'29=>vl (A1 (n'29+1)) λn'30=>De lf n s'25 base'26 n'27 n'28 n'30 k0 k1)) (λ_=>k0 ())) (Mv s0 base1 n2 (bAt s0 n4) n3 n4 false (λs'31 base'32 n'33 d'34 n'35 n'36=>Mw s'31 base'32 n'33 d'34 n'35 n'36 (λ_=>k0 ()) (λs'37 base'38 n'39 n'40 n'41=>vl (A1 (n'41+1)) λn'42=>De lf n s'37 base'38 n'39 n'40 n'42 k0 k1)) (λ_=>k0 ()))) none) (k1 n2)
theorem OL (b_1101001100110101:Code) (h_digs_j1:Jq (R:=R) lf cl yh s b_1101001100110101) (b_1101001100111:Code) (h_digs_j2:Qp (R:=R) lf cl yh s b_1101001100111) (n:Nat) (s0:By) (base1 n2 n3 n4:Int):E6 0 ((P3 lf).keep 3) (bd (P3 lf) cl yh (cd [1,1,0,1,0,0] (Q2 [1,1,0,1,0,0,1,1,0,0,1,1,1] b_1101001100111 (Q2 [1,1,0,1,0,0,1,1,0,0,1,1,0,1,0,1] b_1101001100110101 An)))) n ⟨gp [(0,pS s0),(0,pI base1),(4,pI n2),(4,pI n3),(0,pI n4)] 48,[],s⟩ k =
 De lf n s0 base1 n2 n3 n4 (λ_=>k .ret ⟨gp [(4,pI (0:Int)),(0,pB false)] 55,[],s⟩) (λn0=>k (.exit 0) ⟨gp [(6,pI n0)] 54,[],s⟩):=by
 induction n generalizing s0 base1 n2 n3 n4 with
 | zero=>rfl
 | succ n ih=>rw [De];exact let K0:=(G5 1 (H5 (P3 lf) cl yh (cd [1,1,0,1,0,0,1,1,1] An) (lpK 0 ((P3 lf).keep 3) (bd (P3 lf) cl yh (cd [1,1,0,1,0,0] (Q2 [1,1,0,1,0,0,1,1,0,0,1,1,1] b_1101001100111 (Q2 [1,1,0,1,0,0,1,1,0,0,1,1,0,1,0,1] b_1101001100110101 An)))) n k)));let K1:=(G5 2 (H5 (P3 lf) cl yh b_1101001100111 K0));(Eq.trans (by kernel_rfl) (A0 (A0 (A0 ((h_digs_j1 K1 s0 base1 n2 (bAt s0 n4) n3 n4 (not (ltI 57 (bAt s0 n4)))).trans (congr (congr rfl (fx6 λs'17 base'18 n'19 d'20 n'21 n'22=>(Eq.trans (by kernel_rfl) ((h_digs_j2 K0 s'17 base'18 n'19 d'20 n'21 n'22).trans (congr (congr rfl (by kernel_rfl)) (fx5 λs'25 base'26 n'27 n'28 n'29=>(Eq.trans (by kernel_rfl) (A8 λn'30=>(ih s'25 base'26 n'27 n'28 n'30))))))))) (by kernel_rfl))) ((h_digs_j1 K1 s0 base1 n2 (bAt s0 n4) n3 n4 false).trans (congr (congr rfl (fx6 λs'31 base'32 n'33 d'34 n'35 n'36=>(Eq.trans (by kernel_rfl) ((h_digs_j2 K0 s'31 base'32 n'33 d'34 n'35 n'36).trans (congr (congr rfl (by kernel_rfl)) (fx5 λs'37 base'38 n'39 n'40 n'41=>(Eq.trans (by kernel_rfl) (A8 λn'42=>(ih s'37 base'38 n'39 n'40 n'42))))))))) (by kernel_rfl)))) rfl) rfl))
noncomputable def Aj2 {R:Type} (lf:Nat) (s0:By) (base1:Int) (k0:Int->Bool->Option R):Option R:=De lf lf s0 base1 0 (s0.length:Int) 0 (λ_=>k0 0 false) (λn'43=>k0 n'43 true)
theorem Ax1 (b_1101001100110101:Code) (h_digs_j1:Jq (R:=PV × List Blk × σ) lf cl yh s b_1101001100110101) (b_1101001100111:Code) (h_digs_j2:Qp (R:=PV × List Blk × σ) lf cl yh s b_1101001100111) (s0:By) (base1:Int):B0 (P3 lf) cl yh (cd [] (Q2 [1,1,0,1,0,0,1,1,0,0,1,1,1] b_1101001100111 (Q2 [1,1,0,1,0,0,1,1,0,0,1,1,0,1,0,1] b_1101001100110101 An))) ⟨[pS s0,pI base1]++tps 59,[],s⟩ (I4 (P3 lf) Tryz.f129)=Aj2 lf s0 base1 (λr0 r1=>some (.tup [pI r0,pB r1],[],s)):=by
 unfold Aj2;exact (Eq.trans (by kernel_rfl) ((OL lf cl yh s (G5 0 (H5 (P3 lf) cl yh (cd [1,1,1] An) (I4 (P3 lf) Tryz.f129))) b_1101001100110101 h_digs_j1 b_1101001100111 h_digs_j2 lf s0 base1 0 (s0.length:Int) 0).trans (by kernel_rfl)))
theorem Ax2 (d:Nat) (s0 base1):evC (P3 lf) (d+1) σ yh 129 [pS s0,pI base1] [] s=Aj2 lf s0 base1 (λr0 r1=>some (.tup [pI r0,pB r1],[],s)):=
 (evE (fn:=Tryz.f129) (by kernel_rfl)).trans (Eq.trans (by kernel_rfl) (Ax1 lf (evC (P3 lf) d) yh s (cd [1,1,0,1,0,0,1,1,0,0,1,1,0,1,0,1] An) (OJ lf (evC (P3 lf) d) yh s) (cd [1,1,0,1,0,0,1,1,0,0,1,1,1] An) (OK lf (evC (P3 lf) d) yh s) s0 base1))
noncomputable def Ah9 (lf:Nat):Cfg:=C2 lf [128] (A5 []) [(127,ML),(129,MK)] (A5 [(7,[2,0]),(2,[2,0]),(4,[2,0]),(6,[2,0]),(5,[0,14]),(3,[0,6]),(1,[0,3]),(0,[0])]) [127,129] (A5 [(0,[0])]) (some [2,0]) [] [] []
noncomputable def num {R:Type} (lf:Nat) (s0:By) (k0:Int->Bool->Option R):Option R:=cond (s0==[]) (k0 0 false) (cond (A4 s0.length) (cond (W5 s0) (cond (N3 2 (s0.length:Int) s0.length) (vl (cut s0 2 (s0.length:Int)) λs'0=>cond (A4 s'0.length) (cond (ltN 16 17) (vl (↑(Iu (D5 16 0 s'0)):Int) λn'1=>k0 n'1 (Option.isSome (D5 16 0 s'0))) none) none) none) (cond (ltI 1 (s0.length:Int)) (cond (inR 0 s0.length) (cond ((bAt s0 (0:Int))==48) (cond (N3 1 (s0.length:Int) s0.length) (vl (cut s0 1 (s0.length:Int)) λs'2=>cond (A4 s'2.length) (cond (ltN 8 17) (vl (↑(Iu (D5 8 0 s'2)):Int) λn'3=>k0 n'3 (Option.isSome (D5 8 0 s'2))) none) none) none) (cond (A4 s0.length) (cond (ltN 10 17) (vl (↑(Iu (D5 10 0 s0)):Int) λn'4=>k0 n'4 (Option.isSome (D5 10 0 s0))) none) none)) none) (cond (A4 s0.length) (cond (ltN 10 17) (vl (↑(Iu (D5 10 0 s0)):Int) λn'5=>k0 n'5 (Option.isSome (D5 10 0 s0))) none) none))) none)
theorem Be4 (d:Nat) (s0):evC (Ah9 lf) (d+1) σ yh 128 [pS s0] [] s=num lf s0 (λr0 r1=>some (.tup [pI r0,pB r1],[],s)):=by
 refine (evE (fn:=Tryz.f128) (by kernel_rfl)).trans ?_
 generalize evC (Ah9 lf) d=cl
 unfold num;kernel_rfl
noncomputable def EQ (lf:Nat):Cfg:=C2 lf [126] (A5 []) [(117,HS)] (A5 [(5,[2]),(4,[3]),(3,[3,0,13]),(2,[3,0]),(1,[3]),(0,[0])]) [] (A5 []) (some [2]) [] [] []
noncomputable def parts {R:Type} (lf:Nat) (s0:By) (k0:LL->Option R):Option R:=cond (A4 s0.length) (cond (1==1) (vl (G8 (pcs (List.getD ([46]:List UInt8) 0 0) s0)) λl'1=>vl (A1 ((l'1.length:Int)-1)) λn'3=>cond (ltI 0 n'3) (cond (inR n'3 l'1.length) (cond (okE Gw l'1 (Int.toNat n'3) 0) (vl (gX l'1 (Int.toNat n'3) 0) λs'4=>cond (s'4==[]) (cond (N3 0 n'3 l'1.length) (k0 (cut l'1 0 n'3)) none) (k0 l'1)) none) none) (k0 l'1)) none) none
theorem Ao5 (d:Nat) (s0):evC (EQ lf) (d+1) σ yh 126 [pS s0] [] s=parts lf s0 (λr0=>some (.s (.sl false false 1 r0),[],s)):=by
 refine (evE (fn:=Tryz.f126) (by kernel_rfl)).trans ?_
 generalize evC (EQ lf) d=cl
 unfold parts;kernel_rfl
noncomputable def Qj (lf:Nat):Cfg:=C2 lf [93] (A5 []) [(126,UN),(127,ML),(128,A99),(129,MK)] (A5 [(7,[2]),(6,[4,3]),(5,[2]),(4,[6]),(3,[4,13]),(2,[4]),(1,[3]),(0,[0])]) [127,128,129] (A5 []) (some [2]) [] [] []
noncomputable def Tp {R:Type} (lf:Nat) (s0:By) (k0:Bool->Option R):Option R:=cond (A4 s0.length) (vl (A1 ((↑(List.length (G8 (D4 s0))):Int)-1)) λn'2=>cond (inR n'2 (List.length (G8 (D4 s0)))) (cond (okE Gw (G8 (D4 s0)) (Int.toNat n'2) 0) (vl (gX (G8 (D4 s0)) (Int.toNat n'2) 0) λs'3=>cond (A4 s'3.length) (cond (W5 s'3) (cond (A4 s'3.length) (vl (↑(Iu (X7 s'3)):Int) λn'5=>k0 (Option.isSome (X7 s'3))) none) (cond (A4 s'3.length) (cond (ltN 10 17) (vl (↑(Iu (D5 10 0 s'3)):Int) λn'6=>cond (Option.isSome (D5 10 0 s'3)) (k0 (not (s'3==[]))) (k0 false)) none) none)) none) none) none) none
theorem QE (d:Nat) (s0):evC (Qj lf) (d+1) σ yh 93 [pS s0] [] s=Tp lf s0 (λr0=>some (pB r0,[],s)):=by
 refine (evE (fn:=Tryz.f93) (by kernel_rfl)).trans ?_
 generalize evC (Qj lf) d=cl
 unfold Tp;kernel_rfl
noncomputable abbrev Zo:Code:=E3 Tryz.f101
noncomputable def Y0 (lf:Nat):Cfg:=C2 lf [101] (A5 [(2,[0,1,0])]) [] (A5 [(6,[2]),(3,[0,2]),(5,[2]),(4,[0,2,15]),(2,[0,2,3]),(1,[0,2]),(0,[0])]) [] (A5 [(0,[0]),(1,[0,2])]) (some [2]) [] [] []
noncomputable def U0 {R:Type} (lf n:Nat) (s0:By) (i1:Int) (k0:Unit->Option R) (k1:By->Option R):Option R:=match n with | 0=>none | n+1=>cond (ltI i1 (s0.length:Int)) (cond (inR i1 s0.length) (cond (ltI (bAt s0 i1) (48:Int)) (k0 ()) (cond (inR i1 s0.length) (cond (ltI 57 (bAt s0 i1)) (k0 ()) (U0 lf n s0 (A1 (i1+1)) k0 k1)) none)) none) (k1 s0)
theorem Zb (n s0 i1):E6 0 ((Y0 lf).keep 2) (bd (Y0 lf) cl yh (cd [1,0,1,0,0] Zo)) n ⟨gp [(0,pS s0),(2,pI i1)] 18,[],s⟩ k =
 U0 lf n s0 i1 (λ_=>k .ret ⟨gp [(2,pB false)] 19,[],s⟩) (λs0=>k (.exit 0) ⟨gp [(0,pS s0)] 21,[],s⟩):=by
 induction n generalizing s0 i1 with
 | zero=>rfl
 | succ n ih=>rw [U0];simp only [<-ih];kernel_rfl
noncomputable def Tt {R:Type} (lf:Nat) (s0:By) (k0:Bool->Option R):Option R:=U0 lf lf s0 0 (λ_=>k0 false) (λs'0=>k0 (not (s'0==[])))
theorem RK (d:Nat) (s0):evC (Y0 lf) (d+1) σ yh 101 [pS s0] [] s=Tt lf s0 (λr0=>some (pB r0,[],s)):=by
 refine (evE (fn:=Tryz.f101) (by kernel_rfl)).trans ?_
 generalize evC (Y0 lf) d=cl
 unfold Tt;exact (Eq.trans (by kernel_rfl) ((Zb lf cl yh s (G5 0 (H5 (Y0 lf) cl yh (cd [1,1] Zo) (I4 (Y0 lf) Tryz.f101))) lf s0 0).trans (by kernel_rfl)))
noncomputable abbrev IB:Code:=E3 Tryz.f53
noncomputable def Cb (lf:Nat):Cfg:=C2 lf [53] (A5 [(4,[0,0,2,0,0,0])]) [] (A5 [(9,[4]),(5,[0,0,3,0,0]),(8,[0,0,3,0,0]),(7,[0,0,3,1]),(6,[0,0,3,0,0,16]),(4,[0,0,3,0,0,3]),(3,[0,0,3,0,0]),(2,[0,0,3,0]),(1,[0,0,3]),(0,[0,0])]) [] (A5 [(0,[5]),(1,[0,0,3,0,0])]) (some [4]) [] [] []
noncomputable def O8 {R:Type} (lf n:Nat) (s0:By) (at1 from2 i3:Int) (l4:LL) (k0:LL->Option R):Option R:=match n with | 0=>none | n+1=>cond (not (ltI (s0.length:Int) i3)) (cond (i3==(s0.length:Int)) (cond (N3 from2 i3 s0.length) (cond (E4 (l4.length+1)) (O8 lf n s0 at1 (A1 (i3+1)) (A1 (i3+1)) (l4++[[(SV.str (cut s0 from2 i3))]]) k0) none) none) (cond (inR i3 s0.length) (cond ((bAt s0 i3)==at1) (cond (N3 from2 i3 s0.length) (cond (E4 (l4.length+1)) (O8 lf n s0 at1 (A1 (i3+1)) (A1 (i3+1)) (l4++[[(SV.str (cut s0 from2 i3))]]) k0) none) none) (O8 lf n s0 at1 from2 (A1 (i3+1)) l4 k0)) none)) (k0 l4)
theorem GP (n s0 at1 from2 i3 l4):E6 1 ((Cb lf).keep 4) (bd (Cb lf) cl yh (cd [1,1,1,0,1,0,0] IB)) n ⟨gp [(0,pS s0),(0,p8 at1),(3,.fl 0),(0,pI from2),(0,pI i3)] 27,[.arr true 9 1 l4],s⟩ k =
 O8 lf n s0 at1 from2 i3 l4 (λl0=>k (.exit 0) ⟨gp [(5,.fl 0)] 29,[.arr true 9 1 l0],s⟩):=by
 induction n generalizing s0 at1 from2 i3 l4 with
 | zero=>rfl
 | succ n ih=>rw [O8];simp only [<-ih];kernel_rfl
noncomputable def Ya {R:Type} (lf:Nat) (s0:By) (at1:Int) (k0:LL->Option R):Option R:=O8 lf lf s0 at1 0 0 [] (λl'0=>k0 l'0)
theorem Ac1 (d:Nat) (s0 at1):evC (Cb lf) (d+1) σ yh 53 [pS s0,p8 at1] [] s=Ya lf s0 at1 (λl0=>some (.fl 0,[.arr true 9 1 l0],s)):=by
 refine (evE (fn:=Tryz.f53) (by kernel_rfl)).trans ?_
 generalize evC (Cb lf) d=cl
 unfold Ya;exact (Eq.trans (by kernel_rfl) ((GP lf cl yh s (G5 0 (H5 (Cb lf) cl yh (cd [1,1,1,1] IB) (I4 (Cb lf) Tryz.f53))) lf s0 at1 0 0 []).trans (by kernel_rfl)))
noncomputable abbrev Lf:Code:=E3 Tryz.f145
noncomputable def Ee (lf:Nat):Cfg:=C2 lf [145] (A5 []) [] (A5 [(7,[2]),(2,[2]),(4,[2]),(6,[2]),(5,[0,23]),(3,[0,12]),(1,[0,2]),(0,[0])]) [] (A5 [(0,[])]) (some [2]) [] [] []
noncomputable def Og {R:Type} (b0:Int) (b1:Bool) (k0:Int->Option R) (k1:Int->Bool->Option R):Option R:=cond b1 (vl (A1 (wu8 (b0-97))) λn'1=>vl (A1 (n'1+10)) λn'2=>k0 n'2) (cond (not (ltI b0 65)) (cond (not (ltI 70 b0)) (vl (A1 (wu8 (b0-65))) λn'3=>vl (A1 (n'3+10)) λn'4=>k0 n'4) (k1 b0 (not (ltI 70 b0)))) (k1 b0 false))
abbrev AZ (b:Code):Prop:=∀ (k:Out->St σ->Option R) b0 b1,B0 (Ee lf) cl yh b ⟨gp [(0,p8 b0),(12,pB b1)] 21,[],s⟩ k=Og b0 b1 (λn0=>k .ret ⟨gp [(2,pI n0)] 32,[],s⟩) (λb0 b1=>k .normal ⟨gp [(0,p8 b0),(23,pB b1)] 10,[],s⟩)
theorem RG:AZ (R:=R) lf cl yh s (cd [1,0,0,1,1,1] Lf):=by
 intro k b0 b1;unfold Og;kernel_rfl
noncomputable def Oh {R:Type} (b0:Int) (b1:Bool) (k0:Int->Option R) (k1:Int->Bool->Option R):Option R:=cond b1 (vl (A1 (wu8 (b0-48))) λn'0=>k0 n'0) (cond (not (ltI b0 97)) (Og b0 (not (ltI 102 b0)) (λn'5=>k0 n'5) (λb'6 b'7=>k1 b'6 b'7)) (Og b0 false (λn'8=>k0 n'8) (λb'9 b'10=>k1 b'9 b'10)))
abbrev Rm (b:Code):Prop:=∀ (k:Out->St σ->Option R) b0 b1,B0 (Ee lf) cl yh b ⟨gp [(0,p8 b0),(2,pB b1)] 31,[],s⟩ k=Oh b0 b1 (λn0=>k .ret ⟨gp [(2,pI n0)] 32,[],s⟩) (λb0 b1=>k .normal ⟨gp [(0,p8 b0),(23,pB b1)] 10,[],s⟩)
theorem RH (b_100111:Code) (h_rdig_j0:AZ (R:=R) lf cl yh s b_100111):Rm (R:=R) lf cl yh s (cd [1,0,0,1] (Q2 [1,0,0,1,1,1] b_100111 Lf)):=by
 intro k b0 b1;unfold Oh;simp only [<-h_rdig_j0 k];kernel_rfl
theorem RJ:Rm (R:=R) lf cl yh s (cd [1,0,0,1] Lf):=by
 intro k b0 b1;exact Eq.trans (by kernel_rfl) (RH lf cl yh s (cd [1,0,0,1,1,1] Lf) (RG lf cl yh s) k b0 b1)
noncomputable def Ap6 {R:Type} (lf:Nat) (b0:Int) (k0:Int->Option R):Option R:=cond (not (ltI b0 48)) (Oh b0 (not (ltI 57 b0)) (λn'11=>k0 n'11) (λb'12 b'13=>k0 99)) (Oh b0 false (λn'14=>k0 n'14) (λb'15 b'16=>k0 99))
theorem A44 (b_1001:Code) (h_rdig_j1:Rm (R:=PV × List Blk × σ) lf cl yh s b_1001) (b0:Int):B0 (Ee lf) cl yh (cd [] (Q2 [1,0,0,1] b_1001 Lf)) ⟨[p8 b0]++tps 34,[],s⟩ (I4 (Ee lf) Tryz.f145)=Ap6 lf b0 (λr0=>some (pI r0,[],s)):=by
 unfold Ap6;exact let K0:=(G5 0 (H5 (Ee lf) cl yh (cd [1,1] Lf) (I4 (Ee lf) Tryz.f145)));(Eq.trans (by kernel_rfl) (A0 ((h_rdig_j1 K0 b0 (not (ltI 57 b0))).trans (by kernel_rfl)) ((h_rdig_j1 K0 b0 false).trans (by kernel_rfl))))
theorem A45 (d:Nat) (b0):evC (Ee lf) (d+1) σ yh 145 [p8 b0] [] s=Ap6 lf b0 (λr0=>some (pI r0,[],s)):=
 (evE (fn:=Tryz.f145) (by kernel_rfl)).trans (Eq.trans (by kernel_rfl) (A44 lf (evC (Ee lf) d) yh s (cd [1,0,0,1] Lf) (RJ lf (evC (Ee lf) d) yh s) b0))
noncomputable abbrev X9:Code:=E3 Tryz.f102
noncomputable def K7 (lf:Nat):Cfg:=C2 lf [102] (A5 [(10,[0,1,0,0,0,0])]) [(145,Af4)] (A5 [(16,[2,0]),(11,[0,3,0,0]),(15,[0,3,0,0]),(14,[2,0]),(13,[0,3,0,0,0,44]),(12,[0,3,0,0,0]),(10,[0,3,0,0,36]),(9,[0,3,0,0]),(8,[0,3,0]),(5,[0,3]),(7,[0,3]),(6,[0,3,32]),(4,[0,3,22]),(3,[0,3]),(2,[2,0]),(1,[0,8]),(0,[0])]) [145] (A5 [(0,[5]),(1,[0,3,0,0])]) (some [2,0]) [] [] []
noncomputable def Tw {R:Type} (s0:By) (k0:By->Option R):Option R:=cond (N3 2 (s0.length:Int) s0.length) (vl (cut s0 2 (s0.length:Int)) λs'0=>k0 s'0) none
abbrev BD (b:Code):Prop:=∀ (k:Out->St σ->Option R) s0,B0 (K7 lf) cl yh b ⟨gp [(0,pS s0),(3,pI (10:Int)),(22,pB true)] 32,[],s⟩ k=Tw s0 (λs0=>k .normal ⟨gp [(0,pS s0),(3,pI (16:Int))] 55,[],s⟩)
theorem SD:BD (R:=R) lf cl yh s (cd [1,1,1,0,1] X9):=by
 intro k s0;unfold Tw;kernel_rfl
noncomputable def Dr {R:Type} (lf n:Nat) (s0:By) (n1 i2:Int) (k0:Unit->Option R) (k1:Int->Option R):Option R:=match n with | 0=>none | n+1=>cond (ltI i2 (s0.length:Int)) (cond (inR i2 s0.length) (cond (inR (bAt s0 i2) 256) (vl (↑(dig (u8n (bAt s0 i2))):Int) λn'3=>cond (not (ltI n'3 16)) (k0 ()) (vl (A1 ((A1 (n1*16))+n'3)) λn'4=>vl (if ((1099511627776:Int)<n'4) then (1099511627776:Int) else n'4) λn'5=>Dr lf n s0 n'5 (A1 (i2+1)) k0 k1)) none) none) (k1 n1)
theorem SK (n s0 n1 i2):E6 0 ((K7 lf).keep 10) (bd (K7 lf) cl yh (cd [1,1,1,1,1,0,1,0,0] X9)) n ⟨gp [(0,pS s0),(3,pI (16:Int)),(0,pI n1),(0,pI i2)] 53,[],s⟩ k =
 Dr lf n s0 n1 i2 (λ_=>k .ret ⟨gp [(2,pI (0:Int)),(0,pB false)] 56,[],s⟩) (λn0=>k (.exit 0) ⟨gp [(5,pI n0)] 54,[],s⟩):=by
 induction n generalizing s0 n1 i2 with
 | zero=>rfl
 | succ n ih=>rw [Dr];simp only [<-ih];kernel_rfl
noncomputable def Tx {R:Type} (lf:Nat) (s0:By) (k0:Int->Bool->Option R):Option R:=Dr lf lf s0 0 0 (λ_=>k0 0 false) (λn'6=>k0 n'6 true)
abbrev BE (b:Code):Prop:=∀ (k:Out->St σ->Option R) s0,B0 (K7 lf) cl yh b ⟨gp [(0,pS s0),(3,pI (16:Int))] 55,[],s⟩ k=Tx lf s0 (λn0 b1=>k .ret ⟨gp [(2,pI n0),(0,pB b1)] 56,[],s⟩)
theorem SE:BE (R:=R) lf cl yh s (cd [1,1,1,1] X9):=by
 intro k s0;unfold Tx;exact (Eq.trans (by kernel_rfl) ((SK lf cl yh s (G5 0 (H5 (K7 lf) cl yh (cd [1,1,1,1,1,1] X9) k)) lf s0 0 0).trans (by kernel_rfl)))
noncomputable def Ki {R:Type} (s0:By) (b1:Bool) (k0:By->Int->Option R) (k1:By->Bool->Option R):Option R:=cond b1 (cond (N3 2 (s0.length:Int) s0.length) (vl (cut s0 2 (s0.length:Int)) λs'9=>k0 s'9 16) none) (cond (not (ltI (s0.length:Int) (2:Int))) (cond (inR 0 s0.length) (cond ((bAt s0 (0:Int))==48) (cond (N3 1 (s0.length:Int) s0.length) (vl (cut s0 1 (s0.length:Int)) λs'10=>k0 s'10 8) none) (k1 s0 ((bAt s0 (0:Int))==48))) none) (k1 s0 false))
abbrev BF (b:Code):Prop:=∀ (k:Out->St σ->Option R) s0 b1,B0 (K7 lf) cl yh b ⟨gp [(0,pS s0),(3,pI (10:Int)),(22,pB b1)] 32,[],s⟩ k=Ki s0 b1 (λs0 base1=>k .normal ⟨gp [(0,pS s0),(3,pI base1)] 55,[],s⟩) (λs0 b1=>k .normal ⟨gp [(0,pS s0),(3,pI (10:Int)),(32,pB b1)] 22,[],s⟩)
theorem SG:BF (R:=R) lf cl yh s (cd [1,1,1,0,1] X9):=by
 intro k s0 b1;unfold Ki;kernel_rfl
noncomputable def Bf {R:Type} (lf n:Nat) (s0:By) (base1 n2 i3:Int) (k0:Unit->Option R) (k1:Int->Option R):Option R:=match n with | 0=>none | n+1=>cond (ltI i3 (s0.length:Int)) (cond (inR i3 s0.length) (cond (inR (bAt s0 i3) 256) (vl (↑(dig (u8n (bAt s0 i3))):Int) λn'16=>cond (not (ltI n'16 base1)) (k0 ()) (vl (A1 ((A1 (n2*base1))+n'16)) λn'17=>vl (if ((1099511627776:Int)<n'17) then (1099511627776:Int) else n'17) λn'18=>Bf lf n s0 base1 n'18 (A1 (i3+1)) k0 k1)) none) none) (k1 n2)
theorem Xz (n s0 base1 n2 i3):E6 0 ((K7 lf).keep 10) (bd (K7 lf) cl yh (cd [1,1,1,1,1,0,1,0,0] X9)) n ⟨gp [(0,pS s0),(3,pI base1),(0,pI n2),(0,pI i3)] 53,[],s⟩ k =
 Bf lf n s0 base1 n2 i3 (λ_=>k .ret ⟨gp [(2,pI (0:Int)),(0,pB false)] 56,[],s⟩) (λn0=>k (.exit 0) ⟨gp [(5,pI n0)] 54,[],s⟩):=by
 induction n generalizing s0 base1 n2 i3 with
 | zero=>rfl
 | succ n ih=>rw [Bf];simp only [<-ih];kernel_rfl
noncomputable def Kj {R:Type} (lf:Nat) (s0:By) (base1:Int) (k0:Int->Bool->Option R):Option R:=Bf lf lf s0 base1 0 0 (λ_=>k0 0 false) (λn'19=>k0 n'19 true)
abbrev BG (b:Code):Prop:=∀ (k:Out->St σ->Option R) s0 base1,B0 (K7 lf) cl yh b ⟨gp [(0,pS s0),(3,pI base1)] 55,[],s⟩ k=Kj lf s0 base1 (λn0 b1=>k .ret ⟨gp [(2,pI n0),(0,pB b1)] 56,[],s⟩)
theorem SH:BG (R:=R) lf cl yh s (cd [1,1,1,1] X9):=by
 intro k s0 base1;unfold Kj;exact (Eq.trans (by kernel_rfl) ((Xz lf cl yh s (G5 0 (H5 (K7 lf) cl yh (cd [1,1,1,1,1,1] X9) k)) lf s0 base1 0 0).trans (by kernel_rfl)))
noncomputable def Kk {R:Type} (lf:Nat) (s0:By) (k0:Int->Bool->Option R):Option R:=Bf lf lf s0 10 0 0 (λ_=>k0 0 false) (λn'22=>k0 n'22 true)
abbrev BH (b:Code):Prop:=∀ (k:Out->St σ->Option R) s0 b1,B0 (K7 lf) cl yh b ⟨gp [(0,pS s0),(3,pI (10:Int)),(32,pB b1)] 22,[],s⟩ k=Kk lf s0 (λn0 b1=>k .ret ⟨gp [(2,pI n0),(0,pB b1)] 56,[],s⟩)
theorem SJ:BH (R:=R) lf cl yh s (cd [1,1,1,1] X9):=by
 intro k s0 b1;unfold Kk;exact (Eq.trans (by kernel_rfl) ((Xz lf cl yh s (G5 0 (H5 (K7 lf) cl yh (cd [1,1,1,1,1,1] X9) k)) lf s0 10 0 0).trans (by kernel_rfl)))
noncomputable def Aq3 {R:Type} (lf:Nat) (s0:By) (k0:Int->Bool->Option R):Option R:=cond (s0==[]) (k0 0 false) (cond (not (ltI (s0.length:Int) (2:Int))) (cond (inR 0 s0.length) (cond ((bAt s0 (0:Int))==48) (cond (inR 1 s0.length) (cond ((bAt s0 (1:Int))==120) (Tw s0 (λs'1=>Tx lf s'1 (λn'7 b'8=>k0 n'7 b'8))) (cond (inR 1 s0.length) (Ki s0 ((bAt s0 (1:Int))==88) (λs'11 base'12=>Kj lf s'11 base'12 (λn'20 b'21=>k0 n'20 b'21)) (λs'13 b'14=>Kk lf s'13 (λn'23 b'24=>k0 n'23 b'24))) none)) none) (Ki s0 false (λs'25 base'26=>Kj lf s'25 base'26 (λn'29 b'30=>k0 n'29 b'30)) (λs'27 b'28=>Kk lf s'27 (λn'31 b'32=>k0 n'31 b'32)))) none) (Ki s0 false (λs'33 base'34=>Kj lf s'33 base'34 (λn'37 b'38=>k0 n'37 b'38)) (λs'35 b'36=>Kk lf s'35 (λn'39 b'40=>k0 n'39 b'40))))
theorem A53 (b_11101:Code) (h_rnum_j0:BD (R:=PV × List Blk × σ) lf cl yh s b_11101) (h_rnum_j2:BF (R:=PV × List Blk × σ) lf cl yh s b_11101) (b_1111:Code) (h_rnum_j1:BE (R:=PV × List Blk × σ) lf cl yh s b_1111) (h_rnum_j3:BG (R:=PV × List Blk × σ) lf cl yh s b_1111) (h_rnum_j4:BH (R:=PV × List Blk × σ) lf cl yh s b_1111) (s0:By):B0 (K7 lf) cl yh (cd [] (Q2 [1,1,1,1] b_1111 (Q2 [1,1,1,0,1] b_11101 X9))) ⟨[pS s0]++tps 59,[],s⟩ (I4 (K7 lf) Tryz.f102)=Aq3 lf s0 (λr0 r1=>some (.tup [pI r0,pB r1],[],s)):=by
 unfold Aq3;exact let K0:=(I4 (K7 lf) Tryz.f102);let K1:=(H5 (K7 lf) cl yh b_1111 K0);(Eq.trans (by kernel_rfl) (A0 rfl (A0 (A0 (A0 (A0 (A0 ((h_rnum_j0 K1 s0).trans (congr rfl (fx1 λs'1=>(Eq.trans (by kernel_rfl) ((h_rnum_j1 K0 s'1).trans (by kernel_rfl)))))) (A0 ((h_rnum_j2 K1 s0 ((bAt s0 (1:Int))==88)).trans (congr (congr rfl (fx2 λs'11 base'12=>(Eq.trans (by kernel_rfl) ((h_rnum_j3 K0 s'11 base'12).trans (by kernel_rfl))))) (fx2 λs'13 b'14=>(Eq.trans (by kernel_rfl) ((h_rnum_j4 K0 s'13 b'14).trans (by kernel_rfl)))))) rfl)) rfl) ((h_rnum_j2 K1 s0 false).trans (congr (congr rfl (fx2 λs'25 base'26=>(Eq.trans (by kernel_rfl) ((h_rnum_j3 K0 s'25 base'26).trans (by kernel_rfl))))) (fx2 λs'27 b'28=>(Eq.trans (by kernel_rfl) ((h_rnum_j4 K0 s'27 b'28).trans (by kernel_rfl))))))) rfl) ((h_rnum_j2 K1 s0 false).trans (congr (congr rfl (fx2 λs'33 base'34=>(Eq.trans (by kernel_rfl) ((h_rnum_j3 K0 s'33 base'34).trans (by kernel_rfl))))) (fx2 λs'35 b'36=>(Eq.trans (by kernel_rfl) ((h_rnum_j4 K0 s'35 b'36).trans (by kernel_rfl)))))))))
theorem A54 (d:Nat) (s0):evC (K7 lf) (d+1) σ yh 102 [pS s0] [] s=Aq3 lf s0 (λr0 r1=>some (.tup [pI r0,pB r1],[],s)):=
 (evE (fn:=Tryz.f102) (by kernel_rfl)).trans (Eq.trans (by kernel_rfl) (A53 lf (evC (K7 lf) d) yh s (cd [1,1,1,0,1] X9) (SD lf (evC (K7 lf) d) yh s) (SG lf (evC (K7 lf) d) yh s) (cd [1,1,1,1] X9) (SE lf (evC (K7 lf) d) yh s) (SH lf (evC (K7 lf) d) yh s) (SJ lf (evC (K7 lf) d) yh s) s0))
noncomputable def Vn (lf:Nat):Cfg:=C2 lf [100] (A5 []) [(53,Uy)] (A5 [(4,[2]),(3,[3]),(2,[3,13]),(1,[3]),(0,[0])]) [] (A5 []) (some [2]) [] [] []
noncomputable def GL {R:Type} (lf:Nat) (s0:By) (k0:LL->Option R):Option R:=cond (A4 s0.length) (vl (G8 (pcs (u8n (46:Int)) s0)) λl'1=>cond (ltI 1 (l'1.length:Int)) (vl (A1 ((l'1.length:Int)-1)) λn'2=>cond (inR n'2 l'1.length) (cond (okE Gw l'1 (Int.toNat n'2) 0) (vl (gX l'1 (Int.toNat n'2) 0) λs'3=>cond (s'3==[]) (vl (A1 ((l'1.length:Int)-1)) λn'4=>cond (N3 0 n'4 l'1.length) (k0 (cut l'1 0 n'4)) none) (k0 l'1)) none) none) (k0 l'1)) none
theorem Ab5 (d:Nat) (s0):evC (Vn lf) (d+1) σ yh 100 [pS s0] [] s=GL lf s0 (λr0=>some (.s (.sl false false 1 r0),[],s)):=by
 refine (evE (fn:=Tryz.f100) (by kernel_rfl)).trans ?_
 generalize evC (Vn lf) d=cl
 unfold GL;kernel_rfl
noncomputable def Ls (lf:Nat):Cfg:=C2 lf [68] (A5 []) [(100,HQ),(101,Zh),(102,Af6)] (A5 [(6,[2]),(5,[4,1]),(4,[2]),(3,[4,11]),(2,[4]),(1,[3]),(0,[0])]) [101,102] (A5 []) (some [2]) [] [] []
noncomputable def Oi {R:Type} (lf:Nat) (s0:By) (k0:Bool->Option R):Option R:=cond (A4 s0.length) (vl (A1 ((↑(List.length (G8 (D4 s0))):Int)-1)) λn'2=>cond (inR n'2 (List.length (G8 (D4 s0)))) (cond (okE Gw (G8 (D4 s0)) (Int.toNat n'2) 0) (vl (gX (G8 (D4 s0)) (Int.toNat n'2) 0) λs'3=>cond (A4 s'3.length) (cond ((not (List.isEmpty s'3))&&(Option.isSome (D5 10 0 s'3))) (k0 true) (cond (A4 s'3.length) (vl (↑(Iu (X7 s'3)):Int) λn'5=>cond (Option.isSome (X7 s'3)) (cond (not (ltI (s'3.length:Int) (2:Int))) (cond (inR 1 s'3.length) (cond ((bAt s'3 (1:Int))==120) (k0 true) (cond (inR 1 s'3.length) (k0 ((bAt s'3 (1:Int))==88)) none)) none) (k0 false)) (k0 false)) none)) none) none) none) none
theorem KR (d:Nat) (s0):evC (Ls lf) (d+1) σ yh 68 [pS s0] [] s=Oi lf s0 (λr0=>some (pB r0,[],s)):=by
 refine (evE (fn:=Tryz.f68) (by kernel_rfl)).trans ?_
 generalize evC (Ls lf) d=cl
 unfold Oi;kernel_rfl
noncomputable def Iy {R:Type} (lf n:Nat) (p0:LL) (v1 i2:Int) (k0:Unit->Option R) (k1:Int->Option R):Option R:=match n with | 0=>none | n+1=>cond (ltI i2 (p0.length:Int)) (cond (inR i2 p0.length) (cond (okE Gw p0 (Int.toNat i2) 0) (cond (A4 (List.length (gX p0 (Int.toNat i2) 0))) (vl (↑(Iu (X7 (gX p0 (Int.toNat i2) 0))):Int) λn'1=>cond (not (Option.isSome (X7 (gX p0 (Int.toNat i2) 0)))) (k0 ()) (vl (A1 ((p0.length:Int)-1)) λn'7=>cond (i2==n'7) (vl (A1 ((5:Int)-(p0.length:Int))) λn'8=>cond (decide ((0:Int)<=(A1 ((8:Int)*n'8)))) (vl (TK .i64 (1:Int) (A1 ((8:Int)*n'8))) λn'9=>cond (not (ltI n'1 n'9)) (k0 ()) (Iy lf n p0 (A1 (v1+n'1)) (A1 (i2+1)) k0 k1)) none) (cond (ltI 255 n'1) (k0 ()) (vl (A1 ((24:Int)-(A1 ((8:Int)*i2)))) λn'10=>cond (decide ((0:Int)<=n'10)) (vl (A1 (v1+(TK .i64 n'1 n'10))) λn'11=>Iy lf n p0 n'11 (A1 (i2+1)) k0 k1) none)))) none) none) none) (k1 v1)
noncomputable def Ql (lf:Nat):Cfg:=C2 lf [117] (A5 []) [(158,Pn)] (A5 [(1,[4]),(0,[0,0])]) [] (A5 []) (some [4]) [] [] []
noncomputable def Tz {R:Type} (lf:Nat) (s0 sep1:By) (k0:Nat->LL->Option R):Option R:=cond (A4 s0.length) (cond (sep1.length==1) (cond ((0:Int)==0) (cond (((-1):Int)==((-1):Int)) (vl (G8 (pcs (List.getD sep1 0 0) s0)) λl'0=>k0 (List.length (pcs (List.getD sep1 0 0) s0)) l'0) none) none) none) none
theorem TP (d:Nat) (s0 sep1):evC (Ql lf) (d+1) σ yh 117 [pS s0,pS sep1] [] s=Tz lf s0 sep1 (λr_m0 l1=>some (.vw 0 0 r_m0,[.arr false 9 1 l1],s)):=by
 refine (evE (fn:=Tryz.f117) (by kernel_rfl)).trans ?_
 generalize evC (Ql lf) d=cl
 unfold Tz;kernel_rfl
end
end
section
open Go
theorem Jp (b:UInt8):(48<=b.toNat/\b.toNat<=57/\dig b=b.toNat-48)\/(97<=b.toNat/\b.toNat<=102/\dig b=b.toNat-87)\/(65<=b.toNat/\b.toNat<=70/\dig b=b.toNat-55)\/(¬(48<=b.toNat/\b.toNat<=57)/\¬(97<=b.toNat/\b.toNat<=102)/\¬(65<=b.toNat/\b.toNat<=70)/\dig b=99):=by
 unfold dig
 split
 ·rename_i h;exact .inl ⟨h.1,h.2,rfl⟩
 ·split
  ·rename_i h;exact .inr (.inl ⟨h.1,h.2,rfl⟩)
  ·split
   ·rename_i h;exact .inr (.inr (.inl ⟨h.1,h.2,rfl⟩))
   ·exact .inr (.inr (.inr ⟨by assumption,by assumption,by assumption,rfl⟩))
theorem Aq9 (m:Nat):(if (1099511627776:Int)<(m:Int) then (1099511627776:Int) else (m:Int))=((min m En:Nat):Int):=by
 unfold En
 split<;>omega
theorem IQ {base:Nat}:∀ {s:By} {n v:Nat},n<=En->D5 base n s=some v->v<=En
 | [],n,v,h,e=>by simp only [D5,Option.some.injEq] at e;omega
 | b::r,n,v,h,e=>by
  simp only [D5] at e
  split at e
  ·exact IQ (by omega) e
  ·cases e
theorem A26 {s:By} {v:Nat} (h:X7 s=some v):v<=En:=by
 unfold X7 at h
 repeat' split at h
 all_goals first | (cases h;done) | exact IQ (by unfold En;omega) h
theorem Ba6 (a m:Nat) (h:a*2 ^ m<9223372036854775808) (hm:m<=64):TK .i64 (a:Int) (m:Int)=((a*2 ^ m:Nat):Int):=by
 unfold TK
 rw [Int.toNat_natCast,show IntKind.bits .i64=64 from rfl,Nat.min_eq_left hm]
 have:(a:Int)*2 ^ m=((a*2 ^ m:Nat):Int):=by simp
 rw [this]
 exact A3
theorem Iw {c:UInt8} {s:By} (h:c∉s):pcs c s=[s]:=by
 unfold pcs;rw [Bj c s [] h];rfl
theorem Ts {c:UInt8} {p r:By} (h:c∉p):pcs c (p++c::r)=p::pcs c r:=by
 unfold pcs;rw [Ta c p [] r h];rfl
theorem Gp (c:UInt8) (s:By):(pcs c s).length=s.count c+1:=Dv c s []
theorem Iv (c:UInt8) (s:By):pcs c s≠[]:=TM c s []
theorem Kd {c:UInt8} {s x:By} (h:x∈pcs c s):c∉x/\x.length<=s.length:=by
 have:=Jb c s [] (by simp) x h
 simpa using this
theorem Fb (c:UInt8) (s:By):s.count c<=s.length:=List.count_le_length
theorem Dw (c:UInt8):∀ s:By,c∉s\/∃ p r,s=p++c::r/\c∉p
 | []=>.inl (by simp)
 | b::s=>by
  by_cases h:b=c
  ·subst h;exact .inr ⟨[],s,rfl,by simp⟩
  ·rcases Dw c s with h1 | ⟨p,r,rfl,h2⟩
   ·exact .inl (by simp [h1,Ne.symm h])
   ·exact .inr ⟨b::p,r,rfl,by simp [h2,Ne.symm h]⟩
theorem Lt {c:UInt8} {s:By} (h:c∉s):Lib.index s [c] = -1:=by
 rcases Lib.index_spec s [c] with h1 | ⟨i,h1,h2,h3,h4⟩
 ·exact h1.1
 ·exfalso
  simp only [Lib.occAt,List.isPrefixOf_iff_prefix] at h3
  obtain ⟨t,ht⟩:=h3
  have:c∈s.drop i:=by rw [<-ht];simp
  exact h (List.mem_of_mem_drop this)
theorem Rb {c:UInt8} {p r:By} (h:c∉p):Lib.index (p++c::r) [c]=(p.length:Int):=by
 rcases Lib.index_spec (p++c::r) [c] with h1 | ⟨i,h1,h2,h3,h4⟩
 ·exfalso
  have:=h1.2 p.length (by simp)
  simp [Lib.occAt] at this
 ·rw [h1]
  have hi:¬ p.length<i:=by
   intro hlt
   have:=h4 p.length hlt
   simp [Lib.occAt] at this
  have hi2:¬ i<p.length:=by
   intro hlt
   simp only [Lib.occAt,List.isPrefixOf_iff_prefix] at h3
   obtain ⟨t,ht⟩:=h3
   have h5:(p++c::r).drop i=p.drop i++c::r:=by rw [List.drop_append_of_le_length (by omega)]
   rw [h5] at ht
   cases hd:p.drop i with
   | nil=>have:=List.length_drop (i:=i) (l:=p);rw [hd] at this;simp at this;omega
   | cons x y=>
    rw [hd] at ht
    simp at ht
    have:x∈p:=List.mem_of_mem_drop (i:=i) (by rw [hd];simp)
    rw [<-ht.1] at this
    exact h this
  omega
theorem ZT (s:By):D4 s≠[]:=by
 unfold D4
 split
 ·rename_i h
  intro e
  have:=congrArg List.length e
  simp at this
  omega
 ·exact Iv _ _
theorem Xo {s x:By} (h:x∈D4 s):x.length<=s.length:=by
 unfold D4 at h
 split at h
 ·exact (Kd ((List.dropLast_sublist _).subset h)).2
 ·exact (Kd h).2
theorem Ly (s:By):1<=(D4 s).length/\(D4 s).length<=s.length+1:=by
 have h1:=List.length_pos_iff.2 (ZT s)
 have h2:=Gp 46 s
 have h3:=Fb 46 s
 refine ⟨h1,?_⟩
 unfold D4
 split
 ·rw [List.length_dropLast];omega
 ·omega
theorem Rf (s:By):(D4 s).getD ((D4 s).length-1) []=Au s:=by
 unfold Au
 rw [List.getLastD_eq_getLast?,List.getLast?_eq_getElem?,List.getD_eq_getElem?_getD]
theorem AJ (s:By):Au s∈D4 s:=by
 have h:=(Ly s).1
 rw [<-Rf,List.getD_eq_getElem?_getD,List.getElem?_eq_getElem (by omega)]
 exact List.getElem_mem _
theorem Eh {base:Nat}:∀ {s:By} {n i:Nat},i<s.length->base<=dig (s.getD i 0)->D5 base n s=none
 | [],n,i,h,_=>by simp at h
 | b::r,n,0,h,h2=>by
  simp only [List.getD_cons_zero] at h2
  simp only [D5]
  rw [G4]
 | b::r,n,i+1,h,h2=>by
  simp only [List.getD_cons_succ] at h2
  simp only [D5]
  split
  ·exact Eh (i:=i) (by simpa using h) h2
  ·rfl
theorem Rd (s:By):W5 s=true↔s.getD 0 0=48/\(s.getD 1 0=120\/s.getD 1 0=88):=by
 simp [W5]
theorem Jt {s:By} (h:W5 s=true):2<=s.length:=by
 rw [Rd] at h
 match s with
 | []=>simp at h
 | [a]=>simp at h
 | a::b::r=>simp
theorem Ao3 (l:By):(if W5 l then (D5 16 0 (l.drop 2)).isSome else !l.isEmpty&&(D5 10 0 l).isSome) =
  (if (!l.isEmpty&&(D5 10 0 l).isSome)=true then true else (if (X7 l).isSome=true then decide (2<=l.length)&&(l.getD 1 0==120 || l.getD 1 0==88) else false)):=by
 by_cases hx:W5 l=true
 ·have hl:=Jt hx
  have h1:=(Rd l).1 hx
  have hd:D5 10 0 l=none:=Eh (i:=1) (by omega) (by rcases h1.2 with h | h<;>rw [h]<;>decide)
  have hn:X7 l=D5 16 0 (l.drop 2):=by
   unfold X7
   rw [if_neg (by intro e;rw [e] at hl;simp at hl),if_pos hx]
  rw [if_pos hx,hd,hn]
  have h2:(l.getD 1 0==120 || l.getD 1 0==88)=true:=by simpa using h1.2
  rw [h2]
  simp [hl]
 ·rw [if_neg hx]
  cases hc:(!l.isEmpty&&(D5 10 0 l).isSome) with
  | true=>rfl
  | false=>
   rw [if_neg (by simp)]
   cases hn:X7 l with
   | none=>rfl
   | some v=>
    rw [show (some v).isSome=true from rfl,if_pos rfl]
    symm
    rw [Bool.and_eq_false_iff]
    by_cases h2:2<=l.length
    ·right
     apply Classical.byContradiction
     intro hxx
     have hxx:l.getD 1 0=120\/l.getD 1 0=88:=by
      cases hq:(l.getD 1 0==120 || l.getD 1 0==88) with
      | false=>exact absurd hq hxx
      | true=>simpa using hq
     have h0:¬ l.getD 0 0=48:=λh=>hx ((Rd l).2 ⟨h,hxx⟩)
     have hd:D5 10 0 l=none:=Eh (i:=1) (by omega) (by rcases hxx with h | h<;>rw [h]<;>decide)
     unfold X7 at hn
     rw [if_neg (by intro e;rw [e] at h2;simp at h2),if_neg hx,if_neg (by intro h;exact h0 h.2),hd] at hn
     cases hn
    ·left;simpa using h2
end
section
open Go Go.Proofs
theorem ZC {R:Type} {k0:Bool->Option R} (s p:By) (h0:A4 s.length=true):A11 LF s p k0=k0 (p.isPrefixOf s):=by
 have:=L8 h0
 unfold A11
 rw [Hg]
 by_cases h:p.length<=s.length
 ·simp_all
 ·simp (disch:=omega) [h]
theorem YF {R:Type} {k0:Bool->Option R} (s p:By) (h0:A4 s.length=true):JB LF s p k0=k0 (p.isPrefixOf s):=by
 unfold JB;rw [h0];rfl
theorem ZJ {R:Type} {k0:Bool->Option R} (s p:By) (h0:A4 s.length=true):A14 LF s p k0=k0 (p.isSuffixOf s):=by
 have:=L8 h0
 unfold A14
 rw [Hh]
 by_cases h:p.length<=s.length
 ·have e:((s.length:Int)-(p.length:Int)).toNat=s.length-p.length:=by omega
  simp (disch:=omega) [h,e]
 ·simp (disch:=omega) [h]
theorem PY {R:Type} {k0:By->Option R} (s p:By) (h0:A4 s.length=true):WF LF s p k0=k0 (Ad3 s p):=by
 have:=L8 h0
 unfold WF Ad3
 rw [h0]
 cases h:p.isSuffixOf s with
 | false=>simp
 | true=>
  have:p.length<=s.length:=by rw [Hh] at h;simp at h;exact h.1
  have e:((s.length:Int)-(p.length:Int)).toNat=s.length-p.length:=by omega
  simp (disch:=omega) [e]
theorem TR {R:Type} {k0:By->Option R} (s p:By) (h0:A4 s.length=true):XB LF s p k0=k0 (Ad3 s p):=by
 unfold XB;rw [h0];rfl
theorem PJ {R:Type} {k0:By->Bool->Option R} (s p:By) (h0:A4 s.length=true):VR LF s p k0=k0 (Vw s p) (p.isPrefixOf s):=by
 have:=L8 h0
 unfold VR Vw
 rw [h0]
 cases h:p.isPrefixOf s with
 | false=>simp
 | true=>
  have:p.length<=s.length:=by rw [Hg] at h;simp at h;exact h.1
  simp_all
theorem XP {R:Type} {k0:By->Bool->Option R} (s p:By) (h0:A4 s.length=true):Aw5 LF s p k0=k0 (Vw s p) (p.isPrefixOf s):=by
 unfold Aw5;rw [h0];rfl
theorem LN {R:Type} {k0:LL->Option R} (s p:By) (h0:A4 s.length=true) (h1:(p.length==1)=true):GS LF s p k0=k0 (G8 (pcs (p.getD 0 0) s)):=by
 unfold GS;rw [h0,h1];rfl
theorem YZ {R:Type} {k0:LL->Option R} (s:By) (hs:s.length<=1000000000):∀ (r i n:Nat),i+r=s.length->r<n->Ba LF n s (s.length:Int) (i:Int) ((D9 (s.take i)).map C9) k0=k0 ((D9 s).map C9):=by
 intro r
 induction r with
 | zero=>
  intro i n hi hn
  obtain ⟨n,rfl⟩:∃ m,n=m+1:=⟨n-1,by omega⟩
  rw [Ba]
  rw [A6,List.take_of_length_le (by omega)]
  rfl
 | succ r ih=>
  intro i n hi hn
  obtain ⟨n,rfl⟩:∃ m,n=m+1:=⟨n-1,by omega⟩
  rw [Ba]
  have hl:(D9 (s.take i)).length=i:=by simp [D9];omega
  have ih:=ih (i+1) n (by omega) (by omega)
  rw [PS s i (by omega)] at ih
  rw [G9]
  have hb:=(s.getD i 0).toNat_lt
  generalize s.getD i 0=b at *
  have hn1:((i:Int)+1)=((i+1:Nat):Int):=by omega
  simp (disch:=omega) only [C0,M8,cond_true,vl,List.length_map,hl,E2,D0]
  rw [hn1]
  rcases Gk b with ⟨h1,e⟩ | ⟨h1,e⟩ | ⟨h1,h2,e⟩
  ·simp (disch:=omega) only [C0,Bool.not_true,cond_false]
   rw [e] at ih;exact ih
  ·simp (disch:=omega) only [E0,C0,Bool.not_true,Bool.not_false,cond_false,cond_true]
   rw [e] at ih;exact ih
  ·have e2:wu8 ((b.toNat:Int)+32)=((Ej b).toNat:Int):=by
    rw [R3];omega
   simp (disch:=omega) only [E0,Bool.not_false,cond_true,e2]
   exact ih
theorem ZA {R:Type} {k0:By->LL->Option R} (s:By) (h0:A4 s.length=true):A09 LF s k0=k0 (D9 s) ((D9 s).map C9):=by
 have hs:=L8 h0
 have:=E5
 unfold A09
 simp (disch:=omega) only [Int.toNat_natCast,E2,Bool.and_true]
 rw [show (decide ((0:Int)<=(s.length:Int)))=true by simp]
 have:=YZ (k0:=λl'1=>cond (List.all l'1 Tg) (k0 (List.map Qq l'1) l'1) none) s hs s.length 0 LF (by omega) (by omega)
 simp only [List.take_zero,D9,List.map_nil] at this
 rw [cond_true]
 refine Eq.trans this ?_
 rw [show (List.map Ej s).map C9=(D9 s).map C9 from rfl,Ew,Fi]
 rfl
theorem YD {R:Type} {k0:Bool->Option R} (s:By) (h0:A4 s.length=true):Ay6 LF s k0=k0 (W5 s):=by
 unfold Ay6
 have key:W5 s=(([48,120]:By).isPrefixOf s || ([48,88]:By).isPrefixOf s):=by
  match s with
  | []=>rfl
  | [a]=>simp [W5,List.isPrefixOf]
  | a::b::r=>
   simp only [W5,List.isPrefixOf,List.getD_cons_zero,List.getD_cons_succ,Bool.and_true]
   rw [BEq.comm (a:=(48:UInt8)),BEq.comm (a:=(120:UInt8)),BEq.comm (a:=(88:UInt8))]
   cases (a==48)<;>simp
 grind
theorem XT {R:Type} {k0:Unit->Option R} {k1:Int->Option R} (s:By) (hs:s.length<=1000000000) (base:Nat) (hb:base<=16):∀ (r i acc n:Nat),i+r=s.length->r<n->acc<=En->
  De LF n s (base:Int) (acc:Int) (s.length:Int) (i:Int) k0 k1=match D5 base acc (s.drop i) with | some v=>k1 (v:Int) | none=>k0 ():=by
 intro r
 induction r with
 | zero=>
  intro i acc n hi hn ha
  obtain ⟨n,rfl⟩:∃ m,n=m+1:=⟨n-1,by omega⟩
  rw [De]
  rw [A6,List.drop_of_length_le (by omega)]
  rfl
 | succ r ih=>
  intro i acc n hi hn ha
  obtain ⟨n,rfl⟩:∃ m,n=m+1:=⟨n-1,by omega⟩
  rw [De,I3 s i (by omega)]
  rw [G9]
  have hbt:=(s.getD i 0).toNat_lt
  generalize s.getD i 0=b at *
  have hn1:((i:Int)+1)=((i+1:Nat):Int):=by omega
  have hsat:En=1099511627776:=rfl
  have step:∀ d:Nat,d<base->(acc*base+d<100000000000000/\A1 (A1 ((acc:Int)*(base:Int))+(d:Int))=((acc*base+d:Nat):Int)):=by
   intro d hd
   have h1:acc*base<=1099511627776*16:=Nat.mul_le_mul (by omega) (by omega)
   refine ⟨by omega,?_⟩
   have e1:A1 ((acc*base:Nat):Int)=((acc*base:Nat):Int):=A3
   rw [<-Int.natCast_mul,e1,A3]
   rfl
  simp (disch:=omega) only [C0,M8,cond_true,vl,D0,Mw,Mv,Mu]
  rw [hn1]
  simp only [D5]
  rcases Jp b with ⟨h1,h2,e⟩ | ⟨h1,h2,e⟩ | ⟨h1,h2,e⟩ | ⟨h1,h2,h3,e⟩
  ·have e2:wu8 ((b.toNat:Int)-48)=((dig b:Nat):Int):=by rw [R3];omega
   simp (disch:=omega) only [C0,E0,Bool.not_true,Bool.not_false,cond_false,cond_true,e2,D0]
   by_cases hd:dig b<base
   ·rw [if_pos hd,A7,(step _ hd).2,Aq9]
    exact ih (i+1) _ n (by omega) (by omega) (by omega)
   ·rw [if_neg hd,A6];rfl
  ·have e2:wu8 ((b.toNat:Int)-97)+10=((dig b:Nat):Int):=by rw [R3];omega
   have e3:wu8 ((b.toNat:Int)-97)=((b.toNat:Int)-97):=R3
   rw [e3] at e2
   simp (disch:=omega) only [C0,E0,Bool.not_true,Bool.not_false,cond_false,cond_true,e3,D0,e2]
   by_cases hd:dig b<base
   ·rw [if_pos hd,A7,(step _ hd).2,Aq9]
    exact ih (i+1) _ n (by omega) (by omega) (by omega)
   ·rw [if_neg hd,A6];rfl
  ·have e2:wu8 ((b.toNat:Int)-65)+10=((dig b:Nat):Int):=by rw [R3];omega
   have e3:wu8 ((b.toNat:Int)-65)=((b.toNat:Int)-65):=R3
   rw [e3] at e2
   simp (disch:=omega) only [C0,E0,Bool.not_true,Bool.not_false,cond_false,cond_true,e3,D0,e2]
   by_cases hd:dig b<base
   ·rw [if_pos hd,A7,(step _ hd).2,Aq9]
    exact ih (i+1) _ n (by omega) (by omega) (by omega)
   ·rw [if_neg hd,A6];rfl
  ·rw [if_neg (show ¬ dig b<base by omega)]
   by_cases c1:b.toNat<48
   ·simp (disch:=omega) only [C0,E0,Bool.not_true,Bool.not_false,cond_false,cond_true]
   ·by_cases c2:b.toNat<65
    ·simp (disch:=omega) only [C0,E0,Bool.not_true,Bool.not_false,cond_false,cond_true]
    ·by_cases c3:b.toNat<97
     ·simp (disch:=omega) only [C0,E0,Bool.not_true,Bool.not_false,cond_false,cond_true]
     ·simp (disch:=omega) only [C0,E0,Bool.not_true,Bool.not_false,cond_false,cond_true]
theorem XU {R:Type} {k0:Int->Bool->Option R} (s:By) (base:Int) (h0:A4 s.length=true) (h1:ltN base 17=true):Aj2 LF s base k0=k0 (Iu (D5 base.toNat 0 s):Int) (D5 base.toNat 0 s).isSome:=by
 have hs:=L8 h0
 have:=E5
 obtain ⟨hb0,hb1⟩:=K9.1 h1
 obtain ⟨bn,rfl⟩:=Int.eq_ofNat_of_zero_le hb0
 unfold Aj2
 have:=XT (k0:=λ_=>k0 0 false) (k1:=λn=>k0 n true) s hs bn (by omega) s.length 0 0 LF (by omega) (by omega) (by unfold En;omega)
 refine Eq.trans this ?_
 rw [List.drop_zero,Int.toNat_natCast]
 cases D5 bn 0 s<;>rfl
theorem Ao2 {R:Type} {k0:Int->Bool->Option R} (s:By) (h0:A4 s.length=true):num LF s k0=k0 (Iu (X7 s):Int) (X7 s).isSome:=by
 have hs:=L8 h0
 unfold num X7
 rw [h0]
 by_cases h1:s=[]
 ·subst h1;rfl
 have h1':(s==([]:By))=false:=by simpa using h1
 have hl:0<s.length:=List.length_pos_iff.2 h1
 rw [if_neg h1,h1']
 simp only [cond_true,cond_false,vl]
 cases hx:W5 s with
 | true=>
  have:=Jt hx
  simp (disch:=first | omega | (simp;omega)) only [cond_true,if_true,U2,M3,I7,WE]
  rfl
 | false=>
  simp only [cond_false,Bool.false_eq_true,if_false]
  have hd:(D5 10 0 s)=D5 10 0 s:=rfl
  by_cases h2:1<s.length
  ·simp (disch:=omega) only [C0,M8,cond_true,Hr,h2,true_and]
   have e:=T0 (s.getD 0 0) 48 (by omega)
   rw [show ((48:Nat):Int)=48 from rfl] at e
   rw [e]
   by_cases h3:s.getD 0 0=48
   ·rw [if_pos h3,h3,show ((48:UInt8)==UInt8.ofNat 48)=true from rfl]
    simp (disch:=first | omega | (simp;omega)) only [U2,M3,I7,WE,cond_true]
    rfl
   ·rw [if_neg h3,show (s.getD 0 0==UInt8.ofNat 48)=false from beq_eq_false_iff_ne.2 h3]
    rfl
  ·rw [A6,G4]
   rfl
theorem FU {R:Type} {k0:Bool->Option R} (s:By) (h0:A4 s.length=true):Tp LF s k0=k0 (N1 s):=by
 have hs:=L8 h0
 have hp:=Ly s
 have hm:=Xo (AJ s)
 have hg:=Rf s
 have e1:((D4 s).length:Int)-1=(((D4 s).length-1:Nat):Int):=by omega
 unfold Tp N1
 rw [h0]
 simp (disch:=omega) only [cond_true,vl,T5,e1,D0,M8,Int.toNat_natCast,Fl,Js,hg,I7]
 cases hx:W5 (Au s) with
 | true=>
  have:=Jt hx
  have hn:X7 (Au s)=D5 16 0 ((Au s).drop 2):=by
   unfold X7
   grind
  simp [hn]
 | false=>
  simp only [cond_false,Bool.false_eq_true,if_false]
  cases D5 10 0 (Au s) with
  | none=>simp
  | some v=>cases Au s<;>rfl
theorem Zc {R:Type} {k0:Bool->Option R} (s:By) (h0:A4 s.length=true):Oi LF s k0=k0 (N1 s):=by
 have hs:=L8 h0
 have hp:=Ly s
 have hm:=Xo (AJ s)
 have hg:=Rf s
 have e1:((D4 s).length:Int)-1=(((D4 s).length-1:Nat):Int):=by omega
 unfold Oi N1
 rw [h0,Ao3]
 simp (disch:=omega) only [cond_true,vl,T5,e1,D0,M8,Int.toNat_natCast,Fl,Js,hg,I7]
 generalize Au s=l at *
 cases (!l.isEmpty&&(D5 10 0 l).isSome) with
 | true=>rfl
 | false=>
  simp only [cond_false,Bool.false_eq_true,if_false]
  cases X7 l with
  | none=>rfl
  | some v=>
   simp only [Option.isSome_some,cond_true,if_true,UY]
   by_cases h2:2<=l.length
   ·simp (disch:=omega) only [E0,M8,Bool.not_false,cond_true,h2,decide_true,Bool.true_and]
    have ea:=T0 (l.getD 1 0) 120 (by omega)
    have eb:=T0 (l.getD 1 0) 88 (by omega)
    grind
   ·rw [A7]
    simp [h2]
theorem Bj3 (s:By) (a b:Nat) (h:a<=b) (hb:b<s.length):cut s (a:Int) ((b+1:Nat):Int)=cut s (a:Int) (b:Int)++[s.getD b 0]:=by
 rw [Mt,Mt,BQ s b hb,List.drop_append_of_le_length (by rw [List.length_take];omega)]
theorem Ai9 (s:By) (a:Nat):cut s (a:Int) (a:Int)=[]:=by
 rw [Mt]
 grind
theorem LB {R:Type} {k0:LL->Option R} (s:By) (hs:s.length<=1000000000) (c:UInt8):∀ (r i fr n:Nat) (l:List By),i+r=s.length->r+1<n->fr<=i->l.length<=i->
  O8 LF n s (c.toNat:Int) (fr:Int) (i:Int) (G8 l) k0=k0 (G8 (l++G2 c (cut s (fr:Int) (i:Int)) (s.drop i))):=by
 intro r
 induction r with
 | zero=>
  intro i fr n l hi hn hf hl
  obtain ⟨n,rfl⟩:∃ m,n=m+1:=⟨n-1,by omega⟩
  obtain ⟨n,rfl⟩:∃ m,n=m+1:=⟨n-1,by omega⟩
  have hi':i=s.length:=by omega
  subst hi'
  rw [O8]
  simp (disch:=omega) only [E0,Bool.not_false,cond_true,beq_self_eq_true,U2,T5,E2,D0]
  rw [O8]
  rw [A7,List.drop_length]
  simp only [Bool.not_true,cond_false,G2,Yk]
  rfl
 | succ r ih=>
  intro i fr n l hi hn hf hl
  obtain ⟨n,rfl⟩:∃ m,n=m+1:=⟨n-1,by omega⟩
  rw [O8]
  have hn1:((i:Int)+1)=((i+1:Nat):Int):=by omega
  have hne:((i:Int)==(s.length:Int))=false:=by rw [beq_eq_false_iff_ne];omega
  simp (disch:=omega) only [E0,Bool.not_false,cond_true,cond_false,hne,M8,G9,Ba8,U2,T5,E2,D0]
  rw [hn1,I3 s i (by omega)]
  simp only [G2]
  by_cases h:s.getD i 0=c
  ·rw [show (s.getD i 0==c)=true by simpa using h,if_pos h,cond_true]
   have:=ih (i+1) (i+1) n (l++[cut s (fr:Int) (i:Int)]) (by omega) (by omega) (by omega) (by simp<;>omega)
   rw [Yk] at this
   refine Eq.trans this ?_
   rw [Ai9]
   simp
  ·rw [show (s.getD i 0==c)=false from beq_eq_false_iff_ne.2 h,if_neg h,cond_false]
   rw [ih (i+1) fr n l (by omega) (by omega) (by omega) (by omega),Bj3 s fr i hf (by omega)]
theorem TD {R:Type} {k0:LL->Option R} (s:By) (c:Int) (h0:A4 s.length=true) (h1:inR c 256=true):Ya LF s c k0=k0 (G8 (pcs (u8n c) s)):=by
 have hs:=L8 h0
 have:=E5
 simp only [inR,Bool.and_eq_true,decide_eq_true_eq] at h1
 have hc:c=((u8n c).toNat:Int):=by
  unfold u8n
  simp
  omega
 unfold Ya
 generalize u8n c=b at *
 subst hc
 have:=LB (k0:=k0) s hs b s.length 0 0 LF [] (by omega) (by omega) (by omega) (by simp)
 refine Eq.trans this ?_
 rw [Ai9]
 rfl
theorem LQ (c:UInt8) (s:By):(G8 (pcs c s)).isEmpty=false:=by
 cases h:pcs c s with
 | nil=>exact absurd h (Iv c s)
 | cons a r=>rfl
theorem LC (s:By) (c:Int) (h0:A4 s.length=true) (h1:inR c 256=true):∃ r H,Ya LF s c (λl=>rv (.fl 0) [.arr true 9 1 l])=rv r H/\r.stab [1] H = .s (.sl false false 1 (G8 (pcs (u8n c) s))):=by
 refine ⟨_,_,TD s c h0 h1,?_⟩
 simp [PV.stab,Qw,PV.snap,LQ]
theorem Ar0 (d:List By) (x:By) (m:Nat):List.set (G8 (d++List.replicate (m+1) [])) d.length (F1 (List.getD (G8 (d++List.replicate (m+1) [])) d.length []) 0 [SV.str x])=G8 ((d++[x])++List.replicate m []):=by
 have hg:List.getD (G8 (d++List.replicate (m+1) [])) d.length []=[SV.str []]:=by
  unfold G8
  grind
 rw [hg]
 simp only [F1,List.set_cons_zero,Yk]
 rw [show d.length=(G8 d).length by simp,List.set_append_right _ _ (by omega),Nat.sub_self,List.replicate_succ]
 simp [G8]
theorem IZ {R:Type} {k0:By->Int->LL->Option R} (c:UInt8):∀ (m n:Nat) (s:By) (d:List By),s.length<=1000000000->m=s.count c->d.length+m<=1000000000->m<n->
  ∃ (d':List By) (s':By),pcs c s=d'++[s']/\s'.length<=s.length/\U9 LF n s [c] 0 ((d.length+m:Nat):Int) (d.length:Int) (G8 (d++List.replicate (m+1) [])) k0=k0 s' ((d.length+m:Nat):Int) (G8 ((d++d')++[[]])):=by
 intro m
 induction m with
 | zero=>
  intro n s d hs hm hd hn
  obtain ⟨n,rfl⟩:∃ m,n=m+1:=⟨n-1,by omega⟩
  have hc:c∉s:=List.count_eq_zero.1 hm.symm
  refine ⟨[],s,Iw hc,Nat.le_refl _,?_⟩
  rw [U9]
  rw [A6]
  simp
 | succ m ih=>
  intro n s d hs hm hd hn
  obtain ⟨n,rfl⟩:∃ m,n=m+1:=⟨n-1,by omega⟩
  rcases Dw c s with hc | ⟨p,r,rfl,hc⟩
  ·rw [List.count_eq_zero.2 hc] at hm;omega
  ·have hm':m=r.count c:=by
    rw [List.count_append,List.count_cons,List.count_eq_zero.2 hc] at hm
    simp at hm
    omega
   simp only [List.length_append,List.length_cons] at hs
   obtain ⟨d',s',h1,h2,h3⟩:=ih n r (d++[p]) (by omega) hm' (by simp<;>omega) (by omega)
   refine ⟨p::d',s',by rw [Ts hc,h1];rfl,by simp<;>omega,?_⟩
   rw [U9]
   have e1:((p.length:Int)+1)=((p.length+1:Nat):Int):=by omega
   have e2:(d.length:Int)+1=((d.length+1:Nat):Int):=by omega
   have e3:((p.length+1:Nat):Int).toNat=p.length+1:=by omega
   have e4:(((p++c::r).length:Nat):Int)=((p.length+(r.length+1):Nat):Int):=by simp
   have e5:(p++c::r).take p.length=p:=List.take_left' rfl
   have e6:(p++c::r).drop (p.length+1)=r:=by
    rw [show p++c::r=(p++[c])++r by simp,List.drop_left' (by simp)]
   rw [Rb hc]
   have el:(G8 (d++List.replicate (m+1+1) [])).length=d.length+(m+2):=by simp<;>omega
   simp (disch:=first | omega | (simp;omega)) only [C0,E0,I7,cond_true,cond_false,vl,Int.add_zero,D0,U2,M8,el,Int.toNat_natCast,List.length_singleton,M3,Ad,e5,Ar0]
   rw [decide_eq_true (show d.length<d.length+(m+2) by omega),cond_true,show ((1:Nat):Int)=1 from rfl,e1]
   simp (disch:=first | omega | (simp;omega)) only [D0,U2,cond_true,M3,e3,e6,e2]
   have h3':((((d++[p]).length+m:Nat):Int))=((d.length+(m+1):Nat):Int):=by simp<;>omega
   have h4':(((d++[p]).length:Nat):Int)=((d.length+1:Nat):Int):=by simp
   rw [h3',h4'] at h3
   rw [h3]
   simp
theorem Wi {R:Type} {k0:Unit->Option R} {k1:Nat->LL->Option R} (s p:By) (v n:Int) (h0:A4 s.length=true) (h1:(p.length==1)=true) (h2:(v==0)=true) (h3:(n==(-1))=true) :
  Wh LF s p v n k0 k1=k1 (pcs (p.getD 0 0) s).length (G8 (pcs (p.getD 0 0) s)):=by
 have hs:=L8 h0
 have:=E5
 obtain ⟨c,rfl⟩:∃ c,p=[c]:=by
  match p,h1 with
  | [c],_=>exact ⟨c,rfl⟩
 have:v=0:=by simpa using h2
 subst this
 have:n = -1:=by simpa using h3
 subst this
 have hc:=Fb c s
 have hpl:=Gp c s
 obtain ⟨d',s',g1,g2,g3⟩:=IZ (R:=R) (k0:=λs'14 i'15 l'16=>cond (inR i'15 (List.length l'16))
     (cond (decide ((Int.toNat i'15)<(List.length l'16)))
      (vl (A1 (i'15+(1))) λn'17=>
      cond (N3 (0) n'17 (List.length (List.set l'16 (Int.toNat i'15) (F1 (List.getD l'16 (Int.toNat i'15) []) 0 [(SV.str s'14)]))))
       (k1 ((Int.toNat n'17)-0) (List.set l'16 (Int.toNat i'15) (F1 (List.getD l'16 (Int.toNat i'15) []) 0 [(SV.str s'14)])))
       (none))
      (none))
     (none)) c (s.count c) LF s [] hs rfl (by simp<;>omega) (by omega)
 unfold Wh
 have e1:A1 ((s.count c:Int)+1)=((s.count c+1:Nat):Int):=A3
 have e2:A1 ((s.length:Int)+1)=((s.length+1:Nat):Int):=A3
 have e3:(if ((s.length+1:Nat):Int)<((s.count c+1:Nat):Int) then ((s.length+1:Nat):Int) else ((s.count c+1:Nat):Int))=((s.count c+1:Nat):Int):=G4
 have e4:((s.count c+1:Nat):Int)-1=(s.count c:Int):=by omega
 have e5:(List.replicate (s.count c+1) [SV.str ([]:By)])=G8 ([]++List.replicate (s.count c+1) []):=by simp [G8]
 simp only [List.getD_cons_zero,vl,List.length_singleton,e1,e2,e3,Int.toNat_natCast,e5]
 rw [show ((-1:Int)==0)=false from rfl,show ([c]==([]:By))=false from rfl,show ltI (-1) 0=true from rfl,decide_eq_true (show (0:Int)<=((s.count c+1:Nat):Int) by omega),decide_eq_true (show ((s.count c+1:Nat):Int)<=((s.count c+1:Nat):Int) by omega),E2 (by omega),e4,A3]
 simp only [cond_true,cond_false,beq_self_eq_true,Bool.and_self]
 simp only [List.length_nil,Nat.zero_add] at g3
 refine Eq.trans g3 ?_
 have e6:(G8 ((([]:List By)++d')++[[]]))=G8 (d'++List.replicate (0+1) []):=by simp
 have hd:d'.length=s.count c:=by grind
 have e7:=Ar0 d' s' 0
 rw [<-hd,e6]
 have el:(G8 (d'++List.replicate (0+1) ([]:By))).length=d'.length+1:=by simp
 have e8:A1 ((d'.length:Int)+1)=((d'.length+1:Nat):Int):=A3
 simp only [Int.toNat_natCast,e7,el,vl,e8]
 rw [I8,decide_eq_true (show d'.length<d'.length+1 by omega),U2 (by omega) (by omega) (by simp),g1]
 simp
theorem JA (s p:By) (v n:Int) (h0:A4 s.length=true) (h1:(p.length==1)=true) (h2:(v==0)=true) (h3:(n==(-1))=true) :
  ∃ r H,Wh LF s p v n (λ_=>rv (.fl 0) [.arr true 9 1 []]) (λi l=>rv (.vw 0 0 i) [.arr false 9 1 l])=rv r H/\r.stab [1] H = .s (.sl false false 1 (G8 (pcs (p.getD 0 0) s))):=by
 refine ⟨_,_,Wi s p v n h0 h1 h2 h3,?_⟩
 simp [PV.stab,Qw,PV.snap,List.take_of_length_le]
theorem GU {R:Type} {k0:Nat->LL->Option R} (s p:By) (h0:A4 s.length=true) (h1:(p.length==1)=true):Tz LF s p k0=k0 (pcs (p.getD 0 0) s).length (G8 (pcs (p.getD 0 0) s)):=by
 unfold Tz;rw [h0,h1];rfl
theorem Bk3 {l:List By} {i:Nat} (h:i<l.length):l.getD i []∈l:=by grind
theorem QM {R:Type} {k0:LL->Option R} (s:By) (h0:A4 s.length=true):parts LF s k0=k0 (G8 (D4 s)):=by
 have hs:=L8 h0
 have hpl:=Gp 46 s
 have hc:=Fb 46 s
 unfold parts
 rw [h0]
 have e1:A1 (((pcs 46 s).length:Int)-1)=(((pcs 46 s).length-1:Nat):Int):=by rw [A3];omega
 simp only [cond_true,vl,List.getD_cons_zero,show ((1:Nat)==1)=true from rfl,T5,e1,Int.toNat_natCast]
 by_cases h1:1<(pcs 46 s).length
 ·rw [A7,I8,Fl (by omega),Js]
  have hg:(pcs 46 s).getD ((pcs 46 s).length-1) []=(pcs 46 s).getLastD []:=by grind
  rw [hg]
  by_cases h2:(pcs 46 s).getLastD []=[]
  ·rw [h2,show (([]:By)==[])=true from rfl,P5]
   have:D4 s=(pcs 46 s).dropLast:=by unfold D4;rw [if_pos ⟨h1,h2⟩]
   rw [this,List.dropLast_eq_take,Ad,Int.toNat_natCast]
   simp [G8]
  ·rw [show ((pcs 46 s).getLastD []==[])=false from beq_eq_false_iff_ne.2 h2]
   have:D4 s=pcs 46 s:=by unfold D4;rw [if_neg (λh=>h2 h.2)]
   grind
 ·rw [A6]
  have:D4 s=pcs 46 s:=by unfold D4;rw [if_neg (λh=>h1 h.1)]
  grind
theorem KT {R:Type} {k0:LL->Option R} (s:By) (h0:A4 s.length=true):GL LF s k0=k0 (G8 (D4 s)):=by
 have hs:=L8 h0
 have hpl:=Gp 46 s
 have hc:=Fb 46 s
 unfold GL
 rw [h0]
 have e1:A1 (((pcs 46 s).length:Int)-1)=(((pcs 46 s).length-1:Nat):Int):=by rw [A3];omega
 simp only [cond_true,vl,show u8n 46=46 from rfl,T5,e1,Int.toNat_natCast]
 by_cases h1:1<(pcs 46 s).length
 ·rw [A7,I8,Fl (by omega),Js]
  have hg:(pcs 46 s).getD ((pcs 46 s).length-1) []=(pcs 46 s).getLastD []:=by grind
  rw [hg]
  by_cases h2:(pcs 46 s).getLastD []=[]
  ·rw [h2,show (([]:By)==[])=true from rfl,P5]
   have:D4 s=(pcs 46 s).dropLast:=by unfold D4;rw [if_pos ⟨h1,h2⟩]
   rw [this,List.dropLast_eq_take,Ad,Int.toNat_natCast]
   simp [G8]
  ·rw [show ((pcs 46 s).getLastD []==[])=false from beq_eq_false_iff_ne.2 h2]
   have:D4 s=pcs 46 s:=by unfold D4;rw [if_neg (λh=>h2 h.2)]
   grind
 ·rw [A6]
  have:D4 s=pcs 46 s:=by unfold D4;rw [if_neg (λh=>h1 h.1)]
  grind
theorem Ao9 (l:List By) (i:Nat) (h:i<l.length):l.drop i=l.getD i []::l.drop (i+1):=by simp_all
theorem Bf2 {R:Type} {k0:Unit->Option R} {k1:Int->Option R} (l:List By) (hm1:1<=l.length) (hm:l.length<=4) (hl:∀ x∈l,x.length<=1000000000):∀ (r i v n:Nat),i+r=l.length->0<r->r<n->v<256 ^ i->
  Iy LF n (G8 l) ((v*2 ^ (32-8*i):Nat):Int) (i:Int) k0 k1=match Be9 (8*(5-l.length)) v (l.drop i) with | some w=>k1 (w:Int) | none=>k0 ():=by
 intro r
 induction r with
 | zero=>intro i v n _ h;omega
 | succ r ih=>
  intro i v n hi _ hn hv
  obtain ⟨n,rfl⟩:∃ m,n=m+1:=⟨n-1,by omega⟩
  rw [Iy,Ao9 l i (by omega)]
  have hx:=hl _ (Bk3 (show i<l.length by omega))
  have hsat:En=1099511627776:=rfl
  have hvb:v*2 ^ (32-8*i)<4294967296:=by
   have:i=0\/i=1\/i=2\/i=3:=by omega
   rcases this with rfl | rfl | rfl | rfl
   all_goals omega
  simp (disch:=omega) only [C0,T5,M8,cond_true,Int.toNat_natCast,Fl,Js,I7,vl]
  simp only [Be9]
  have hn1:((i:Int)+1)=((i+1:Nat):Int):=by omega
  cases hq:X7 (l.getD i []) with
  | none=>rfl
  | some q=>
   have hql:=A26 hq
   have ep:A1 ((l.length:Int)-1)=((l.length-1:Nat):Int):=by rw [A3];omega
   simp only [Option.isSome_some,Bool.not_true,cond_false,Iu,Option.getD_some,ep]
   by_cases hr:r=0
   ·subst hr
    have hd:l.drop (i+1)=[]:=List.drop_of_length_le (by omega)
    have ef:A1 (8*A1 (5-(l.length:Int)))=((8*(5-l.length):Nat):Int):=by
     rw [D0 (n:=5-(l.length:Int)) (by omega) (by omega),A3];omega
    have hfp:2 ^ (8*(5-l.length))*256 ^ i=4294967296:=by
     have:l.length=1\/l.length=2\/l.length=3\/l.length=4:=by omega
     grind
    have hf1:1*2 ^ (8*(5-l.length))<=4294967296:=by
     rw [<-hfp,Nat.one_mul]
     exact Nat.le_mul_of_pos_right _ (Nat.pow_pos (by omega))
    have he:((i:Int)==((l.length-1:Nat):Int))=true:=by rw [beq_iff_eq];omega
    rw [hd,he,ef,decide_eq_true (show (0:Int)<=((8*(5-l.length):Nat):Int) by omega)]
    simp only [cond_true]
    have s1:=Ba6 1 (8*(5-l.length)) (by omega) (by omega)
    rw [show ((1:Nat):Int)=1 from rfl] at s1
    rw [s1,Nat.one_mul]
    by_cases hc:q<2 ^ (8*(5-l.length))
    ·rw [A7,if_pos hc]
     simp only [Bool.not_true,cond_false]
     obtain ⟨n,rfl⟩:∃ m,n=m+1:=⟨n-1,by omega⟩
     rw [Iy]
     rw [hn1,D0 (n:=((i+1:Nat):Int)) (by omega) (by omega),T5,A6]
     have:32-8*i=8*(5-l.length):=by omega
     rw [this] at hvb ⊢
     rw [cond_false,A3]
     rfl
    ·rw [A6,if_neg hc];rfl
   ·obtain ⟨y,z,hyz⟩:∃ y z,l.drop (i+1)=y::z:=⟨_,_,Ao9 l (i+1) (by omega)⟩
    have he:((i:Int)==((l.length-1:Nat):Int))=false:=by rw [beq_eq_false_iff_ne];omega
    rw [hyz,he]
    simp only [cond_false]
    by_cases hc:q<=255
    ·have e1:A1 (24-A1 (8*(i:Int)))=((24-8*i:Nat):Int):=by
      rw [D0 (n:=8*(i:Int)) (by omega) (by omega),A3];omega
     have hqb:q*2 ^ (24-8*i)<4294967296:=by
      have:i=0\/i=1\/i=2:=by omega
      clear hvb
      rcases this with rfl | rfl | rfl
      ·show q*16777216<_;omega
      ·show q*65536<_;omega
      ·show q*256<_;omega
     have s2:=Ba6 q (24-8*i) (by omega) (by omega)
     rw [A6,if_pos hc,e1,decide_eq_true (show (0:Int)<=((24-8*i:Nat):Int) by omega),s2,hn1,D0 (n:=((i+1:Nat):Int)) (by omega) (by omega)]
     have e2:A1 (((v*2 ^ (32-8*i):Nat):Int)+((q*2 ^ (24-8*i):Nat):Int))=(((v*256+q)*2 ^ (32-8*(i+1)):Nat):Int):=by
      rw [A3]
      have:i=0\/i=1\/i=2:=by omega
      clear hvb hqb s2 e1
      rcases this with rfl | rfl | rfl
      ·show ((v*4294967296:Nat):Int)+((q*16777216:Nat):Int)=(((v*256+q)*16777216:Nat):Int);omega
      ·show ((v*16777216:Nat):Int)+((q*65536:Nat):Int)=(((v*256+q)*65536:Nat):Int);omega
      ·show ((v*65536:Nat):Int)+((q*256:Nat):Int)=(((v*256+q)*256:Nat):Int);omega
     rw [e2,<-hyz]
     exact ih (i+1) _ n (by omega) (by omega) (by omega) (by rw [Nat.pow_succ];omega)
    ·rw [A7,if_neg hc];rfl
theorem GF {R:Type} {k0:Unit->Option R} {k1:By->Option R} (s:By) (hs:s.length<=1000000000):∀ (r i n v:Nat),i+r=s.length->r<n->U0 LF n s (i:Int) k0 k1=if (D5 10 v (s.drop i)).isSome then k1 s else k0 ():=by
 intro r
 induction r with
 | zero=>
  intro i n v hi hn
  obtain ⟨n,rfl⟩:∃ m,n=m+1:=⟨n-1,by omega⟩
  rw [U0]
  rw [A6,List.drop_of_length_le (by omega)]
  rfl
 | succ r ih=>
  intro i n v hi hn
  obtain ⟨n,rfl⟩:∃ m,n=m+1:=⟨n-1,by omega⟩
  rw [U0,I3 s i (by omega)]
  rw [G9]
  have hbt:=(s.getD i 0).toNat_lt
  generalize s.getD i 0=b at *
  have hn1:((i:Int)+1)=((i+1:Nat):Int):=by omega
  simp (disch:=omega) only [C0,M8,cond_true,D0]
  simp only [D5]
  rw [hn1,ih (i+1) n (min (v*10+dig b) En) (by omega) (by omega)]
  rcases Jp b with ⟨h1,h2,e⟩ | ⟨h1,h2,e⟩ | ⟨h1,h2,e⟩ | ⟨h1,h2,h3,e⟩
  ·simp only [if_pos (show dig b<10 by omega)];rw [A6,A6];rfl
  ·simp only [if_neg (show ¬ dig b<10 by omega)];rw [A6,A7];rfl
  ·simp only [if_neg (show ¬ dig b<10 by omega)];rw [A6,A7];rfl
  ·simp only [if_neg (show ¬ dig b<10 by omega)]
   by_cases c:b.toNat<48
   ·rw [A7];rfl
   ·rw [A6,A7];rfl
theorem GG {R:Type} {k0:Bool->Option R} (s:By) (h0:A4 s.length=true):Tt LF s k0=k0 (!s.isEmpty&&(D5 10 0 s).isSome):=by
 have hs:=L8 h0
 have:=E5
 unfold Tt
 refine Eq.trans (GF s hs s.length 0 LF 0 (by omega) (by omega)) ?_
 rw [List.drop_zero]
 cases hd:D5 10 0 s with
 | none=>simp
 | some v=>cases s<;>rfl
theorem Aa6 {R:Type} {k0:Int->Option R} (b:Int) (h0:inR b 256=true):Ap6 LF b k0=k0 (dig (u8n b):Int):=by
 simp only [inR,Bool.and_eq_true,decide_eq_true_eq] at h0
 have hc:b=((u8n b).toNat:Int):=by
  unfold u8n
  simp
  omega
 generalize u8n b=c at *
 subst hc
 have hbt:=c.toNat_lt
 unfold Ap6
 simp only [Oh,Og,vl]
 rcases Jp c with ⟨h1,h2,e⟩ | ⟨h1,h2,e⟩ | ⟨h1,h2,e⟩ | ⟨h1,h2,h3,e⟩
 ·have e2:A1 (wu8 ((c.toNat:Int)-48))=((dig c:Nat):Int):=by
   rw [R3,A3];omega
  simp (disch:=omega) only [C0,E0,Bool.not_true,Bool.not_false,cond_false,cond_true,e2]
 ·have e2:A1 (A1 (wu8 ((c.toNat:Int)-97))+10)=((dig c:Nat):Int):=by
   rw [R3,D0 (n:=(c.toNat:Int)-97) (by omega) (by omega),A3];omega
  simp (disch:=omega) only [C0,E0,Bool.not_true,Bool.not_false,cond_false,cond_true,e2]
 ·have e2:A1 (A1 (wu8 ((c.toNat:Int)-65))+10)=((dig c:Nat):Int):=by
   rw [R3,D0 (n:=(c.toNat:Int)-65) (by omega) (by omega),A3];omega
  simp (disch:=omega) only [C0,E0,Bool.not_true,Bool.not_false,cond_false,cond_true,e2]
 ·rw [e]
  by_cases c1:c.toNat<48
  ·simp (disch:=omega) only [C0,E0,Bool.not_true,Bool.not_false,cond_false,cond_true]
   rfl
  ·by_cases c2:c.toNat<65
   ·simp (disch:=omega) only [C0,E0,Bool.not_true,Bool.not_false,cond_false,cond_true]
    rfl
   ·by_cases c3:c.toNat<97
    ·simp (disch:=omega) only [C0,E0,Bool.not_true,Bool.not_false,cond_false,cond_true]
     rfl
    ·simp (disch:=omega) only [C0,E0,Bool.not_true,Bool.not_false,cond_false,cond_true]
     rfl
theorem KQ {R:Type} {k0:Unit->Option R} {k1:Int->Option R} (s:By) (hs:s.length<=1000000000):∀ (r i acc n:Nat),i+r=s.length->r<n->acc<=En->
  Dr LF n s (acc:Int) (i:Int) k0 k1=match D5 16 acc (s.drop i) with | some v=>k1 (v:Int) | none=>k0 ():=by
 intro r
 induction r with
 | zero=>
  intro i acc n hi hn ha
  obtain ⟨n,rfl⟩:∃ m,n=m+1:=⟨n-1,by omega⟩
  rw [Dr]
  rw [A6,List.drop_of_length_le (by omega)]
  rfl
 | succ r ih=>
  intro i acc n hi hn ha
  obtain ⟨n,rfl⟩:∃ m,n=m+1:=⟨n-1,by omega⟩
  rw [Dr,I3 s i (by omega)]
  rw [G9,Pe,TU]
  generalize s.getD i 0=b at *
  have hn1:((i:Int)+1)=((i+1:Nat):Int):=by omega
  have hsat:En=1099511627776:=rfl
  simp (disch:=omega) only [C0,M8,cond_true,vl,D0]
  simp only [D5]
  rw [hn1]
  by_cases hd:dig b<16
  ·have e1:A1 (A1 ((acc:Int)*16)+(dig b:Int))=((acc*16+dig b:Nat):Int):=by
    rw [D0 (n:=(acc:Int)*16) (by omega) (by omega),A3];simp
   rw [if_pos hd,A7]
   simp (disch:=omega) only [D0,Bool.not_true,cond_false] at e1 ⊢
   rw [e1,Aq9]
   exact ih (i+1) _ n (by omega) (by omega) (by omega)
  ·rw [if_neg hd,A6];rfl
theorem SL {R:Type} {k0:Unit->Option R} {k1:Int->Option R} (s:By) (hs:s.length<=1000000000) (base:Nat) (hb:base<=16):∀ (r i acc n:Nat),i+r=s.length->r<n->acc<=En->
  Bf LF n s (base:Int) (acc:Int) (i:Int) k0 k1=match D5 base acc (s.drop i) with | some v=>k1 (v:Int) | none=>k0 ():=by
 intro r
 induction r with
 | zero=>
  intro i acc n hi hn ha
  obtain ⟨n,rfl⟩:∃ m,n=m+1:=⟨n-1,by omega⟩
  rw [Bf]
  rw [A6,List.drop_of_length_le (by omega)]
  rfl
 | succ r ih=>
  intro i acc n hi hn ha
  obtain ⟨n,rfl⟩:∃ m,n=m+1:=⟨n-1,by omega⟩
  rw [Bf,I3 s i (by omega)]
  rw [G9,Pe,TU]
  generalize s.getD i 0=b at *
  have hn1:((i:Int)+1)=((i+1:Nat):Int):=by omega
  have hsat:En=1099511627776:=rfl
  simp only [D5,vl]
  rw [A7,I8,hn1,D0 (n:=((i+1:Nat):Int)) (by omega) (by omega)]
  simp only [cond_true]
  by_cases hd:dig b<base
  ·have h1:acc*base<=1099511627776*16:=Nat.mul_le_mul (by omega) (by omega)
   have e0:A1 ((acc:Int)*(base:Int))=((acc*base:Nat):Int):=by
    rw [<-Int.natCast_mul];exact A3
   have e1:A1 (((acc*base:Nat):Int)+(dig b:Int))=((acc*base+dig b:Nat):Int):=by
    rw [A3];rfl
   rw [if_pos hd,A7,e0,e1,Aq9]
   exact ih (i+1) _ n (by omega) (by omega) (by omega)
  ·rw [if_neg hd,A6];rfl
theorem Ab2 {R:Type} {k0:Int->Bool->Option R} (s:By) (h0:A4 s.length=true):Aq3 LF s k0=k0 (Iu (X7 s):Int) (X7 s).isSome:=by
 have hs:=L8 h0
 have:=E5
 have go16:∀ x:By,x.length<=1000000000->Dr LF LF x 0 0 (λ_=>k0 0 false) (λn=>k0 n true)=k0 (Iu (D5 16 0 x):Int) (D5 16 0 x).isSome:=by
  intro x hx
  refine Eq.trans (KQ x hx x.length 0 0 LF (by omega) (by omega) (by unfold En;omega)) ?_
  rw [List.drop_zero]
  cases D5 16 0 x<;>rfl
 have goB:∀ (x:By) (b:Nat),b<=16->x.length<=1000000000->Bf LF LF x (b:Int) 0 0 (λ_=>k0 0 false) (λn=>k0 n true)=k0 (Iu (D5 b 0 x):Int) (D5 b 0 x).isSome:=by
  intro x b hb hx
  refine Eq.trans (SL x hx b hb x.length 0 0 LF (by omega) (by omega) (by unfold En;omega)) ?_
  rw [List.drop_zero]
  cases D5 b 0 x<;>rfl
 have go10:=λx=>goB x 10 (by omega)
 have go8:=λx=>goB x 8 (by omega)
 have gox:=λx=>goB x 16 (by omega)
 rw [show ((10:Nat):Int)=10 from rfl] at go10
 rw [show ((8:Nat):Int)=8 from rfl] at go8
 rw [show ((16:Nat):Int)=16 from rfl] at gox
 unfold Aq3 X7
 by_cases h1:s=[]
 ·subst h1;rfl
 have h1':(s==([]:By))=false:=by simpa using h1
 have hl:0<s.length:=List.length_pos_iff.2 h1
 rw [if_neg h1,h1']
 simp only [cond_false,Tw,Tx,Ki,Kj,Kk,vl]
 have ea:=T0 (s.getD 0 0) 48 (by omega)
 have eb:=T0 (s.getD 1 0) 120 (by omega)
 have ec:=T0 (s.getD 1 0) 88 (by omega)
 rw [show ((48:Nat):Int)=48 from rfl] at ea
 rw [show ((120:Nat):Int)=120 from rfl] at eb
 rw [show ((88:Nat):Int)=88 from rfl] at ec
 simp only [Hr,UY,ea,eb,ec,show UInt8.ofNat 48=(48:UInt8) from rfl,show UInt8.ofNat 120=(120:UInt8) from rfl,show UInt8.ofNat 88=(88:UInt8) from rfl]
 by_cases h2:2<=s.length
 ·simp (disch:=omega) only [E0,M8,U2,Bool.not_false,cond_true,M3,show 1<s.length by omega,true_and]
  unfold W5
  grind
 ·rw [A7]
  have hx:W5 s=false:=by
   cases h:W5 s with
   | false=>rfl
   | true=>have:=Jt h;omega
  grind
def r8 (n:Nat):LL:=List.replicate n [SV.int .u16 0]
theorem Gr (n:Nat):ptI (n:Int)=O4 n:=rfl
theorem KI {R:Type} {k0:Bool->Option R} (n:Int):GC LF n k0=k0 (ptI n):=by
 unfold GC
 by_cases h:n<0
 ·rw [C0 h]
  have:ptI n=false:=by
   cases n with
   | ofNat m=>exact absurd h (by simp)
   | negSucc m=>rfl
  grind
 ·obtain ⟨m,rfl⟩:=Int.eq_ofNat_of_zero_le (show 0<=n by omega)
  rw [A6,Gr]
  unfold O4
  by_cases h1:1114111<m
  ·rw [A7]
   have:Nat.ble m 1114111=false:=by rw [Bool.eq_false_iff,ne_eq,Nat.ble_eq];omega
   grind
  ·rw [A6]
   have:Nat.ble m 1114111=true:=by rw [Nat.ble_eq];omega
   rw [this]
   by_cases h2:m<55296
   ·rw [A7]
    have:Nat.blt m 55296=true:=by rw [Nat.blt_eq];omega
    grind
   ·rw [A6]
    have e:Nat.blt m 55296=false:=by rw [Bool.eq_false_iff,ne_eq,Nat.blt_eq];omega
    rw [e]
    simp only [Bool.not_false,cond_true,cond_false,Bool.false_or,Bool.true_and]
    congr 1
theorem Ve {d k:Nat} (h:455<d):Qb d k=Qb (d / 35) (k+36):=by rw [Qb,dif_pos h]
theorem La {d k:Nat} (h:¬ 455<d):Qb d k=k+36*d / (d+38):=by rw [Qb,dif_neg h]
theorem KE {R:Type} {k0:Int->Int->Option R}:∀ (d n k:Nat),d<2305843009213693952->d<n->k+d<=4611686018427387904->
  ∃ d' k',d'<=455/\k'<=k+d/\Qb d k=k'+36*d' / (d'+38)/\Br LF n (d:Int) (k:Int) k0=k0 (d':Int) (k':Int):=by
 intro d
 induction d using Nat.strongRecOn with
 | _ d ih=>
  intro n k hd hn hk
  obtain ⟨n,rfl⟩:∃ m,n=m+1:=⟨n-1,by omega⟩
  rw [Br]
  by_cases h:455<d
  ·obtain ⟨d',k',h1,h2,h3,h4⟩:=ih (d / 35) (by omega) n (k+36) (by omega) (by omega) (by omega)
   refine ⟨d',k',h1,by omega,by rw [Ve h];exact h3,?_⟩
   have e:Int.tdiv (d:Int) 35=((d / 35:Nat):Int):=J6 d 35
   have e1:A1 ((d / 35:Nat):Int)=((d / 35:Nat):Int):=A3
   have e2:A1 ((k:Int)+36)=((k+36:Nat):Int):=by rw [A3];rfl
   rw [A7]
   simp only [cond_true,vl,e,e1,e2]
   exact h4
  ·refine ⟨d,k,by omega,by omega,La h,?_⟩
   rw [A6]
   rfl
theorem KF {R:Type} {k0:Int->Option R} (d c:Int) (f:Bool) (h0:ltN d 1152921504606846976=true) (h1:ltN c 1000000=true) (h2:ltI 0 c=true):Xn LF d c f k0=k0 (L2 d.toNat c.toNat f:Nat):=by
 obtain ⟨hd0,hd1⟩:=K9.1 h0
 obtain ⟨hc0,hc1⟩:=K9.1 h1
 obtain ⟨d,rfl⟩:=Int.eq_ofNat_of_zero_le hd0
 obtain ⟨c,rfl⟩:=Int.eq_ofNat_of_zero_le hc0
 have hc:=WD.1 h2
 have hLF:=E5
 have key:∀ x:Nat,x<1152921504606846976->Bq LF (x:Int) (c:Int) k0=k0 ((Qb (x+x / c) 0:Nat):Int):=by
  intro x hx
  have hxc:x / c<=x:=Nat.div_le_self _ _
  unfold Bq
  have e1:Int.tdiv (x:Int) (c:Int)=((x / c:Nat):Int):=J6 x c
  generalize x / c=q at *
  have e2:A1 (q:Int)=(q:Int):=A3
  have e3:A1 ((x:Int)+(q:Int))=((x+q:Nat):Int):=by rw [A3];rfl
  rw [show ((c:Int) != 0)=true by simp;omega]
  simp only [cond_true,vl,e1,e2,e3]
  obtain ⟨d',k',g1,g2,g3,g4⟩:=KE (R:=R) (k0:=λdelta'7 k'8=>vl (A1 ((36)*delta'7)) λn'9=>vl (A1 (delta'7+(38))) λn'10=>cond (n'10 != (0)) (vl (A1 (Int.tdiv n'9 n'10)) λn'11=>k0 (A1 (k'8+n'11))) none) (x+q) LF 0 (by omega) (by omega) (by omega)
  refine Eq.trans g4 ?_
  have hq:36*d' / (d'+38)<=36*d':=Nat.div_le_self _ _
  have f1:A1 (36*(d':Int))=((36*d':Nat):Int):=by rw [A3];rfl
  have f2:A1 ((d':Int)+38)=((d'+38:Nat):Int):=by rw [A3];rfl
  have f3:Int.tdiv ((36*d':Nat):Int) ((d'+38:Nat):Int)=((36*d' / (d'+38):Nat):Int):=J6 _ _
  have f4:A1 ((36*d' / (d'+38):Nat):Int)=((36*d' / (d'+38):Nat):Int):=A3
  have f5:A1 ((k':Int)+((36*d' / (d'+38):Nat):Int))=((k'+36*d' / (d'+38):Nat):Int):=by rw [A3];rfl
  simp only [vl,f1,f2,f3,f4,f5]
  rw [show (((d'+38:Nat):Int) != 0)=true by simp;omega,g3]
  rfl
 unfold Xn L2
 rw [Int.toNat_natCast,Int.toNat_natCast]
 cases f with
 | true=>
  have e1:Int.tdiv (d:Int) 700=((d / 700:Nat):Int):=J6 d 700
  have e2:A1 ((d / 700:Nat):Int)=((d / 700:Nat):Int):=A3
  simp only [cond_true,vl,e1,e2,if_true]
  exact key _ (by omega)
 | false=>
  have e1:Int.tdiv (d:Int) 2=((d / 2:Nat):Int):=J6 d 2
  have e2:A1 ((d / 2:Nat):Int)=((d / 2:Nat):Int):=A3
  simp only [cond_false,vl,e1,e2,Bool.false_eq_true,if_false]
  exact key _ (by omega)
theorem Zw {d:Nat} (h:d<36):(T3 d).toNat=if d<26 then 97+d else 22+d:=by
 unfold T3
 split<;>simp<;>omega
theorem ZY {R:Type} {k0:Int->Option R} (d:Int) (h0:ltN d 36=true):A34 LF d k0=k0 ((T3 d.toNat).toNat:Nat):=by
 obtain ⟨hd0,hd1⟩:=K9.1 h0
 obtain ⟨d,rfl⟩:=Int.eq_ofNat_of_zero_le hd0
 unfold A34
 rw [Int.toNat_natCast,Zw (by omega)]
 by_cases h:d<26
 ·rw [A7,if_pos h]
  simp only [cond_true,vl]
  congr 1
  rw [A3,R3]
  rfl
 ·rw [A6,if_neg h]
  simp only [cond_false,vl]
  congr 1
  rw [D0 (n:=48+(d:Int)) (by omega) (by omega),A3,R3]
  omega
theorem Td (b:UInt8):(97<=b.toNat/\b.toNat<=122/\Hl b=some (b.toNat-97))\/(65<=b.toNat/\b.toNat<=90/\Hl b=some (b.toNat-65))\/(48<=b.toNat/\b.toNat<=57/\Hl b=some (b.toNat-22))\/(¬(97<=b.toNat/\b.toNat<=122)/\¬(65<=b.toNat/\b.toNat<=90)/\¬(48<=b.toNat/\b.toNat<=57)/\Hl b=none):=by
 unfold Hl
 grind
theorem Aa2 {R:Type} {k0:Int->Option R} (b:Int) (h0:inR b 256=true):Ap3 LF b k0=k0 (C1 (u8n b)):=by
 simp only [inR,Bool.and_eq_true,decide_eq_true_eq] at h0
 have hc:b=((u8n b).toNat:Int):=by
  unfold u8n
  simp
  omega
 generalize u8n b=c at *
 subst hc
 have hbt:=c.toNat_lt
 unfold Ap3 C1
 simp only [Oe,Od,vl]
 rcases Td c with ⟨h1,h2,e⟩ | ⟨h1,h2,e⟩ | ⟨h1,h2,e⟩ | ⟨h1,h2,h3,e⟩
 ·have e2:A1 (wu8 ((c.toNat:Int)-97))=((c.toNat-97:Nat):Int):=by
   rw [R3,A3];omega
  simp (disch:=omega) only [C0,E0,Bool.not_true,Bool.not_false,cond_false,cond_true,e2,e]
 ·have e2:A1 (wu8 ((c.toNat:Int)-65))=((c.toNat-65:Nat):Int):=by
   rw [R3,A3];omega
  simp (disch:=omega) only [C0,E0,Bool.not_true,Bool.not_false,cond_false,cond_true,e2,e]
 ·have e2:A1 (A1 (wu8 ((c.toNat:Int)-48))+26)=((c.toNat-22:Nat):Int):=by
   rw [R3,D0 (n:=(c.toNat:Int)-48) (by omega) (by omega),A3];omega
  simp (disch:=omega) only [C0,E0,Bool.not_true,Bool.not_false,cond_false,cond_true,e2,e]
 ·rw [e]
  by_cases c1:c.toNat<48
  ·simp (disch:=omega) only [C0,E0,Bool.not_true,Bool.not_false,cond_false,cond_true]
  ·by_cases c2:c.toNat<65
   ·simp (disch:=omega) only [C0,E0,Bool.not_true,Bool.not_false,cond_false,cond_true]
   ·by_cases c3:c.toNat<97
    ·simp (disch:=omega) only [C0,E0,Bool.not_true,Bool.not_false,cond_false,cond_true]
    ·simp (disch:=omega) only [C0,E0,Bool.not_true,Bool.not_false,cond_false,cond_true]
end
section
open Go
theorem Lu (x y:By) (r:List By) (p:By):Lib.join (x::y::r) p=x++(p++Lib.join (y::r) p):=by
 simp [Lib.join,List.intercalate]
theorem KG (c:UInt8):∀ l:List By,l≠[]->(∀ x∈l,c∉x)->pcs c (Lib.join l [c])=l
 | [],h,_=>absurd rfl h
 | [x],_,h=>by rw [Lib.join_one,Iw (h x (by simp))]
 | x::y::r,_,h=>by
  rw [Lu,List.singleton_append,Ts (h x (by simp)),KG c (y::r) (by simp) (λz hz=>h z (by simp [hz]))]
theorem JL (c:UInt8):∀ (n:Nat) (s:By),s.length<=n->Lib.join (pcs c s) [c]=s
 | n,s,hn=>by
  rcases Dw c s with h | ⟨p,r,rfl,h⟩
  ·rw [Iw h,Lib.join_one]
  ·rw [Ts h]
   cases n with
   | zero=>simp at hn
   | succ n=>
    have ih:=JL c n r (by simp at hn;omega)
    cases hp:pcs c r with
    | nil=>exact absurd hp (Iv c r)
    | cons y q=>
     rw [Lu,<-hp,ih]
     rfl
theorem Ju (c:UInt8) (s:By):Lib.join (pcs c s) [c]=s:=JL c _ s (Nat.le_refl _)
theorem WB (b:UInt8):Ej b=46↔b=46:=by
 rcases Gk b with ⟨h,e⟩ | ⟨h,e⟩ | ⟨h,h2,e⟩
 ·rw [e]
 ·rw [e]
 ·constructor
  ·intro h3;rw [h3] at e;simp at e;omega
  ·intro h3;subst h3;simp at h
theorem ZB (a b:By):D9 (a++b)=D9 a++D9 b:=List.map_append
theorem Jw (s:By):(D9 s).length=s.length:=List.length_map _
theorem Er:∀ (s acc:By),G2 46 (D9 acc) (D9 s)=(G2 46 acc s).map D9
 | [],acc=>rfl
 | b::r,acc=>by
  show (if Ej b=46 then _ else _)=_
  simp only [G2]
  by_cases h:b=46
  ·rw [if_pos ((WB b).2 h),if_pos h,List.map_cons]
   have:=Er r []
   rw [<-this]
   rfl
  ·rw [if_neg (λe=>h ((WB b).1 e)),if_neg h,<-Er r (acc++[b]),ZB]
   rfl
theorem ZV (s:By):pcs 46 (D9 s)=(pcs 46 s).map D9:=Er s []
theorem Gl (s:By) (i:Nat):(D9 s).getD i 0=Ej (s.getD i 0):=by
 unfold D9
 simp only [List.getD_eq_getElem?_getD,List.getElem?_map]
 cases s[i]?<;>rfl
theorem AP {s:By}:D9 s=[]↔s=[]:=by unfold D9;simp
theorem FE (l:List By):(l.map D9).getLastD []=D9 (l.getLastD []):=by
 rw [List.getLastD_eq_getLast?,List.getLastD_eq_getLast?,List.getLast?_map]
 cases l.getLast?<;>rfl
theorem Be7 (s:By):D4 (D9 s)=(D4 s).map D9:=by
 unfold D4
 rw [ZV,FE]
 simp only [List.length_map,AP]
 grind
theorem PQ (s:By) (i:Nat):(D9 s).drop i=D9 (s.drop i):=by unfold D9;rw [List.map_drop]
theorem Sm (b:UInt8):P9 b=true↔(97<=b.toNat/\b.toNat<=122)\/(48<=b.toNat/\b.toNat<=57)\/b=45\/b=95:=by
 simp [P9,or_assoc]
structure VL (s:By):Prop where
 ne:s≠[]
 le:s.length<=63
 byt:∀ b∈s,P9 b=true
theorem BT {s:By} (h:K2 s=true):VL s:=by
 unfold K2 at h
 simp only [Bool.and_eq_true,Bool.not_eq_true',List.all_eq_true] at h
 obtain ⟨⟨⟨⟨⟨h1,h2⟩,h3⟩,h4⟩,h5⟩,h6⟩:=h
 refine ⟨by intro e;subst e;simp at h1,Nat.le_of_ble_eq_true h2,λb hb=>h5 b hb⟩
structure VN (s:By):Prop where
 le:s.length<=253
 num:N1 s=false
 all:∀ x∈pcs 46 s,K2 x=true
theorem Gy {s:By}:D6 s=true↔VN s:=by
 unfold D6
 simp only [Bool.and_eq_true,Bool.not_eq_true',List.all_eq_true]
 exact ⟨λh=>⟨Nat.le_of_ble_eq_true h.1.1,h.1.2,h.2⟩,λh=>⟨⟨Nat.ble_eq_true_of_le h.le,h.num⟩,h.all⟩⟩
theorem U8 {a b:By}:F5 a b=true↔VN a/\VN b/\(a=b\/∃ p,b=p++46::a):=by
 unfold F5
 simp only [Bool.and_eq_true,Bool.or_eq_true,Gy,and_assoc,beq_iff_eq,List.isSuffixOf_iff_suffix]
 constructor
 ·rintro ⟨h1,h2,h3 | ⟨p,h3⟩⟩
  all_goals grind
 grind
theorem Hy (a:By):F5 a a=D6 a:=by
 unfold F5
 simp
theorem Ms {a b c:By} (h1:F5 a b=true) (h2:F5 b c=true):F5 a c=true:=by
 obtain ⟨v1,v2,h1⟩:=U8.1 h1
 obtain ⟨_,v3,h2⟩:=U8.1 h2
 refine U8.2 ⟨v1,v3,?_⟩
 grind
theorem Sr {s:By} (h:∀ x∈pcs 46 s,x≠[]):D4 s=pcs 46 s:=by
 unfold D4
 grind
theorem VN.pne {s:By} (h:VN s):∀ x∈pcs 46 s,x≠[]:=λx hx=>(BT (h.all x hx)).ne
theorem VN.super {s x y:By} {r:List By} (h:VN s) (hp:pcs 46 s=x::y::r):s=x++46::Lib.join (y::r) [46]/\VN (Lib.join (y::r) [46])/\pcs 46 (Lib.join (y::r) [46])=y::r:=by
 have hs:=Ju 46 s
 rw [hp,Lu] at hs
 have hpc:pcs 46 (Lib.join (y::r) [46])=y::r:=KG 46 _ (by simp) (λz hz=>(Kd (s:=s) (by rw [hp];simp [hz])).1)
 have hall:∀ z∈y::r,K2 z=true:=λz hz=>h.all z (by rw [hp];exact List.mem_cons_of_mem _ hz)
 refine ⟨hs.symm,⟨?_,?_,by rw [hpc];exact hall⟩,hpc⟩
 ·have:=congrArg List.length hs
  have:=h.le
  grind
 ·have h1:=h.num
  unfold N1 at h1 ⊢
  have e:Au (Lib.join (y::r) [46])=Au s:=by
   unfold Au
   rw [Sr h.pne,Sr (by rw [hpc];exact λz hz=>(BT (hall z hz)).ne),hpc,hp]
   rfl
  grind
def Mp (name:By):By->List By->Prop
 | _,[]=>True
 | last,y::r=>F5 y name=true/\F5 y last=true/\y.length<last.length/\Mp name y r
theorem Pa (name:By):∀ (l:List By) (s:By),VN s->F5 s name=true->pcs 46 s=l->Mp name s (X4 l)
 | [],s,_,_,hp=>absurd hp (Iv 46 s)
 | [x],s,_,_,_=>trivial
 | x::y::r,s,hv,hc,hp=>by
  obtain ⟨h1,h2,h3⟩:=hv.super hp
  have hcs:F5 (Lib.join (y::r) [46]) s=true:=U8.2 ⟨h2,hv,.inr ⟨x,h1⟩⟩
  refine ⟨Ms hcs hc,hcs,?_,Pa name (y::r) _ h2 (Ms hcs hc) h3⟩
  grind
theorem O9 (name:By):Mp name name (I1 name):=by
 unfold I1
 by_cases h:D6 name=true
 ·rw [if_pos h]
  exact Pa name _ name (Gy.1 h) (by rw [Hy];exact h) rfl
 ·rw [if_neg h]
  trivial
def sh (n:Nat) (i:Int):Int:=if i = -1 then -1 else i+n
end
section
open Go Go.Op
abbrev Ent:=By × Bool
abbrev Bb2:=By × Bool × Int
def Qs (e:Ent):List SV:=[.str e.1,.bool e.2]
def Bm8 (p:Bb2):List SV:=[.str p.1,.bool p.2.1,.int .i64 p.2.2]
def F8 (l:List Ent):LL:=l.map Qs
def Bm9 (l:List Bb2):LL:=l.map Bm8
def K3:List SV->Bool | [.str _,.bool _]=>true | _=>false
def B5 (el:List SV):Ent:=((el.getD 0 .nilp).gS,(el.getD 1 .nilp).gB)
theorem AT {α β:Type} (f:β->α) (g:α->β):∀ l:List α,(∀ x∈l,f (g x)=x)->l=(l.map g).map f
 | [],_=>rfl
 | a::r,h=>by
  rw [List.map_cons,List.map_cons,h a (by simp),<-AT f g r λx hx=>h x (by simp [hx])]
theorem Df {l:LL} (h:l.all K3=true):l=F8 (l.map B5):=AT Qs B5 l λx hx=>by
 have:=List.all_eq_true.1 h x hx
 unfold K3 at this
 split at this
 ·rfl
 ·cases this
theorem Nc (l:List Ent):(F8 l).map B5=l:=by
 unfold F8
 rw [List.map_map]
 exact List.map_id'' (λ_=>rfl) l
@[simp] theorem C8 (l:List Ent):(F8 l).length=l.length:=List.length_map ..
@[simp] theorem Bk4 (l:List Bb2):(Bm9 l).length=l.length:=List.length_map ..
def noE:Ent:=([],false)
theorem Fd {l:List Ent} {i:Nat} (h:i<l.length):(F8 l).getD i []=Qs (l.getD i noE):=by
 unfold F8
 simp [List.getD_eq_getElem?_getD,List.getElem?_eq_getElem h]
theorem R5:∀ x y:By,bytesLess x y=decide (x<y)
 | [],[]=>by simp [bytesLess]
 | _::_,[]=>by simp [bytesLess]
 | [],_::_=>by simp [bytesLess]
 | a::x,b::y=>by
  rw [bytesLess,R5 x y]
  simp only [List.cons_lt_cons_iff]
  by_cases h1:a<b<;>by_cases h2:a=b<;>by_cases h3:x<y<;>simp [h1,h2,h3]
def rl (s:By):List By:=(pcs 46 s).reverse
def Xe:List By->List By->Bool
 | _,[]=>false
 | [],_::_=>true
 | x::r,y::q=>bytesLess x y || (x==y&&Xe r q)
theorem To:∀ x y:List By,Xe x y=decide (x<y)
 | [],[]=>by simp [Xe]
 | _::_,[]=>by simp [Xe]
 | [],_::_=>by simp [Xe]
 | a::x,b::y=>by
  rw [Xe,To x y,R5]
  simp only [List.cons_lt_cons_iff]
  by_cases h1:a<b<;>by_cases h2:a=b<;>by_cases h3:x<y<;>simp [h1,h2,h3]
def O5 (a b:By):Bool:=Xe (rl a) (rl b)
def T2 (a b:By):Int:=cond (bytesLess a b) (-1) (cond (bytesLess b a) 1 0)
def EX (a b:Int):Int:=cond (ltI a b) (-1) (cond (ltI b a) 1 0)
def Q1 (a b:By):Int:=cond (O5 a b) (-1) (cond (O5 b a) 1 0)
theorem Bf1 {a b:By} (h:rl a=rl b):a=b:=by
 rw [<-Ju 46 a,<-Ju 46 b,List.reverse_inj.1 h]
theorem Q8 (a:By):O5 a a=false:=by
 unfold O5
 rw [To]
 simp
theorem Co {a b c:By} (h:O5 a b=true) (g:O5 b c=true):O5 a c=true:=by
 unfold O5 at *
 rw [To] at *
 exact decide_eq_true (List.lt_trans (of_decide_eq_true h) (of_decide_eq_true g))
theorem Ip {a b:By} (h:O5 a b=false) (g:O5 b a=false):a=b:=by
 unfold O5 at *
 rw [To] at *
 exact Bf1 (List.le_antisymm (List.not_lt.1 (of_decide_eq_false g)) (List.not_lt.1 (of_decide_eq_false h)))
theorem QD {a b:By} (h:O5 a b=true):O5 b a=false:=by
 cases e:O5 b a with
 | false=>rfl
 | true=>exact absurd (Co h e) (by rw [Q8];simp)
theorem Sp {a b c:By} (h:O5 a b=false) (g:O5 b c=false):O5 a c=false:=by
 cases e:O5 a c with
 | false=>rfl
 | true=>
  cases e1:O5 b a with
  | true=>rw [Co e1 e] at g;cases g
  | false=>
   obtain rfl:=Ip h e1
   rw [e] at g;cases g
theorem Ac (a b:By):decide (Q1 a b<0)=O5 a b:=by
 unfold Q1
 cases O5 a b with
 | true=>rfl
 | false=>cases O5 b a<;>rfl
theorem XO (a b:By):(Q1 a b==0)=(a==b):=by
 unfold Q1
 cases h:O5 a b with
 | true=>
  have:a≠b:=λe=>by rw [e,Q8] at h;cases h
  simp [this]
 | false=>
  cases g:O5 b a with
  | true=>
   have:a≠b:=λe=>by rw [e,Q8] at g;cases g
   simp [this]
  | false=>
   obtain rfl:=Ip h g
   simp
theorem LT {α:Type} [Inhabited α] (f:α->By):Sort.SWO (Go.Proofs.ltOf λx y:α=>Q1 (f x) (f y)) where
 irrefl x:=by unfold Go.Proofs.ltOf;rw [Ac,Q8]
 trans x y z h g:=by unfold Go.Proofs.ltOf at *;rw [Ac] at *;exact Co h g
 ntrans x y z h g:=by unfold Go.Proofs.ltOf at *;rw [Ac] at *;exact Sp h g
def Li (f:Nat->Int):Nat->Nat->Nat->Nat
 | 0,lo,_=>lo
 | n+1,lo,hi=>if lo<hi then (if f ((lo+hi) / 2)<0 then Li f n ((lo+hi) / 2+1) hi else Li f n lo ((lo+hi) / 2)) else lo
theorem Tm (f:Nat->Int):∀ n lo hi,lo<=hi->lo<=Li f n lo hi/\Li f n lo hi<=hi
 | 0,lo,hi,h=>⟨Nat.le_refl _,h⟩
 | n+1,lo,hi,h=>by
  unfold Li
  split
  ·split
   ·have:=Tm f n ((lo+hi) / 2+1) hi (by omega);omega
   ·have:=Tm f n lo ((lo+hi) / 2) (by omega);omega
  ·omega
theorem EH (f:Nat->Int) (N:Nat) (mono:∀ a b,a<=b->b<N->f b<0->f a<0):∀ n lo hi,lo<=hi->hi<=N->hi-lo<=n->(∀ t,t<lo->f t<0)->(∀ t,hi<=t->t<N->0<=f t)->
  (∀ t,t<Li f n lo hi->f t<0)/\∀ t,Li f n lo hi<=t->t<N->0<=f t
 | 0,lo,hi,h,_,g,h1,h2=>⟨h1,λt a b=>h2 t (by unfold Li at a;omega) b⟩
 | n+1,lo,hi,h,k,g,h1,h2=>by
  unfold Li
  split
  ·split
   ·rename_i c
    exact EH f N mono n _ hi (by omega) k (by omega) (λt ht=>mono t ((lo+hi) / 2) (by omega) (by omega) c) h2
   ·rename_i c
    exact EH f N mono n lo _ (by omega) (by omega) (by omega) h1 (λt a b=>by
     apply Int.not_lt.1;intro d;exact c (mono _ t a b d))
  ·exact ⟨h1,λt a b=>h2 t (by omega) b⟩
def bsI (h:List By) (s:By):Nat:=Li (λi=>Q1 (h.getD i []) s) (h.length+1) 0 h.length
def bsB (h:List By) (s:By):Bool:=Nat.blt (bsI h s) h.length&&h.getD (bsI h s) []==s
def asc (h:List By):Bool:=match h with
 | []=>true
 | [_]=>true
 | a::b::r=>O5 a b&&asc (b::r)
theorem Vi:∀ {h:List By},asc h=true->∀ {i j:Nat},i<j->j<h.length->O5 (h.getD i []) (h.getD j [])=true
 | [],_,i,j,_,hj=>by simp at hj
 | [_],_,i,j,hi,hj=>by simp at hj;omega
 | a::b::r,H,i,j,hi,hj=>by
  unfold asc at H
  rw [Bool.and_eq_true] at H
  match i,j,hi with
  | 0,1,_=>exact H.1
  | 0,j+2,_=>exact Co H.1 (Vi (i:=0) (j:=j+1) H.2 (by omega) (by simpa using hj))
  | i+1,j+1,hi=>exact Vi (i:=i) (j:=j) H.2 (by omega) (by simpa using hj)
theorem Bj2 {h:List By} (H:asc h=true) (s:By):(∀ t,t<bsI h s->O5 (h.getD t []) s=true)/\(∀ t,bsI h s<=t->t<h.length->O5 (h.getD t []) s=false)/\bsI h s<=h.length:=by
 have key:=EH (λi=>Q1 (h.getD i []) s) h.length (λa b hab hb g=>by
  have g':O5 (h.getD b []) s=true:=by rw [<-Ac];exact decide_eq_true g
  rcases Nat.lt_or_eq_of_le hab with l | rfl
  ·exact of_decide_eq_true (by rw [Ac];exact Co (Vi H l hb) g')
  ·exact g) (h.length+1) 0 h.length (by omega) (by omega) (by omega) (λt ht=>by omega) (λt a b=>by omega)
 refine ⟨λt ht=>by rw [<-Ac];exact decide_eq_true (key.1 t ht),λt a b=>?_,(Tm _ _ _ _ (by omega)).2⟩
 rw [<-Ac]
 exact decide_eq_false (by have:=key.2 t a b;omega)
theorem Bc2 {h:List By} (H:asc h=true) (s:By):bsB h s=h.contains s:=by
 obtain ⟨h1,h2,h3⟩:=Bj2 H s
 unfold bsB
 rw [Bool.eq_iff_iff]
 simp only [Bool.and_eq_true,Nat.blt_eq,beq_iff_eq,List.contains_iff_mem]
 constructor
 ·rintro ⟨a,b⟩
  rw [<-b,List.getD_eq_getElem?_getD,List.getElem?_eq_getElem a]
  exact List.getElem_mem a
 ·intro hm
  obtain ⟨t,ht,e⟩:=List.getElem_of_mem hm
  have e':h.getD t []=s:=by rw [List.getD_eq_getElem?_getD,List.getElem?_eq_getElem ht];exact e
  have l1:bsI h s<=t:=by
   apply Nat.not_lt.1;intro q
   have:=h1 t q
   rw [e',Q8] at this;cases this
  refine ⟨by omega,?_⟩
  rcases Nat.lt_or_eq_of_le l1 with l | l
  ·have g:=h2 _ (Nat.le_refl _) (by omega)
   have:=Vi H l ht
   rw [e',g] at this;cases this
  ·rw [l];exact e'
theorem Tl {a b:Nat}:Nat.blt a b=true↔a<b:=by rw [Nat.blt_eq]
def Ak5 {α:Type} (key:α->By) (d:α) (T:List α) (u:By):α × Bool:=if bsB (T.map key) u then (T.getD (bsI (T.map key) u) d,true) else (d,false)
theorem UX {α:Type} {key:α->By} {T:List α} (H:asc (T.map key)=true) {x y:α} (hx:x∈T) (hy:y∈T) (e:key x=key y):x=y:=by
 obtain ⟨i,hi,rfl⟩:=List.getElem_of_mem hx
 obtain ⟨j,hj,rfl⟩:=List.getElem_of_mem hy
 have key':∀ {a b:Nat} (ha:a<T.length) (hb:b<T.length),a<b->key T[a]≠key T[b]:=λha hb hab e=>by
  have:=Vi H hab (by simpa using hb)
  simp [List.getD_eq_getElem?_getD,ha,hb] at this
  rw [e,Q8] at this;cases this
 rcases Nat.lt_trichotomy i j with h | rfl | h
 ·exact absurd e (key' hi hj h)
 ·rfl
 ·exact absurd e.symm (key' hj hi h)
theorem FF {α:Type} {key:α->By} {d:α} {T:List α} (H:asc (T.map key)=true) (u:By):(∃ x∈T,key x=u/\Ak5 key d T u=(x,true))\/((∀ x∈T,key x≠u)/\Ak5 key d T u=(d,false)):=by
 unfold Ak5
 cases h:bsB (T.map key) u with
 | true=>
  left
  rw [if_pos rfl]
  unfold bsB at h
  rw [Bool.and_eq_true] at h
  have h1:bsI (T.map key) u<T.length:=by have:=Tl.1 h.1;simpa using this
  have e:T.getD (bsI (T.map key) u) d=T[bsI (T.map key) u]:=by simp [List.getD_eq_getElem?_getD,h1]
  rw [e]
  refine ⟨_,List.getElem_mem h1,?_,rfl⟩
  have:=h.2
  simpa [List.getD_eq_getElem?_getD,h1] using this
 | false=>
  right
  rw [Bc2 H] at h
  refine ⟨λx hx e=>?_,if_neg (by simp)⟩
  have:(T.map key).contains u=true:=by
   rw [List.contains_iff_mem,<-e]
   exact List.mem_map_of_mem hx
  rw [h] at this;cases this
abbrev L5:=Ak5 (α:=Ent) Prod.fst noE
theorem Bi (c:UInt8):∀ (p acc s:By),G2 c acc (p++c::s)=G2 c acc p++G2 c [] s
 | [],acc,s=>by simp [G2]
 | b::r,acc,s=>by
  simp only [List.cons_append,G2]
  split
  ·rw [Bi c r [] s];rfl
  ·exact Bi c r _ s
theorem Oz (B:List By) (hB:B≠[]):∀ A:List By,A≠[]->Lib.join B [46]∈X4 (A++B)
 | [],h=>absurd rfl h
 | [x],_=>by
  cases B with
  | nil=>exact absurd rfl hB
  | cons b r=>simp [X4]
 | x::y::r,_=>by
  have:=Oz B hB (y::r) (by simp)
  simp only [List.cons_append,X4] at this ⊢
  exact List.mem_cons_of_mem _ this
theorem Y1 {name:By}:∀ {last:By} {l:List By},Mp name last l->∀ u∈l,F5 u name=true/\u.length<last.length
 | _,[],_,u,hu=>by cases hu
 | last,y::r,h,u,hu=>by
  obtain ⟨h1,h2,h3,h4⟩:=h
  rcases List.mem_cons.1 hu with rfl | hu
  ·exact ⟨h1,h3⟩
  ·have:=Y1 h4 u hu
   exact ⟨this.1,by omega⟩
theorem Yl {s:By} (hs:D6 s=true) (u:By):u∈I1 s↔F5 u s=true/\u≠s:=by
 constructor
 ·intro h
  have:=Y1 (O9 s) u h
  exact ⟨this.1,λe=>by rw [e] at this;omega⟩
 ·rintro ⟨h,hne⟩
  obtain ⟨_,_,h3⟩:=U8.1 h
  rcases h3 with rfl | ⟨p,rfl⟩
  ·exact absurd rfl hne
  ·unfold I1
   rw [if_pos hs]
   have e:pcs 46 (p++46::u)=pcs 46 p++pcs 46 u:=Bi 46 p [] u
   rw [e]
   have:=Oz (pcs 46 u) (Iv 46 u) (pcs 46 p) (Iv 46 p)
   rwa [Ju] at this
theorem Vv {name:By} (P:By->Bool):∀ {last:By} {l:List By},Mp name last l->(∃ u,l.find? P=some u/\u∈l/\P u=true/\∀ v∈l,P v=true->v.length<=u.length)\/(l.find? P=none/\∀ v∈l,P v=false)
 | _,[],_=>.inr ⟨rfl,λv hv=>by cases hv⟩
 | last,y::r,h=>by
  obtain ⟨h1,h2,h3,h4⟩:=h
  rw [List.find?_cons]
  cases hp:P y with
  | true=>
   refine .inl ⟨y,rfl,by simp,hp,λv hv _=>?_⟩
   rcases List.mem_cons.1 hv with rfl | hv
   ·exact Nat.le_refl _
   ·have:=(Y1 h4 v hv).2;omega
  | false=>
   rcases Vv P h4 with ⟨u,a,b,c,d⟩ | ⟨a,b⟩
   ·refine .inl ⟨u,a,by simp [b],c,λv hv hpv=>?_⟩
    rcases List.mem_cons.1 hv with rfl | hv
    ·rw [hp] at hpv;cases hpv
    ·exact d v hv hpv
   ·refine .inr ⟨a,λv hv=>?_⟩
    rcases List.mem_cons.1 hv with rfl | hv
    ·exact hp
    ·exact b v hv
theorem XN {s:By} (hs:D6 s=true) (P:By->Bool):(∃ u,(s::I1 s).find? P=some u/\F5 u s=true/\P u=true/\∀ v,F5 v s=true->P v=true->v.length<=u.length)\/((s::I1 s).find? P=none/\∀ v,F5 v s=true->P v=false):=by
 have mem:∀ v,F5 v s=true->v∈s::I1 s:=λv hv=>by
  by_cases e:v=s
  ·rw [e];simp
  ·exact List.mem_cons_of_mem _ ((Yl hs v).2 ⟨hv,e⟩)
 have hss:F5 s s=true:=by rw [Hy];exact hs
 have hle:∀ v,F5 v s=true->v.length<=s.length:=λv hv=>by
  by_cases e:v=s
  ·rw [e];omega
  ·have:=(Y1 (O9 s) v ((Yl hs v).2 ⟨hv,e⟩)).2
   omega
 rw [List.find?_cons]
 cases hp:P s with
 | true=>exact .inl ⟨s,rfl,hss,hp,λv hv _=>hle v hv⟩
 | false=>
  rcases Vv P (O9 s) with ⟨u,a,b,c,d⟩ | ⟨a,b⟩
  ·refine .inl ⟨u,a,(Y1 (O9 s) u b).1,c,λv hv hpv=>?_⟩
   rcases List.mem_cons.1 (mem v hv) with rfl | hm
   ·rw [hp] at hpv;cases hpv
   ·exact d v hm hpv
  ·refine .inr ⟨a,λv hv=>?_⟩
   rcases List.mem_cons.1 (mem v hv) with rfl | hm
   ·exact hp
   ·exact b v hm
def Db (s:By) (e:Ent):Bool:=D6 s&&(e.1==s || e.2&&F5 e.1 s)
def Yt (l:List Ent) (s u:By):Bool:=(L5 l u).2&&((u==s) || (L5 l u).1.2)
def Ag (l:List Ent) (s:By):Ent × Bool:=if (L5 l s).2 then L5 l s else match (I1 s).find? λu=>(L5 l u).2&&(L5 l u).1.2 with
 | some u=>((L5 l u).1,true)
 | none=>(noE,false)
theorem We {α:Type} {p q:α->Bool}:∀ {l:List α},(∀ x∈l,p x=q x)->l.find? p=l.find? q
 | [],_=>rfl
 | a::r,h=>by
  rw [List.find?_cons,List.find?_cons,h a (by simp),We λx hx=>h x (by simp [hx])]
theorem Ac9 {s u:By} (h:u∈I1 s):u≠s:=λe=>by
 have:=(Y1 (O9 s) u h).2
 rw [e] at this;omega
theorem Ak2 (l:List Ent) (s:By):Ag l s=match (s::I1 s).find? (Yt l s) with
  | some u=>((L5 l u).1,true)
  | none=>(noE,false):=by
 have e:(I1 s).find? (Yt l s)=(I1 s).find? λu=>(L5 l u).2&&(L5 l u).1.2:=We λu hu=>by
  unfold Yt
  rw [show (u==s)=false by simpa using Ac9 hu,Bool.false_or]
 unfold Ag
 rw [List.find?_cons,e]
 cases h:(L5 l s).2 with
 | true=>
  rw [if_pos rfl,show Yt l s s=true by unfold Yt;rw [h];simp]
  show L5 l s=((L5 l s).1,true)
  rw [<-h]
 | false=>
  rw [if_neg (by simp),show Yt l s s=false by unfold Yt;rw [h];rfl]
theorem Wj {l:List Ent} (H:asc (l.map Prod.fst)=true) {s u:By} (hu:F5 u s=true):Yt l s u=true↔∃ x∈l,x.1=u/\Db s x=true:=by
 have hvs:D6 s=true:=Gy.2 (U8.1 hu).2.1
 unfold Yt
 rcases FF (d:=noE) H u with ⟨x,hx,e,g⟩ | ⟨h,g⟩
 ·rw [show L5 l u=(x,true) from g]
  constructor
  ·intro k
   refine ⟨x,hx,e,?_⟩
   unfold Db
   rw [hvs,e,hu]
   simpa using k
  ·rintro ⟨y,hy,e2,k⟩
   have exy:=UX H hx hy (e.trans e2.symm)
   subst exy
   unfold Db at k
   rw [hvs,e,hu] at k
   simpa using k
 ·rw [show L5 l u=(noE,false) from g]
  constructor
  ·intro k;cases k
  ·rintro ⟨y,hy,e2,_⟩
   exact absurd e2 (h y hy)
theorem Mr {s:By} {x:Ent} (h:Db s x=true):F5 x.1 s=true:=by
 unfold Db at h
 simp only [Bool.and_eq_true,Bool.or_eq_true,beq_iff_eq] at h
 rcases h with ⟨h,e | ⟨_,e⟩⟩
 ·rw [e,Hy];exact h
 ·exact e
theorem Ak3 {l:List Ent} (H:asc (l.map Prod.fst)=true) (s:By):(∃ x∈l,Ag l s=(x,true)/\Db s x=true/\∀ y∈l,Db s y=true->y.1.length<=x.1.length)\/(Ag l s=(noE,false)/\∀ y∈l,Db s y=false)\/(D6 s=false/\∃ x∈l,x.1=s):=by
 cases hs:D6 s with
 | false=>
  have e:I1 s=[]:=by unfold I1;rw [hs];rfl
  rcases FF (d:=noE) H s with ⟨x,hx,e1,g⟩ | ⟨h,g⟩
  ·exact .inr (.inr ⟨rfl,x,hx,e1⟩)
  ·refine .inr (.inl ⟨?_,λy hy=>by unfold Db;rw [hs];rfl⟩)
   unfold Ag
   rw [show L5 l s=(noE,false) from g,e]
   rfl
 | true=>
  rw [Ak2]
  rcases XN hs (Yt l s) with ⟨u,h1,h2,h3,h4⟩ | ⟨h1,h2⟩
  ·rw [h1]
   obtain ⟨x,hx,e,c⟩:=(Wj H h2).1 h3
   left
   refine ⟨x,hx,?_,c,λy hy hc=>?_⟩
   ·rcases FF (d:=noE) H u with ⟨z,hz,e2,g⟩ | ⟨h,g⟩
    ·rw [UX H hx hz (e.trans e2.symm)]
     show ((L5 l u).1,true)=_
     rw [show L5 l u=(z,true) from g]
    ·exact absurd e (h x hx)
   ·rw [e]
    exact h4 _ (Mr hc) ((Wj H (Mr hc)).2 ⟨y,hy,rfl,hc⟩)
  ·rw [h1]
   refine .inr (.inl ⟨rfl,λy hy=>?_⟩)
   cases hc:Db s y with
   | false=>rfl
   | true=>
    have:=(Wj H (Mr hc)).2 ⟨y,hy,rfl,hc⟩
    rw [h2 _ (Mr hc)] at this;cases this
def smE (el:List SV):Bool:=A4 (elS el).length
def Io (z:Bool) (l:LL):Bool:=!z || l.isEmpty
def Bm7 (h:By) (e:Int):Bool:=D6 h&&(!ltI e 0 && !ltI 1099511627776 e)
def ixE (l:List Ent):Int:=match l.findIdx? (λe=>!D6 e.1) with | some j=>(j:Int) | none=>-1
def NF (l:List Ent):Bool:=l.any λe=>!D6 e.1
def Na:List By->Bool
 | []=>false
 | a::r=>r.contains a || Na r
def Yu (e:Ent):List Ent->List Ent
 | []=>[e]
 | a::r=>if O5 a.1 e.1 then a::Yu e r else e::a::r
def isE (l:List Ent):List Ent:=l.foldl (λacc e=>Yu e acc) []
def Kn (l:List Ent):Nat:=if 1000<l.length then 3 else if NF l then 14 else if Na (l.map Prod.fst) then 17 else 0
def Bj9 (h:By) (b:Bool):Ent:=(h,b)
def Md (n:Int) (l:LL):Bool:=!ltI n l.length&&l.all λel=>!ltI 300 (elS el).length
abbrev Ku:={e:Ent // e.1.length<=1000000000}
instance:Inhabited Ku:=⟨⟨noE,by decide⟩⟩
def mkS (e:Ent):Ku:=if h:e.1.length<=1000000000 then ⟨e,h⟩ else default
def Es (d:Array Ku):Array Ku:=Sort.pdq (Go.Proofs.ltOf λx y:Ku=>Q1 x.1.1 y.1.1) d 0 d.size (Lib.bitLen d.size) true true
def R1 (l:List Ent):List Ent:=(Es (l.map mkS).toArray).toList.map (·.1)
theorem Gf {l:List Ent} {i:Nat} (h:i<l.length):gX (F8 l) i 0=(l.getD i noE).1:=by unfold gX gC;rw [Fd h];rfl
theorem OS {l:List Ent} {i:Nat} (h:i<l.length):gY (F8 l) i 1=(l.getD i noE).2:=by unfold gY gC;rw [Fd h];rfl
theorem Jy {l:List Ent} {i:Nat} (h:i<l.length):okE ⟨true,true,[.str,.bool]⟩ (F8 l) i 0=true:=by unfold okE;rw [Fd h];simp [h,okS,Qs,SV.has]
theorem Ow {l:List Ent} (h:(F8 l).all smE=true) {i:Nat} (hi:i<l.length):A4 (l.getD i noE).1.length=true:=by
 have:=List.all_eq_true.1 h ((F8 l).getD i []) (by
  rw [List.getD_eq_getElem?_getD,List.getElem?_eq_getElem (by simpa using hi)]
  exact List.getElem_mem _)
 rw [Fd hi] at this
 exact this
theorem VO {α:Type} (f:α->By) {d:α} {l:List α} {i:Nat} (h:i<l.length):(l.map f).getD i []=f (l.getD i d):=by
 simp [List.getD_eq_getElem?_getD,h]
abbrev leE (a b:Ent):Prop:=O5 b.1 a.1=false
theorem Yi (d:Array Ku):(Es d).toList.Perm d.toList/\(Es d).size=d.size/\∀ i j,i<j->j<d.size->O5 ((Es d)[j]!).1.1 ((Es d)[i]!).1.1=false:=by
 obtain ⟨⟨h1,_,h3⟩,h4⟩:=Sort.pdq_sorts (Go.Proofs.ltOf λx y:Ku=>Q1 x.1.1 y.1.1) (LT λx:Ku=>x.1.1) d 0 d.size (Lib.bitLen d.size) true true (Nat.zero_le _) (Nat.le_refl _) (.inl rfl)
 have hs:(Es d).size=d.size:=h1
 refine ⟨?_,hs,λi j hij hj=>?_⟩
 ·have h3:((Es d).extract 0 d.size).toList.Perm (d.extract 0 d.size).toList:=h3
  rw [<-hs] at h3
  rw [Array.extract_size,hs,Array.extract_size] at h3
  exact h3
 ·have:=h4 i j (Nat.zero_le _) hij hj
  unfold Go.Proofs.ltOf at this
  rw [Ac] at this
  exact this
theorem WJ {e:Ent} (h:e.1.length<=1000000000):(mkS e).1=e:=by unfold mkS;rw [dif_pos h]
theorem Cy {l:List Ent} (hl:∀ e∈l,e.1.length<=1000000000):(R1 l).Perm l:=by
 have h:=((Yi (l.map mkS).toArray).1).map (·.1)
 unfold R1
 refine h.trans ?_
 simp only [List.map_map]
 rw [show List.map ((λx:Ku=>x.1) ∘ mkS) l=l from (List.map_congr_left (g:=id) λe he=>WJ (hl e he)).trans (List.map_id l)]
theorem Ox (l:List Ent):(R1 l).Pairwise leE:=by
 obtain ⟨_,h2,h3⟩:=Yi (l.map mkS).toArray
 unfold R1
 rw [List.pairwise_map,List.pairwise_iff_getElem]
 intro i j hi hj hij
 have hj':j<(Es (l.map mkS).toArray).size:=by simpa using hj
 have hi':i<(Es (l.map mkS).toArray).size:=by simpa using hi
 have:=h3 i j hij (by omega)
 simp only [getElem!_pos,hi',hj'] at this
 simpa using this
theorem Rc (e:Ent):∀ l:List Ent,(Yu e l).Perm (e::l)
 | []=>.refl _
 | a::r=>by
  unfold Yu
  split
  ·exact ((Rc e r).cons a).trans (.swap e a r)
  ·exact .refl _
theorem Sl (e:Ent):∀ {l:List Ent},l.Pairwise leE->(Yu e l).Pairwise leE
 | [],_=>by simp [Yu]
 | a::r,h=>by
  rw [List.pairwise_cons] at h
  unfold Yu
  split
  ·rename_i hlt
   rw [List.pairwise_cons]
   refine ⟨λb hb=>?_,Sl e h.2⟩
   rcases List.mem_cons.1 ((Rc e r).mem_iff.1 hb) with rfl | hb
   ·exact QD hlt
   ·exact h.1 b hb
  ·rename_i hlt
   have hlt:O5 a.1 e.1=false:=by simpa using hlt
   rw [List.pairwise_cons]
   refine ⟨λb hb=>?_,List.pairwise_cons.2 h⟩
   rcases List.mem_cons.1 hb with rfl | hb
   ·exact hlt
   ·exact Sp (h.1 b hb) hlt
theorem PB:∀ (l acc:List Ent),(l.foldl (λacc e=>Yu e acc) acc).Perm (l++acc)/\(acc.Pairwise leE->(l.foldl (λacc e=>Yu e acc) acc).Pairwise leE)
 | [],acc=>⟨.refl _,id⟩
 | e::r,acc=>by
  obtain ⟨h1,h2⟩:=PB r (Yu e acc)
  exact ⟨h1.trans (((Rc e acc).append_left r).trans List.perm_middle),λh=>h2 (Sl e h)⟩
theorem Ie (l:List Ent):(isE l).Perm l:=by simpa [isE] using (PB l []).1
theorem Wp (l:List Ent):(isE l).Pairwise leE:=(PB l []).2 .nil
theorem Fc:∀ {l:List By},Na l=false↔l.Nodup
 | []=>by simp [Na]
 | a::r=>by
  unfold Na
  rw [Bool.or_eq_false_iff,Fc,List.nodup_cons]
  simp
theorem Ac5 {l:List Ent} (hl:∀ e∈l,e.1.length<=1000000000) (hd:Na (l.map Prod.fst)=false):R1 l=isE l:=by
 have hn:=Fc.1 hd
 have key:∀ a b:Ent,a∈l->b∈l->a.1=b.1->a=b:=by
  clear hl hd
  induction l with
  | nil=>intro a b ha;cases ha
  | cons x r ih=>
   rw [List.map_cons,List.nodup_cons] at hn
   intro a b ha hb e
   rcases List.mem_cons.1 ha with ha | ha<;>rcases List.mem_cons.1 hb with hb | hb
   ·rw [ha,hb]
   ·exact absurd (List.mem_map.2 ⟨b,hb,by rw [<-e,ha]⟩) hn.1
   ·exact absurd (List.mem_map.2 ⟨a,ha,by rw [e,hb]⟩) hn.1
   ·exact ih hn.2 a b ha hb e
 refine List.Perm.eq_of_pairwise (le:=leE) (λa b ha hb h1 h2=>key a b ((Cy hl).mem_iff.1 ha) ((Ie l).mem_iff.1 hb) (Ip h2 h1)) (Ox l) (Wp l) ((Cy hl).trans (Ie l).symm)
def EE:List Ent->Bool
 | a::b::r=>(b.1==a.1) || EE (b::r)
 | _=>false
theorem Af8:∀ {l:List Ent},l.Pairwise leE->EE l=false->(l.map Prod.fst).Nodup
 | [],_,_=>.nil
 | [a],_,_=>by simp
 | a::b::r,hp,h=>by
  unfold EE at h
  rw [Bool.or_eq_false_iff] at h
  rw [List.pairwise_cons] at hp
  have ih:=Af8 hp.2 h.2
  rw [List.map_cons,List.nodup_cons]
  refine ⟨λhm=>?_,ih⟩
  obtain ⟨c,hc,e⟩:=List.mem_map.1 hm
  have hab:O5 a.1 b.1=true:=by
   cases q:O5 a.1 b.1 with
   | true=>rfl
   | false=>
    have:=Ip (hp.1 b (by simp)) q
    rw [this] at h
    simp at h
  rcases List.mem_cons.1 hc with rfl | hc
  ·rw [e,Q8] at hab;cases hab
  ·have:=(List.pairwise_cons.1 hp.2).1 c hc
   have this:O5 c.1 b.1=false:=this
   rw [e,hab] at this;cases this
theorem UU:∀ {l:List Ent},EE l=true->Na (l.map Prod.fst)=true
 | a::b::r,h=>by
  unfold EE at h
  rw [Bool.or_eq_true] at h
  rw [List.map_cons]
  unfold Na
  rw [Bool.or_eq_true]
  rcases h with h | h
  ·exact .inl (by simp [eq_of_beq h])
  ·exact .inr (UU h)
theorem Af9 {l:List Ent} (hl:∀ e∈l,e.1.length<=1000000000):EE (R1 l)=Na (l.map Prod.fst):=by
 have hp:=(Cy hl).map Prod.fst
 cases h:EE (R1 l) with
 | true=>
  have:=UU h
  cases hd:Na (l.map Prod.fst) with
  | true=>rfl
  | false=>
   rw [Fc.2 (hp.nodup_iff.2 (Fc.1 hd))] at this
   cases this
 | false=>exact (Fc.2 (hp.nodup_iff.1 (Af8 (Ox l) h))).symm
theorem Ag3:∀ {l:List Ent},l.Pairwise leE->(l.map Prod.fst).Nodup->asc (l.map Prod.fst)=true
 | [],_,_=>rfl
 | [a],_,_=>rfl
 | a::b::r,hp,hn=>by
  rw [List.pairwise_cons] at hp
  rw [List.map_cons,List.nodup_cons] at hn
  show (O5 a.1 b.1&&asc ((b::r).map Prod.fst))=true
  rw [Ag3 hp.2 hn.2,Bool.and_true]
  cases q:O5 a.1 b.1 with
  | true=>rfl
  | false=>exact absurd (by rw [Ip q (hp.1 b (by simp))];simp) hn.1
theorem Az0 {l:List Ent} (hd:Na (l.map Prod.fst)=false):asc ((isE l).map Prod.fst)=true:=
 Ag3 (Wp l) (((Ie l).map Prod.fst).nodup_iff.2 (Fc.1 hd))
theorem A23 {E:List Ent} (h:Kn E=0):E.length<=1000/\(∀ e∈E,D6 e.1=true)/\Na (E.map Prod.fst)=false:=by
 unfold Kn at h
 split at h
 ·cases h
 ·split at h
  ·cases h
  ·split at h
   ·cases h
   ·rename_i h1 h2 h3
    refine ⟨by omega,λe he=>?_,by simpa using h3⟩
    cases hv:D6 e.1 with
    | true=>rfl
    | false=>
     exact absurd (List.any_eq_true.2 ⟨e,he,by rw [hv];rfl⟩) h2
theorem Nl {E:List Ent} {e:Ent}:e∈isE E↔e∈E:=(Ie E).mem_iff
theorem A22 {E:List Ent} (h:Kn E=0) (s:By):(∃ x∈E,Ag (isE E) s=(x,true)/\Db s x=true/\∀ y∈E,Db s y=true->y.1.length<=x.1.length)\/(Ag (isE E) s=(noE,false)/\∀ y∈E,Db s y=false):=by
 obtain ⟨_,hv,hd⟩:=A23 h
 rcases Ak3 (Az0 hd) s with ⟨x,hx,e,c,k⟩ | ⟨e,k⟩ | ⟨hs,x,hx,e⟩
 ·exact .inl ⟨x,Nl.1 hx,e,c,λy hy=>k y (Nl.2 hy)⟩
 ·exact .inr ⟨e,λy hy=>k y (Nl.2 hy)⟩
 ·rw [<-e,hv x (Nl.1 hx)] at hs;cases hs
end
section
open Go
theorem Ss:∀ (f:Nat) (l:By),Lib.validGoD f l=(S7 f l).isSome
 | 0,_=>rfl
 | f+1,l=>by
  unfold Lib.validGoD S7
  split
  ·rfl
  ·split
   ·rfl
   ·rw [Ss f,Option.isSome_map]
theorem TW (l:By):Lib.validD l=(Cr l).isSome:=Ss _ l
theorem Xr:∀ (n m:Nat) (l:By),l.length<=n->l.length<=m->S7 n l=S7 m l
 | 0,m,l,hn,_=>by
  have:l=[]:=List.length_eq_zero_iff.1 (by omega)
  subst this;cases m<;>simp [S7]
 | n+1,0,l,_,hm=>by
  have:l=[]:=List.length_eq_zero_iff.1 (by omega)
  subst this;simp [S7]
 | n+1,m+1,l,hn,hm=>by
  unfold S7
  split
  ·rfl
  ·rename_i hne
   have hw:=Lib.decodeL_width l
   have hl:0<l.length:=List.length_pos_iff.2 hne
   rw [Xr n m (l.drop (Lib.decodeL l).2) (by rw [List.length_drop];omega) (by rw [List.length_drop];omega)]
theorem Aa1 (l:By) (hne:l≠[]):Cr l=if (Lib.decodeL l).1=65533/\(Lib.decodeL l).2=1 then none else (Cr (l.drop (Lib.decodeL l).2)).map ((Lib.decodeL l).1::·):=by
 have hl:0<l.length:=List.length_pos_iff.2 hne
 have hw:=Lib.decodeL_width l
 obtain ⟨n,hn⟩:∃ n,l.length=n+1:=⟨l.length-1,by omega⟩
 unfold Cr
 rw [hn]
 conv=>lhs;unfold S7
 rw [if_neg hne,Xr n (l.drop (Lib.decodeL l).2).length _ (by rw [List.length_drop];omega) (Nat.le_refl _)]
theorem BJ:∀ (f:Nat) (s:ByteArray) (pos:Nat) (p:List Nat),pos<=s.size->S7 f (s.data.toList.drop pos)=some p->s.size-pos<=f->Lib.runeCountFrom s f pos=p.length
 | 0,s,pos,p,hp,h,hf=>by
  simp only [S7,Option.some.injEq] at h
  subst h;rfl
 | f+1,s,pos,p,hp,h,hf=>by
  have hsz:s.data.toList.length=s.size:=by rw [Array.length_toList];rfl
  unfold S7 at h
  rw [Lib.decodeL_drop] at h
  by_cases hps:pos<s.size
  ·rw [if_neg (by rw [<-List.length_eq_zero_iff,List.length_drop];omega)] at h
   split at h
   ·cases h
   ·cases hq:S7 f (List.drop (Utf8.decode s pos).2 (List.drop pos s.data.toList)) with
    | none=>rw [hq] at h;cases h
    | some q=>
     rw [hq] at h
     simp only [Option.map_some,Option.some.injEq] at h
     subst h
     have hw:=Lib.decode_width_pos s pos hps
     have hwl:pos+(Utf8.decode s pos).2<=s.size:=by
      have:=Lib.decodeL_le (s.data.toList.drop pos) (by rw [ne_eq,<-List.length_eq_zero_iff,List.length_drop];omega)
      rw [Lib.decodeL_drop,List.length_drop] at this
      omega
     rw [List.drop_drop] at hq
     unfold Lib.runeCountFrom
     rw [if_pos hps,BJ f s _ q hwl hq (by omega)]
     grind
  ·rw [if_pos (by rw [<-List.length_eq_zero_iff,List.length_drop];omega)] at h
   simp only [Option.some.injEq] at h
   subst h
   rw [Lib.runeCountFrom_end s _ _ hps];rfl
theorem Yb {l:By} {p:List Nat} (h:Cr l=some p):Lib.runeCountL l=p.length:=by
 unfold Lib.runeCountL Lib.runeCount
 have hs:(ByteArray.mk l.toArray).size=l.length:=by simp [ByteArray.size]
 refine BJ _ _ 0 p (Nat.zero_le _) ?_ (by omega)
 rw [hs,List.drop_zero]
 simpa [Cr] using h
open Lib in theorem Bm2 (n b0 b1 b2 b3:Nat) (hb:194<=b0/\b0<224) (h1:b1<256):decodeN n b0 b1 b2 b3=if 2<=n/\128<=b1/\b1<=191 then ((b0-192)*64+b1-128,2) else (65533,1):=by
 unfold decodeN
 rw [G4]
 by_cases hc:2<=n/\128<=b1/\b1<=191
 ·rw [if_pos hc,Ar,Ar]
  exact Prod.ext (by show b0 % 32*64+b1 % 64=(b0-192)*64+b1-128;omega) rfl
 ·rw [if_neg hc,G4,G4,G4]
open Lib in theorem Bm3 (n b0 b1 b2 b3:Nat) (hb:224<=b0/\b0<240) (h1:b1<256) (h2:b2<256):decodeN n b0 b1 b2 b3=if 3<=n/\(128<=b1/\b1<=191)/\(128<=b2/\b2<=191) then
  (if 2048<=((b0-224)*64+b1-128)*64+b2-128/\O4 (((b0-224)*64+b1-128)*64+b2-128)=true then (((b0-224)*64+b1-128)*64+b2-128,3) else (65533,1)) else (65533,1):=by
 unfold decodeN
 rw [G4,G4]
 by_cases hc:3<=n/\(128<=b1/\b1<=191)/\(128<=b2/\b2<=191)
 ·rw [if_pos hc,Ar]
  have e:b0 % 16*4096+b1 % 64*64+b2 % 64=((b0-224)*64+b1-128)*64+b2-128:=by omega
  rw [e]
  generalize ((b0-224)*64+b1-128)*64+b2-128=v
  congr 1
  simp only [O4,Bool.and_eq_true,Bool.or_eq_true,Nat.ble_eq,Nat.blt_eq]
  apply propext;omega
 ·rw [if_neg hc,G4,G4]
open Lib in theorem Bm4 (n b0 b1 b2 b3:Nat) (hb:240<=b0/\b0<245) (h1:b1<256) (h2:b2<256) (h3:b3<256):decodeN n b0 b1 b2 b3=if 4<=n/\(128<=b1/\b1<=191)/\(128<=b2/\b2<=191)/\(128<=b3/\b3<=191) then
  (if 65536<=(((b0-240)*64+b1-128)*64+b2-128)*64+b3-128/\O4 ((((b0-240)*64+b1-128)*64+b2-128)*64+b3-128)=true then ((((b0-240)*64+b1-128)*64+b2-128)*64+b3-128,4) else (65533,1)) else (65533,1):=by
 unfold decodeN
 rw [G4,G4,G4]
 by_cases hc:4<=n/\(128<=b1/\b1<=191)/\(128<=b2/\b2<=191)/\(128<=b3/\b3<=191)
 ·rw [if_pos hc,Ar]
  have e:b0 % 8*262144+b1 % 64*4096+b2 % 64*64+b3 % 64=(((b0-240)*64+b1-128)*64+b2-128)*64+b3-128:=by omega
  rw [e]
  generalize (((b0-240)*64+b1-128)*64+b2-128)*64+b3-128=v
  congr 1
  simp only [O4,Bool.and_eq_true,Bool.or_eq_true,Nat.ble_eq,Nat.blt_eq]
  apply propext;omega
 ·rw [if_neg hc,G4]
end
section
open Go Go.Proofs
set_option maxRecDepth 100000
section
def DB:List PV->Tr
 | [.s (.str s)]=>.ret (.s (.bool false)) []
 | _=>.fail
def Af1 (args:List PV):Tr:=DB (D3 [[0]] args)
def DA:List PV->Tr
 | [.s (.int .i64 n)]=>.ret (.s (.bool false)) []
 | _=>.fail
def Af0 (args:List PV):Tr:=DA (D3 [[0]] args)
def MJ:List PV->Tr
 | [.s (.str s),.s (.str p)]=>.ret (.s (.int .i64 (T2 s p))) []
 | _=>.fail
def A95 (args:List PV):Tr:=MJ (D3 [[0],[0]] args)
def MI:List PV->Tr
 | [.s (.int .i64 n),.s (.int .i64 m)]=>.ret (.s (.int .i64 (EX n m))) []
 | _=>.fail
def A94 (args:List PV):Tr:=MI (D3 [[0],[0]] args)
def DE:List PV->Tr
 | [.s (.str s),.s (.str p)]=>.need (A4 (List.length s)) (.need (A4 (List.length p)) (.ret (.s (.int .i64 (Q1 s p))) []))
 | _=>.fail
def Af2 (args:List PV):Tr:=DE (D3 [[0],[0]] args)
def Bl9:List PV->Tr
 | [.agg [.s (.str h),.s (.bool b),.s (.int .i64 e)]]=>.need (A4 (List.length h)) (.ret (.s (.bool (Bm7 h e))) [])
 | _=>.fail
def CT:List PV->Tr
 | [.agg [.s (.str h),.s (.bool b)]]=>.need (A4 (List.length h)) (.ret (.s (.bool (not (D6 h)))) [])
 | _=>.fail
def Ae8 (args:List PV):Tr:=CT (D3 [[0,0]] args)
def MR:List PV->Tr
 | [.agg [.s (.str h),.s (.bool b)],.s (.str s)]=>.need (A4 (List.length h)) (.need (A4 (List.length s)) (.ret (.s (.int .i64 (Q1 h s))) []))
 | _=>.fail
def A98 (args:List PV):Tr:=MR (D3 [[0,0],[0]] args)
def CQ:List PV->Tr
 | [.s (.sl l_z l_t 2 l),.s (.fn (Fn.func 58) [] [])]=>.need (List.all l K3) (.need (List.all l smE) (.need (A4 (List.length l)) (.ret (.s (.int .i64 (ixE (List.map B5 l)))) [])))
 | _=>.fail
def Ae7 (args:List PV):Tr:=CQ (D3 [[2],[0]] args)
def CP:List PV->Tr
 | [.s (.sl l_z l_t 2 l),.s (.fn (Fn.func 58) [] [])]=>.need (List.all l K3) (.need (List.all l smE) (.need (A4 (List.length l)) (.ret (.s (.bool (NF (List.map B5 l)))) [])))
 | _=>.fail
def CO (args:List PV):Tr:=CP (D3 [[2],[0]] args)
def CN:List PV->Tr
 | [.s (.sl l_z l_t 2 l)]=>.need (A4 (List.length l)) (.need (Io l_z l) (.ret (.fl 0) [.arr l_z 63 2 l]))
 | _=>.fail
def CM (args:List PV):Tr:=CN (D3 [[2]] args)
def Pq:SV->List (List SV)->Bool × List (List SV)
 | .fn (Fn.func 62) [] [],l=>(((List.all l K3)&&((List.all l smE)&&(A4 (List.length l)))),(F8 (R1 (List.map B5 l))))
 | _,_=>(false,[])
def CL:List PV->Tr
 | [.s (.sl l_z l_t 2 l),.s (.str q),.s (.fn (Fn.func 66) [] [])]=>.need (List.all l K3) (.need (List.all l smE) (.need (A4 (List.length l)) (.need (A4 (List.length q)) (.ret (.tup [.s (.int .i64 (↑(bsI (List.map Prod.fst (List.map B5 l)) q):Int)),.s (.bool (bsB (List.map Prod.fst (List.map B5 l)) q))]) []))))
 | _=>.fail
def MP (args:List PV):Tr:=CL (D3 [[2],[0],[0]] args)
def CS:List PV->Tr
 | [.s (.sl l_z l_t 2 l)]=>.need (List.all l K3) (.need (List.all l smE) (.need (A4 (List.length l)) (.need (Io l_z l) (.split ((Kn (List.map B5 l))==0) (.ret (.tup [.s (.sp [[.sl l_z l_z 2 (F8 (isE (List.map B5 l)))]] 0 0),.s (.int .i64 (0:Int))]) []) (.ret (.tup [.s (.nilp),.s (.int .i64 (↑(Kn (List.map B5 l)):Int))]) [])))))
 | _=>.fail
def MS (args:List PV):Tr:=CS (D3 [[2]] args)
def Ui:List PV->Tr
 | [.s (.sp [[.sl lz lt 2 l]] 0 0),.s (.str q)]=>.need (List.all l K3) (.need (List.all l smE) (.need (A4 (List.length l)) (.need (A4 (List.length q)) (.ret (.tup [.agg [.s (.str (((L5 (List.map B5 l) q)).1).1),.s (.bool (((L5 (List.map B5 l) q)).1).2)],.s (.bool ((L5 (List.map B5 l) q)).2)]) []))))
 | _=>.fail
def UJ (args:List PV):Tr:=Ui (D3 [[0],[0]] args)
def Uj:List PV->Tr
 | [.s (.nilp),.s (.str q)]=>.ret (.tup [.agg [.s (.str ([]:List UInt8)),.s (.bool false)],.s (.bool false)]) []
 | _=>.fail
def UK (args:List PV):Tr:=Uj (D3 [[0],[0]] args)
def Uh (args:List PV):Tr:=(orT (UJ args) (UK args))
def Uf:List PV->Tr
 | [.s (.sp [[.sl lz lt 2 l]] 0 0),.s (.str q)]=>.need (List.all l K3) (.need (List.all l smE) (.need (A4 (List.length l)) (.need (A4 (List.length q)) (.ret (.tup [.agg [.s (.str (((Ag (List.map B5 l) q)).1).1),.s (.bool (((Ag (List.map B5 l) q)).1).2)],.s (.bool ((Ag (List.map B5 l) q)).2)]) []))))
 | _=>.fail
def UH (args:List PV):Tr:=Uf (D3 [[0],[0]] args)
def Ug:List PV->Tr
 | [.s (.nilp),.s (.str q)]=>.need (A4 (List.length q)) (.ret (.tup [.agg [.s (.str ([]:List UInt8)),.s (.bool false)],.s (.bool false)]) [])
 | _=>.fail
def UI (args:List PV):Tr:=Ug (D3 [[0],[0]] args)
def MQ (args:List PV):Tr:=(orT (UH args) (UI args))
def CI:List PV->Tr
 | [.s (.sl l_z l_t 2 l),.s (.int .i64 n)]=>.need (List.all l K3) (.need (ltI n (1001:Int)) (.ret (.s (.bool (Md n l))) []))
 | _=>.fail
def MO (args:List PV):Tr:=CI (D3 [[2],[0]] args)
def Bb3:List PV->Tr
 | []=>.ret (.s (.bool true)) []
 | _=>.fail
def Kv:List PV->Tr
 | []=>.ret (.s (.bool true)) []
 | _=>.fail
def Pl (args:List PV):Tr:=Kv (D3 [] args)
end
section
variable {σ R : Type} (lf : Nat) (cl : D1) (yh : Yh σ) (s : σ) (k : Out -> St σ -> Option R)
noncomputable def NW (lf:Nat):Cfg:=C2 lf [143] (A5 []) [] (A5 [(1,[2]),(0,[0])]) [] (A5 []) (some [2]) [] [] []
noncomputable def A20 {R:Type} (lf:Nat) (x0:By) (k0:Bool->Option R):Option R:=k0 (not (x0==x0))
theorem A21 (d:Nat) (x0):evC (NW lf) (d+1) σ yh 143 [pS x0] [] s=A20 lf x0 (λr0=>some (pB r0,[],s)):=by
 refine (evE (fn:=Tryz.f143) (by kernel_rfl)).trans ?_
 generalize evC (NW lf) d=cl
 unfold A20;kernel_rfl
noncomputable def NV (lf:Nat):Cfg:=C2 lf [144] (A5 []) [] (A5 [(1,[2]),(0,[0])]) [] (A5 []) (some [2]) [] [] []
noncomputable def A18 {R:Type} (lf:Nat) (x0:Int) (k0:Bool->Option R):Option R:=k0 (x0 != x0)
theorem A19 (d:Nat) (x0):evC (NV lf) (d+1) σ yh 144 [pI x0] [] s=A18 lf x0 (λr0=>some (pB r0,[],s)):=by
 refine (evE (fn:=Tryz.f144) (by kernel_rfl)).trans ?_
 generalize evC (NV lf) d=cl
 unfold A18;kernel_rfl
noncomputable def Ah7 (lf:Nat):Cfg:=C2 lf [98] (A5 []) [(143,Af1)] (A5 [(13,[4]),(12,[4]),(11,[19]),(10,[4]),(9,[0,0,14]),(8,[4]),(7,[0,0,11]),(6,[4]),(5,[4]),(4,[12]),(3,[0,0,4,4]),(2,[0,0,3,0]),(1,[0,0,3]),(0,[0,0])]) [143] (A5 []) (some [4]) [] [] []
noncomputable def ccs {R:Type} (lf:Nat) (x0 y1:By) (k0:Int->Option R):Option R:=cond (bytesLess x0 y1) (k0 (-1)) (cond (not ((bytesLess x0 y1) || (x0==y1))) (k0 1) (k0 0))
theorem Bc4 (d:Nat) (x0 y1):evC (Ah7 lf) (d+1) σ yh 98 [pS x0,pS y1] [] s=ccs lf x0 y1 (λr0=>some (pI r0,[],s)):=by
 refine (evE (fn:=Tryz.f98) (by kernel_rfl)).trans ?_
 generalize evC (Ah7 lf) d=cl
 unfold ccs;kernel_rfl
noncomputable def Ah6 (lf:Nat):Cfg:=C2 lf [99] (A5 []) [(144,Af0)] (A5 [(13,[4]),(12,[4]),(11,[19]),(10,[4]),(9,[0,0,14]),(8,[4]),(7,[0,0,11]),(6,[4]),(5,[4]),(4,[12]),(3,[0,0,4,4]),(2,[0,0,3,0]),(1,[0,0,3]),(0,[0,0])]) [144] (A5 []) (some [4]) [] [] []
noncomputable def cci {R:Type} (lf:Nat) (x0 y1:Int) (k0:Int->Option R):Option R:=cond (ltI x0 y1) (k0 (-1)) (cond (ltI y1 x0) (k0 1) (k0 0))
theorem Bc3 (d:Nat) (x0 y1):evC (Ah6 lf) (d+1) σ yh 99 [pI x0,pI y1] [] s=cci lf x0 y1 (λr0=>some (pI r0,[],s)):=by
 refine (evE (fn:=Tryz.f99) (by kernel_rfl)).trans ?_
 generalize evC (Ah6 lf) d=cl
 unfold cci;kernel_rfl
noncomputable abbrev Ah2:Code:=E3 Tryz.f63
noncomputable def Lq (lf:Nat):Cfg:=C2 lf [63] (A5 [(2,[0,0,2,0,0])]) [(97,Tk),(98,A95),(99,A94)] (A5 [(8,[4]),(7,[0,0]),(6,[0,0,3,0,22]),(5,[4]),(4,[0,0,3,0,0,14]),(3,[0,0,3,0,0]),(2,[0,0,3,0]),(1,[0,0]),(0,[0,0])]) [97,98,99] (A5 [(0,[5,0]),(1,[0,0])]) (some [4]) [] [] []
noncomputable def Kc {R:Type} (lf n:Nat) (a0 b1:By) (k0:Int->Option R) (k1:Int->Int->Option R):Option R:=match n with | 0=>none | n+1=>cond (A4 a0.length) (vl (G0 (u8n (46:Int)) a0) λn'2=>cond (A4 b1.length) (vl (G0 (u8n (46:Int)) b1) λn'3=>cond (N3 (A1 (n'2+1)) (a0.length:Int) a0.length) (vl (cut a0 (A1 (n'2+1)) (a0.length:Int)) λs'6=>cond (N3 (A1 (n'3+1)) (b1.length:Int) b1.length) (vl (cut b1 (A1 (n'3+1)) (b1.length:Int)) λs'7=>cond ((T2 s'6 s'7) != 0) (k0 (T2 s'6 s'7)) (cond (ltI n'2 0) (k1 n'2 n'3) (cond (ltI n'3 0) (k1 n'2 n'3) (cond (N3 0 n'2 a0.length) (cond (N3 0 n'3 b1.length) (Kc lf n (cut a0 0 n'2) (cut b1 0 n'3) k0 k1) none) none)))) none) none) none) none
theorem QN (n a0 b1):E6 0 ((Lq lf).keep 2) (bd (Lq lf) cl yh (cd [1,0,1,1,0,0,0] Ah2)) n ⟨gp [(0,pS a0),(0,pS b1)] 39,[],s⟩ k =
 Kc lf n a0 b1 (λn0=>k .ret ⟨gp [(4,pI n0)] 36,[],s⟩) (λi0 kk1=>k (.exit 0) ⟨gp [(5,pI i0),(0,pI kk1)] 34,[],s⟩):=by
 induction n generalizing a0 b1 with
 | zero=>rfl
 | succ n ih=>rw [Kc];simp only [<-ih];kernel_rfl
noncomputable def A29 {R:Type} (lf:Nat) (a0 b1:By) (k0:Int->Option R):Option R:=Kc lf lf a0 b1 (λn'8=>k0 n'8) (λi'9 kk'10=>vl (EX (if ((0:Int)<i'9) then (0:Int) else i'9) (if ((0:Int)<kk'10) then (0:Int) else kk'10)) λn'11=>k0 n'11)
theorem A30 (d:Nat) (a0 b1):evC (Lq lf) (d+1) σ yh 63 [pS a0,pS b1] [] s=A29 lf a0 b1 (λr0=>some (pI r0,[],s)):=by
 refine (evE (fn:=Tryz.f63) (by kernel_rfl)).trans ?_
 generalize evC (Lq lf) d=cl
 unfold A29;exact (Eq.trans (by kernel_rfl) ((QN lf cl yh s (G5 0 (H5 (Lq lf) cl yh (cd [1,0,1,1,1] Ah2) (I4 (Lq lf) Tryz.f63))) lf a0 b1).trans (by kernel_rfl)))
noncomputable def NS (lf:Nat):Cfg:=C2 lf [58] (A5 []) [(59,UF)] (A5 [(1,[2]),(0,[1])]) [59] (A5 []) (some [2]) [] [] []
noncomputable def A05 {R:Type} (lf:Nat) (x0:By) (x1:Bool) (k0:Bool->By->Bool->Option R):Option R:=cond (A4 x0.length) (k0 (not (D6 x0)) x0 x1) none
theorem A06 (d:Nat) (x0 x1):evC (NS lf) (d+1) σ yh 58 [.agg [pS x0,pB x1]] [] s=A05 lf x0 x1 (λr0 s1 b2=>some (pB r0,[.box [pS s1,pB b2]],s)):=by
 refine (evE (fn:=Tryz.f58) (by kernel_rfl)).trans ?_
 generalize evC (NS lf) d=cl
 unfold A05;kernel_rfl
noncomputable def Ah8 (lf:Nat):Cfg:=C2 lf [66] (A5 []) [(63,Af2)] (A5 [(1,[4]),(0,[1,0])]) [63] (A5 []) (some [4]) [] [] []
noncomputable def lgf {R:Type} (lf:Nat) (x0:By) (x1:Bool) (name2:By) (k0:Int->By->Bool->Option R):Option R:=cond (A4 x0.length) (cond (A4 name2.length) (k0 (Q1 x0 name2) x0 x1) none) none
theorem Be0 (d:Nat) (x0 x1 name2):evC (Ah8 lf) (d+1) σ yh 66 [.agg [pS x0,pB x1],pS name2] [] s=lgf lf x0 x1 name2 (λr0 s1 b2=>some (pI r0,[.box [pS s1,pB b2]],s)):=by
 refine (evE (fn:=Tryz.f66) (by kernel_rfl)).trans ?_
 generalize evC (Ah8 lf) d=cl
 unfold lgf;kernel_rfl
noncomputable abbrev Ag8:Code:=E3 Tryz.f92
noncomputable def Lm (lf:Nat):Cfg:=C2 lf [92] (A5 [(2,[0,0,2,2,0])]) [(58,Ae8)] (A5 [(7,[4]),(6,[0,0,5,0]),(5,[4]),(4,[0,0,3,1,0,7]),(3,[0,0,3,1,0]),(2,[0,0,5,0,0]),(1,[0,0,5,0]),(0,[0,0])]) [58] (A5 [(0,[]),(1,[0,0,5,0])]) (some [4]) [] [] []
noncomputable def Gj {R:Type} (lf n:Nat) (s_z0 s_t1:Bool) (s2:LL) (n3 n4:Int) (k0:Int->Option R) (k1:Unit->Option R):Option R:=match n with | 0=>none | n+1=>cond (ltI n4 n3) (cond (inR n4 s2.length) (cond (okE ⟨true,true,[.str,.bool]⟩ s2 (Int.toNat n4) 0) (cond (A4 (List.length (gX s2 (Int.toNat n4) 0))) (cond (not (D6 (gX s2 (Int.toNat n4) 0))) (k0 n4) (Gj lf n s_z0 s_t1 s2 n3 (A1 (n4+1)) k0 k1)) none) none) none) (k1 ())
theorem PN (n s_z0 s_t1 s2 n3 n4):E6 0 ((Lm lf).keep 2) (bd (Lm lf) cl yh (cd [1,0,1,0,0] Ag8)) n ⟨gp [(0,.s (.sl s_z0 s_t1 2 s2)),(0,.s (.fn (Fn.func 58) [] [])),(5,pI n3),(0,pI n4)] 10,[],s⟩ k =
 Gj lf n s_z0 s_t1 s2 n3 n4 (λn0=>k .ret ⟨gp [(4,pI n0)] 14,[],s⟩) (λ_=>k (.exit 0) ⟨gp [] 19,[],s⟩):=by
 induction n generalizing s_z0 s_t1 s2 n3 n4 with
 | zero=>rfl
 | succ n ih=>rw [Gj];simp only [<-ih];kernel_rfl
noncomputable def A03 {R:Type} (lf:Nat) (l_z l_t:Bool) (l:LL) (k0:Int->Option R):Option R:=Gj lf lf l_z l_t l (l.length:Int) 0 (λn'0=>k0 n'0) (λ_=>k0 (-1))
theorem A04 (d:Nat) (l_z l_t l):evC (Lm lf) (d+1) σ yh 92 [.s (.sl l_z l_t 2 l),.s (.fn (Fn.func 58) [] [])] [] s=A03 lf l_z l_t l (λr0=>some (pI r0,[],s)):=by
 refine (evE (fn:=Tryz.f92) (by kernel_rfl)).trans ?_
 generalize evC (Lm lf) d=cl
 unfold A03;exact (Eq.trans (by kernel_rfl) ((PN lf cl yh s (G5 0 (H5 (Lm lf) cl yh (cd [1,1] Ag8) (I4 (Lm lf) Tryz.f92))) lf l_z l_t l (l.length:Int) 0).trans (by kernel_rfl)))
noncomputable def NR (lf:Nat):Cfg:=C2 lf [57] (A5 []) [(92,Ae7)] (A5 [(1,[4]),(0,[0,0])]) [92] (A5 []) (some [4]) [] [] []
noncomputable def A00 {R:Type} (lf:Nat) (l_z l_t:Bool) (l:LL) (k0:Bool->Option R):Option R:=cond (List.all l K3) (cond (List.all l smE) (cond (A4 l.length) (k0 (not (ltI (ixE (List.map B5 l)) (0:Int)))) none) none) none
theorem A01 (d:Nat) (l_z l_t l):evC (NR lf) (d+1) σ yh 57 [.s (.sl l_z l_t 2 l),.s (.fn (Fn.func 58) [] [])] [] s=A00 lf l_z l_t l (λr0=>some (pB r0,[],s)):=by
 refine (evE (fn:=Tryz.f57) (by kernel_rfl)).trans ?_
 generalize evC (NR lf) d=cl
 unfold A00;kernel_rfl
noncomputable def NQ (lf:Nat):Cfg:=C2 lf [60] (A5 []) [] (A5 [(3,[2]),(2,[2]),(1,[0,3]),(0,[0])]) [] (A5 []) (some [2]) [] [] []
noncomputable def Az8 {R:Type} (lf:Nat) (l_z l_t:Bool) (l:LL) (k0:Bool->LL->Option R):Option R:=cond l_z (k0 true []) (cond (E4 (0+l.length)) (k0 false l) none)
theorem Az9 (d:Nat) (l_z l_t l):evC (NQ lf) (d+1) σ yh 60 [.s (.sl l_z l_t 2 l)] [] s=Az8 lf l_z l_t l (λz0 l1=>some (.fl 0,[.arr z0 63 2 l1],s)):=by
 refine (evE (fn:=Tryz.f60) (by kernel_rfl)).trans ?_
 generalize evC (NQ lf) d=cl
 unfold Az8;kernel_rfl
noncomputable abbrev Ag7:Code:=E3 Tryz.f65
noncomputable def Ll (lf:Nat):Cfg:=C2 lf [65] (A5 [(3,[0,0,0,3,0,0,0,0])]) [(66,A98)] (A5 [(8,[6,0]),(6,[0,0,0,5,0,0]),(7,[0,0,0,5,0,0]),(5,[0,0,0,5,0,0,0,19]),(4,[0,0,0,5,0,0,0]),(3,[0,0,0,5,0,0,6]),(2,[0,0,0,5,0,0]),(1,[0,0,0,5]),(0,[0,0,0])]) [66] (A5 [(0,[0,0,0,5,0]),(1,[0,0,0,5,0,0])]) (some [6,0]) [] [] []
noncomputable def Dk {R:Type} (lf n:Nat) (x_z0 x_t1:Bool) (x2:LL) (target3:By) (n4 i5 j6:Int) (k0:Bool->Bool->LL->By->Int->Int->Option R):Option R:=match n with | 0=>none | n+1=>cond (ltI i5 j6) (vl (Ar1 .u64 (As7 (A1 (i5+j6))) (1:Int)) λn'1=>cond (inR (A1 n'1) x2.length) (cond (okE ⟨true,true,[.str,.bool]⟩ x2 (Int.toNat (A1 n'1)) 0) (vl (gX x2 (Int.toNat (A1 n'1)) 0) λs'2=>cond (A4 s'2.length) (cond (A4 target3.length) (cond (ltI (Q1 s'2 target3) (0:Int)) (vl (A1 ((A1 n'1)+1)) λn'3=>Dk lf n x_z0 x_t1 x2 target3 n4 n'3 j6 k0) (Dk lf n x_z0 x_t1 x2 target3 n4 i5 (A1 n'1) k0)) none) none) none) none) (k0 x_z0 x_t1 x2 target3 n4 i5)
theorem PI (n x_z0 x_t1 x2 target3 n4 i5 j6):E6 0 ((Ll lf).keep 3) (bd (Ll lf) cl yh (cd [1,1,1,0,0,0] Ag7)) n ⟨gp [(0,.s (.sl x_z0 x_t1 2 x2)),(0,pS target3),(0,.s (.fn (Fn.func 66) [] [])),(5,pI n4),(0,pI i5),(0,pI j6)] 38,[],s⟩ k =
 Dk lf n x_z0 x_t1 x2 target3 n4 i5 j6 (λx_z0 x_t1 x2 target3 n4 i5=>k (.exit 0) ⟨gp [(0,.s (.sl x_z0 x_t1 2 x2)),(0,pS target3),(0,.s (.fn (Fn.func 66) [] [])),(5,pI n4),(0,pI i5)] 39,[],s⟩):=by
 induction n generalizing x_z0 x_t1 x2 target3 n4 i5 j6 with
 | zero=>rfl
 | succ n ih=>rw [Dk];simp only [<-ih];kernel_rfl
noncomputable def Az6 {R:Type} (lf:Nat) (l_z l_t:Bool) (l:LL) (q:By) (k0:Int->Bool->Option R):Option R:=Dk lf lf l_z l_t l q (l.length:Int) 0 (l.length:Int) (λx_z'4 x_t'5 x'6 target'7 n'8 i'9=>cond (ltI i'9 n'8) (cond (inR i'9 x'6.length) (cond (okE ⟨true,true,[.str,.bool]⟩ x'6 (Int.toNat i'9) 0) (vl (gX x'6 (Int.toNat i'9) 0) λs'10=>cond (A4 s'10.length) (cond (A4 target'7.length) (k0 i'9 ((Q1 s'10 target'7)==0)) none) none) none) none) (k0 i'9 false))
theorem Az7 (d:Nat) (l_z l_t l q):evC (Ll lf) (d+1) σ yh 65 [.s (.sl l_z l_t 2 l),pS q,.s (.fn (Fn.func 66) [] [])] [] s=Az6 lf l_z l_t l q (λr0 r1=>some (.tup [pI r0,pB r1],[],s)):=by
 refine (evE (fn:=Tryz.f65) (by kernel_rfl)).trans ?_
 generalize evC (Ll lf) d=cl
 unfold Az6;exact (Eq.trans (by kernel_rfl) ((PI lf cl yh s (G5 0 (H5 (Ll lf) cl yh (cd [1,1,1,1] Ag7) (I4 (Ll lf) Tryz.f65))) lf l_z l_t l q (l.length:Int) 0 (l.length:Int)).trans (by kernel_rfl)))
end
section
variable {σ R : Type} (lf : Nat) (cl : D1) (yh : Yh σ) (s : σ) (k : Out -> St σ -> Option R)
noncomputable def NY (lf:Nat):Cfg:=C2 lf [194] (A5 []) [] (A5 [(2,[2]),(1,[1,1]),(0,[1])]) [] (A5 []) (some [2]) [] [] []
noncomputable def Bf0 {R:Type} (lf:Nat) (b:Int) (k0:Int->Option R):Option R:=k0 b
theorem A38 (d:Nat) (b):evC (NY lf) (d+1) σ yh 194 [pI b] [] s=Bf0 lf b (λn0=>some (.fnr (Fn.func 201) [] [.ptr 1 0 0,.ptr 0 0 0],[.box [pI n0],.box [pI (0:Int)]],s)):=by
 refine (evE (fn:=Tryz.f194) (by kernel_rfl)).trans ?_
 generalize evC (NY lf) d=cl
 unfold Bf0;kernel_rfl
noncomputable def ER (lf:Nat):Cfg:=C2 lf [201] (A5 []) [] (A5 [(2,[2]),(1,[0,0]),(0,[0,0])]) [] (A5 []) (some [2]) [] [] []
noncomputable def WN {R:Type} (lf:Nat) (k b:Int) (k0:Int->Int->Int->Option R):Option R:=vl (A1 ((A1 (k+36))-b)) λn'0=>vl (if ((26:Int)<(if ((1:Int) > n'0) then (1:Int) else n'0)) then (26:Int) else (if ((1:Int) > n'0) then (1:Int) else n'0)) λn'1=>k0 n'1 (A1 (k+36)) b
theorem Ap0 (d:Nat) (k b):evC (ER lf) (d+1) σ yh 201 [.ptr 0 0 0,.ptr 1 0 0] [.box [pI k],.box [pI b]] s=WN lf k b (λr0 n1 n2=>some (pI r0,[.box [pI n1],.box [pI n2]],s)):=by
 refine (evE (fn:=Tryz.f201) (by kernel_rfl)).trans ?_
 generalize evC (ER lf) d=cl
 unfold WN;kernel_rfl
noncomputable abbrev Bb7:Code:=E3 Tryz.f185
noncomputable def Qk (lf:Nat):Cfg:=C2 lf [185] (A5 [(2,[0,0,4,0])]) [(194,Uo),(195,MW)] (A5 [(6,[0,0,5]),(5,[0,0,5,0]),(4,[6]),(3,[0,0,5,0,6]),(2,[0,0,5,0]),(1,[0,0,5]),(0,[0,0,0])]) [195] (A5 [(0,[6]),(1,[0,0,5])]) (some [6]) [(201,Jh)] [] [201]
noncomputable def Dm {R:Type} (lf n:Nat) (q0:Int) (z1:Bool) (l2:LL) (n3 n4:Int) (k0:Bool->LL->Int->Int->Option R):Option R:=match n with | 0=>none | n+1=>cond (ltN n4 1000000000000) (cond (ltN n3 1000000) (cond (ltI q0 (H4 n4 n3)) (cond (ltN q0 36) (vl (↑(UInt8.toNat (T3 (Int.toNat q0))):Int) λn'1=>cond (E4 (l2.length+1)) (k0 z1 (l2++[[(SV.int .u8 n'1)]]) n3 (Int.add n4 (36:Int))) none) none) (vl (A1 (q0-(H4 n4 n3))) λn'2=>vl (A1 ((36:Int)-(H4 n4 n3))) λn'3=>cond (n'3 != 0) (vl (A1 ((H4 n4 n3)+(Int.tmod n'2 n'3))) λn'4=>cond (ltN n'4 36) (vl (↑(UInt8.toNat (T3 (Int.toNat n'4))):Int) λn'5=>cond (E4 (l2.length+1)) (vl (A1 (q0-(H4 n4 n3))) λn'6=>vl (A1 ((36:Int)-(H4 n4 n3))) λn'7=>cond (n'7 != 0) (vl (A1 (Int.tdiv n'6 n'7)) λn'8=>Dm lf n n'8 z1 (l2++[[(SV.int .u8 n'5)]]) n3 (Int.add n4 (36:Int)) k0) none) none) none) none)) none) none
theorem QL (n q0 z1 l2 n3 n4):E6 3 ((Qk lf).keep 2) (bd (Qk lf) cl yh (cd [1,1,0,0] Bb7)) n ⟨gp [(0,.fl 0),(0,pI q0),(5,.fnr (Fn.func 201) [] [.ptr 2 0 0,.ptr 1 0 0])] 31,[.arr z1 5 1 l2,.box [pI n3],.box [pI n4]],s⟩ k =
 Dm lf n q0 z1 l2 n3 n4 (λz0 l1 n2 n3=>k .ret ⟨gp [(6,.fl 0)] 32,[.arr z0 5 1 l1,.box [pI n2],.box [pI n3]],s⟩):=by
 induction n generalizing q0 z1 l2 n3 n4 with
 | zero=>rfl
 | succ n ih=>rw [Dm];simp only [<-ih];kernel_rfl
noncomputable def Be6 {R:Type} (lf:Nat) (q b:Int) (z:Bool) (l:LL) (k0:Bool->LL->Int->Int->Option R):Option R:=Dm lf lf q z l b 0 (λz'9 l'10 n'11 n'12=>k0 z'9 l'10 n'11 n'12)
theorem A28 (d:Nat) (q b z l):evC (Qk lf) (d+1) σ yh 185 [.fl 0,pI q,pI b] [.arr z 5 1 l] s=Be6 lf q b z l (λz0 l1 n2 n3=>some (.fl 0,[.arr z0 5 1 l1,.box [pI n2],.box [pI n3]],s)):=by
 refine (evE (fn:=Tryz.f185) (by kernel_rfl)).trans ?_
 generalize evC (Qk lf) d=cl
 unfold Be6;exact (Eq.trans (by kernel_rfl) ((QL lf cl yh s (G5 0 (I4 (Qk lf) Tryz.f185)) lf q z l b 0).trans (by kernel_rfl)))
noncomputable abbrev Ao:Code:=E3 Tryz.f161
noncomputable def L3 (lf:Nat):Cfg:=C2 lf [161] (A5 [(29,[0,1,0,0,2,0,0,0,0,61,0,0]),(21,[0,1,0,0,2,0,0,0,0,0,38,0,0]),(17,[0,1,0,0,2,0,0,0,0]),(5,[0,1,0,0,15,0,0])]) [(184,Ho),(186,Hn)] (A5 [(40,[2,0]),(18,[0,3,2,0,0,0,0]),(39,[0,3,2,0,0,0,0]),(38,[0,3,2,0,0,0,0,61,0,0]),(32,[0,3,2,0,0,0,0,61,0,0]),(37,[0,3,2,0,0,0,0,61,0,0]),(36,[0,3,2,0,0,0,0,61,0,0]),(35,[0,3,2,0,1,0,61,0,0]),(34,[0,3,2,0,0,1,61,0,0]),(33,[0,3,2,0,0,0,0,61,0,0,9]),(31,[0,3,2,0,0,0,0,4,56,0,0,3]),(30,[0,3,2,0,0,0,0,4,56,0,0]),(29,[0,3,2,0,0,0,0,61,0,0,0]),(28,[0,3,2,0,0,0,0,61,0,0]),(27,[0,3,2,0,0,0,0]),(26,[0,3,2,1,0,0,0]),(25,[0,3,2,0,0,0,0,0,38,0,0]),(24,[0,3,2,0,0,0,0,0,38,0,0]),(23,[0,3,2,0,0,0,0,0,1,36,0,0,5]),(22,[0,3,2,0,0,0,0,0,1,36,0,0]),(21,[0,3,2,0,0,0,0,0,38,0,0,0]),(20,[0,3,2,0,0,0,0,0,38,0,0]),(19,[0,3,2,0,0,0,0,0]),(17,[0,3,2,0,0,0,0,36]),(16,[0,3,2,0,0,0,0]),(15,[0,3,2,0,0,0]),(14,[0,3,2]),(13,[0,3,2,32]),(12,[0,3,2]),(11,[0,3,15,0,0]),(10,[0,3,15,0,0]),(9,[0,3,1,13,0,0,7]),(8,[2,0]),(7,[0,3,1,13,0,0,5]),(6,[0,3,1,13,0,0]),(5,[0,3,15,0,0,0]),(4,[0,3,15,0,0]),(3,[0,3]),(2,[2,0]),(1,[0,18]),(0,[0])]) [184,186] (A5 [(2,[4]),(3,[0,3,2,0,0,0,0]),(6,[0,3,2,0,0,0,0]),(7,[0,3,2,0,0,0,0,61,0,0]),(8,[0,3,2,0,0,0,0,61,0,0]),(4,[0,3,2,0,0,0,0,0]),(5,[0,3,2,0,0,0,0,0,38,0,0]),(0,[0,3]),(1,[0,3,15,0,0])]) (some [2,0]) [(185,DD)] [] [185]
noncomputable def N7 {R:Type} (lf n:Nat) (points_z0 points_t1:Bool) (points2:LL) (n3 n4:Int) (l5:LL) (k0:LL->Option R) (k1:Bool->Bool->LL->LL->Option R):Option R:=match n with | 0=>none | n+1=>cond (ltI n4 n3) (cond (inR n4 points2.length) (cond (okE Fp points2 (Int.toNat n4) 0) (vl (gE points2 (Int.toNat n4) 0) λn'1=>cond (not (ptI n'1)) (k0 l5) (cond (ltI n'1 128) (cond (E4 (l5.length+1)) (N7 lf n points_z0 points_t1 points2 n3 (A1 (n4+1)) (l5++[[(SV.int .u8 (wu8 n'1))]]) k0 k1) none) (N7 lf n points_z0 points_t1 points2 n3 (A1 (n4+1)) l5 k0 k1))) none) none) (k1 points_z0 points_t1 points2 l5)
theorem QU (n points_z0 points_t1 points2 n3 n4 l5):E6 1 ((L3 lf).keep 5) (bd (L3 lf) cl yh (cd [1,1,1,0,1,0,0] Ao)) n ⟨gp [(0,.s (.sl points_z0 points_t1 1 points2)),(3,.fl 0),(15,.s (.sl points_z0 points_t1 1 points2)),(0,pI n3),(0,pI n4)] 84,[.arr true 5 1 l5],s⟩ k =
 N7 lf n points_z0 points_t1 points2 n3 n4 l5 (λl0=>k .ret ⟨gp [(2,pS ([]:List UInt8)),(0,pI (2:Int))] 103,[.arr true 5 1 l0],s⟩) (λpoints_z0 points_t1 points2 l3=>k (.exit 0) ⟨gp [(0,.s (.sl points_z0 points_t1 1 points2)),(3,.fl 0)] 102,[.arr true 5 1 l3],s⟩):=by
 induction n generalizing points_z0 points_t1 points2 n3 n4 l5 with
 | zero=>rfl
 | succ n ih=>rw [N7];simp only [<-ih];kernel_rfl
noncomputable def Dp {R:Type} (lf n:Nat) (points_z0 points_t1:Bool) (points2:LL) (basic3 n4 delta5 bias6 done7 m8 n9 n10:Int) (l11:LL) (k0:Bool->Bool->LL->Int->Int->Int->Int->Int->Int->LL->Option R):Option R:=match n with | 0=>none | n+1=>cond (ltI n10 n9) (cond (inR n10 points2.length) (cond (okE Fp points2 (Int.toNat n10) 0) (vl (gE points2 (Int.toNat n10) 0) λn'9=>cond (not (ltI n'9 n4)) (vl (if (n'9<m8) then n'9 else m8) λn'10=>Dp lf n points_z0 points_t1 points2 basic3 n4 delta5 bias6 done7 n'10 n9 (A1 (n10+1)) l11 k0) (Dp lf n points_z0 points_t1 points2 basic3 n4 delta5 bias6 done7 m8 n9 (A1 (n10+1)) l11 k0)) none) none) (k0 points_z0 points_t1 points2 basic3 n4 delta5 bias6 done7 m8 l11)
theorem QW (n points_z0 points_t1 points2 basic3 n4 delta5 bias6 done7 m8 n9 n10 l11):E6 1 ((L3 lf).keep 21) (bd (L3 lf) cl yh (cd [1,1,1,1,1,1,1,0,1,0,0,1,0,0,1,0,1,0,0] Ao)) n ⟨gp [(0,.s (.sl points_z0 points_t1 1 points2)),(3,.fl 0),(2,pI basic3),(0,pI n4),(0,pI delta5),(0,pI bias6),(0,pI done7),(0,pI m8),(38,.s (.sl points_z0 points_t1 1 points2)),(0,pI n9),(0,pI n10)] 53,[.arr true 5 1 l11],s⟩ k =
 Dp lf n points_z0 points_t1 points2 basic3 n4 delta5 bias6 done7 m8 n9 n10 l11 (λpoints_z0 points_t1 points2 basic3 n4 delta5 bias6 done7 m8 l9=>k (.exit 4) ⟨gp [(0,.s (.sl points_z0 points_t1 1 points2)),(3,.fl 0),(2,pI basic3),(0,pI n4),(0,pI delta5),(0,pI bias6),(0,pI done7),(0,pI m8)] 94,[.arr true 5 1 l9],s⟩):=by
 induction n generalizing points_z0 points_t1 points2 basic3 n4 delta5 bias6 done7 m8 n9 n10 l11 with
 | zero=>rfl
 | succ n ih=>rw [Dp];simp only [<-ih];kernel_rfl
noncomputable def W8 {R:Type} (lf n:Nat) (points_z0 points_t1:Bool) (points2:LL) (basic3 n4 delta5 bias6 done7 n8v n9:Int) (l10:LL) (k0:Bool->Bool->LL->Int->Int->Int->Int->Int->LL->Option R):Option R:=match n with | 0=>none | n+1=>cond (ltI n9 n8v) (cond (inR n9 points2.length) (cond (okE Fp points2 (Int.toNat n9) 0) (vl (gE points2 (Int.toNat n9) 0) λn'26=>cond (ltI n'26 n4) (vl (A1 (delta5+1)) λn'27=>W8 lf n points_z0 points_t1 points2 basic3 n4 n'27 bias6 done7 n8v (A1 (n9+1)) l10 k0) (cond (n'26==n4) (cond (ltN delta5 1152921504606846976) (cond (ltN bias6 1000000) (cond (Nat.ble l10.length 100000) (vl (List.append l10 (List.map C9 (K8 (Int.toNat delta5) 0 (Int.toNat bias6)))) λl'29=>vl (A1 (done7+1)) λn'30=>cond (ltN delta5 1152921504606846976) (cond (ltN n'30 1000000) (cond (ltI 0 n'30) (vl (↑(L2 (Int.toNat delta5) (Int.toNat n'30) (done7==basic3)):Int) λn'31=>vl (A1 (done7+1)) λn'32=>W8 lf n points_z0 points_t1 points2 basic3 n4 0 n'31 n'32 n8v (A1 (n9+1)) l'29 k0) none) none) none) none) none) none) (W8 lf n points_z0 points_t1 points2 basic3 n4 delta5 bias6 done7 n8v (A1 (n9+1)) l10 k0))) none) none) (k0 points_z0 points_t1 points2 basic3 n4 delta5 bias6 done7 l10)
theorem QX (n points_z0 points_t1 points2 basic3 n4 delta5 bias6 done7 n8v n9 l10):E6 1 ((L3 lf).keep 29) (bd (L3 lf) cl yh (cd [1,1,1,1,1,1,1,0,1,0,0,1,0,0,1,1,1,1,0,1,0,0] Ao)) n ⟨gp [(0,.s (.sl points_z0 points_t1 1 points2)),(3,.fl 0),(2,pI basic3),(0,pI n4),(0,pI delta5),(0,pI bias6),(0,pI done7),(61,.s (.sl points_z0 points_t1 1 points2)),(0,pI n8v),(0,pI n9)] 31,[.arr true 5 1 l10],s⟩ k =
 W8 lf n points_z0 points_t1 points2 basic3 n4 delta5 bias6 done7 n8v n9 l10 (λpoints_z0 points_t1 points2 basic3 n4 delta5 bias6 done7 l8=>k (.exit 6) ⟨gp [(0,.s (.sl points_z0 points_t1 1 points2)),(3,.fl 0),(2,pI basic3),(0,pI n4),(0,pI delta5),(0,pI bias6),(0,pI done7)] 95,[.arr true 5 1 l8],s⟩):=by
 induction n generalizing points_z0 points_t1 points2 basic3 n4 delta5 bias6 done7 n8v n9 l10 with
 | zero=>rfl
 | succ n ih=>rw [W8];simp only [<-ih];kernel_rfl
noncomputable def Bc {R:Type} (lf n:Nat) (points_z0 points_t1:Bool) (points2:LL) (basic3 n4 delta5 bias6 done7:Int) (l8:LL) (k0:LL->Option R):Option R:=match n with | 0=>none | n+1=>cond (ltI done7 (points2.length:Int)) (Dp lf lf points_z0 points_t1 points2 basic3 n4 delta5 bias6 done7 1114112 (points2.length:Int) 0 l8 (λpoints_z'11 points_t'12 points'13 basic'14 n'15 delta'16 bias'17 done'18 m'19 l'20=>vl (A1 (done'18+1)) λn'23=>vl (A1 ((A1 (m'19-n'15))*n'23)) λn'24=>W8 lf lf points_z'11 points_t'12 points'13 basic'14 m'19 (A1 (delta'16+n'24)) bias'17 done'18 (points'13.length:Int) 0 l'20 (λpoints_z'33 points_t'34 points'35 basic'36 n'37 delta'38 bias'39 done'40 l'41=>vl (A1 (delta'38+1)) λn'42=>vl (A1 (n'37+1)) λn'43=>Bc lf n points_z'33 points_t'34 points'35 basic'36 n'43 n'42 bias'39 done'40 l'41 k0))) (k0 l8)
theorem Xq (n points_z0 points_t1 points2 basic3 n4 delta5 bias6 done7 l8):E6 1 ((L3 lf).keep 17) (bd (L3 lf) cl yh (cd [1,1,1,1,1,1,1,0,1,0,0] Ao)) n ⟨gp [(0,.s (.sl points_z0 points_t1 1 points2)),(3,.fl 0),(2,pI basic3),(0,pI n4),(0,pI delta5),(0,pI bias6),(0,pI done7)] 95,[.arr true 5 1 l8],s⟩ k =
 Bc lf n points_z0 points_t1 points2 basic3 n4 delta5 bias6 done7 l8 (λl0=>k (.exit 2) ⟨gp [(4,.fl 0)] 102,[.arr true 5 1 l0],s⟩):=by
 induction n generalizing points_z0 points_t1 points2 basic3 n4 delta5 bias6 done7 l8 with
 | zero=>rfl
 | succ n ih=>rw [Bc];exact (Eq.trans (by kernel_rfl) (A0 ((QW lf cl yh s (G5 4 (H5 (L3 lf) cl yh (cd [1,1,1,1,1,1,1,0,1,0,0,1,0,0,1,1] Ao) (G5 3 (H5 (L3 lf) cl yh (cd [1,1,1,1,1,1,1,0,1,0,0,1,1] Ao) (lpK 1 ((L3 lf).keep 17) (bd (L3 lf) cl yh (cd [1,1,1,1,1,1,1,0,1,0,0] Ao)) n k))))) lf points_z0 points_t1 points2 basic3 n4 delta5 bias6 done7 1114112 (points2.length:Int) 0 l8).trans (congr rfl (Ax9 λpoints_z'11 points_t'12 points'13 basic'14 n'15 delta'16 bias'17 done'18 m'19 l'20=>(Eq.trans (by kernel_rfl) (A8 λn'23=>(A8 λn'24=>((QX lf cl yh s (G5 6 (H5 (L3 lf) cl yh (cd [1,1,1,1,1,1,1,0,1,0,0,1,0,0,1,1,1,1,1] Ao) (G5 3 (H5 (L3 lf) cl yh (cd [1,1,1,1,1,1,1,0,1,0,0,1,1] Ao) (lpK 1 ((L3 lf).keep 17) (bd (L3 lf) cl yh (cd [1,1,1,1,1,1,1,0,1,0,0] Ao)) n k))))) lf points_z'11 points_t'12 points'13 basic'14 m'19 (A1 (delta'16+n'24)) bias'17 done'18 (points'13.length:Int) 0 l'20).trans (congr rfl (fx9 λpoints_z'33 points_t'34 points'35 basic'36 n'37 delta'38 bias'39 done'40 l'41=>(Eq.trans (by kernel_rfl) (A8 λn'42=>(A8 λn'43=>(ih points_z'33 points_t'34 points'35 basic'36 n'43 n'42 bias'39 done'40 l'41))))))))))))) rfl))
noncomputable def KH {R:Type} (lf:Nat) (p_z p_t:Bool) (p:LL) (k0:Unit->Option R) (k1:By->Int->LL->Option R):Option R:=cond (ltI 256 (p.length:Int)) (k0 ()) (N7 lf lf p_z p_t p (p.length:Int) 0 [] (λl'2=>k1 ([]:List UInt8) 2 l'2) (λpoints_z'3 points_t'4 points'5 l'6=>vl (l'6.length:Int) λn'8=>cond (ltI 0 n'8) (cond (E4 (l'6.length+1)) (Bc lf lf points_z'3 points_t'4 points'5 n'8 128 0 72 n'8 (l'6++[[(SV.int .u8 (45:Int))]]) (λl'44=>cond (List.all l'44 Tg) (k1 (List.map Qq l'44) 0 l'44) none)) none) (Bc lf lf points_z'3 points_t'4 points'5 n'8 128 0 72 n'8 l'6 (λl'45=>cond (List.all l'45 Tg) (k1 (List.map Qq l'45) 0 l'45) none))))
theorem A36 (d:Nat) (p_z p_t p):evC (L3 lf) (d+1) σ yh 161 [.s (.sl p_z p_t 1 p)] [] s=KH lf p_z p_t p (λ_=>some (.tup [pS ([]:List UInt8),pI (3:Int)],[],s)) (λr0 r1 l2=>some (.tup [pS r0,pI r1],[.arr true 5 1 l2],s)):=by
 refine (evE (fn:=Tryz.f161) (by kernel_rfl)).trans ?_
 generalize evC (L3 lf) d=cl
 unfold KH;exact let K0:=(G5 2 (H5 (L3 lf) cl yh (cd [1,1,1,1,1,1,1,1] Ao) (I4 (L3 lf) Tryz.f161)));(Eq.trans (by kernel_rfl) (A0 rfl ((QU lf cl yh s (G5 0 (H5 (L3 lf) cl yh (cd [1,1,1,1] Ao) (I4 (L3 lf) Tryz.f161))) lf p_z p_t p (p.length:Int) 0 []).trans (congr (congr rfl (by kernel_rfl)) (fx4 λpoints_z'3 points_t'4 points'5 l'6=>(Eq.trans (by kernel_rfl) (A8 λn'8=>(A0 (A0 ((Xq lf cl yh s K0 lf points_z'3 points_t'4 points'5 n'8 128 0 72 n'8 (l'6++[[(SV.int .u8 (45:Int))]])).trans (by kernel_rfl)) rfl) ((Xq lf cl yh s K0 lf points_z'3 points_t'4 points'5 n'8 128 0 72 n'8 l'6).trans (by kernel_rfl))))))))))
end
end
end Go.Proofs.YtelhbgonncceeaaGreatDoor.E
