/-
  From the evaluator to a law's statement.
-/
import Derived.Test.YtfioahjeanmfpaaE28
namespace Go.Proofs.Ytfioahjeanmfpaa.E
open Go Go.ChangeShapes Go.WideShapes Go.RowKit
set_option linter.unusedVariables false

def aggOf (P : Program) (t : Nat) : Bool := match P.underlying t with
  | some (.struct _) => true
  | some (.array _ _) => true
  | _ => false

/-- A pure argument of a type. -/
def ArgOf (P : Program) (t : Nat) (v : PV) : Prop := ∃ tys l, tysOf P 20 t = some tys ∧ Ty.ofL tys l ∧ ((aggOf P t = true ∧ v = .agg (l.map .s)) ∨ (aggOf P t = false ∧ ∃ x, l = [x] ∧ v = .s x))

def ArgsOf (P : Program) : List Nat → List PV → Prop
  | [], l => l = []
  | t :: r, l => ∃ v q, l = v :: q ∧ ArgOf P t v ∧ ArgsOf P r q

theorem ArgOf.nms {P : Program} {t : Nat} {v : PV} (h : ArgOf P t v) : v.nms = [] := by
  obtain ⟨tys, l, _, _, h⟩ := h
  rcases h with ⟨_, rfl⟩ | ⟨_, x, _, rfl⟩
  · simp only [PV.nms]
    rw [List.eq_nil_iff_forall_not_mem]
    intro c hc
    obtain ⟨j, hj, hc⟩ := mem_nmsL.1 hc
    simp [PV.nms] at hc
  · rfl

theorem ArgsOf.nms {P : Program} : ∀ {ts : List Nat} {l : List PV}, ArgsOf P ts l → nmsL l = []
  | [], l, h => by simp only [ArgsOf] at h; subst h; rfl
  | t :: r, l, h => by
    simp only [ArgsOf] at h
    obtain ⟨v, q, rfl, h1, h2⟩ := h
    simp [nmsL, h1.nms, h2.nms]

section
variable {H : Type} {enc : TypeId × Value → H} {P : Program} {w : World}

theorem not_agg {v : Value} {r : Reach} {b : Nat} {t : Nat} (ha : aggOf P t = false) (hval : Value.okWide P w r b t v) : ∀ cs, v = .agg cs → False := by
  rintro cs rfl
  simp only [Value.okWide, Cell.okWide] at hval
  unfold aggOf at ha
  split at hval
  · rename_i h; rw [h] at ha; simp at ha
  · rename_i h; rw [h] at ha; simp at ha
  · revert hval
    cases hu : P.underlying t with
    | none => simp [Cell.ok, hu]
    | some d => cases d <;> simp [Cell.ok, hu]

theorem read_arg {Γ : Ctx} {sh : Nat → Option Shp} {sp : Nat → Bool} {held : Bool} {r : Reach} {b b' t : Nat} {v : Value} {d : DataW H} {ps : List MemPlace} (hΓ : ∀ g, g < w.heap.size → Γ.St g) (htys : (tysOf P 20 t).isSome = true) (hval : Value.okWide P w r b t v) (hd : DataW.Trod enc P w b' sp held t v d ps) :
    ∃ pv, ArgOf P t pv ∧ VP Γ sh w pv v := by
  obtain ⟨tys, ht⟩ := Option.isSome_iff_exists.1 htys
  obtain ⟨m, hm⟩ := hd
  obtain ⟨svs, h1, h2⟩ := read_VS 20 t tys m _ _ ht hm
  have lift : ∀ {x : SV} {V : Value}, VS (· < w.heap.size) w x V → VS Γ.St w x V := fun h => h.mono (fun _ _ => rfl) hΓ
  cases ha : aggOf P t with
  | true =>
    refine ⟨.agg (svs.map .s), ⟨tys, svs, ht, h1, .inl ⟨ha, rfl⟩⟩, ?_⟩
    have : ∃ cs, v = .agg cs := by
      unfold aggOf at ha
      simp only [Value.okWide] at hval
      split at ha
      · rename_i h; simp only [h] at hval; obtain ⟨cs, hc, _⟩ := hval; exact ⟨cs, hc⟩
      · rename_i h; simp only [h] at hval; obtain ⟨cs, hc, _⟩ := hval; exact ⟨cs, hc⟩
      · cases ha
    obtain ⟨cs, rfl⟩ := this
    simp only [Value.cells] at h2
    refine VP.mk_agg (by simpa using h2.1) fun j hj => ?_
    have hj' : j < svs.length := by simpa using hj
    obtain ⟨U, e, k⟩ := h2.2 j hj'
    exact ⟨U, by simpa using e, by rw [List.getElem_map]; exact .s _ _ (lift k)⟩
  | false =>
    have hc : v.cells = #[v] := by
      have := not_agg ha hval
      cases v with
      | agg cs => exact (this cs rfl).elim
      | _ => rfl
    rw [hc] at h2
    have hl : svs.length = 1 := by have := h2.1; simpa using this.symm
    obtain ⟨x, rfl⟩ : ∃ x, svs = [x] := by
      match svs, hl with
      | [x], _ => exact ⟨x, rfl⟩
    obtain ⟨U, e, k⟩ := h2.2 0 (by simp)
    simp only [List.getElem?_cons_zero, Option.some.injEq] at e
    subst e
    exact ⟨.s x, ⟨tys, [x], ht, h1, .inr ⟨ha, x, rfl, rfl⟩⟩, .s _ _ (lift k)⟩

theorem read_args {Γ : Ctx} {sh : Nat → Option Shp} {sp : Nat → Bool} {held : Bool} {r : Reach} {b b' : Nat} (hΓ : ∀ g, g < w.heap.size → Γ.St g) : ∀ (ts : List Nat) (vs : List Value) (ds : List (DataW H)) (ps : List MemPlace), (∀ t ∈ ts, (tysOf P 20 t).isSome = true) → (∀ (j : Nat) t v, ts[j]? = some t → vs[j]? = some v → Value.okWide P w r b t v) → DataW.TrodAll enc P w b' sp held ts vs ds ps →
    ∃ pvs, ArgsOf P ts pvs ∧ vs.length = pvs.length ∧ ds.length = ts.length ∧ ∀ j (h : j < pvs.length), ∃ U, vs[j]? = some U ∧ VP Γ sh w (pvs[j]) U
  | [], vs, ds, ps, _, _, h => by
    obtain ⟨rfl, rfl, _⟩ := trodAll_nil h
    exact ⟨[], rfl, rfl, rfl, fun j hj => by simp at hj⟩
  | t :: ts, vs, ds, ps, htys, hval, h => by
    obtain ⟨v, vs', d, ds', p, q, rfl, rfl, rfl, h1, h2⟩ := trodAll_cons h
    obtain ⟨pv, k1, k2⟩ := read_arg (Γ := Γ) (sh := sh) hΓ (htys t (by simp)) (hval 0 t v rfl rfl) h1
    obtain ⟨pvs, g1, g2, g3, g4⟩ := read_args (Γ := Γ) (sh := sh) hΓ ts vs' ds' q (fun t ht => htys t (by simp [ht])) (fun j t v hj hv => hval (j + 1) t v (by simpa using hj) (by simpa using hv)) h2
    refine ⟨pv :: pvs, ⟨pv, pvs, rfl, k1, g1⟩, by simp [g2], by simp [g3], fun j hj => ?_⟩
    cases j with
    | zero => exact ⟨v, rfl, k2⟩
    | succ j =>
      obtain ⟨U, e, k⟩ := g4 j (by simpa using hj)
      exact ⟨U, by simpa using e, by simpa using k⟩

theorem again_args (hl : laidOutB P = true) {w' : World} {ts : List Nat} {vs : List Value} {ds : List (DataW H)} {ps : List MemPlace} : ∀ {ts : List Nat} {vs : List Value} {ds : List (DataW H)} {ps : List MemPlace}, (∀ t ∈ ts, P.readableRec t = true ∧ t < P.types.size) → DataW.TrodAll enc P w 0 (fun _ => true) true ts vs ds ps → (∀ x ∈ ps, w.sameAt w' x) → ∀ sp : Nat → Bool, (∀ x ∈ ps, sp x.block = true) →
    DataW.TrodAll enc P w' 0 sp true ts vs ds ps
  | [], vs, ds, ps, _, h, _, sp, _ => by
    obtain ⟨rfl, rfl, rfl⟩ := trodAll_nil h
    exact trodAll_mk0
  | t :: ts, vs, ds, ps, hr, h, hs, sp, hsp => by
    obtain ⟨v, vs', d, ds', p, q, rfl, rfl, rfl, h1, h2⟩ := trodAll_cons h
    refine ⟨p, q, WideElems.Trod_stays hl (hr t (by simp)).1 (hr t (by simp)).2 h1 (fun x hx => hs x (by simp [hx])) (fun x hx => hsp x (by simp [hx])), again_args hl (w' := w') (ts := ts) (vs := vs') (ds := ds') (ps := q) (fun t ht => hr t (by simp [ht])) h2 (fun x hx => hs x (by simp [hx])) sp (fun x hx => hsp x (by simp [hx])), rfl⟩

/-- The post of a law, where memory below the old size is as it was. -/
theorem post_of_below {f : Func} {s : ChangeSpec} {apart fresh handsOn again : Bool} {W W' : World} {args : Array Value} {v : Value} {ds gs : List (DataW H)} {before pa pv : List MemPlace}
    (hW : DataW.Whole enc P f.params.toList s.vars apart W args.toList ds gs before)
    (hres : ∀ (b : Nat) (sp : Nat → Bool) (hd : Bool), DataW.TrodAll enc P W' b sp hd f.resultTypes.toList (v.resultList f.resultTypes.size) (s.fn H (ds ++ gs)).results [])
    (hargs : ∀ sp : Nat → Bool, (∀ p ∈ before, sp p.block = true) → DataW.TrodAll enc P W' 0 sp true f.params.toList args.toList (s.fn H (ds ++ gs)).args pa)
    (hvars : ∀ sp : Nat → Bool, (∀ p ∈ before, sp p.block = true) → DataW.TrodVars enc P W' sp s.vars (s.fn H (ds ++ gs)).vars pv)
    (hps : before = pa ++ pv) (hb : Below W.heap.size W W')
    (hok : ∀ (j : Nat) (t : TypeId) (r : Value), f.resultTypes[j]? = some t → (v.resultList f.resultTypes.size)[j]? = some r → Value.okWide P W' .any 0 t r) :
    s.post enc P f apart fresh handsOn again W args v W' := by
  have hold : ∀ p ∈ before, (fun b => decide (b < W.heap.size)) p.block = true := fun p hp => by simpa using hW.lt p hp
  refine ⟨ds, gs, before, [], pa, pv, hW, hres _ _ _, hargs _ hold, hvars _ hold, hb.frame _, fun _ => ?_⟩
  have hlt := hW.lt
  obtain ⟨_, _, _, _, _, hz, hn⟩ := hW
  refine ⟨hok, _, _, ([] ++ pa) ++ pv, ⟨[] ++ pa, pv, trodAll_append (hargs _ (fun _ _ => rfl)) (hres _ _ _), hvars _ (fun _ _ => rfl), rfl, ?_, ?_⟩, ?_⟩
  · intro b off hp
    have hp' : MemPlace.cell b off ∈ before := by rw [hps]; simpa using hp
    rw [hb.frozen (hlt _ hp')]
    exact hz b off hp'
  · intro ha
    have := hn ha
    rw [hps] at this
    simpa using this
  · intro p hp _
    rw [hps]
    simpa using hp

end

theorem upon_calls {P : Program} {f : Nat} {Vs : Array Value} {w : World} {R : Value → World → Prop} (hrun : (callFunc f Vs).run P w = .ok (.enter f Vs) w) (h : UponOK P ((callFunc f Vs).run P w) R) : Calls P f Vs w fun e w' => ∃ V, e = .returned V ∧ R V w' := by
  rw [hrun] at h
  have := h none 1 { op := .move (.const undef), dst := some 0, guard := none, type := 0, after := #[], pos := default } { tmps := #[undef], defers := [] } (fun a' w' => ∃ V, a'.tmps[0]? = some V ∧ R V w') (fun _ _ _ => False) (fun V w' hR => ⟨V, by simp [Act.put], hR⟩)
  rw [Oper.uponIn_enter] at this
  have h2 : CallsIn Fence.wide 0 P f Vs w _ := this.2
  refine (callsIn_wide.1 h2).mono fun e w' he => ?_
  cases e with
  | returned v =>
    obtain ⟨V, e1, e2⟩ := he
    simp [Act.put] at e1
    subst e1
    exact ⟨_, rfl, e2⟩
  | panicked c => exact he.elim
  | outgrown => obtain ⟨_, _, h⟩ := he; exact h.elim

def noY : Yh Unit := fun _ _ => none

/-- A LAW's CONTRACT out of the evaluator's answer. -/
theorem contract {H : Type} {enc : TypeId × Value → H} {C : Cfg} {f tb : Nat} {fn : Func} {c : Code} {s : ChangeSpec} {apart fresh handsOn again : Bool} (hX : XOK C) (hO : OkFns C) (hm : C.P.follows .mixedOrders = true) (hl : laidOutB C.P = true) (hfn : C.P.funcs[f]? = some fn) (hb : fn.body = some c) (hname : (fn.name == "runtime.NumGoroutine") = false)
    (hp : ∀ t ∈ fn.params.toList, (C.P.readableRec t = true ∧ t < C.P.types.size) ∧ (tysOf C.P 20 t).isSome = true) (hres : fn.resultTypes = #[tb]) (hbool : C.P.underlying tb = some .bool) (hvars : s.vars = [])
    (hspec : ∀ ds : List (DataW H), ds.length = fn.params.toList.length → s.fn H ds = { results := [.lit (.bool true)], args := ds })
    (hev : ∀ args, ArgsOf C.P fn.params.toList args → ∃ d Hc, evC C d Unit noY f args [] () = some (.s (.bool true), Hc, ()))
    (W : World) (hG : GOK C (· < W.heap.size) W) (base : Nat) (args : Array Value) (ds gs : List (DataW H)) (before : List MemPlace)
    (hval : ∀ (j : Nat) t v, fn.params[j]? = some t → args[j]? = some v → Value.okWide C.P W .any base t v)
    (hW : DataW.Whole enc C.P fn.params.toList s.vars apart W args.toList ds gs before) :
    Calls C.P f args W fun e W' => ∃ v, e = .returned v ∧ s.post enc C.P fn apart fresh handsOn again W args v W' := by
  have hW' := hW
  obtain ⟨p, q, hA, hV, rfl, hfz, hnd⟩ := hW
  rw [hvars] at hV
  obtain ⟨rfl, rfl⟩ := trodVars_none hV
  let Γ : Ctx := { St := (· < W.heap.size), nm := fun _ => none, yv := .nilFunc, yv1 := rfl }
  obtain ⟨pvs, h1, h2, h3, h4⟩ := read_args (Γ := Γ) (sh := shpOf []) (fun _ h => h) fn.params.toList args.toList ds p (fun t ht => (hp t ht).2) (fun j t v hj hv => hval j t v (by simpa using hj) (by simpa using hv)) hA
  obtain ⟨d, Hc, hd⟩ := hev pvs h1
  have hS := evC_sound hX hO hm d Unit I0 noY .nilFunc I0_HI I0_Yd f pvs [] () _ Hc () hd Γ noΦ W args rfl (bare_HR (fun _ => rfl) (fun _ h => h)) hG (fun _ h => h) (fun b g h => by cases h)
    ⟨by rw [← Array.length_toList]; exact h2, fun j hj => by obtain ⟨U, e, k⟩ := h4 j hj; exact ⟨U, by simpa using e, k⟩⟩ (by rw [h1.nms]; simp)
  refine (upon_calls (callFunc_enter hfn hb hname) hS).mono ?_
  rintro e W' ⟨V, rfl, Γ', Φ', hs, hH, hv, _⟩
  have hV := hv.inv_bool
  subst hV
  have hbel : Below W.heap.size W W' := ⟨hs.os, hs.tape, hs.output, hs.size, fun k hk => hs.frame k hk (fun b => by simp [Γ]) (fun x => x)⟩
  simp only [List.append_nil] at hW'
  refine ⟨_, rfl, ?_⟩
  have hsp := hspec ds h3
  have hlt := hW'.lt
  refine post_of_below (pa := p) (pv := []) hW' (fun b sp hd => ?_) (fun sp hsp' => ?_) (fun sp _ => ?_) (by simp) hbel ?_
  · rw [List.append_nil, hsp, hres]
    exact trodAll_cons_mk (shut_bool hbool _) trodAll_mk0
  · rw [List.append_nil, hsp]
    exact again_args hl (w := W) (ts := fn.params.toList) (vs := args.toList) (ds := ds) (ps := p) (fun t ht => (hp t ht).1) hA (fun x hx => hbel.same (hlt x hx)) sp hsp'
  · rw [List.append_nil, hsp, hvars]
    rfl
  · exact ok_one hres rfl (okWide_bool_mk hbool _)

end Go.Proofs.Ytfioahjeanmfpaa.E
