/-
  Ranges over functions: a round.
-/
import Derived.Test.YtfioahjeanmfpaaE26
namespace Go.Proofs.Ytfioahjeanmfpaa.E
open Go
set_option linter.unusedVariables false

section
variable {σ R : Type} {r : R} {C : Cfg} {I : σ → (Nat → Prop) → (Nat → Prop) → World → Prop} {Γ Γ' : Ctx} {Φ Φ' : Nat → Prop} {st : St σ} {a : Act} {w w' : World} {cl : CallT} {yh : Yh σ} {yv : Value} {H H' : List Blk} {tmps : Array Value}

theorem sv1_VP {sh sh' : Nat → Option Shp} {v : PV} {V : Value} (h : v.sv?.isSome = true) (hv : VP Γ sh w v V) (hs : ∀ g, Γ.St g → Γ'.St g) : VP Γ' sh' w v V ∧ v.nms = [] := by
  cases v <;> simp [PV.sv?] at h
  · exact ⟨.s _ _ (hv.inv_s.mono (fun _ _ => rfl) hs), rfl⟩
  · rw [hv.inv_nsl]; exact ⟨.nsl, rfl⟩

theorem svs_mem : ∀ {l : List PV} {vs : List SV}, svs? l = some vs → ∀ v ∈ l, v.sv?.isSome = true
  | [], _, _, v, hv => by simp at hv
  | x :: l, vs, h, v, hv => by
    simp only [svs?] at h
    split at h
    · rename_i p q hp hq
      rcases List.mem_cons.1 hv with rfl | hv
      · rw [hp]; rfl
      · exact svs_mem hq v hv
    · cases h

/-- Arguments of a handler mean the same everywhere. -/
theorem svArgs_VP {sh sh' : Nat → Option Shp} (hs : ∀ g, Γ.St g → Γ'.St g) : ∀ {args : List PV}, svArgs args = true → ∀ v ∈ args, v.nms = [] ∧ ∀ V, VP Γ sh w v V → VP Γ' sh' w v V
  | [], _, v, hv => by simp at hv
  | x :: r, h, v, hv => by
    have key : (x.nms = [] ∧ ∀ V, VP Γ sh w x V → VP Γ' sh' w x V) ∧ svArgs r = true := by
      unfold svArgs at h
      split at h
      · rename_i he; cases he
      · rename_i he; cases he
        exact ⟨⟨rfl, fun V hV => (sv1_VP (Γ := Γ) (Γ' := Γ') rfl hV hs).1⟩, h⟩
      · rename_i l r' he
        cases he
        simp only [Bool.and_eq_true, Option.isSome_iff_exists] at h
        obtain ⟨⟨vs, hvs⟩, h⟩ := h
        refine ⟨⟨?_, fun V hV => ?_⟩, h⟩
        · simp only [PV.nms]
          rw [List.eq_nil_iff_forall_not_mem]
          intro c hc
          obtain ⟨j, hj, hc⟩ := mem_nmsL.1 hc
          have hm := svs_mem hvs _ (List.getElem_mem hj)
          generalize l[j] = u at hm hc
          cases u <;> simp [PV.sv?] at hm <;> simp [PV.nms] at hc
        · obtain ⟨A, rfl, hA, hc⟩ := hV.inv_agg
          refine VP.mk_agg hA fun j hj => ?_
          obtain ⟨U, e, k⟩ := hc j hj
          exact ⟨U, e, (sv1_VP (svs_mem hvs _ (List.getElem_mem hj)) k hs).1⟩
      · cases h
    rcases List.mem_cons.1 hv with rfl | hv
    · exact key.1
    · exact svArgs_VP hs key.2 v hv

theorem setParams_SR : ∀ (ts : List Nat) (vs : List PV) (Vs : List Value) {sl : List PV} {tmps : Array Value}, SR Γ H w sl tmps → vs.length = Vs.length → (∀ j (h : j < vs.length), ∃ U, Vs[j]? = some U ∧ VP Γ (shpOf H) w (vs[j]) U) → (∀ v ∈ vs, v.nms = []) →
    SR Γ H w (setParams sl ts vs) ((ts.zip Vs).foldl (fun t (p : Nat × Value) => t.setIfInBounds p.1 p.2) tmps)
  | [], vs, Vs, sl, tmps, h, _, _, _ => by cases vs <;> exact h
  | t :: ts, [], [], sl, tmps, h, _, _, _ => h
  | t :: ts, [], _ :: _, _, _, _, hl, _, _ => by simp at hl
  | t :: ts, _ :: _, [], _, _, _, hl, _, _ => by simp at hl
  | t :: ts, v :: vs, V :: Vs, sl, tmps, h, hl, hc, hn => by
    have h0 : VP Γ (shpOf H) w v V := by
      obtain ⟨U, e, k⟩ := hc 0 (by simp)
      simp only [List.getElem?_cons_zero, Option.some.injEq] at e
      subst e
      exact k
    have h1 := h.put (ds := []) ({ op := .move (.const undef), dst := some t, guard := none, type := 0, after := #[], pos := default } : Oper) h0 (by rw [hn v (by simp)]; simp)
    have h2 : SR Γ H w (sl.set t v) (tmps.setIfInBounds t V) := h1
    exact setParams_SR ts vs Vs h2 (by simpa using hl) (fun j hj => by
      obtain ⟨U, e, k⟩ := hc (j + 1) (by simpa using hj)
      exact ⟨U, by simpa using e, by simpa using k⟩) (fun v hv => hn v (by simp [hv]))

theorem jmp_none (o : Out) : ((pendOf o).map jmp).isNone = (pendOf o).isNone := by cases o <;> rfl

/-- A ROUND. -/
theorem RI_Yd {Γ0 : Ctx} {H0 : List Blk} {w0 : World} {Φ0 : Nat → Prop} {sl0 : List PV} {l D fn : Nat} {ps : Array Tmp} {as body : Code} (hI : HI I) (hyv0 : Γ0.yv = yv) (has : WP C I cl yh yv as) (hbd : WP C I cl yh yv body)
    (hfix : ∀ c ∈ nmsL sl0, c < H0.length ∧ fixS C (shpOf H0 c)) :
    YdOK C.P (RI C I Γ0 H0 w0 Φ0 sl0 tmps l D (recL fn tmps ps as body D)) (roundY ps sl0 (fun st k => evCode C cl yh as st k) (fun st k => evCode C cl yh body st k)) (.func (.yield l) #[] #[]) := by
  intro args x b x' hyx hsv Γ Φ w Vs ⟨Γb, Φb, r⟩ hlt hc
  obtain ⟨H, pend, s1⟩ := x
  unfold roundY at hyx
  cases pend with
  | some o => simp at hyx
  | none =>
  dsimp only at hyx
  split at hyx
  case isFalse => cases hyx
  rename_i hps
  have hrun : (do let d ← Deferred.ofValue (.func (.yield l) #[] #[]) Vs; invoke d.target d.args : Sem Next).run C.P w = (Instr.yield l Vs).run C.P w := by simp [Deferred.ofValue, invoke]
  have hsz : Vs.size = (recL fn tmps ps as body D .ready none).params.size := by rw [hc.1, hps]; rfl
  have hdr := r.hd
  have hlr : w.heap[l]? = some (.loop (recL fn tmps ps as body D .ready none)) := r.hl
  intro ro n o a next Q hnext
  rw [hrun, run_yield hlr hsz, Oper.uponIn_round]
  refine ⟨fun h => (by simp [wideAt, Fence.wide] at h), roundIn_of_wpIn trivial ?_⟩
  -- the round's state
  have inΦ : ∀ {g}, Φb g ∨ (∃ b, Γb.nm b = some g) ∨ g = l ∨ g = D → Φ g := fun {g} h => (r.ph g).2 h
  have notSt : ∀ {g}, Φ g → ¬ Γ.St g := fun {g} h => (r.ft g h).2
  let ΓB : Ctx := { Γb with St := Γ.St }
  have SB : SI C I ΓB Φb { sl := sl0, hp := H, s := s1 } tmps w := r.si.wideSt hI r.st (fun g hg hp => notSt (inΦ (.inl hp)) hg) (fun b g hg hs => notSt (inΦ (.inr (.inl ⟨b, hg⟩))) hs) hlt
  have hargs := svArgs_VP (Γ := Γ) (Γ' := ΓB) (sh := fun _ => none) (sh' := shpOf H) (w := w) (fun _ h => h) hsv
  have hSR := setParams_SR ps.toList args Vs.toList SB.sr (by rw [Array.length_toList]; exact hc.1.symm) (fun j hj => by
    obtain ⟨U, e, k⟩ := hc.2 j hj
    exact ⟨U, by simpa using e, (hargs _ (List.getElem_mem hj)).2 U k⟩) (fun v hv => (hargs v hv).1)
  have hfold : (ps.zip Vs).foldl (fun tmps (t, a) => tmps.setIfInBounds t a) tmps = (ps.toList.zip Vs.toList).foldl (fun t (p : Nat × Value) => t.setIfInBounds p.1 p.2) tmps := by
    rw [← Array.foldl_toList, Array.toList_zip]
  have SA : SI C I ΓB Φb { sl := setParams sl0 ps.toList args, hp := H, s := s1 } ((ps.zip Vs).foldl (fun tmps (t, a) => tmps.setIfInBounds t a) tmps) w := ⟨SB.hr, by rw [hfold]; exact hSR, SB.g, SB.inv, SB.dis⟩
  have hyvB : ΓB.yv = yv := r.pg.yv.trans hyv0
  have olB : Off ΓB Φb w l := ⟨r.ol.1, notSt (inΦ (.inr (.inr (.inl rfl)))), r.ol.2.2⟩
  have odB : Off ΓB Φb w D := ⟨r.od.1, notSt (inΦ (.inr (.inr (.inr rfl)))), r.od.2.2⟩
  have hfW := hI.foot _ _ _ _ SA.inv
  refine has (n0 := 0) (a := { tmps := (ps.zip Vs).foldl (fun tmps (t, a) => tmps.setIfInBounds t a) tmps, defers := [] }) hyvB hyx SA (Mk.nil (Nat.zero_le _)) ?_
  intro o1 st1 a1 w1 Γ1 Φ1 h1 hs1 S1 hm1
  cases o1 with
  | exit id => cases h1
  | ret => cases h1
  | normal =>
  dsimp only at h1
  obtain ⟨ol1, el1⟩ := olB.step hs1
  obtain ⟨od1, ed1⟩ := odB.step hs1
  have hl1 : w1.heap[l]? = some (.loop (recL fn tmps ps as body D .ready none)) := el1.trans hlr
  show ∃ w₂, (Instr.beginRound l).run C.P w1 = .ok () w₂ ∧ body.wpIn (wideAt (some l)) (n - 1) C.P (roundPost C.P l _) a1 w₂
  refine ⟨_, run_beginRound hl1 rfl, ?_⟩
  have O1 : OffW Γ1 Φ1 w1 (w1.putObj l (.loop { recL fn tmps ps as body D .ready none with state := .busy })) := OffW.put ol1
  have S2 := S1.offW hI O1
  refine hbd (hs1.yv.trans hyvB) h1 S2 (hm1.put hl1) ?_
  intro o2 st2 a2 w3 Γ2 Φ2 h2 hs2 S3 _
  simp only [Option.some.injEq, Prod.mk.injEq] at h2
  obtain ⟨rfl, rfl⟩ := h2
  obtain ⟨ol3, el3⟩ := (Off.put (ob := .loop { recL fn tmps ps as body D .ready none with state := .busy }) (l := l) ol1).step hs2
  obtain ⟨od3, ed3⟩ := (Off.put (ob := .loop { recL fn tmps ps as body D .ready none with state := .busy }) (l := l) od1).step hs2
  have hl3 : w3.heap[l]? = some (.loop { recL fn tmps ps as body D .ready none with state := .busy }) := el3.trans (World.putObj_heap_same ol1.1)
  have hend := run_endRound (P := C.P) ((pendOf o2).map jmp) hl3
  have hDl : D ≠ l := by
    rintro rfl
    rw [hlr] at hdr
    cases hdr
  obtain ⟨w4, hw4⟩ : ∃ w4, w3.putObj l (.loop { { recL fn tmps ps as body D .ready none with state := .busy } with state := if ((pendOf o2).map jmp).isNone then .ready else .done, pending := (pendOf o2).map jmp }) = w4 := ⟨_, rfl⟩
  rw [hw4] at hend
  have O3 : OffW Γ2 Φ2 w3 w4 := by rw [← hw4]; exact OffW.put ol3
  have ol4 : Off Γ2 Φ2 w4 l := by rw [← hw4]; exact ol3.put
  have od4 : Off Γ2 Φ2 w4 D := by rw [← hw4]; exact od3.put
  have S4 := S3.offW hI O3
  have hlen : H.length ≤ st2.hp.length := Nat.le_trans hs1.len hs2.len
  obtain ⟨Γ3, S5, t1, t2, t3, t4, t5, t6⟩ := trunc_SI hI S4 hlen
  have ets : (trunc H.length st2).s = st2.s := by unfold trunc; split <;> rfl
  have PgR : Pg C ΓB H w Φb Γ2 st2.hp w4 Φ2 := hs1.pg.trans ((Pg.off S1.hr O1).trans (hs2.pg.trans (Pg.off S3.hr O3)))
  have P1 : Pg C Γ0 H0 w0 Φ0 Γ2 st2.hp w4 Φ2 := r.pg.trans ((Pg.wideSt r.si.hr r.st).trans PgR)
  have hst1 := hs1.st SA.hr (fun g hg => (hfW g hg).2)
  have hst2 := hs2.st S2.hr (fun g hg => (hI.foot _ _ _ _ S2.inv g hg).2)
  have hstA : ∀ g, ΓB.St g → w4.heap[g]? = w.heap[g]? := fun g hg => by
    have q1 := hs1.sub g hg
    have q2 := hs2.sub g q1
    rw [O3.same g (.inl q2), hst2 g q1, O1.same g (.inl q1), hst1 g hg]
  have hL0 := r.pg.len
  have hkeep : ∀ c, c < H0.length ∧ fixS C (shpOf H0 c) → Γ3.nm c = ΓB.nm c ∧ shpOf (trunc H.length st2).hp c = shpOf H c ∧ ∀ g, ΓB.nm c = some g → w4.shape? g = w.shape? g := fun c ⟨hc1, hc2⟩ => by
    obtain ⟨_, k2, _⟩ := r.pg.keep c hc1 hc2
    have hcH : c < H.length := Nat.lt_of_lt_of_le hc1 hL0
    obtain ⟨m1, m2, m3⟩ := PgR.keep c hcH (by rw [k2]; exact hc2)
    obtain ⟨n1, n2⟩ := t5 c hcH
    exact ⟨n1.trans m1, n2.trans m2, m3⟩
  have M : Mono ΓB (shpOf H) w Γ3 (shpOf (trunc H.length st2).hp) w4 (fun c => c < H0.length ∧ fixS C (shpOf H0 c)) :=
    ⟨hstA, fun g hg => t1 g (PgR.sub g hg), fun b hb => (hkeep b hb).1, fun b hb => (hkeep b hb).2.1, fun b g hb hg => (hkeep b hb).2.2 g hg, t4.trans PgR.yv⟩
  have SF : SI C I Γ3 Φ2 { sl := sl0, hp := (trunc H.length st2).hp, s := st2.s } tmps w4 :=
    ⟨S5.hr, SB.sr.mono M (fun c hc => ⟨hfix c hc, Nat.lt_of_lt_of_le (hfix c hc).1 (Nat.le_trans hL0 t6)⟩), S5.g, by have := S5.inv; rw [ets] at this; exact this, S5.dis⟩
  have PF : Pg C Γ0 H0 w0 Φ0 Γ3 (trunc H.length st2).hp w4 Φ2 := ⟨P1.os, P1.tape, P1.output, P1.size, fun g hg => t1 g (P1.sub g hg), fun b g hb => P1.own b g (t3 b g hb), P1.foot, t4.trans P1.yv, Nat.le_trans hL0 t6, fun b hb hf => by
    obtain ⟨k1, k2, k3⟩ := P1.keep b hb hf
    obtain ⟨n1, n2⟩ := t5 b (Nat.lt_of_lt_of_le hb hL0)
    exact ⟨n1.trans k1, n2.trans k2, k3⟩⟩
  have offT : ∀ {g}, Off Γ2 Φ2 w4 g → Off Γ3 Φ2 w4 g := fun {g} h => ⟨h.1, fun q => by
    rcases t2 g q with q | ⟨b, _, q⟩
    · exact h.2.1 q
    · exact h.2.2.1 b q, fun b q => h.2.2.1 b (t3 b g q), h.2.2.2⟩
  have hl4 : w4.heap[l]? = some (.loop (recL fn tmps ps as body D (stOf (pendOf o2)) ((pendOf o2).map jmp))) := by
    rw [← hw4, World.putObj_heap_same ol3.1]
    cases o2 <;> rfl
  have hd4 : w4.heap[D]? = some (.deferred (some [])) := by
    rw [← hw4, World.putObj_heap_other hDl, ed3, World.putObj_heap_other hDl, ed1]
    exact hdr
  have hf5 := hI.foot _ _ _ _ SF.inv
  have RB : RIb C I Γ0 H0 w0 Φ0 sl0 tmps l D (recL fn tmps ps as body D) ((trunc H.length st2).hp, pendOf o2, st2.s) Γ3.St (fun g => Φ2 g ∨ (∃ b, Γ3.nm b = some g) ∨ g = l ∨ g = D) w4 Γ3 Φ2 := by
    refine ⟨SF, PF, fun _ h => h, fun _ => Iff.rfl, fun g hg => ?_, offT ol4, offT od4, hl4, hd4⟩
    rcases hg with q | ⟨b, q⟩ | rfl | rfl
    · exact hf5 g q
    · have := SF.hr.lt b g q
      exact ⟨this.2.1, this.2.2⟩
    · exact ⟨ol4.1, (offT ol4).2.1⟩
    · exact ⟨od4.1, (offT od4).2.1⟩
  have hs1sz := hs1.size
  have e2 : ∀ {g}, (w1.putObj l (.loop { recL fn tmps ps as body D .ready none with state := .busy })).heap.size ≤ g → w.heap.size ≤ g := fun {g} q => Nat.le_trans (Nat.le_trans hs1sz O1.size) q
  have e3 : ∀ {g}, g < w.heap.size → g < (w1.putObj l (.loop { recL fn tmps ps as body D .ready none with state := .busy })).heap.size := fun {g} q => Nat.lt_of_lt_of_le q (Nat.le_trans hs1sz O1.size)
  have fin : next (a.put o.dst (.bool ((pendOf o2).map jmp).isNone)) w4 := by
    refine hnext _ _ ⟨by rw [jmp_none], Γ3.St, _, ⟨Γ3, Φ2, RB⟩, fun g hg => t1 g (PgR.sub g hg), fun g hg => ?_, fun g hg => ?_, fun g hg hp => ?_, PgR.size, PgR.os, PgR.tape, PgR.output, SF.hr.stlt⟩
    · have st2c : Γ2.St g → Γ.St g ∨ w.heap.size ≤ g := fun q => by
        rcases hs2.stnew g q with q | q
        · exact hs1.stnew g q
        · exact .inr (e2 q)
      rcases t2 g hg with q | ⟨b, hb, q⟩
      · exact st2c q
      · rcases hs2.own b g q with ⟨_, q⟩ | q
        · rcases hs1.own b g q with ⟨q', _⟩ | q
          · simp only at q'; omega
          · exact .inr q
        · exact .inr (e2 q)
    · rcases hg with q | ⟨b, q⟩ | rfl | rfl
      · rcases PgR.foot g q with q | q
        · exact .inl (inΦ (.inl q))
        · exact .inr q
      · rcases PgR.own b g (t3 b g q) with ⟨_, q⟩ | q
        · exact .inl (inΦ (.inr (.inl ⟨b, q⟩)))
        · exact .inr q
      · exact .inl (inΦ (.inr (.inr (.inl rfl))))
      · exact .inl (inΦ (.inr (.inr (.inr rfl))))
    · have hgl : g ≠ l := fun e => hp (inΦ (.inr (.inr (.inl e))))
      have n1 : ∀ b, ΓB.nm b ≠ some g := fun b q => hp (inΦ (.inr (.inl ⟨b, q⟩)))
      have p1 : ¬ Φb g := fun q => hp (inΦ (.inl q))
      have n2 : ∀ b, Γ1.nm b ≠ some g := fun b q => by
        rcases hs1.own b g q with ⟨_, q⟩ | q
        · exact n1 b q
        · omega
      have p2 : ¬ Φ1 g := fun q => by
        rcases hs1.foot g q with q | q
        · exact p1 q
        · omega
      rw [← hw4, World.putObj_heap_other hgl, hs2.frame g (e3 hg) n2 p2, World.putObj_heap_other hgl, hs1.frame g hg n1 p1]
  cases o2 with
  | normal => exact ⟨_, _, hend, fin⟩
  | exit id => exact ⟨_, _, hend, fin⟩
  | ret => exact ⟨_, _, hend, fin⟩

end
end Go.Proofs.Ytfioahjeanmfpaa.E
