/-
  Regions that draw their order, in which memory is added and written.
-/
import Derived.Test.YtfioahjeanmfpaaE25
namespace Go.Proofs.Ytfioahjeanmfpaa.E
open Go
set_option linter.unusedVariables false

theorem ble_mk {a b : Nat} (h : a ≤ b) : Nat.ble a b = true := by rw [Nat.ble_eq]; exact h
theorem ble_le {a b : Nat} (h : Nat.ble a b = true) : a ≤ b := by rw [Nat.ble_eq] at h; exact h
theorem Like.refl (w : World) : Like w w := ⟨⟨fun _ _ => rfl, Nat.le_refl _⟩, rfl, rfl, rfl⟩
theorem Like.trans {a b c : World} (h : Like a b) (k : Like b c) : Like a c :=
  ⟨⟨fun g hg => (k.1.1 g (Nat.lt_of_lt_of_le hg h.1.2)).trans (h.1.1 g hg), Nat.le_trans h.1.2 k.1.2⟩, k.2.1.trans h.2.1, k.2.2.1.trans h.2.2.1, k.2.2.2.trans h.2.2.2⟩

section
variable {F : Fence} {n : Nat} {P : Program} {ops : Array Oper} {md : Region.Mode}

/-- No way out but the plain one. -/
def QF : Exit → Act → World → Prop := fun _ _ _ => False

theorem wpIn_QF {o : Oper} {a : Act} {w : World} {N : Act → World → Prop} {Q : Exit → Act → World → Prop} (h : o.wpIn F n P a w N QF) : o.wpIn F n P a w N Q := by
  unfold Oper.wpIn at *
  refine ⟨h.1, ?_⟩
  have h := h.2
  generalize (o.semAt F.round a.eval).run P w = r at *
  cases r with
  | ok x w' =>
    cases x <;> simp only [Oper.uponIn] at h ⊢
    case value => exact h
    case skip => exact h
    case defer => exact h
    case enter => exact ⟨h.1, CallsIn.mono h.2 fun e w'' he => by
      cases e with
      | returned u => exact he
      | panicked c => exact he.elim
      | outgrown => obtain ⟨_, _, h⟩ := he; exact h.elim⟩
    case row => exact h
    case round => exact ⟨h.1, RoundIn.mono h.2 fun e w'' he => by
      cases e with
      | returned u => exact he
      | panicked c => exact he.elim
      | outgrown => obtain ⟨_, _, h⟩ := he; exact h.elim⟩
  | halt x w' =>
    cases x <;> simp only [Oper.uponIn] at h ⊢
    case panic => exact h.elim

theorem wpOpIn_QF {i : Nat} {a : Act} {w : World} {N : Act → World → Prop} {Q : Exit → Act → World → Prop} (h : wpOpIn F n P ops QF i N a w) : wpOpIn F n P ops Q i N a w := by
  unfold wpOpIn at *
  split
  · rename_i ho; simp only [ho] at h; exact h
  · rename_i o ho
    simp only [ho] at h
    split
    · rename_i hw; simp only [hw, if_true] at h; exact wpIn_QF h
    · rename_i hw; simp only [hw] at h; exact h

/-- In this state, in every world that is like 'w0' (if 'q' asks it), the operation yields 'v', and the world behind it is like the one before it. -/
def YQ (F : Fence) (n : Nat) (P : Program) (ops : Array Oper) (q : Bool) (w0 : World) (o : Oper) (v : Value) (a : Act) : Prop :=
  o.askedIn F P a (fun w => q = true → Like w0 w) ∧
  ((Region.wanted o (yielded ops a.tmps) = true ∧ ∀ w, (q = true → Like w0 w) → o.quietAtIn F n P a (Like w) w v) ∨
   (Region.wanted o (yielded ops a.tmps) = false ∧ v = undef))

theorem YQ.step {q : Bool} {w0 w1 : World} {o : Oper} {v : Value} {a : Act} (h : YQ F n P ops q w0 o v a) (hl : q = true → Like w0 w1) : YQ F n P ops q w1 o v a :=
  ⟨fun w hw => h.1 w fun hq => (hl hq).trans (hw hq), h.2.imp (fun h => ⟨h.1, fun w hw => h.2 w fun hq => (hl hq).trans (hw hq)⟩) (fun h => h)⟩

theorem YQ.of_same {q : Bool} {w0 : World} {o : Oper} {v : Value} {a a' : Act} (hy : YQ F n P ops q w0 o v a) (he : execOp a'.eval o = execOp a.eval o)
    (hw : Region.wanted o (yielded ops a'.tmps) = Region.wanted o (yielded ops a.tmps)) (hb : ∀ w, o.about P w a'.eval = o.about P w a.eval) : YQ F n P ops q w0 o v a' := by
  unfold YQ Oper.quietAtIn Oper.askedIn at *
  rw [he, hw]
  exact ⟨fun w hc f hf => hy.1 w hc f (by rw [← hb w]; exact hf), hy.2⟩

theorem YQ.wpOpIn {q : Bool} {w0 w : World} {i : Nat} {o : Oper} {v : Value} {a : Act} (hi : ops[i]? = some o) (hnd : ∀ c, o.op ≠ .defer c) (hy : YQ F n P ops q w0 o v a) (hw : q = true → Like w0 w) {K : Act → World → Prop} (h : ∀ w', Like w w' → K (a.put o.dst v) w') : wpOpIn F n P ops QF i K a w := by
  unfold Go.wpOpIn
  simp only [hi]
  rcases hy.2 with ⟨hwt, hv⟩ | ⟨hwt, rfl⟩
  · simp only [hwt, if_true]
    have h3 := hv w hw
    unfold Oper.quietAtIn at h3
    unfold Oper.wpIn
    refine ⟨hy.1 w hw, ?_⟩
    rw [Oper.semAt_eq _ _ _ hnd]
    generalize (execOp a.eval o).run P w = r at *
    cases r with
    | ok x w' =>
      cases x <;> simp only [Oper.quietUponIn] at h3 <;> simp only [Oper.uponIn]
      case value u =>
        obtain ⟨e1, e2⟩ := h3
        rw [e1, e2]
        exact h _ (Like.refl w)
      case skip =>
        obtain ⟨e1, e2⟩ := h3
        rw [e1, ← e2]
        exact h _ (Like.refl w)
      case enter f args =>
        obtain ⟨e1, hd, hc⟩ := h3
        rw [e1]
        exact ⟨hd, hc.mono fun e w'' ⟨he, hw''⟩ => by subst he; exact h _ hw''⟩
    | halt x w' => simp only [Oper.quietUponIn] at h3
  · simp only [hwt, Bool.false_eq_true, if_false]; exact ⟨hy.1 w hw, h _ (Like.refl w)⟩

theorem wpOpIn_putQ {q : Bool} {w0 : World} {j : Nat} {oi oj : Oper} {v : Value} (hj : ops[j]? = some oj) (hap : oi.apart ops oj = true)
    (hsi : ∀ cs b, oi.op ≠ .select cs b) (hsj : ∀ cs b, oj.op ≠ .select cs b) (hnd : ∀ c, oj.op ≠ .defer c) {K : Act → World → Prop} {a : Act} {w : World}
    (hy : YQ F n P ops q w0 oi v a) (h : wpOpIn F n P ops QF j K (a.put oi.dst v) w) :
    wpOpIn F n P ops QF j (fun a' w' => YQ F n P ops q w0 oi v a' ∧ K (a'.put oi.dst v) w') a w := by
  obtain ⟨h1, h2, h3⟩ := Oper.apart_spec hap
  have keep : ∀ (a : Act), YQ F n P ops q w0 oi v a → ∀ u, YQ F n P ops q w0 oi v (a.put oj.dst u) := fun a hy u =>
    hy.of_same (execOp_put oi hsi a oj.dst u h3) (wanted_put oi a oj.dst u h3) (fun w => about_put oi w a oj.dst u h3)
  unfold wpOpIn at *
  simp only [hj] at *
  rw [wanted_put oj a oi.dst v h1, about_put oj w a oi.dst v h1] at h
  split
  · rename_i hw
    simp only [hw, if_true] at h
    unfold Oper.wpIn at *
    rw [about_put oj w a oi.dst v h1] at h
    refine ⟨h.1, ?_⟩
    have h := h.2
    rw [Oper.semAt_eq _ _ _ hnd, execOp_put oj hsj a oi.dst v h1] at h
    rw [Oper.semAt_eq _ _ _ hnd]
    have hexec : ∀ d w', (execOp a.eval oj).run P w ≠ .ok (.defer d) w' ∨ True := fun _ _ => .inr trivial
    generalize hr : (execOp a.eval oj).run P w = r at *
    cases r with
    | ok x w' =>
      cases x <;> simp only [Oper.uponIn] at h ⊢
      case value u => exact ⟨keep a hy u, by rw [← Act.put_comm a v u h2]; exact h⟩
      case skip => exact ⟨keep a hy _, by rw [← Act.put_comm a v undef h2]; exact h⟩
      case defer d =>
        have keepD : ∀ d, YQ F n P ops q w0 oi v { a with defers := d :: a.defers } := fun d => hy.of_same rfl rfl (fun _ => rfl)
        refine ⟨keep _ (keepD d) _, ?_⟩
        rw [← Act.put_comm _ v undef h2, ← Act.put_defers]
        exact h
      case enter f args =>
        refine ⟨h.1, CallsIn.mono h.2 fun e w'' he => ?_⟩
        cases e with
        | returned u => exact ⟨keep a hy u, by rw [← Act.put_comm a v u h2]; exact he⟩
        | panicked c => exact he
        | outgrown => exact he
      case row row args => exact ⟨h.1, RowsIn.mono h.2 fun u w'' he => ⟨keep a hy u, by rw [← Act.put_comm a v u h2]; exact he⟩⟩
      case round l f tmps assign body =>
        refine ⟨h.1, RoundIn.mono h.2 fun e w'' he => ?_⟩
        cases e with
        | returned u => exact ⟨keep a hy u, by rw [← Act.put_comm a v u h2]; exact he⟩
        | panicked c => exact he
        | outgrown => exact he
    | halt x w' =>
      cases x <;> simp only [Oper.uponIn] at h ⊢
      case panic u => exact h
  · rename_i hw
    simp only [hw] at h
    exact ⟨h.1, keep a hy _, by rw [← Act.put_comm a v undef h2]; exact h.2⟩

/-- Whatever order is picked from here on; behind each operation the world may be any that is like the one it left. 'wr': it may write. -/
def wpR (F : Fence) (n : Nat) (P : Program) (md : Region.Mode) (ops : Array Oper) (wr : Nat → Bool) (Qn : Act → World → Prop) : Nat → Array Bool → Act → World → Prop
  | 0, listed, a, w => Region.ready md ops listed = [] ∧ Qn a w
  | f + 1, listed, a, w => (Region.ready md ops listed = [] → Qn a w) ∧
    ∀ i ∈ Region.ready md ops listed, wpOpIn F n P ops QF i (fun a' w' => (wr i = false → Like w w') ∧ ∀ w1, Like w' w1 → wpR F n P md ops wr Qn f (listed.setIfInBounds i true) a' w1) a w

theorem wpAnyIn_of_R {wr : Nat → Bool} {Q : Exit → Act → World → Prop} {Qn : Act → World → Prop} (hQ : ∀ a w, Qn a w → Q .normal a w) : ∀ (f : Nat) (listed : Array Bool) (a : Act) (w : World), wpR F n P md ops wr Qn f listed a w → wpAnyIn F n P md ops Q f listed a w
  | 0, _, _, _, h => ⟨h.1, hQ _ _ h.2⟩
  | f + 1, _, _, _, h => ⟨fun h0 => hQ _ _ (h.1 h0), fun i hi => wpOpIn_QF (wpOpIn_mono (fun a' w' h => wpAnyIn_of_R hQ f _ a' w' (h.2 w' (Like.refl w'))) (h.2 i hi))⟩

/-- What has come up waits for nothing that has not. -/
def DC (md : Region.Mode) (ops : Array Oper) (listed : Array Bool) : Prop := ∀ j o, ops[j]? = some o → listed.getD j false = true → ∀ e ∈ o.after, Region.binds md e = true → listed.getD e.on false = true

theorem getD_set_eq {listed : Array Bool} {i j : Nat} (h : (listed.setIfInBounds i true).getD j false = true) : j = i ∨ listed.getD j false = true := by
  by_cases hij : i = j
  · exact .inl hij.symm
  · rw [getD_set_ne false hij] at h; exact .inr h

theorem DC.set {listed : Array Bool} {i : Nat} (h : DC md ops listed) (hi : i ∈ Region.ready md ops listed) : DC md ops (listed.setIfInBounds i true) := by
  intro j o ho hj e he hb
  refine getD_set_true ?_
  rcases getD_set_eq hj with rfl | hj
  · obtain ⟨_, o', ho', hall⟩ := mem_ready.1 hi
    rw [ho] at ho'
    cases ho'
    exact hall e he hb
  · exact h j o ho hj e he hb

/-- It waits for it, be it by way of others. -/
def waitsF (md : Region.Mode) (ops : Array Oper) : Nat → Nat → Nat → Bool
  | 0, _, _ => false
  | f + 1, j, i => match ops[j]? with
    | some o => (o.after.toList.any fun e => Region.binds md e && Nat.beq e.on i) || (o.after.toList.any fun e => Region.binds md e && waitsF md ops f e.on i)
    | none => false

theorem waitsF_spec {listed : Array Bool} {i : Nat} (hd : DC md ops listed) (hi : listed.getD i false = false) : ∀ f j, waitsF md ops f j i = true → listed.getD j false = false ∧ j ∉ Region.ready md ops listed
  | 0, j, h => by cases h
  | f + 1, j, h => by
    simp only [waitsF] at h
    split at h
    · rename_i o ho
      have key : ∃ e ∈ o.after, Region.binds md e = true ∧ listed.getD e.on false = false := by
        rw [Bool.or_eq_true, List.any_eq_true, List.any_eq_true] at h
        rcases h with ⟨e, he, hb⟩ | ⟨e, he, hb⟩
        · rw [Bool.and_eq_true] at hb
          have := Nat.eq_of_beq_eq_true hb.2
          exact ⟨e, by simpa using he, hb.1, by rw [this]; exact hi⟩
        · rw [Bool.and_eq_true] at hb
          exact ⟨e, by simpa using he, hb.1, (waitsF_spec hd hi f e.on hb.2).1⟩
      obtain ⟨e, he, hb, hl⟩ := key
      refine ⟨?_, fun hr => ?_⟩
      · cases hj : listed.getD j false with
        | false => rfl
        | true => rw [hd j o ho hj e he hb] at hl; cases hl
      · obtain ⟨_, o', ho', hall⟩ := mem_ready.1 hr
        rw [ho] at ho'
        cases ho'
        rw [hall e he hb] at hl
        cases hl
    · cases h

theorem unlisted_of_ready {listed : Array Bool} {i : Nat} (h : i ∈ Region.ready md ops listed) : listed.getD i false = false := by
  have h0 := (mem_ready.1 h).1
  rcases Nat.lt_or_ge i listed.size with h' | h'
  · simp [h'] at h0 ⊢; exact h0
  · simp [Array.getElem?_eq_none h']

/-- AN OPERATION THAT ONLY READS MAY BE TAKEN FIRST. -/
theorem wpR_first {wr : Nat → Bool} {Qn : Act → World → Prop} {q : Bool} {i : Nat} {oi : Oper} {v : Value} (hi : ops[i]? = some oi) (hsel : ∀ (j : Nat) (o : Oper) cs b, ops[j]? = some o → o.op ≠ .select cs b) (hnd : ∀ (j : Nat) (o : Oper) c, ops[j]? = some o → o.op ≠ .defer c) :
    ∀ (fuel : Nat) (listed : Array Bool) (a : Act) (w0 : World),
      (∀ j oj, ops[j]? = some oj → j ≠ i → listed.getD j true = false → (∀ e ∈ oj.after, Region.binds md e = true → e.on ≠ i) → oi.apart ops oj = true) →
      (q = true → ∀ j, j ≠ i → listed.getD j true = false → wr j = true → waitsF md ops ops.size j i = true) → DC md ops listed →
      i ∈ Region.ready md ops listed → YQ F n P ops q w0 oi v a →
      (∀ w, Like w0 w → wpR F n P md ops wr Qn fuel (listed.setIfInBounds i true) (a.put oi.dst v) w) → ∀ w, Like w0 w → wpR F n P md ops wr Qn (fuel + 1) listed a w := by
  intro fuel
  induction fuel with
  | zero =>
    intro listed a w0 _ _ _ hr hy H w hw
    refine ⟨fun h => (by rw [h] at hr; cases hr), fun j hj => ?_⟩
    by_cases hji : j = i
    · subst hji
      exact hy.wpOpIn hi (fun c => hnd j oi c hi) (fun _ => hw) fun w' hl => ⟨fun _ => hl, fun w1 h1 => H w1 (hw.trans (hl.trans h1))⟩
    · have := ready_mono hj hji
      rw [(H w hw).1] at this
      cases this
  | succ fuel ih =>
    intro listed a w0 hfree hwr hd hr hy H w hw
    refine ⟨fun h => (by rw [h] at hr; cases hr), fun j hj => ?_⟩
    by_cases hji : j = i
    · subst hji
      exact hy.wpOpIn hi (fun c => hnd j oi c hi) (fun _ => hw) fun w' hl => ⟨fun _ => hl, fun w1 h1 => H w1 (hw.trans (hl.trans h1))⟩
    · have h1 := (H w hw).2 j (ready_mono hj hji)
      obtain ⟨hjun, oj, hoj, hall⟩ := mem_ready.1 hj
      have hiun := unlisted_of_ready hr
      have hnot : ∀ e ∈ oj.after, Region.binds md e = true → e.on ≠ i := fun e he hb heq => by
        have h1 := hall e he hb
        rw [heq, hiun] at h1
        cases h1
      have h2 := wpOpIn_putQ hoj (hfree j oj hoj hji hjun hnot) (fun cs b => hsel i oi cs b hi) (fun cs b => hsel j oj cs b hoj) (fun c => hnd j oj c hoj) (hy.step (w1 := w) fun _ => hw) h1
      have hstep : ∀ {k : Nat}, k ≠ i → (listed.setIfInBounds j true).getD k true = false → listed.getD k true = false := fun {k} hki hun => by
        by_cases hjk : j = k
        · subst hjk; exact hjun
        · rw [getD_set_ne true hjk] at hun; exact hun
      refine wpOpIn_mono (fun a' w' h3 => ?_) h2
      obtain ⟨hy', hl, hR⟩ := h3
      refine ⟨hl, fun w1 hw1 => ?_⟩
      have hql : q = true → Like w w' := fun hq => by
        refine hl ?_
        cases hwj : wr j with
        | false => rfl
        | true => exact absurd hj (waitsF_spec hd hiun ops.size j (hwr hq j hji hjun hwj)).2
      refine ih (listed.setIfInBounds j true) a' w' (fun k ok hk hki hun hno => hfree k ok hk hki (hstep hki hun) hno) (fun hq k hki hun hwk => hwr hq k hki (hstep hki hun) hwk) (hd.set hj) (ready_mono hr (Ne.symm hji)) (hy'.step hql) (fun w2 hw2 => ?_) w1 hw1
      rw [Array.setIfInBounds_comm _ _ hji]
      exact hR w2 hw2

/-- ONE WALK, IN THE ORDER THAT IS GIVEN. -/
def CanonR (F : Fence) (n : Nat) (P : Program) (ops : Array Oper) (kind : Nat → Nat) (Qn : Act → World → Prop) : List Nat → Act → World → Prop
  | [], a, w0 => ∀ w, Like w0 w → Qn a w
  | i :: rest, a, w0 => (kind i ≤ 1 → ∃ o v, ops[i]? = some o ∧ YQ F n P ops (Nat.beq (kind i) 1) w0 o v a ∧ CanonR F n P ops kind Qn rest (a.put o.dst v) w0) ∧
    (2 ≤ kind i → ∀ w, Like w0 w → wpOpIn F n P ops QF i (fun a' w' => (kind i = 2 → Like w w') ∧ CanonR F n P ops kind Qn rest a' w') a w)

/-- It serves every order. -/
def canonB (md : Region.Mode) (ops : Array Oper) (kind : Nat → Nat) : List Nat → Array Bool → Bool
  | [], listed => (Region.ready md ops listed).isEmpty
  | i :: r, listed => cond (Nat.ble (kind i) 1)
      ((Region.ready md ops listed).contains i && (Region.free md ops listed i && (Nat.beq (kind i) 0 || (List.range ops.size).all fun j => Nat.beq j i || (listed.getD j true || (!(Nat.ble 3 (kind j)) || waitsF md ops ops.size j i)))))
      ((Region.ready md ops listed) == [i]) && canonB md ops kind r (listed.setIfInBounds i true)

theorem canon_R {kind : Nat → Nat} {Qn : Act → World → Prop} (hs : Region.noSelect ops = true) (hnd : ∀ (j : Nat) (o : Oper) c, ops[j]? = some o → o.op ≠ .defer c) (hk : ∀ j, ops.size ≤ j → kind j ≤ 1) :
    ∀ (rest : List Nat) (listed : Array Bool) (a : Act) (w0 : World), canonB md ops kind rest listed = true → DC md ops listed → CanonR F n P ops kind Qn rest a w0 → ∀ w, Like w0 w → wpR F n P md ops (fun j => Nat.ble 3 (kind j)) Qn rest.length listed a w
  | [], listed, a, w0, hB, hd, h, w, hw => ⟨by simpa [canonB] using hB, h w hw⟩
  | i :: rest, listed, a, w0, hB, hd, h, w, hw => by
    simp only [canonB, Bool.and_eq_true] at hB
    obtain ⟨hB1, hB2⟩ := hB
    simp only [CanonR] at h
    by_cases hki : kind i ≤ 1
    · rw [show Nat.ble (kind i) 1 = true from ble_mk hki, cond_true] at hB1
      simp only [Bool.and_eq_true] at hB1
      obtain ⟨hr, hf, hwt⟩ := hB1
      obtain ⟨o, v, hi, hy, hC⟩ := h.1 hki
      have hr' : i ∈ Region.ready md ops listed := by simpa using hr
      refine wpR_first (q := Nat.beq (kind i) 1) hi (Region.noSelect_spec hs) hnd rest.length listed a w0 (Region.free_spec hi hf) (fun hq j hji hun hwj => ?_) hd hr' hy (fun w1 hw1 => canon_R hs hnd hk rest _ _ w0 hB2 (hd.set hr') hC w1 hw1) w hw
      have hq1 := Nat.eq_of_beq_eq_true hq
      rw [hq1] at hwt
      simp only [show Nat.beq 1 0 = false from rfl, Bool.false_or, List.all_eq_true, List.mem_range] at hwt
      have hjs : j < ops.size := Decidable.byContradiction fun hge => by
        have := hk j (by omega)
        have h3 := ble_le hwj
        omega
      have := hwt j hjs
      rw [show Nat.beq j i = false by cases hb : Nat.beq j i with | false => rfl | true => exact absurd (Nat.eq_of_beq_eq_true hb) hji, hun, hwj] at this
      simpa using this
    · rw [show Nat.ble (kind i) 1 = false by cases hb : Nat.ble (kind i) 1 with | false => rfl | true => exact absurd (ble_le hb) hki, cond_false] at hB1
      have hr : Region.ready md ops listed = [i] := by simpa using hB1
      refine ⟨fun h0 => (by rw [hr] at h0; cases h0), fun j hj => ?_⟩
      have hji : j = i := by rw [hr] at hj; simpa using hj
      subst hji
      refine wpOpIn_mono (fun a' w' h3 => ?_) (h.2 (by omega) w hw)
      refine ⟨fun hwj => h3.1 ?_, fun w1 hw1 => canon_R hs hnd hk rest _ a' w' hB2 (hd.set hj) h3.2 w1 hw1⟩
      have : ¬ 3 ≤ kind j := fun h => by dsimp only at hwj; rw [ble_mk h] at hwj; cases hwj
      omega

theorem wpIn_region_canon {id : Nat} {Q : Exit → Act → World → Prop} {kind : Nat → Nat} {ord : List Nat} {a : Act} {w : World} (hm : P.follows .mixedOrders = true) (hs : Region.noSelect ops = true) (hnd : ∀ (j : Nat) (o : Oper) c, ops[j]? = some o → o.op ≠ .defer c) (hk : ∀ j, ops.size ≤ j → kind j ≤ 1)
    (hlen : ord.length = ops.size) (hB : canonB .any ops kind ord (Array.replicate ops.size false) = true) (h : CanonR F n P ops kind (fun a w => Q .normal a w) ord a w) : (Code.region id ops true).wpIn F n P Q a w := by
  refine wpIn_region_any hm ?_
  rw [← hlen]
  refine wpAnyIn_of_R (fun _ _ h => h) _ _ _ _ (canon_R hs hnd hk ord _ a w (by rw [hlen]; exact hB) (fun j o ho hj => ?_) h _ ⟨⟨fun _ _ => rfl, Nat.le_refl _⟩, rfl, rfl, rfl⟩)
  simp only [Array.getD_eq_getD_getElem?, Array.getElem?_replicate] at hj
  split at hj <;> cases hj

end

section
variable {σ R : Type} {r : R} {C : Cfg} {I : σ → (Nat → Prop) → (Nat → Prop) → World → Prop} {Γ : Ctx} {Φ : Nat → Prop} {st : St σ} {a : Act} {w : World} {cl : CallT} {yh : Yh σ} {yv : Value} {o : Oper}

theorem run_ok_inj {P : Program} {m : Sem Next} {w w1 w2 : World} {x y : Next} (h : m.run P w = .ok x w1) (k : m.run P w = .ok y w2) : x = y ∧ w1 = w2 := by
  rw [h] at k
  cases k
  exact ⟨rfl, rfl⟩

/-- AN OPERATION THAT ADDS MEMORY. -/
theorem opE_wp {ro : Option Nat} {n : Nat} {k : St σ → Option R} {next : Act → World → Prop} {Q : Exit → Act → World → Prop} (A : Ask C I cl yh yv) (hyv : Γ.yv = yv) (he : extOp C o.op = true) (h : opK C cl yh o st k = some r) (S : SI C I Γ Φ st a.tmps w) (hN : Nxt C I Γ Φ st.hp w a.defers k r (fun a' w' => Like w w' → next a' w')) :
    o.wpIn (wideAt ro) n C.P a w next Q := by
  refine ⟨fun _ _ => trivial, ?_⟩
  have hnd : ∀ c, o.op ≠ .defer c := fun c e => by simp [opK, e] at h
  rw [Oper.semAt_eq _ _ _ hnd]
  unfold extOp at he
  split at he
  · rename_i t len parts hop
    have hcall : callOp o.op = false := by rw [hop]; rfl
    obtain ⟨V, w', Γ', st', h1, h2, h3, h4⟩ := opK_loud A.hI hcall h S
    have hn := hN st' (a.put o.dst V) w' Γ' Φ h1 h4 h3 (put_defers _ _ _)
    have hl : ∃ V' x, (execOp a.eval o).run C.P w = .ok (.value V') (w.alloc x) := by
      simp only [opK, hop] at h
      obtain ⟨p1, p2⟩ := S.parts parts.toList
      obtain ⟨v, H', hk, hv, V', x, hrun⟩ := buildSliceK_sound (ps := parts.map fun (i, x) => (i, a.eval x)) (sl := st.sl) (tmps := a.tmps) S.hr h (by rw [Array.toList_map]; exact p1)
      refine ⟨V', x, ?_⟩
      simp only [execOp, hop]
      simp [hrun]
    obtain ⟨V', x, hl⟩ := hl
    have hlike : Like w (w.alloc x) := ⟨⟨fun g hg => heap_push_lt (w' := w.alloc x) (o := x) rfl hg, by rw [show (w.alloc x).heap = w.heap.push x from rfl]; simp⟩, rfl, rfl, rfl⟩
    rcases h2 with h2 | ⟨rfl, h2⟩
    · obtain ⟨_, rfl⟩ := run_ok_inj h2 hl
      rw [h2]; exact hn hlike
    · obtain ⟨e, _⟩ := run_ok_inj h2 hl
      cases e
  · rename_i c hop
    split at he
    · rename_i g hcal
      simp only [Bool.and_eq_true, Option.isSome_iff_exists] at he
      obtain ⟨⟨pf, hpfx⟩, hent⟩ := he
      simp only [opK, hop, hcal, opnd, callV, callF, hpfx, List.map_nil, List.nil_append, List.append_nil] at h
      split at h
      · rename_i hna
        obtain ⟨ret, Hc, hpf, h⟩ := runTr_some h
        have hpf : trRes (pf (snapL st.hp (c.args.toList.map (opnd C st.sl)))) = some (ret, Hc) := by
          cases hx : C.xp g with
          | true => rw [hx] at hpf; exact (plainTr_res hpf).1
          | false => rw [hx] at hpf; exact hpf
        obtain ⟨h1, h2⟩ := need_some h
        obtain ⟨hc, hn⟩ := S.list c.args
        have key := callX_like (k := fun v st' => k { st' with sl := putS o.dst v st'.sl }) A.hI A.hX S hc hpfx hpf (List.isEmpty_iff.1 hna) (by simpa only [Bool.or_eq_true, Bool.not_eq_true', Bool.and_eq_true] using h1) h2
        have hev : execOp a.eval o = (do let d ← Deferred.ofValue (a.eval (.func g)) (c.args.map a.eval); invoke d.target d.args) := by simp only [execOp, hop, resolve, hcal]
        have hrun : (execOp a.eval o).run C.P w = (callFunc g (c.args.map a.eval)).run C.P w := by
          rw [hev]
          have e : a.eval (.func g) = .func (.func g) #[] #[] := rfl
          rw [e]
          simp [Deferred.ofValue, invoke]
        rw [hrun]
        refine key ro n o a next Q ?_
        rintro V w' ⟨⟨v, st', Γ', Φ', k1, k2, k3, k4, k5⟩, hl⟩
        exact hN _ (a.put o.dst V) w' Γ' Φ' k1 k2 ⟨k3.hr, k3.sr.put (ds := a.defers) o k4 k5, k3.g, k3.inv, k3.dis⟩ (put_defers _ _ _) hl
      · cases h
    · cases he
  · cases he

def kindAt (C : Cfg) (ops : Array Oper) (i : Nat) : Nat := match ops[i]? with
  | some o => kindOp C o.op
  | none => 1

theorem kind_cases (C : Cfg) (op : Op) : (kindOp C op = 0 ∧ ∃ x, op = .move x) ∨ (kindOp C op = 1 ∧ quietOp2 C op = true) ∨ (kindOp C op = 2 ∧ extOp C op = true) ∨ kindOp C op = 3 := by
  unfold kindOp
  split
  · exact .inl ⟨rfl, _, rfl⟩
  · cases h1 : quietOp2 C op with
    | true => exact .inr (.inl ⟨rfl, rfl⟩)
    | false =>
      cases h2 : extOp C op with
      | true => exact .inr (.inr (.inl ⟨rfl, rfl⟩))
      | false => exact .inr (.inr (.inr rfl))

/-- REGIONS THAT DRAW: one walk, in the order that is given. -/
theorem opsK_canon {ro : Option Nat} {n : Nat} {all : Array Oper} {Qn : Act → World → Prop} (A : Ask C I cl yh yv) : ∀ (rest : List Nat) {Γ : Ctx} {Φ : Nat → Prop} {st : St σ} {a : Act} {w : World} {k : St σ → Option R}, (∀ i ∈ rest, i < all.size) → Γ.yv = yv →
    opsK C cl yh all (rest.filterMap (all[·]?)) st k = some r → SI C I Γ Φ st a.tmps w → Nxt C I Γ Φ st.hp w a.defers k r Qn → CanonR (wideAt ro) n C.P all (kindAt C all) Qn rest a w
  | [], Γ, Φ, st, a, w, k, hlt, hyv, h, S, hN => fun w1 hw1 => by
    obtain ⟨S1, hs1⟩ := S.like A.hI hw1
    exact hN st a w1 Γ Φ h hs1 S1 rfl
  | i :: rest, Γ, Φ, st, a, w, k, hlt, hyv, h, S, hN => by
    have hil := hlt i (by simp)
    obtain ⟨o, ho⟩ : ∃ o, all[i]? = some o := ⟨all[i], Array.getElem?_eq_getElem hil⟩
    have hlt' : ∀ j ∈ rest, j < all.size := fun j hj => hlt j (by simp [hj])
    rw [List.filterMap_cons, ho] at h
    have hkd : kindAt C all i = kindOp C o.op := by simp only [kindAt, ho]
    have like : ∀ {w1 : World}, Like w w1 → Nxt C I Γ Φ st.hp w a.defers k r Qn → SI C I Γ Φ st a.tmps w1 ∧ Nxt C I Γ Φ st.hp w1 a.defers k r Qn := fun {w1} hw1 hN => by
      obtain ⟨S1, hs1⟩ := S.like A.hI hw1
      exact ⟨S1, fun st' a' w' Γ' Φ' h1 h2 h3 h4 => hN st' a' w' Γ' Φ' h1 (hs1.trans h2) h3 h4⟩
    have run : ∀ {st : St σ}, Region.wanted o (yielded all a.tmps) = true → SI C I Γ Φ st a.tmps w → Nxt C I Γ Φ st.hp w a.defers k r Qn → opK C cl yh o st (fun st' => opsK C cl yh all (rest.filterMap (all[·]?)) st' k) = some r → CanonR (wideAt ro) n C.P all (kindAt C all) Qn (i :: rest) a w := fun {st} hwt S hN h => by
      have quiet : kindOp C o.op ≤ 1 → ∃ V st', opsK C cl yh all (rest.filterMap (all[·]?)) st' k = some r ∧ YQ (wideAt ro) n C.P all (Nat.beq (kindOp C o.op) 1) w o V a ∧ SI C I Γ Φ st' (a.put o.dst V).tmps w ∧ Stp C Γ st.hp w Φ Γ st'.hp w Φ := fun hk1 => by
        rcases kind_cases C o.op with ⟨hk, x, hx⟩ | ⟨hk, hq⟩ | ⟨hk, _⟩ | hk
        · obtain ⟨V, st', h1, h2, h3, h4⟩ := opK_quiet (a := a) (show quietOp C o.op = true by rw [hx]; rfl) h S
          have hrun : ∀ w', (execOp a.eval o).run C.P w' = .ok (.value (a.eval x)) w' := fun w' => by simp only [execOp, hx]; rfl
          have hV : V = a.eval x := by
            obtain ⟨e, _⟩ := run_ok_inj (h2 w (Ext.refl w)) (hrun w)
            cases e; rfl
          subst hV
          refine ⟨_, st', h1, ⟨fun _ _ _ _ => trivial, .inl ⟨hwt, fun w' _ => ?_⟩⟩, h3, h4.lift Φ⟩
          unfold Oper.quietAtIn
          rw [hrun w']
          exact ⟨rfl, rfl⟩
        · rw [hk]
          simp only [quietOp2, Bool.or_eq_true] at hq
          rcases hq with hq | hq
          · obtain ⟨V, st', h1, h2, h3, h4⟩ := opK_quiet (a := a) hq h S
            refine ⟨V, st', h1, ⟨fun _ _ _ _ => trivial, .inl ⟨hwt, fun w' hw' => ?_⟩⟩, h3, h4.lift Φ⟩
            unfold Oper.quietAtIn
            rw [h2 w' (hw' rfl).1.1]
            exact ⟨rfl, rfl⟩
          · obtain ⟨V, st', h1, h2, h3, h4⟩ := opX_quiet (ro := ro) (n := n) (a := a) A.hI A.hX hq h S
            exact ⟨V, st', h1, ⟨fun _ _ _ _ => trivial, .inl ⟨hwt, fun w' hw' => h2 w' (hw' rfl)⟩⟩, h3, h4.lift Φ⟩
        · omega
        · omega
      simp only [CanonR]
      rw [hkd]
      refine ⟨fun hk1 => ?_, fun hk2 w1 hw1 => ?_⟩
      · obtain ⟨V, st', h1, h2, h3, h4⟩ := quiet hk1
        exact ⟨o, V, ho, h2, opsK_canon A rest hlt' hyv h1 h3 fun st2 a2 w2 Γ2 Φ2 k1 k2 k3 k4 => hN st2 a2 w2 Γ2 Φ2 k1 (h4.trans k2) k3 (k4.trans (put_defers _ _ _))⟩
      · obtain ⟨S1, hs1⟩ := S.like A.hI hw1
        unfold wpOpIn
        simp only [ho, hwt, if_true]
        rcases kind_cases C o.op with ⟨hk, _⟩ | ⟨hk, _⟩ | ⟨hk, hx⟩ | hk
        · omega
        · omega
        · exact opE_wp A hyv hx h S1 fun st' a' w' Γ' Φ' h1 h2 h3 h4 hl => ⟨fun _ => hl, opsK_canon A rest hlt' (h2.yv.trans hyv) h1 h3 fun st2 a2 w2 Γ2 Φ2 k1 k2 k3 k4 => hN st2 a2 w2 Γ2 Φ2 k1 (hs1.trans (h2.trans k2)) k3 (k4.trans h4)⟩
        · exact opK_wp A hyv h S1 fun st' a' w' Γ' Φ' h1 h2 h3 h4 => ⟨fun e => by omega, opsK_canon A rest hlt' (h2.yv.trans hyv) h1 h3 fun st2 a2 w2 Γ2 Φ2 k1 k2 k3 k4 => hN st2 a2 w2 Γ2 Φ2 k1 (hs1.trans (h2.trans k2)) k3 (k4.trans h4)⟩
    have skip : ∀ {st : St σ}, Region.wanted o (yielded all a.tmps) = false → SI C I Γ Φ st a.tmps w → Nxt C I Γ Φ st.hp w a.defers k r Qn → opsK C cl yh all (rest.filterMap (all[·]?)) { st with sl := putS o.dst (.tup []) st.sl } k = some r → CanonR (wideAt ro) n C.P all (kindAt C all) Qn (i :: rest) a w := fun {st} hwt S hN h => by
      simp only [CanonR]
      have go : ∀ {w1 : World}, Like w w1 → CanonR (wideAt ro) n C.P all (kindAt C all) Qn rest (a.put o.dst undef) w1 := fun {w1} hw1 => by
        obtain ⟨S1, hs1⟩ := S.like A.hI hw1
        exact opsK_canon A rest (st := { st with sl := putS o.dst (.tup []) st.sl }) hlt' hyv h (S1.put (o := o) undef_VP (by simp [PV.nms, nmsL])) fun st2 a2 w2 Γ2 Φ2 k1 k2 k3 k4 => hN st2 a2 w2 Γ2 Φ2 k1 (hs1.trans k2) k3 (k4.trans (put_defers _ _ _))
      refine ⟨fun hk1 => ⟨o, undef, ho, ⟨fun _ _ _ _ => trivial, .inr ⟨hwt, rfl⟩⟩, go (Like.refl w)⟩, fun hk2 w1 hw1 => ?_⟩
      unfold wpOpIn
      simp only [ho, hwt, Bool.false_eq_true, if_false]
      exact ⟨fun _ _ => trivial, fun _ => Like.refl w1, go hw1⟩
    simp only [opsK] at h
    split at h
    · rename_i hg
      exact run (by simp [Region.wanted, hg]) S hN h
    · rename_i j want hg
      split at h
      · rename_i g hjg
        have hyd1 : ∀ b, a.tmps[g]? = some (.bool b) → yielded all a.tmps j = some b := fun b e => by simp [yielded, hjg, e]
        have hyd0 : (∀ b, a.tmps[g]? ≠ some (.bool b)) → yielded all a.tmps j = none := fun hne => by
          simp only [yielded, hjg, Option.bind_some]
        have hslot : ∀ v, st.sl.getD g (.tup []) = v → ∀ V, a.tmps[g]? = some V → VP Γ (shpOf st.hp) w v V := fun v hv V hV => by
          have hlt : g < st.sl.length := by rw [← S.sr.size]; exact (Array.getElem?_eq_some_iff.1 hV).1
          obtain ⟨U, e1, e2⟩ := S.sr.slot g hlt
          rw [e1] at hV
          simp only [Option.some.injEq] at hV
          subst hV
          rw [getD_lt hlt] at hv
          rw [← hv]; exact e2
        split at h
        · rename_i b hb
          have hlt : g < st.sl.length := Decidable.byContradiction fun hge => by
            rw [List.getD_eq_getElem?_getD, List.getElem?_eq_none (Nat.le_of_not_lt hge)] at hb
            cases hb
          obtain ⟨U, e1, e2⟩ := S.sr.slot g hlt
          have hU := (hslot _ hb U e1).inv_bool
          subst hU
          have hyd' : yielded all a.tmps j = some b := hyd1 b e1
          have S' : SI C I Γ Φ { st with sl := st.sl.set g (.s (.bool b)) } a.tmps w := ⟨S.hr, S.sr.set g (hslot _ hb) (by simp [PV.nms]), S.g, S.inv, S.dis⟩
          have hsp : (if (b == want) = true then opK C cl yh o { st with sl := st.sl.set g (.s (.bool b)) } (fun st' => opsK C cl yh all (rest.filterMap (all[·]?)) st' k) else opsK C cl yh all (rest.filterMap (all[·]?)) { st with sl := putS o.dst (.tup []) (st.sl.set g (.s (.bool b))) } k) = some r := by
            cases b <;> exact h
          by_cases hbw : b = want
          · rw [if_pos (by simpa using hbw)] at hsp
            exact run (by simp [Region.wanted, hg, hyd', hbw]) S' hN hsp
          · rw [if_neg (by simpa using hbw)] at hsp
            exact skip (by simp [Region.wanted, hg, hyd', hbw]) S' hN hsp
        · rename_i hb
          have hyd' : yielded all a.tmps j = none := hyd0 fun b hbb => by
            obtain ⟨B, e, _⟩ := (hslot _ hb _ hbb).inv_tup
            cases e
          exact skip (by simp [Region.wanted, hg, hyd']) S hN h
        · cases h
      · cases h

def ndOp : Op → Bool
  | .defer _ => false
  | _ => true

/-- A region of which the theorem speaks. -/
def regOK (C : Cfg) (ops : Array Oper) : Bool :=
  Region.noSelect ops && (ops.toList.all (fun o => ndOp o.op) && (Nat.beq (ordOf C ops.toList).length ops.size && ((ordOf C ops.toList).all (fun i => Nat.ble (i + 1) ops.size) && canonB .any ops (kindAt C ops) (ordOf C ops.toList) (Array.replicate ops.size false))))

/-- The code that the theorem is about; 'rf': ranges over functions too (none within a round). -/
def codeOKr (C : Cfg) (rf : Bool) : Code → Bool
  | .region _ ops d => !d || regOK C ops
  | .seq a b => codeOKr C rf a && codeOKr C rf b
  | .cond _ a b => codeOKr C rf a && codeOKr C rf b
  | .block _ a => codeOKr C rf a
  | .loop a => codeOKr C rf a
  | .scope a => codeOKr C rf a
  | .rangeFunc _ _ a b => rf && codeOKr C false a && codeOKr C false b
  | _ => true
def codeOK (C : Cfg) (c : Code) : Bool := codeOKr C true c

theorem region_wp {ro : Option Nat} {n id : Nat} {ops : Array Oper} {Q : Exit → Act → World → Prop} {k : St σ → Option R} (A : Ask C I cl yh yv) (hm : C.P.follows .mixedOrders = true) (hok : regOK C ops = true) (hyv : Γ.yv = yv) (h : opsK C cl yh ops (regL C ops true) st k = some r) (S : SI C I Γ Φ st a.tmps w)
    (hN : Nxt C I Γ Φ st.hp w a.defers k r (fun a' w' => Q .normal a' w')) : (Code.region id ops true).wpIn (wideAt ro) n C.P Q a w := by
  simp only [regOK, Bool.and_eq_true] at hok
  obtain ⟨h1, h2, h3, h4, h5⟩ := hok
  rw [List.all_eq_true] at h2 h4
  refine wpIn_region_canon (kind := kindAt C ops) (ord := ordOf C ops.toList) hm h1 (fun j o c ho e => ?_) (fun j hj => ?_) (Nat.eq_of_beq_eq_true h3) h5 (opsK_canon A _ (fun i hi => ble_le (h4 i hi)) hyv h S hN)
  · have := h2 o (by simpa using Array.mem_of_getElem? ho)
    rw [e] at this
    cases this
  · simp only [kindAt, Array.getElem?_eq_none hj]
    exact Nat.le_refl _

end
end Go.Proofs.Ytfioahjeanmfpaa.E
