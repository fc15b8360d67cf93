/-
  What comes after may be done afterwards.
-/
import Derived.Test.YtfioahjeanmfpaaE2
namespace Go.Proofs.Ytfioahjeanmfpaa.E
open Go
set_option linter.unusedVariables false
set_option linter.unusedSimpArgs false

section
variable {σ R S : Type} (C : Cfg) (g : R → Option S)

theorem need_bind (c : Bool) (k : Option R) : (need c k).bind g = need c (k.bind g) := by cases c <;> rfl
theorem splitB_bind (b : Bool) (k : Bool → Option R) : (splitB b k).bind g = splitB b fun t => (k t).bind g := by cases b <;> rfl
theorem cond_bind (b : Bool) (x y : Option R) : (cond b x y).bind g = cond b (x.bind g) (y.bind g) := by cases b <;> rfl
theorem ite_bind (p : Prop) [Decidable p] (x y : Option R) : (if p then x else y).bind g = if p then x.bind g else y.bind g := by split <;> rfl
theorem runTr_bind : ∀ (t : Tr) (k : PV → List Blk → Option R), (runTr t k).bind g = runTr t fun v H => (k v H).bind g
  | .ret v H, k => rfl
  | .need c t, k => by cases c; rfl; exact runTr_bind t k
  | .split c a b, k => by cases c; exact runTr_bind b k; exact runTr_bind a k
  | .fail, _ => rfl


theorem binK_bind (op : BinOp) (t : Nat) (x y : PV) (H : List Blk) (k : PV → Option R) : (binK C op t x y H k).bind g = binK C op t x y H fun v => (k v).bind g := by unfold binK; ((try dsimp only); (repeat' (first | rfl | split | (simp only [need_bind, splitB_bind, cond_bind, ite_bind, runTr_bind, Option.bind_none, Option.bind_some]))))
theorem unK_bind (op : UnOp) (x : PV) (k : PV → Option R) : (unK op x k).bind g = unK op x fun v => (k v).bind g := by unfold unK; ((try dsimp only); (repeat' (first | rfl | split | (simp only [need_bind, splitB_bind, cond_bind, ite_bind, runTr_bind, Option.bind_none, Option.bind_some]))))
theorem loadK_bind (t : TI) (a : PV) (H : List Blk) (k : PV → Option R) : (loadK t a H k).bind g = loadK t a H fun v => (k v).bind g := by unfold loadK; ((try dsimp only); (repeat' (first | rfl | split | (simp only [need_bind, splitB_bind, cond_bind, ite_bind, runTr_bind, Option.bind_none, Option.bind_some]))))
theorem storeK_bind (t : TI) (a v : PV) (H : List Blk) (k : List Blk → Option R) : (storeK t a v H k).bind g = storeK t a v H fun v => (k v).bind g := by unfold storeK; ((try dsimp only); (repeat' (first | rfl | split | (simp only [need_bind, splitB_bind, cond_bind, ite_bind, runTr_bind, Option.bind_none, Option.bind_some]))))
theorem indexAddrK_bind (t : Nat) (x i : PV) (H : List Blk) (k : PV → Option R) : (indexAddrK C t x i H k).bind g = indexAddrK C t x i H fun v => (k v).bind g := by unfold indexAddrK; ((try dsimp only); (repeat' (first | rfl | split | (simp only [need_bind, splitB_bind, cond_bind, ite_bind, runTr_bind, Option.bind_none, Option.bind_some]))))
theorem indexK_bind (t : Nat) (x i : PV) (k : PV → Option R) : (indexK C t x i k).bind g = indexK C t x i fun v => (k v).bind g := by unfold indexK; ((try dsimp only); (repeat' (first | rfl | split | (simp only [need_bind, splitB_bind, cond_bind, ite_bind, runTr_bind, Option.bind_none, Option.bind_some]))))
theorem sliceK_bind (t : Nat) (x : PV) (lo hi mx : Option PV) (H : List Blk) (k : PV → Option R) : (sliceK C t x lo hi mx H k).bind g = sliceK C t x lo hi mx H fun v => (k v).bind g := by unfold sliceK; ((try dsimp only); (repeat' (first | rfl | split | (simp only [need_bind, splitB_bind, cond_bind, ite_bind, runTr_bind, Option.bind_none, Option.bind_some]))))
theorem sliceArrK_bind (b n : Nat) (lo hi mx : Option PV) (k : PV → Option R) : (sliceArrK b n lo hi mx k).bind g = sliceArrK b n lo hi mx fun v => (k v).bind g := by unfold sliceArrK; ((try dsimp only); (repeat' (first | rfl | split | (simp only [need_bind, splitB_bind, cond_bind, ite_bind, runTr_bind, Option.bind_none, Option.bind_some]))))
theorem appendK_bind (t : Nat) (sl : List PV) (s x : PV) (H : List Blk) (k : PV → List PV → List Blk → Option R) : (appendK C t sl s x H k).bind g = appendK C t sl s x H fun v a b => (k v a b).bind g := by unfold appendK; ((try dsimp only); (repeat' (first | rfl | split | (simp only [need_bind, splitB_bind, cond_bind, ite_bind, runTr_bind, Option.bind_none, Option.bind_some]))))
theorem copyK_bind (t : Nat) (d x : PV) (H : List Blk) (k : PV → List Blk → Option R) : (copyK C t d x H k).bind g = copyK C t d x H fun v a => (k v a).bind g := by unfold copyK; ((try dsimp only); (repeat' (first | rfl | split | (simp only [need_bind, splitB_bind, cond_bind, ite_bind, runTr_bind, Option.bind_none, Option.bind_some]))))
theorem convK_bind (src dst : Nat) (x : PV) (H : List Blk) (k : PV → Option R) : (convK C src dst x H k).bind g = convK C src dst x H fun v => (k v).bind g := by unfold convK; ((try dsimp only); (repeat' (first | rfl | split | (simp only [need_bind, splitB_bind, cond_bind, ite_bind, runTr_bind, Option.bind_none, Option.bind_some]))))
theorem bytesK_bind (src dst : Nat) (x : PV) (k : PV → Option R) : (bytesK C src dst x k).bind g = bytesK C src dst x fun v => (k v).bind g := by unfold bytesK; ((try dsimp only); (repeat' (first | rfl | split | (simp only [need_bind, splitB_bind, cond_bind, ite_bind, runTr_bind, Option.bind_none, Option.bind_some]))))
theorem lenK_bind (x : PV) (t : Nat) (H : List Blk) (k : PV → Option R) : (lenK C x t H k).bind g = lenK C x t H fun v => (k v).bind g := by unfold lenK; ((try dsimp only); (repeat' (first | rfl | split | (simp only [need_bind, splitB_bind, cond_bind, ite_bind, runTr_bind, Option.bind_none, Option.bind_some]))))
theorem buildK_bind (t : Nat) (parts : List (Nat × PV)) (k : PV → Option R) : (buildK C t parts k).bind g = buildK C t parts fun v => (k v).bind g := by unfold buildK; ((try dsimp only); (repeat' (first | rfl | split | (simp only [need_bind, splitB_bind, cond_bind, ite_bind, runTr_bind, Option.bind_none, Option.bind_some]))))
theorem buildSliceK_bind (t len : Nat) (parts : List (Nat × PV)) (H : List Blk) (k : PV → List Blk → Option R) : (buildSliceK C t len parts H k).bind g = buildSliceK C t len parts H fun v a => (k v a).bind g := by unfold buildSliceK; ((try dsimp only); (repeat' (first | rfl | split | (simp only [need_bind, splitB_bind, cond_bind, ite_bind, runTr_bind, Option.bind_none, Option.bind_some]))))
theorem makeSliceK_bind (t : Nat) (l c : PV) (H : List Blk) (k : PV → List Blk → Option R) : (makeSliceK C t l c H k).bind g = makeSliceK C t l c H fun v a => (k v a).bind g := by unfold makeSliceK; ((try dsimp only); (repeat' (first | rfl | split | (simp only [need_bind, splitB_bind, cond_bind, ite_bind, runTr_bind, Option.bind_none, Option.bind_some]))))
theorem minmaxK_bind (mx : Bool) (l : List PV) (k : PV → Option R) : (minmaxK mx l k).bind g = minmaxK mx l fun v => (k v).bind g := by unfold minmaxK; ((try dsimp only); (repeat' (first | rfl | split | (simp only [need_bind, splitB_bind, cond_bind, ite_bind, runTr_bind, Option.bind_none, Option.bind_some]))))
theorem fieldAddrK_bind (t : Nat) (x : PV) (f : Nat) (k : PV → Option R) : (fieldAddrK C t x f k).bind g = fieldAddrK C t x f fun v => (k v).bind g := by unfold fieldAddrK; ((try dsimp only); (repeat' (first | rfl | split | (simp only [need_bind, splitB_bind, cond_bind, ite_bind, runTr_bind, Option.bind_none, Option.bind_some]))))
theorem fieldK_bind (t : Nat) (x : PV) (f : Nat) (k : PV → Option R) : (fieldK C t x f k).bind g = fieldK C t x f fun v => (k v).bind g := by unfold fieldK; ((try dsimp only); (repeat' (first | rfl | split | (simp only [need_bind, splitB_bind, cond_bind, ite_bind, runTr_bind, Option.bind_none, Option.bind_some]))))
theorem builtinK_bind (b : Builtin) (ts : List Nat) (args : List PV) (st : St σ) (k : PV → St σ → Option R) : (builtinK C b ts args st k).bind g = builtinK C b ts args st fun v s => (k v s).bind g := by
  unfold builtinK
  split
  · rw [lenK_bind]
  · split
    · rw [appendK_bind]
    · rfl
  · rw [copyK_bind]
  · rw [minmaxK_bind]
  · rw [minmaxK_bind]
  · rfl
theorem boxK_bind (e : Nat) (cells : List PV) (H : List Blk) (k : PV → List Blk → Option R) : (boxK C e cells H k).bind g = boxK C e cells H fun v a => (k v a).bind g := by unfold boxK; ((try dsimp only); (repeat' (first | rfl | split | (simp only [need_bind, splitB_bind, cond_bind, ite_bind, runTr_bind, Option.bind_none, Option.bind_some]))))
theorem callF_bind (cl : CallT) (yh : Yh σ) (f : Nat) (args : List PV) (st : St σ) (k : PV → St σ → Option R) : (callF C cl yh f args st k).bind g = callF C cl yh f args st fun v s => (k v s).bind g := by
  unfold callF
  split
  · split
    · rw [runTr_bind]
      congr 1; funext v H; rw [need_bind]
    · rfl
  · ((try dsimp only); (repeat' (first | rfl | split | (simp only [need_bind, splitB_bind, cond_bind, ite_bind, runTr_bind, Option.bind_none, Option.bind_some]))))
theorem ydK_bind (x : Option (Bool × σ)) (k : Bool → σ → Option R) : (ydK x k).bind g = ydK x fun b s => (k b s).bind g := by unfold ydK; ((try dsimp only); (repeat' (first | rfl | split | (simp only [need_bind, splitB_bind, cond_bind, ite_bind, runTr_bind, Option.bind_none, Option.bind_some]))))
theorem callV_bind (cl : CallT) (yh : Yh σ) (f : PV) (args : List PV) (st : St σ) (k : PV → St σ → Option R) : (callV C cl yh f args st k).bind g = callV C cl yh f args st fun v s => (k v s).bind g := by
  unfold callV
  split
  · rw [callF_bind]
  · rw [callF_bind]
  · split
    · rw [ydK_bind]
    · rfl
  · rfl
theorem opK_bind (cl : CallT) (yh : Yh σ) (o : Oper) (st : St σ) (k : St σ → Option R) : (opK C cl yh o st k).bind g = opK C cl yh o st fun s => (k s).bind g := by
  unfold opK
  dsimp only
  split <;> (first | rfl | (simp only [boxK_bind, buildK_bind, buildSliceK_bind, loadK_bind, storeK_bind, binK_bind, unK_bind, makeSliceK_bind, fieldAddrK_bind, fieldK_bind, indexAddrK_bind, indexK_bind]; done) | skip)
  all_goals ((try dsimp only); (repeat' (first | rfl | split | (simp only [need_bind, splitB_bind, cond_bind, ite_bind, runTr_bind, Option.bind_none, Option.bind_some]))))
  all_goals (first | rfl | skip)
  all_goals (simp only [builtinK_bind, callV_bind, boxK_bind, buildK_bind, buildSliceK_bind, loadK_bind, storeK_bind, binK_bind, unK_bind, makeSliceK_bind, fieldAddrK_bind, fieldK_bind, indexAddrK_bind, indexK_bind, bytesK_bind, convK_bind, sliceK_bind, sliceArrK_bind, need_bind, splitB_bind])
theorem opsK_bind (cl : CallT) (yh : Yh σ) (all : Array Oper) : ∀ (l : List Oper) (st : St σ) (k : St σ → Option R), (opsK C cl yh all l st k).bind g = opsK C cl yh all l st fun s => (k s).bind g
  | [], st, k => rfl
  | o :: rest, st, k => by
    simp only [opsK]
    have ih := opsK_bind cl yh all rest
    split
    · rw [opK_bind]; congr 1; funext s; exact ih s k
    · split
      · split
        · rw [splitB_bind]; congr 1; funext b
          split
          · rw [opK_bind]; congr 1; funext s; exact ih s k
          · exact ih _ k
        · exact ih _ k
        · rfl
      · rfl
theorem loopK_bind (L : Nat) (ds : Option (List Nat)) (body : St σ → (Out → St σ → Option R) → Option R) (body' : St σ → (Out → St σ → Option S) → Option S) (hb : ∀ st k, (body st k).bind g = body' st fun o s => (k o s).bind g) : ∀ (n : Nat) (st : St σ) (k : Out → St σ → Option R), (loopK L ds body n st k).bind g = loopK L ds body' n st fun o s => (k o s).bind g
  | 0, st, k => rfl
  | n + 1, st, k => by
    simp only [loopK]
    rw [hb]
    congr 1; funext o s
    cases o with
    | normal => exact loopK_bind L ds body body' hb n _ k
    | exit id => rfl
    | ret => rfl
theorem roundsK_bind {ps : Array Tmp} {sl0 : List PV} {as bd : St σ → (Out → St σ → Option R) → Option R} {as' bd' : St σ → (Out → St σ → Option S) → Option S} (ha : ∀ st k, (as st k).bind g = as' st fun o s => (k o s).bind g) (hb : ∀ st k, (bd st k).bind g = bd' st fun o s => (k o s).bind g) :
    ∀ (L : List (List PV)) (H : List Blk) (s : σ) (k : Option Out → List Blk → σ → Option R), (roundsK ps sl0 as bd L H s k).bind g = roundsK ps sl0 as' bd' L H s fun p H s => (k p H s).bind g
  | [], H, s, k => rfl
  | x :: xs, H, s, k => by
    simp only [roundsK]
    split
    · rw [ha]
      congr 1; funext o st1
      cases o with
      | normal =>
        dsimp only
        rw [hb]
        congr 1; funext o2 st2
        cases o2 with
        | normal => exact roundsK_bind ha hb xs _ _ k
        | exit id => rfl
        | ret => rfl
      | exit id => rfl
      | ret => rfl
    · rfl
theorem rangeK_bind (cl : CallT) (f : PV) (st : St σ) (yR : List PV → Yh (List Blk × Option Out × σ)) {sR : List PV → List (List PV) → List Blk → σ → (Option Out → List Blk → σ → Option R) → Option R} {sR' : List PV → List (List PV) → List Blk → σ → (Option Out → List Blk → σ → Option S) → Option S}
    (hs : ∀ sl0 L H s k, (sR sl0 L H s k).bind g = sR' sl0 L H s fun p H s => (k p H s).bind g) (k : Out → St σ → Option R) : (rangeK C cl f st yR sR k).bind g = rangeK C cl f st yR sR' fun o s => (k o s).bind g := by
  unfold rangeK
  split
  · split
    · unfold rangeS
      split
      · split
        · rw [need_bind, hs]; rfl
        · rfl
      · rfl
    · unfold rangeK2; ((try dsimp only); (repeat' (first | rfl | split | (simp only [need_bind, splitB_bind, cond_bind, ite_bind, runTr_bind, Option.bind_none, Option.bind_some]))))
  · rfl
end

theorem evCode_bind {σ : Type} (C : Cfg) (cl : CallT) (yh : Yh σ) : ∀ (c : Code) {R S : Type} (g : R → Option S) (st : St σ) (k : Out → St σ → Option R), (evCode C cl yh c st k).bind g = evCode C cl yh c st fun o s => (k o s).bind g := by
  intro c
  induction c with
  | skip => intros; rfl
  | label l => intros; rfl
  | region id ops d => intro R S g st k; simp only [evCode]; rw [opsK_bind]
  | seq a b iha ihb =>
    intro R S g st k
    simp only [evCode]
    rw [iha]
    congr 1; funext o s
    cases o with
    | normal => exact ihb g s k
    | exit id => rfl
    | ret => rfl
  | cond c a b iha ihb =>
    intro R S g st k
    simp only [evCode]
    split
    · rw [splitB_bind]; congr 1; funext t
      rw [cond_bind, iha, ihb]
    · rfl
  | block id a ih =>
    intro R S g st k
    simp only [evCode]
    rw [ih]
    congr 1; funext o s
    cases o with
    | normal => rfl
    | exit j => dsimp only; split <;> rfl
    | ret => rfl
  | loop a ih =>
    intro R S g st k
    simp only [evCode]
    exact loopK_bind g _ _ _ _ (fun st k => ih g st k) _ _ _
  | scope a ih => intro R S g st k; simp only [evCode]; rw [ih]
  | exit id => intros; rfl
  | ret => intros; rfl
  | rangeFunc f ps a b iha ihb =>
    intro R S g st k
    simp only [evCode]
    exact rangeK_bind C g cl (opnd C st.sl f) st _ (sR := fun sl0 => roundsK ps sl0 (fun st k => evCode C cl yh a st k) (fun st k => evCode C cl yh b st k)) (sR' := fun sl0 => roundsK ps sl0 (fun st k => evCode C cl yh a st k) (fun st k => evCode C cl yh b st k))
      (fun sl0 L H s k => roundsK_bind (ps := ps) (sl0 := sl0) g (as := fun st k => evCode C cl yh a st k) (bd := fun st k => evCode C cl yh b st k) (as' := fun st k => evCode C cl yh a st k) (bd' := fun st k => evCode C cl yh b st k) (fun st k => iha g st k) (fun st k => ihb g st k) L H s k) k
  | _ => intros; rfl

/-- Code by its outcome. -/
theorem evCode_out {σ R : Type} {C : Cfg} {cl : CallT} {yh : Yh σ} {c : Code} {st : St σ} {k : Out → St σ → Option R} {r : R} (h : evCode C cl yh c st k = some r) : ∃ o s, evCode C cl yh c st (fun o s => some (o, s)) = some (o, s) ∧ k o s = some r := by
  have := evCode_bind C cl yh c (fun p : Out × St σ => k p.1 p.2) st (fun o s => some (o, s))
  simp only [Option.bind_some] at this
  rw [← this] at h
  cases he : evCode C cl yh c st (fun o s => some (o, s)) with
  | none => rw [he] at h; cases h
  | some p => rw [he] at h; exact ⟨p.1, p.2, rfl, h⟩

theorem evCode_in {σ R : Type} {C : Cfg} {cl : CallT} {yh : Yh σ} {c : Code} {st : St σ} {k : Out → St σ → Option R} {o : Out} {s : St σ} (h : evCode C cl yh c st (fun o s => some (o, s)) = some (o, s)) : evCode C cl yh c st k = k o s := by
  have := evCode_bind C cl yh c (fun p : Out × St σ => k p.1 p.2) st (fun o s => some (o, s))
  rw [h] at this
  exact this.symm

end Go.Proofs.Ytfioahjeanmfpaa.E
