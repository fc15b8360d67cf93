/-
  Operations that only compute or read: what the evaluator says of them is what the model does.
-/
import Derived.Test.YtfioahjeanmfpaaE3
import Derived.WalkLawsBesides
import Derived.WalkSpells
namespace Go.Proofs.Ytfioahjeanmfpaa.E
open Go
set_option linter.unusedVariables false

/-- In every world with this heap the computation yields this value and leaves the world alone. -/
def Ext (w w' : World) : Prop := ∀ g, g < w.heap.size → w'.heap[g]? = w.heap[g]?
theorem Ext.refl (w : World) : Ext w w := fun _ _ => rfl
theorem cell_ext {w w' : World} (h : Ext w w') {a : Addr} {v : Value} (hv : w.cell? a = some v) : w'.cell? a = some v := by
  have hlt : a.block < w.heap.size := Decidable.byContradiction fun hn => by
    simp [World.cell?, Array.getElem?_eq_none (Nat.le_of_not_lt hn)] at hv
  rw [← hv]
  simp only [World.cell?, h a.block hlt]

def Quiet (P : Program) (w : World) (m : Sem Value) (V : Value) : Prop := ∀ w' : World, Ext w w' → m.run P w' = .ok V w'

def QV (P : Program) (Γ : Ctx) (H : List Blk) (w : World) (m : Sem Value) (v : PV) : Prop :=
  (∀ c ∈ v.nms, c < H.length) ∧ ∃ V, VP Γ (shpOf H) w v V ∧ Quiet P w m V

section inv
variable {Γ : Ctx} {sh : Nat → Option Shp} {w : World} {V : Value} {St : Nat → Prop}

theorem VP.inv_s {x : SV} (h : VP Γ sh w (.s x) V) : VS Γ.St w x V := by cases h; assumption
theorem VS.inv_bool {b : Bool} (h : VS St w (.bool b) V) : V = .bool b := by cases h; rfl
theorem VS.inv_int {k : IntKind} {n : Int} (h : VS St w (.int k n) V) : V = .int k n := by cases h; rfl
theorem VS.inv_str {l : List UInt8} (h : VS St w (.str l) V) : ∃ s : ByteArray, V = .string s ∧ s.data.toList = l := by cases h; exact ⟨_, rfl, rfl⟩
theorem VP.inv_bool {b : Bool} (h : VP Γ sh w (.s (.bool b)) V) : V = .bool b := h.inv_s.inv_bool
theorem VP.inv_int {k : IntKind} {n : Int} (h : VP Γ sh w (.s (.int k n)) V) : V = .int k n := h.inv_s.inv_int
theorem VP.inv_str {l : List UInt8} (h : VP Γ sh w (.s (.str l)) V) : ∃ s : ByteArray, V = .string s ∧ s.data.toList = l := h.inv_s.inv_str
theorem VP.inv_agg {l : List PV} (h : VP Γ sh w (.agg l) V) : ∃ A : Array Value, V = .agg A ∧ A.size = l.length ∧ ∀ j (h : j < l.length), ∃ U, A[j]? = some U ∧ VP Γ sh w (l[j]) U := by
  cases h with
  | agg l A As hA ha hl => exact ⟨A, rfl, hA, fun j h => ⟨As j, ha j h, hl j h⟩⟩
theorem VP.inv_tup {l : List PV} (h : VP Γ sh w (.tup l) V) : ∃ A : Array Value, V = .tuple A ∧ A.size = l.length ∧ ∀ j (h : j < l.length), ∃ U, A[j]? = some U ∧ VP Γ sh w (l[j]) U := by
  cases h with
  | tup l A As hA ha hl => exact ⟨A, rfl, hA, fun j h => ⟨As j, ha j h, hl j h⟩⟩

theorem VP.mk_agg {l : List PV} {A : Array Value} (hA : A.size = l.length) (h : ∀ j (h : j < l.length), ∃ U, A[j]? = some U ∧ VP Γ sh w (l[j]) U) : VP Γ sh w (.agg l) (.agg A) :=
  .agg l A (fun j => A.getD j undef) hA (fun j hj => by obtain ⟨U, e, _⟩ := h j hj; simp [e]) (fun j hj => by obtain ⟨U, e, k⟩ := h j hj; simpa [e] using k)
theorem VP.mk_tup {l : List PV} {A : Array Value} (hA : A.size = l.length) (h : ∀ j (h : j < l.length), ∃ U, A[j]? = some U ∧ VP Γ sh w (l[j]) U) : VP Γ sh w (.tup l) (.tuple A) :=
  .tup l A (fun j => A.getD j undef) hA (fun j hj => by obtain ⟨U, e, _⟩ := h j hj; simp [e]) (fun j hj => by obtain ⟨U, e, k⟩ := h j hj; simpa [e] using k)
theorem VP.bool (b : Bool) : VP Γ sh w (.s (.bool b)) (.bool b) := .s _ _ (.bool b)
theorem VP.int (k : IntKind) (n : Int) : VP Γ sh w (.s (.int k n)) (.int k n) := .s _ _ (.int k n)
theorem VP.str {l : List UInt8} (s : ByteArray) (h : s.data.toList = l) : VP Γ sh w (.s (.str l)) (.string s) := by subst h; exact .s _ _ (.str s)
end inv

theorem need_some {R : Type} {c : Bool} {k : Option R} {r : R} (h : need c k = some r) : c = true ∧ k = some r := by
  cases c <;> simp_all [need]

theorem beq_list_u8 (a b : List UInt8) : (a == b) = decide (a = b) := by
  by_cases h : a = b <;> simp [h]

theorem bytesLess_eq (a b : List UInt8) : bytesLess a b = Op.bytesLess a b := by
  induction a generalizing b with
  | nil => cases b <;> simp [bytesLess, Op.bytesLess]
  | cons x a ih =>
    cases b with
    | nil => simp [bytesLess, Op.bytesLess]
    | cons y b => simp [bytesLess, Op.bytesLess, ih]

section ops
variable {P : Program} {Γ : Ctx} {H : List Blk} {w : World} {R : Type} {r : R}

theorem QV.val {m : Sem Value} {v : PV} {V : Value} (hn : v.nms = []) (h : VP Γ (shpOf H) w v V) (hm : ∀ w' : World, Ext w w' → m.run P w' = .ok V w') : QV P Γ H w m v :=
  ⟨by simp [hn], V, h, hm⟩

theorem unK_sound {op : UnOp} {x : PV} {X : Value} {k : PV → Option R} (h : unK op x k = some r) (hx : VP Γ (shpOf H) w x X) :
    ∃ v, k v = some r ∧ QV P Γ H w (Op.unary op X) v := by
  unfold unK at h
  split at h
  · obtain rfl := hx.inv_bool
    exact ⟨_, h, .val rfl (.bool _) fun w' _ => by simp [Op.unary]⟩
  · obtain rfl := hx.inv_int
    exact ⟨_, h, .val rfl (.int _ _) fun w' _ => by simp [Op.unary, Op.intArith]⟩
  · cases h

theorem not_decI (a b : Int) : (!decide (b < a)) = decide (a ≤ b) := by
  rw [Bool.eq_iff_iff]
  simp

theorem binI_sound {op : BinOp} {t : Nat} {ox oy : Operand} {kd : IntKind} {a b : Int} {v : PV} (h : binI op kd a b = some v) :
    QV P Γ H w (do eqGuard op t ox oy (.int kd a) (.int kd b); binOp op t (.int kd a) (.int kd b)) v := by
  cases op <;> simp only [binI, Option.some.injEq, reduceCtorEq] at h <;> subst h <;>
    first
    | exact .val rfl (.int _ _) fun w' _ => by simp [eqGuard, binOp, Op.intArith, Op.intBits]
    | exact .val rfl (.bool _) fun w' _ => by simp [eqGuard, binOp, Op.intCmp, ltI_eq, not_decI]

theorem binS_sound {op : BinOp} {t : Nat} {ox oy : Operand} {a b : ByteArray} {v : PV} (h : binS op a.data.toList b.data.toList = some v) (hne : op ≠ .add) :
    QV P Γ H w (do eqGuard op t ox oy (.string a) (.string b); binOp op t (.string a) (.string b)) v := by
  cases op <;> simp only [binS, Option.some.injEq, reduceCtorEq, ne_eq, not_true_eq_false] at h hne <;> subst h <;>
    exact .val rfl (.bool _) fun w' _ => by simp [eqGuard, binOp, Op.stringOp, ByteArray.toList_eq, bytesLess_eq]

theorem nilOf_sound {x : PV} {X : Value} {z : Bool} (hx : VP Γ (shpOf H) w x X) (h : nilOf H x = some z) :
    ∃ a n c, X = .slice a n c ∧ a.isNone = z ∧ (a = none → n = 0 ∧ c = 0) := by
  unfold nilOf at h
  split at h
  · cases hx; simp at h; exact ⟨none, 0, 0, rfl, by simp [h], fun _ => ⟨rfl, rfl⟩⟩
  · have hs := hx.inv_s
    cases hs <;> simp at h <;> subst h <;> first | exact ⟨_, _, _, rfl, rfl, fun h => ⟨rfl, rfl⟩⟩ | exact ⟨_, _, _, rfl, rfl, fun h => by simp at h⟩
  · rename_i b
    split at h
    · rename_i v e sz els hb
      have hsh : shpOf H b = some (.arr v e sz els.length) := by simp [shpOf, hb, Blk.shp]
      simp only [Option.some.injEq] at h
      subst h
      cases hx with
      | flv _ e' sz' h' =>
        rw [hsh] at h'
        simp only [Option.some.injEq, Shp.arr.injEq] at h'
        obtain ⟨rfl, _, _, h4⟩ := h'
        exact ⟨none, 0, 0, rfl, by simp [List.length_eq_zero_iff.1 h4], fun _ => ⟨rfl, rfl⟩⟩
      | fl _ g v' e' sz' n cap h' hv hg hcap hm hs =>
        rw [hsh] at h'
        simp only [Option.some.injEq, Shp.arr.injEq] at h'
        obtain ⟨rfl, _, _, rfl⟩ := h'
        refine ⟨_, _, _, rfl, ?_, fun h => by simp at h⟩
        cases v
        · rfl
        · have := hv rfl
          cases els <;> simp_all
    · cases h
  · rename_i b i n
    split at h
    · rename_i v e sz els hb
      have hsh : shpOf H b = some (.arr v e sz els.length) := by simp [shpOf, hb, Blk.shp]
      simp only [Option.some.injEq] at h
      subst h
      cases hx with
      | vwv _ e' sz' _ h' =>
        rw [hsh] at h'
        simp only [Option.some.injEq, Shp.arr.injEq] at h'
        obtain ⟨rfl, _, _, h4⟩ := h'
        exact ⟨none, 0, 0, rfl, by simp [List.length_eq_zero_iff.1 h4], fun _ => ⟨rfl, rfl⟩⟩
      | vw _ _ _ g a cap v' e' sz' m h' hv hg ha hi hcap hm =>
        rw [hsh] at h'
        simp only [Option.some.injEq, Shp.arr.injEq] at h'
        obtain ⟨rfl, _, _, rfl⟩ := h'
        refine ⟨_, _, _, rfl, ?_, fun h => by simp at h⟩
        cases v
        · rfl
        · have := hv rfl
          cases els <;> simp_all
    · cases h
  · cases h

theorem sh_slice {C : Cfg} {t e : Nat} (h : C.sh t = .slice e) : C.P.underlying t = some (.slice e) := by
  simp only [Cfg.sh, shOf] at h; split at h <;> simp_all
theorem sh_array {C : Cfg} {t n e : Nat} (h : C.sh t = .array n e) : C.P.underlying t = some (.array n e) := by
  simp only [Cfg.sh, shOf] at h; split at h <;> simp_all
theorem sh_ptr {C : Cfg} {t e : Nat} (h : C.sh t = .ptr e) : C.P.underlying t = some (.pointer e) := by
  simp only [Cfg.sh, shOf] at h; split at h <;> simp_all
theorem sh_struct {C : Cfg} {t : Nat} {fs : List (Nat × Nat)} (h : C.sh t = .struct fs) : ∃ F : Array Field, C.P.underlying t = some (.struct F) ∧ fs = F.toList.map fun f => (f.offset, f.type) := by
  simp only [Cfg.sh, shOf] at h; split at h <;> simp_all
theorem sh_fn {C : Cfg} {t : Nat} (h : C.sh t = .fn) : ∃ a b c, C.P.underlying t = some (.func a b c) := by
  simp only [Cfg.sh, shOf] at h; split at h <;> simp_all

theorem sh_bool {C : Cfg} {t : Nat} (h : C.sh t = .bool) : C.P.underlying t = some .bool := by
  simp only [Cfg.sh, shOf] at h; split at h <;> simp_all

theorem eq_runs {P : Program} {t : Nat} {X Y : Value} {b : Bool} {w' : World} (he : (Op.equal t X Y).run P w' = .ok b w')
    (h1 : ∀ op ox oy, (eqGuard op t ox oy X Y).run P w' = .ok () w') (h2 : binOp .eql t X Y = (do pure (.bool (← Op.equal t X Y)))) (h3 : binOp .neq t X Y = (do pure (.bool (!(← Op.equal t X Y))))) :
    (∀ ox oy, (do eqGuard .eql t ox oy X Y; binOp .eql t X Y).run P w' = .ok (.bool b) w') ∧ (∀ ox oy, (do eqGuard .neq t ox oy X Y; binOp .neq t X Y).run P w' = .ok (.bool (!b)) w') := by
  refine ⟨fun ox oy => ?_, fun ox oy => ?_⟩
  · rw [h2]; simp [h1, he]
  · rw [h3]; simp [h1, he]

theorem eq_d {P : Program} {t : Nat} {X Y : Value} {b : Bool} {w' : World} (h : ∀ d, (Op.equalIn (d + 1) t X Y).run P w' = .ok b w') : (Op.equal t X Y).run P w' = .ok b w' := h 9999

theorem VP.inv_nilp {Γ : Ctx} {sh : Nat → Option Shp} {w : World} {V : Value} (h : VP Γ sh w (.s .nilp) V) : V = .pointer none := by
  have := h.inv_s; cases this; rfl
theorem VP.inv_nilf {Γ : Ctx} {sh : Nat → Option Shp} {w : World} {V : Value} (h : VP Γ sh w (.s .nilf) V) : V = .nilFunc := by
  have := h.inv_s; cases this; rfl
theorem VP.inv_sp {Γ : Ctx} {sh : Nat → Option Shp} {w : World} {V : Value} {els i o} (h : VP Γ sh w (.s (.sp els i o)) V) : ∃ a, V = .pointer (some a) := by
  have := h.inv_s; cases this; exact ⟨_, rfl⟩
theorem VP.inv_ptr {Γ : Ctx} {sh : Nat → Option Shp} {w : World} {V : Value} {b i o} (h : VP Γ sh w (.ptr b i o) V) : ∃ a, V = .pointer (some a) := by
  cases h <;> exact ⟨_, rfl⟩
theorem VP.inv_fn {Γ : Ctx} {sh : Nat → Option Shp} {w : World} {V : Value} {f x y} (h : VP Γ sh w (.s (.fn f x y)) V) : ∃ A B, V = .func f A B := by
  have := h.inv_s; cases this; exact ⟨_, _, rfl⟩
theorem VP.inv_fnr {Γ : Ctx} {sh : Nat → Option Shp} {w : World} {V : Value} {f x y} (h : VP Γ sh w (.fnr f x y) V) : ∃ A B, V = .func f A B := by
  cases h; exact ⟨_, _, rfl⟩
theorem VP.inv_nsl {Γ : Ctx} {sh : Nat → Option Shp} {w : World} {V : Value} (h : VP Γ sh w .nsl V) : V = .slice none 0 0 := by
  cases h; rfl

theorem eqPV_sound {C : Cfg} {t : Nat} {x y : PV} {X Y : Value} {b : Bool} (h : eqPV H (C.sh t) x y = some b) (hx : VP Γ (shpOf H) w x X) (hy : VP Γ (shpOf H) w y Y) (w' : World) :
    (∀ ox oy, (do eqGuard .eql t ox oy X Y; binOp .eql t X Y).run C.P w' = .ok (.bool b) w') ∧ (∀ ox oy, (do eqGuard .neq t ox oy X Y; binOp .neq t X Y).run C.P w' = .ok (.bool (!b)) w') := by
  unfold eqPV at h
  split at h
  · rename_i e hsh
    obtain rfl := hx.inv_nilp; obtain rfl := hy.inv_nilp
    simp only [Option.some.injEq] at h; subst h
    exact eq_runs (eq_d fun d => by simp [Op.equalIn, run_underlying (sh_ptr hsh)]) (by intros; simp [eqGuard]) (by simp [binOp]) (by simp [binOp])
  · rename_i e _ _ _ hsh
    obtain rfl := hx.inv_nilp; obtain ⟨a, rfl⟩ := hy.inv_sp
    simp only [Option.some.injEq] at h; subst h
    exact eq_runs (eq_d fun d => by simp [Op.equalIn, run_underlying (sh_ptr hsh)]) (by intros; simp [eqGuard]) (by simp [binOp]) (by simp [binOp])
  · rename_i e _ _ _ hsh
    obtain rfl := hy.inv_nilp; obtain ⟨a, rfl⟩ := hx.inv_sp
    simp only [Option.some.injEq] at h; subst h
    exact eq_runs (eq_d fun d => by simp [Op.equalIn, run_underlying (sh_ptr hsh)]) (by intros; simp [eqGuard]) (by simp [binOp]) (by simp [binOp])
  · rename_i e _ _ _ hsh
    obtain rfl := hx.inv_nilp; obtain ⟨a, rfl⟩ := hy.inv_ptr
    simp only [Option.some.injEq] at h; subst h
    exact eq_runs (eq_d fun d => by simp [Op.equalIn, run_underlying (sh_ptr hsh)]) (by intros; simp [eqGuard]) (by simp [binOp]) (by simp [binOp])
  · rename_i e _ _ _ hsh
    obtain rfl := hy.inv_nilp; obtain ⟨a, rfl⟩ := hx.inv_ptr
    simp only [Option.some.injEq] at h; subst h
    exact eq_runs (eq_d fun d => by simp [Op.equalIn, run_underlying (sh_ptr hsh)]) (by intros; simp [eqGuard]) (by simp [binOp]) (by simp [binOp])
  · rename_i hsh
    obtain ⟨a1, a2, a3, hu⟩ := sh_fn hsh
    obtain rfl := hx.inv_nilf; obtain rfl := hy.inv_nilf
    simp only [Option.some.injEq] at h; subst h
    exact eq_runs (eq_d fun d => by simp [Op.equalIn, run_underlying hu]) (by intros; simp [eqGuard]) (by simp [binOp]) (by simp [binOp])
  · rename_i hsh
    obtain ⟨a1, a2, a3, hu⟩ := sh_fn hsh
    obtain rfl := hx.inv_nilf; obtain ⟨A, B, rfl⟩ := hy.inv_fn
    simp only [Option.some.injEq] at h; subst h
    exact eq_runs (eq_d fun d => by simp [Op.equalIn, run_underlying hu]) (by intros; simp [eqGuard]) (by simp [binOp]) (by simp [binOp])
  · rename_i hsh
    obtain ⟨a1, a2, a3, hu⟩ := sh_fn hsh
    obtain rfl := hy.inv_nilf; obtain ⟨A, B, rfl⟩ := hx.inv_fn
    simp only [Option.some.injEq] at h; subst h
    exact eq_runs (eq_d fun d => by simp [Op.equalIn, run_underlying hu]) (by intros; simp [eqGuard]) (by simp [binOp]) (by simp [binOp])
  · rename_i hsh
    obtain ⟨a1, a2, a3, hu⟩ := sh_fn hsh
    obtain rfl := hx.inv_nilf; obtain ⟨A, B, rfl⟩ := hy.inv_fnr
    simp only [Option.some.injEq] at h; subst h
    exact eq_runs (eq_d fun d => by simp [Op.equalIn, run_underlying hu]) (by intros; simp [eqGuard]) (by simp [binOp]) (by simp [binOp])
  · rename_i hsh
    obtain ⟨a1, a2, a3, hu⟩ := sh_fn hsh
    obtain rfl := hy.inv_nilf; obtain ⟨A, B, rfl⟩ := hx.inv_fnr
    simp only [Option.some.injEq] at h; subst h
    exact eq_runs (eq_d fun d => by simp [Op.equalIn, run_underlying hu]) (by intros; simp [eqGuard]) (by simp [binOp]) (by simp [binOp])
  · rename_i p q hsh
    obtain rfl := hx.inv_bool; obtain rfl := hy.inv_bool
    simp only [Option.some.injEq] at h; subst h
    exact eq_runs (eq_d fun d => by simp [Op.equalIn, run_underlying (sh_bool hsh)]) (by intros; simp [eqGuard]) (by simp [binOp]) (by simp [binOp])
  · rename_i e hsh
    obtain rfl := hy.inv_nsl
    obtain ⟨a, n, c, rfl, rfl, ha⟩ := nilOf_sound hx h
    refine eq_runs ?_ (by intros; simp [eqGuard]) (by simp [binOp]) (by simp [binOp])
    exact eq_d fun d => by cases a <;> simp [Op.equalIn, run_underlying (sh_slice hsh)]
  · rename_i e hsh _
    obtain rfl := hx.inv_nsl
    obtain ⟨a, n, c, rfl, rfl, ha⟩ := nilOf_sound hy h
    refine eq_runs ?_ (by intros; simp [eqGuard]) (by simp [binOp]) (by simp [binOp])
    exact eq_d fun d => by cases a <;> simp [Op.equalIn, run_underlying (sh_slice hsh)]
  · cases h
end ops
end Go.Proofs.Ytfioahjeanmfpaa.E
