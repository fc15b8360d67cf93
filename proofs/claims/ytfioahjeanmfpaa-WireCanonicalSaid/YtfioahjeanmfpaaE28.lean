/-
  Arguments: what a reading says of them, as pure values.
-/
import Derived.Test.YtfioahjeanmfpaaE27
import Derived.WalkKit
import Derived.ProofKit
import Derived.OpenShut
import Derived.JoinedCond
namespace Go.Proofs.Ytfioahjeanmfpaa.E
open Go Go.ChangeShapes Go.WideShapes Go.RowKit
set_option linter.unusedVariables false

/-- The type of one cell of plain data. -/
inductive Ty where
  | bool
  | int (k : IntKind)
  | str
  | slice (e : List Ty)
  deriving Inhabited

def tysF (P : Program) (f : Nat → Option (List Ty)) : List Field → Nat → Option (List Ty)
  | [], _ => some []
  | x :: r, off => if x.offset == off then match f x.type with
      | some a => if P.cellsOf x.type == a.length then match tysF P f r (off + a.length) with
        | some b => some (a ++ b)
        | none => none else none
      | none => none else none

def tysOf (P : Program) : Nat → Nat → Option (List Ty)
  | 0, _ => none
  | d + 1, t => match P.underlying t with
    | some .bool => some [.bool]
    | some (.int k) => some [.int k]
    | some .string => some [.str]
    | some (.slice e) => match tysOf P d e with
      | some a => if P.cellsOf e == a.length && decide (0 < a.length) then some [.slice a] else none
      | none => none
    | some (.struct fs) => match tysF P (tysOf P d) fs.toList 0 with
      | some r => if P.cellsOf t == r.length then some r else none
      | none => none
    | some (.array n e) => match tysOf P d e with
      | some a => if P.cellsOf e == a.length && P.cellsOf t == n * a.length then some (List.replicate n a).flatten else none
      | none => none
    | _ => none

mutual
def Ty.of : Ty → SV → Prop
  | .bool, v => ∃ b, v = .bool b
  | .int k, v => ∃ n, v = .int k n ∧ k.min ≤ n ∧ n ≤ k.max
  | .str, v => ∃ l, v = .str l ∧ l.length ≤ maxLen
  | .slice e, v => v = .sl true false e.length [] ∨ ∃ els, v = .sl false false e.length els ∧ els.length ≤ maxLen ∧ ∀ el ∈ els, Ty.ofL e el
def Ty.ofL : List Ty → List SV → Prop
  | [], l => l = []
  | t :: r, l => ∃ v q, l = v :: q ∧ t.of v ∧ Ty.ofL r q
end

theorem Ty.ofL_len : ∀ {ts : List Ty} {l : List SV}, Ty.ofL ts l → l.length = ts.length
  | [], l, h => by simp only [Ty.ofL] at h; subst h; rfl
  | t :: r, l, h => by
    simp only [Ty.ofL] at h
    obtain ⟨v, q, rfl, _, hq⟩ := h
    simp [Ty.ofL_len hq]

theorem Ty.ofL_append : ∀ {a b : List Ty} {x y : List SV}, Ty.ofL a x → Ty.ofL b y → Ty.ofL (a ++ b) (x ++ y)
  | [], b, x, y, h, k => by simp only [Ty.ofL] at h; subst h; exact k
  | t :: r, b, x, y, h, k => by
    simp only [Ty.ofL] at h
    obtain ⟨v, q, rfl, hv, hq⟩ := h
    simp only [List.cons_append, Ty.ofL]
    exact ⟨v, q ++ y, rfl, hv, Ty.ofL_append hq k⟩

/-- Cells stand for values. -/
def CVS (St : Nat → Prop) (w : World) (l : List SV) (A : List Value) : Prop := A.length = l.length ∧ ∀ j (h : j < l.length), ∃ U, A[j]? = some U ∧ VS St w (l[j]) U

theorem CVS.append {St : Nat → Prop} {w : World} {x y : List SV} {X Y : List Value} (hx : CVS St w x X) (hy : CVS St w y Y) : CVS St w (x ++ y) (X ++ Y) := by
  refine ⟨by simp [hx.1, hy.1], fun j hj => ?_⟩
  by_cases h : j < x.length
  · obtain ⟨U, e, k⟩ := hx.2 j h
    exact ⟨U, by rw [List.getElem?_append_left (by rw [hx.1]; exact h)]; exact e, by rw [List.getElem_append_left h]; exact k⟩
  · obtain ⟨U, e, k⟩ := hy.2 (j - x.length) (by simp at hj; omega)
    exact ⟨U, by rw [List.getElem?_append_right (by rw [hx.1]; omega), hx.1]; exact e, by rw [List.getElem_append_right (by omega)]; exact k⟩

theorem CVS.one {St : Nat → Prop} {w : World} {v : SV} {V : Value} (h : VS St w v V) : CVS St w [v] [V] := ⟨rfl, fun j hj => by
  have : j = 0 := by simpa using hj
  subst this
  exact ⟨V, rfl, h⟩⟩

theorem cellsOf_len {H : Type} {enc : TypeId × Value → H} {P : Program} {w : World} {base : Nat} {sp : Nat → Bool} {held : Bool} {St : Nat → Prop} {l : List SV} {cs : List Value} (h : CVS St w l cs) : l.length = cs.length := h.1.symm

theorem spot_none {w : World} {a : Addr} {V : Value} (h : w.cell? a = some V) : a.spot = none ∧ a.block < w.heap.size := by
  unfold World.cell? at h
  split at h
  · rename_i c t fr hb
    refine ⟨?_, (Array.getElem?_eq_some_iff.1 hb).1⟩
    cases hs : a.spot with
    | none => rfl
    | some x => rw [hs] at h; simp at h
  · cases h

theorem add_none {a : Addr} (h : a.spot = none) (n : Nat) : a.add n = ⟨a.block, a.off + n, none⟩ := by
  unfold Addr.add
  split
  · rename_i hn; subst hn; cases a; simp_all
  · rfl

theorem add_add {a : Addr} {m n : Nat} (h : a.spot = none) : (a.add m).add n = ⟨a.block, a.off + m + n, none⟩ := by
  rw [add_none h, add_none rfl]

theorem tysF_read {H : Type} {enc : TypeId × Value → H} {P : Program} {w : World} {base : Nat} {sp : Nat → Bool} {held : Bool} {f : Nat → Option (List Ty)} {m : Nat}
    (ih : ∀ t tys cs x, f t = some tys → DataW.trod enc P w base sp held m t cs = some x → ∃ svs, Ty.ofL tys svs ∧ CVS (· < w.heap.size) w svs cs) (cs : List Value) :
    ∀ (fs : List Field) (off : Nat) (tys : List Ty), tysF P f fs off = some tys → (∀ (i : Nat) (fl : Field), fs[i]? = some fl → ∃ y, DataW.trod enc P w base sp held m fl.type ((cs.drop fl.offset).take (P.cellsOf fl.type)) = some y) →
      ∃ svs, Ty.ofL tys svs ∧ CVS (· < w.heap.size) w svs ((cs.drop off).take tys.length)
  | [], off, tys, h, _ => by
    simp only [tysF, Option.some.injEq] at h
    subst h
    exact ⟨[], rfl, by simp, fun j hj => by simp at hj⟩
  | x :: r, off, tys, h, hall => by
    simp only [tysF] at h
    split at h
    · rename_i hoff
      simp only [beq_iff_eq] at hoff
      split at h
      · rename_i a ha
        split at h
        · rename_i hc
          simp only [beq_iff_eq] at hc
          split at h
          · rename_i b hb
            simp only [Option.some.injEq] at h
            subst h
            obtain ⟨y, hy⟩ := hall 0 x rfl
            rw [hoff, hc] at hy
            obtain ⟨s1, h1, h2⟩ := ih _ _ _ _ ha hy
            obtain ⟨s2, h3, h4⟩ := tysF_read ih cs r _ b hb (fun i fl hi => hall (i + 1) fl (by simpa using hi))
            refine ⟨s1 ++ s2, Ty.ofL_append h1 h3, ?_⟩
            have := h2.append h4
            have e : (cs.drop off).take (a ++ b).length = (cs.drop off).take a.length ++ (cs.drop (off + a.length)).take b.length := by
              rw [List.length_append, List.take_add, List.drop_drop]
            rw [e]; exact this
          · cases h
        · cases h
      · cases h
    · cases h

theorem arr_read {H : Type} {enc : TypeId × Value → H} {P : Program} {w : World} {base : Nat} {sp : Nat → Bool} {held : Bool} {e m : Nat} {a : List Ty} (cs : List Value)
    (ih : ∀ cs x, DataW.trod enc P w base sp held m e cs = some x → ∃ svs, Ty.ofL a svs ∧ CVS (· < w.heap.size) w svs cs) (hc : P.cellsOf e = a.length) :
    ∀ (n k : Nat), (∀ i, k ≤ i → i < k + n → ∃ y, DataW.trod enc P w base sp held m e ((cs.drop (i * P.cellsOf e)).take (P.cellsOf e)) = some y) →
      ∃ svs, Ty.ofL (List.replicate n a).flatten svs ∧ CVS (· < w.heap.size) w svs ((cs.drop (k * a.length)).take (n * a.length))
  | 0, k, _ => ⟨[], by simp [Ty.ofL], by simp, fun j hj => by simp at hj⟩
  | n + 1, k, hall => by
    obtain ⟨y, hy⟩ := hall k (Nat.le_refl _) (by omega)
    obtain ⟨s1, h1, h2⟩ := ih _ _ hy
    obtain ⟨s2, h3, h4⟩ := arr_read cs ih hc n (k + 1) (fun i hi1 hi2 => hall i (by omega) (by omega))
    rw [hc] at h2
    refine ⟨s1 ++ s2, ?_, ?_⟩
    · rw [List.replicate_succ, List.flatten_cons]; exact Ty.ofL_append h1 h3
    · have := h2.append h4
      have e : (cs.drop (k * a.length)).take ((n + 1) * a.length) = (cs.drop (k * a.length)).take a.length ++ (cs.drop ((k + 1) * a.length)).take (n * a.length) := by
        rw [show (n + 1) * a.length = a.length + n * a.length by rw [Nat.add_mul, Nat.one_mul, Nat.add_comm], List.take_add, List.drop_drop, show k * a.length + a.length = (k + 1) * a.length by rw [Nat.add_mul, Nat.one_mul]]
      rw [e]; exact this

theorem read_VS {H : Type} {enc : TypeId × Value → H} {P : Program} {w : World} {base : Nat} {sp : Nat → Bool} {held : Bool} : ∀ (n t : Nat) (tys : List Ty) (m : Nat) (cs : List Value) (x : DataW H × List MemPlace), tysOf P n t = some tys →
    DataW.trod enc P w base sp held m t cs = some x → ∃ svs, Ty.ofL tys svs ∧ CVS (· < w.heap.size) w svs cs
  | 0, t, tys, m, cs, x, h, _ => by simp [tysOf] at h
  | n + 1, t, tys, m, cs, x, h, hd => by
    simp only [tysOf] at h
    split at h
    · rename_i ht
      simp only [Option.some.injEq] at h; subst h
      obtain ⟨b, rfl, _⟩ := DataW.trod_bool ht hd
      exact ⟨[.bool b], by simp [Ty.ofL, Ty.of], CVS.one (.bool b)⟩
    · rename_i k ht
      simp only [Option.some.injEq] at h; subst h
      obtain ⟨b, rfl, _, hw⟩ := DataW.trod_int ht hd
      simp only [Lit.wf, Bool.and_eq_true, decide_eq_true_eq] at hw
      exact ⟨[.int k b], by simp [Ty.ofL, Ty.of, hw], CVS.one (.int k b)⟩
    · rename_i ht
      simp only [Option.some.injEq] at h; subst h
      obtain ⟨b, rfl, _, hw⟩ := DataW.trod_string ht hd
      exact ⟨[.str b.data.toList], by simpa [Ty.ofL, Ty.of] using hw, CVS.one (.str b)⟩
    · rename_i e ht
      split at h
      · rename_i a ha
        split at h
        · rename_i hc
          simp only [Bool.and_eq_true, beq_iff_eq, decide_eq_true_eq] at hc
          simp only [Option.some.injEq] at h; subst h
          rcases DataW.trod_slice ht hd with ⟨rfl, _⟩ | ⟨ad, len, cap, elems, rest, m', _, rfl, _, hb, hl, hm, hlen, hel, _, _⟩
          · exact ⟨[.sl true false a.length []], by simp [Ty.ofL, Ty.of], CVS.one (.nil _ _)⟩
          · have each : ∀ i, i < len → ∃ el cs', w.cells? base (ad.add (i * a.length)) a.length = some cs' ∧ Ty.ofL a el ∧ CVS (· < w.heap.size) w el cs' := fun i hi => by
              have h1 := hel i hi
              rw [List.getElem?_eq_getElem (by omega), hc.1, Option.bind_eq_some_iff] at h1
              obtain ⟨cs', h2, h3⟩ := h1
              obtain ⟨el, h4, h5⟩ := read_VS n e a m' cs' _ ha h3
              exact ⟨el, cs', h2, h4, h5⟩
            by_cases h0 : len = 0
            · subst h0
              exact ⟨[.sl false false a.length []], by simp [Ty.ofL, Ty.of], CVS.one (.emp _ _ _ _ (by simp) hm)⟩
            · let els : List (List SV) := (List.range len).attach.map fun i => Classical.choose (each i.1 (List.mem_range.1 i.2))
              have hels : els.length = len := by simp [els]
              have hget : ∀ i (hi : i < els.length), ∃ cs', w.cells? base (ad.add (i * a.length)) a.length = some cs' ∧ Ty.ofL a (els[i]) ∧ CVS (· < w.heap.size) w (els[i]) cs' := fun i hi => by
                have hi' : i < len := by omega
                have e : els[i] = Classical.choose (each i hi') := by simp [els]
                rw [e]
                exact Classical.choose_spec (each i hi')
              have hspot : ad.spot = none ∧ ad.block < w.heap.size := by
                obtain ⟨cs', h1, h2, h3⟩ := hget 0 (by omega)
                obtain ⟨_, hl1, hl2⟩ := World.cells?_some h1
                have := hl2 0 hc.2
                rw [List.getElem?_eq_getElem (by omega)] at this
                simp only [Nat.zero_mul, Addr.add, if_true] at this
                exact spot_none this
              have hel : ∀ i (hi : i < els.length), (els[i]).length = a.length := fun i hi => by
                obtain ⟨cs', h1, h2, h3⟩ := hget i hi
                exact Ty.ofL_len h2
              have hcell : ∀ i (hi : i < els.length) j (hj : j < (els[i]).length), ∃ U, w.cell? ⟨ad.block, ad.off + i * a.length + j, none⟩ = some U ∧ VS (· < w.heap.size) w (els[i][j]) U := fun i hi j hj => by
                obtain ⟨cs', h1, h2, h3⟩ := hget i hi
                obtain ⟨_, hl1, hl2⟩ := World.cells?_some h1
                have hj' : j < a.length := by rw [← hel i hi]; exact hj
                obtain ⟨U, e1, e2⟩ := h3.2 j hj
                refine ⟨U, ?_, e2⟩
                rw [← e1, ← hl2 j hj', add_add hspot.1]
              refine ⟨[.sl false false a.length els], ?_, CVS.one ?_⟩
              · simp only [Ty.ofL, Ty.of]
                refine ⟨_, [], rfl, .inr ⟨els, rfl, by omega, fun el hm' => ?_⟩, rfl⟩
                obtain ⟨i, hi, rfl⟩ := List.getElem_of_mem hm'
                obtain ⟨cs', h1, h2, h3⟩ := hget i hi
                exact h2
              · have e : ad = ⟨ad.block, ad.off, none⟩ := by cases ad; simp_all
                rw [e]
                refine .sl false els ad.block ad.off len cap a.length (fun i j => (w.cell? ⟨ad.block, ad.off + i * a.length + j, none⟩).getD undef) hels.symm hl hm (by simp) hspot.2 hel (fun i hi j hj => ?_) (fun i hi j hj => ?_)
                · obtain ⟨U, e1, e2⟩ := hcell i hi j hj
                  rw [e1]; rfl
                · obtain ⟨U, e1, e2⟩ := hcell i hi j hj
                  rw [e1]; exact e2
        · cases h
      · cases h
    · rename_i fs ht
      split at h
      · rename_i r hr
        split at h
        · rename_i hc
          simp only [beq_iff_eq] at hc
          simp only [Option.some.injEq] at h; subst h
          obtain ⟨xs, m', _, _, hlen, hxs, hf⟩ := DataW.trod_struct ht hd
          obtain ⟨svs, h1, h2⟩ := tysF_read (fun t tys cs x => read_VS n t tys m' cs x) cs fs.toList 0 r hr (fun i fl hi => by
            have hi' : fs[i]? = some fl := by simpa using hi
            have := hf i fl hi'
            have hlt : i < xs.length := by rw [hxs]; exact (Array.getElem?_eq_some_iff.1 hi').1
            rw [List.getElem?_eq_getElem hlt] at this
            exact ⟨_, this⟩)
          refine ⟨svs, h1, ?_⟩
          rw [List.drop_zero, List.take_of_length_le (by omega)] at h2
          exact h2
        · cases h
      · cases h
    · rename_i k e ht
      split at h
      · rename_i a ha
        split at h
        · rename_i hc
          simp only [Bool.and_eq_true, beq_iff_eq] at hc
          simp only [Option.some.injEq] at h; subst h
          obtain ⟨xs, m', _, _, hlen, hxs, hf⟩ := DataW.trod_array ht hd
          obtain ⟨svs, h1, h2⟩ := arr_read cs (fun cs x => read_VS n e a m' cs x ha) hc.1 k 0 (fun i _ hi => by
            have := hf i (by omega)
            rw [List.getElem?_eq_getElem (by omega)] at this
            exact ⟨_, this⟩)
          refine ⟨svs, h1, ?_⟩
          rw [Nat.zero_mul, List.drop_zero, List.take_of_length_le (by omega)] at h2
          exact h2
        · cases h
      · cases h
    · cases h
end Go.Proofs.Ytfioahjeanmfpaa.E
