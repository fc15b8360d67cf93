/-
  Appends.
-/
import Derived.Test.YtfioahjeanmfpaaE15
namespace Go.Proofs.Ytfioahjeanmfpaa.E
open Go
set_option linter.unusedVariables false

section
variable {Γ : Ctx} {H : List Blk} {w : World} {R : Type} {r : R} {C : Cfg}

theorem BR.kill {sh : Nat → Option Shp} {b c : Nat} {x : Blk} (h : BR Γ sh w c x) : BR Γ sh w c (x.kill b) := by
  cases x with
  | box cells =>
    obtain ⟨g, cur, e, h1, h2, h3, h4⟩ := h
    simp only [Blk.kill, killL_eq]
    refine ⟨g, cur, e, h1, h2, by simpa using h3, fun j hj => ?_⟩
    obtain ⟨V, e1, e2⟩ := h4 j (by simpa using hj)
    exact ⟨V, e1, by simpa using e2.kill b⟩
  | arr => exact h
  | iter => exact h
  | dead => exact h

theorem Blk.kill_nms' {b : Nat} {x : Blk} : ∀ c ∈ (x.kill b).nms, c ≠ b ∧ c ∈ x.nms := by
  intro c hc
  cases x with
  | box cells =>
    simp only [Blk.kill, Blk.nms] at hc ⊢
    exact ⟨fun e => not_mem_killL b cells (e ▸ hc), killL_nms b cells c hc⟩
  | arr => simp [Blk.kill, Blk.nms] at hc
  | iter => simp [Blk.kill, Blk.nms] at hc
  | dead => simp [Blk.kill, Blk.nms] at hc

def Ctx.re (Γ : Ctx) (b : Nat) (ng : Option Nat) : Ctx := { Γ with nm := fun c => if c = b then ng else Γ.nm c }

theorem shpOf_re {b c : Nat} {y : Blk} (hb : b < H.length) : shpOf ((H.map (Blk.kill b)).set b y) c = if c = b then some y.shp else shpOf H c := by
  rw [shpOf_set (by simpa using hb), shpOf_kill]

/-- A row gets a new shape, perhaps a new place: its old names are struck. -/
theorem rebind {b : Nat} {y : Blk} {ng : Option Nat} {w' : World} (hH : HR Γ H w) (hb : b < H.length) (hnf : ¬ fixS C (shpOf H b)) (hng : ∀ g, ng = some g → g < w'.heap.size ∧ ¬ Γ.St g ∧ ∀ c, c ≠ b → Γ.nm c ≠ some g)
    (hown : ∀ g, ng = some g → Γ.nm b = some g ∨ w.heap.size ≤ g) (hoth : ∀ k, k < w.heap.size → Γ.nm b ≠ some k → w'.heap[k]? = w.heap[k]?) (hsz : w.heap.size ≤ w'.heap.size) (h1 : w'.os = w.os) (h2 : w'.tape = w.tape) (h3 : w'.output = w.output)
    (hy : BR (Γ.re b ng) (shpOf ((H.map (Blk.kill b)).set b y)) w' b y) (hyn : y.nms = []) :
    Stp C Γ H w noΦ (Γ.re b ng) ((H.map (Blk.kill b)).set b y) w' noΦ ∧ HR (Γ.re b ng) ((H.map (Blk.kill b)).set b y) w' ∧
      ∀ sl tmps, SR Γ H w sl tmps → SR (Γ.re b ng) ((H.map (Blk.kill b)).set b y) w' (killL b sl) tmps := by
  have hst : ∀ k, Γ.St k → w'.heap[k]? = w.heap[k]? := fun k hk => hoth k (hH.stlt k hk) (fun e => (hH.lt b k e).2.2 hk)
  have hnmh : ∀ c g, c ≠ b → Γ.nm c = some g → w'.heap[g]? = w.heap[g]? := fun c g hc hg => hoth g (hH.lt c g hg).2.1 (fun e => hc (hH.inj c b g hg e))
  have M : Mono Γ (shpOf H) w (Γ.re b ng) (shpOf ((H.map (Blk.kill b)).set b y)) w' (fun c => c ≠ b ∧ c < H.length) :=
    ⟨hst, fun _ h => h, fun c hc => by simp only [Ctx.re]; rw [if_neg hc.1], fun c hc => by rw [shpOf_re hb, if_neg hc.1], fun c g hc hg => shape_of_heap (hnmh c g hc.1 hg), rfl⟩
  refine ⟨⟨h1, h2, h3, hsz, fun _ h => h, fun _ h => .inl h, fun c g hg => ?_, fun _ h => .inl h, fun g hg hn _ => hoth g hg (hn b), rfl, by simp, fun c hc hf => ?_⟩, ⟨fun c d g hc hd => ?_, fun c g hg => ?_, fun k hk => Nat.lt_of_lt_of_le (hH.stlt k hk) hsz, fun c hc d hd => ?_, fun c hc => ?_⟩, fun sl tmps hS => ⟨?_, fun c hc => ?_, fun i hi => ?_⟩⟩
  · simp only [Ctx.re] at hg
    split at hg
    · rename_i e; subst e
      rcases hown g hg with h | h
      · exact .inl ⟨hb, h⟩
      · exact .inr h
    · exact .inl ⟨(hH.lt c g hg).1, hg⟩
  · have hcb : c ≠ b := fun e => hnf (e ▸ hf)
    exact ⟨M.nm c ⟨hcb, hc⟩, M.shp c ⟨hcb, hc⟩, fun g hg => M.hs c g ⟨hcb, hc⟩ hg⟩
  · simp only [Ctx.re] at hc hd
    split at hc <;> split at hd
    · omega
    · rename_i e1 e2; exact absurd hd ((hng g hc).2.2 d e2)
    · rename_i e1 e2; exact absurd hc ((hng g hd).2.2 c e1)
    · exact hH.inj c d g hc hd
  · simp only [Ctx.re] at hg
    rw [List.length_set, List.length_map]
    split at hg
    · rename_i e; subst e
      exact ⟨hb, (hng g hg).1, (hng g hg).2.1⟩
    · have := hH.lt c g hg
      exact ⟨this.1, by omega, this.2.2⟩
  · rw [List.length_set, List.length_map] at hc ⊢
    rw [List.getElem_set] at hd
    split at hd
    · rw [hyn] at hd; simp at hd
    · rw [List.getElem_map] at hd
      exact hH.nms c hc d (Blk.kill_nms' d hd).2
  · rw [List.length_set, List.length_map] at hc
    rw [List.getElem_set]
    split
    · rename_i e; subst e; exact hy
    · rename_i e
      rw [List.getElem_map]
      have hcb : c ≠ b := fun e' => e e'.symm
      exact (BR.kill (hH.blk c hc)).mono M (M.nm c ⟨hcb, hc⟩) (fun g hg => hnmh c g hcb hg) (fun d hd => ⟨(Blk.kill_nms' d hd).1, hH.nms c hc d (Blk.kill_nms' d hd).2⟩)
  · rw [killL_eq, List.length_map]; exact hS.size
  · rw [List.length_set, List.length_map]
    exact hS.nms c (killL_nms b sl c hc)
  · have hi' : i < sl.length := by rw [killL_eq] at hi; simpa using hi
    obtain ⟨V, e1, e2⟩ := hS.slot i hi'
    refine ⟨V, e1, ?_⟩
    have e3 : (killL b sl)[i] = (sl[i]).kill b := by simp [killL_eq]
    rw [e3]
    exact (e2.kill b).mono M fun c hc => ⟨fun e => PV.not_mem_kill b _ (e ▸ hc), hS.nms c (mem_nmsL.2 ⟨i, hi', PV.kill_nms b _ c hc⟩)⟩

theorem isRow_notInt {u : Nat} (h : isRow (C.sh u) = true) : ∃ d, C.P.underlying u = some d ∧ (d = .string ∨ ∃ e', d = .slice e') := by
  unfold isRow at h
  split at h
  · rename_i hs; exact ⟨_, sh_str hs, .inl rfl⟩
  · rename_i e hs; exact ⟨_, sh_slice hs, .inr ⟨_, rfl⟩⟩
  · cases h

theorem run_append_room_gen {P : Program} {t u ty e n cap : Nat} {ie : TypeInfo} {d : TypeDesc} {base : Option Addr} {X : Value} {news : List (List SV)} {Vs : List Value} {w' : World} (ht : P.underlying t = some (.slice e)) (hu : P.underlying u = some d) (hd : d = .string ∨ ∃ e', d = .slice e') (hi : P.info? e = some ie)
    (hS : SrcV P Γ w ie.size X news Vs) (hroom : n + news.length ≤ cap) (hst : match base with | some a => (storeCells (a.add (n * ie.size)) Vs).run P w = .ok () w' | none => w' = w) :
    (Builtin.append_ #[t, u] ty #[.slice base n cap, X]).run P w = .ok (.slice base (n + news.length) cap) w' := by
  have hf := hS.first news.length (Nat.le_refl _) w rfl
  have hV : Vs.take (news.length * ie.size) = Vs := List.take_of_length_le (by rw [hS.size]; exact Nat.le_refl _)
  rw [hV] at hf
  cases base with
  | none =>
    simp only at hst
    subst hst
    rcases hd with rfl | ⟨e', rfl⟩ <;>
      simp [Builtin.append_, run_underlying ht, run_underlying hu, sizeOf, typeInfo, hi, hS.len, hroom, hf]
  | some a =>
    simp only at hst
    rcases hd with rfl | ⟨e', rfl⟩ <;>
      simp [Builtin.append_, run_underlying ht, run_underlying hu, sizeOf, typeInfo, hi, hS.len, hroom, hf, hst]

theorem run_append_grow_gen {P : Program} {t u ty e n cap : Nat} {ie : TypeInfo} {z : Value} {d : TypeDesc} {base : Option Addr} {X : Value} {news : List (List SV)} {Vs olds : List Value} (ht : P.underlying t = some (.slice e)) (hu : P.underlying u = some d) (hd : d = .string ∨ ∃ e', d = .slice e') (hi : P.info? e = some ie) (hz : ie.zero = some z)
    (hS : SrcV P Γ w ie.size X news Vs) (hO : ∀ w' : World, w'.heap = w.heap → (Builtin.firstCells ie.size n (.slice base n cap)).run P w' = .ok olds.toArray w') (hgrow : cap < n + news.length) (h63 : n + news.length ≤ maxLen) (hby : (n + news.length) * ie.bytes ≤ 140737488355328) :
    (Builtin.append_ #[t, u] ty #[.slice base n cap, X]).run P w = .ok (.slice (some ⟨w.heap.size, 0, none⟩) (n + news.length) (grownCap w (n + news.length) cap e))
      (w.drew.alloc (.cells (olds.toArray ++ Vs.toArray ++ Builtin.zeroCells z.cells (grownCap w (n + news.length) cap e - (n + news.length))) e)) := by
  have hf := hS.first news.length (Nat.le_refl _) w.drew rfl
  have hV : Vs.take (news.length * ie.size) = Vs := List.take_of_length_le (by rw [hS.size]; exact Nat.le_refl _)
  rw [hV] at hf
  have hO' := hO w.drew rfl
  have hn : ¬ (n + news.length ≤ cap) := by omega
  have hsmall : n + news.length ≤ 9223372036854775807 := by simp only [maxLen] at h63; omega
  have h63' : ¬ (9223372036854775807 < ((n : Int) + (news.length : Int))) := by omega
  have h48' : ¬ (281474976710656 < Builtin.nextslicecap (n + news.length) cap * ie.bytes) := by have := growslice_fits hgrow hby; omega
  rcases hd with rfl | ⟨e', rfl⟩ <;>
  · simp [Builtin.append_, run_underlying ht, run_underlying hu, sizeOf, typeInfo, zeroValue, hi, hz, hS.len, hn, h63', h48', Question.forced, hf, hO', newRow, grownCap]
    congr 2
    apply Array.ext'
    simp [List.append_assoc]

end
end Go.Proofs.Ytfioahjeanmfpaa.E
