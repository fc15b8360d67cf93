/-
  Appends: the law.
-/
import Derived.Test.YtfioahjeanmfpaaE16
namespace Go.Proofs.Ytfioahjeanmfpaa.E
open Go
set_option linter.unusedVariables false

section
variable {Γ : Ctx} {H : List Blk} {w : World} {R : Type} {r : R} {C : Cfg}

/-- Elements and their cells. -/
def Els (St : Nat → Prop) (w : World) (n : Nat) (els : List (List SV)) (Vs : List Value) : Prop :=
  Vs.length = els.length * n ∧ ∀ i (h : i < els.length), (els[i]).length = n ∧ ∀ j (h' : j < (els[i]).length), ∃ U, Vs[i * n + j]? = some U ∧ VS St w (els[i][j]) U

theorem SrcV.toEls {P : Program} {n : Nat} {X : Value} {news : List (List SV)} {Vs : List Value} (h : SrcV P Γ w n X news Vs) : Els Γ.St w n news Vs := ⟨h.size, h.els⟩

theorem Els.append {St : Nat → Prop} {n : Nat} {a b : List (List SV)} {A B : List Value} (ha : Els St w n a A) (hb : Els St w n b B) : Els St w n (a ++ b) (A ++ B) := by
  refine ⟨by rw [List.length_append, List.length_append, ha.1, hb.1, Nat.add_mul], fun i hi => ?_⟩
  rw [List.length_append] at hi
  by_cases h : i < a.length
  · have e : (a ++ b)[i]'(by rw [List.length_append]; exact hi) = a[i] := List.getElem_append_left h
    refine ⟨by rw [e]; exact (ha.2 i h).1, fun j hj => ?_⟩
    have hj' : j < (a[i]).length := by rw [← e]; exact hj
    obtain ⟨U, e1, k⟩ := (ha.2 i h).2 j hj'
    refine ⟨U, ?_, by simp only [e]; exact k⟩
    rw [List.getElem?_append_left (List.getElem?_eq_some_iff.1 e1).1]; exact e1
  · have h' : i - a.length < b.length := by omega
    have e : (a ++ b)[i]'(by rw [List.length_append]; exact hi) = b[i - a.length] := List.getElem_append_right (by omega)
    refine ⟨by rw [e]; exact (hb.2 _ h').1, fun j hj => ?_⟩
    have hj' : j < (b[i - a.length]).length := by rw [← e]; exact hj
    obtain ⟨U, e1, k⟩ := (hb.2 _ h').2 j hj'
    refine ⟨U, ?_, by simp only [e]; exact k⟩
    have hle : a.length * n ≤ i * n := Nat.mul_le_mul_right _ (by omega)
    rw [List.getElem?_append_right (by rw [ha.1]; omega), ha.1, ← e1]
    congr 1
    rw [Nat.sub_mul]; omega

theorem Els.mono {St St' : Nat → Prop} {w' : World} {n : Nat} {els : List (List SV)} {Vs : List Value} (h : Els St w n els Vs) (hs : ∀ g, St g → w'.heap[g]? = w.heap[g]?) (hsub : ∀ g, St g → St' g) : Els St' w' n els Vs :=
  ⟨h.1, fun i hi => ⟨(h.2 i hi).1, fun j hj => by obtain ⟨U, e, k⟩ := (h.2 i hi).2 j hj; exact ⟨U, e, k.mono hs hsub⟩⟩⟩

theorem BR.els {Γ' : Ctx} {sh : Nat → Option Shp} {w' : World} {b g e n : Nat} {v : Bool} {els : List (List SV)} {Vs : List Value} {cur : Array Value} (hg : Γ'.nm b = some g) (hh : w'.heap[g]? = some (.cells cur e (0, 0))) (hE : Els Γ'.St w' n els Vs) (hne : ¬ (v = true ∧ els = []))
    (hc : ∀ q, q < Vs.length → cur[q]? = Vs[q]?) (hl : Vs.length ≤ cur.size) : BR Γ' sh w' b (.arr v e n els) := by
  refine .inr ⟨hne, g, cur, hg, hh, by rw [← hE.1]; exact hl, fun i hi => (hE.2 i hi).1, fun i hi j hj => ?_⟩
  obtain ⟨U, e1, k⟩ := (hE.2 i hi).2 j hj
  exact ⟨U, by rw [hc _ (List.getElem?_eq_some_iff.1 e1).1]; exact e1, k⟩

theorem append_fits {n m bytes : Nat} (h : n + m ≤ 68719476736) (hb : bytes ≤ 512) : (n + m) * bytes ≤ 140737488355328 := by
  have : (n + m) * bytes ≤ 68719476736 * 512 := Nat.mul_le_mul h hb
  omega

theorem grown_facts {need cap e : Nat} (h : need ≤ 68719476736) : need ≤ grownCap w need cap e ∧ grownCap w need cap e ≤ maxLen :=
  ⟨grownCap_ge _ _ _ _, grownCap_le_maxLen _ _ _ _ (by simp only [maxLen]; omega)⟩

/-- What lies in the row that an append has made. -/
theorem grown_row {olds Vs : List Value} {z : Array Value} {k n m size : Nat} (hz : z.size = size) (ho : olds.length = n * size) (hV : Vs.length = m * size) (hk : n + m ≤ k) :
    (olds.toArray ++ Vs.toArray ++ Builtin.zeroCells z (k - (n + m))).size = k * size ∧ (∀ q, q < (olds ++ Vs).length → (olds.toArray ++ Vs.toArray ++ Builtin.zeroCells z (k - (n + m)))[q]? = (olds ++ Vs)[q]?) := by
  refine ⟨?_, fun q hq => ?_⟩
  · simp only [Array.size_append, List.size_toArray, size_zeroCells, hz, ho, hV, ← Nat.add_mul]
    congr 1; omega
  · rw [Array.getElem?_append_left (by simpa using hq)]
    simp

theorem tight {z : Bool} {kk : Nat} {els : List (List SV)} {S : Value} (h : VS Γ.St w (.sl z true kk els) S) : ∃ A, S = .slice A els.length els.length ∧ (z = true → A = none ∧ els = []) ∧ (z = false → A ≠ none) ∧ ∀ i (h : i < els.length), (els[i]).length = kk := by
  cases h with
  | nil => exact ⟨none, rfl, fun _ => ⟨rfl, rfl⟩, by simp, fun i h => by simp at h⟩
  | emp _ _ a cap ht hm =>
    have := ht rfl
    subst this
    exact ⟨some a, rfl, by simp, by simp, fun i h => by simp at h⟩
  | sl _ _ g off n cap sz Vs hn hcap hm ht hg hl hc hv =>
    subst hn
    have := ht rfl
    subst this
    exact ⟨_, rfl, by simp, by simp, hl⟩

/-- APPENDS TO WHAT IS NOT THE CALL's OWN. -/
theorem append_new {t u ty e : Nat} {z : Bool} {els news : List (List SV)} {S X : Value} {A : Option Addr} {sl : List PV} {tmps : Array Value} (hH : HR Γ H w) (ht : C.P.underlying t = some (.slice e)) (hu : isRow (C.sh u) = true) (hok : (C.ti e).ok = true)
    (hS : S = .slice A els.length els.length) (hSl : SlV Γ w S els) (hz : z = true → A = none ∧ els = []) (hlens : ∀ i (h : i < els.length), (els[i]).length = (C.ti e).ks.length) {Vs : List Value} (hX : SrcV C.P Γ w (C.ti e).ks.length X news Vs)
    (hne : z = true ∨ news ≠ []) (hr : els.length + news.length ≤ 68719476736) :
    WV C Γ H w sl tmps (Builtin.append_ #[t, u] ty #[S, X]) (.fl H.length) sl (H ++ [.arr z e (C.ti e).ks.length (els ++ news)]) := by
  obtain ⟨ud, hu1, hu2⟩ := isRow_notInt hu
  obtain ⟨ie, dd, zv, hi, hd, hzv, hsz1, hby, hpos, hks, hagg, hlen⟩ := ti_spec hok
  subst hS
  by_cases hn : news = []
  · subst hn
    rcases hne with h | h
    · obtain ⟨rfl, rfl⟩ := hz h
      subst h
      have hrun := run_append_room_gen (P := C.P) (w := w) (ty := ty) (n := 0) (cap := 0) (base := none) ht hu1 hu2 hi (by rw [hlen]; exact hX) (Nat.le_refl _) (w' := w) rfl
      exact ⟨_, w, Γ, hrun, nil_Stp hH, nil_HR hH rfl (.inl ⟨rfl, rfl⟩), SR.grow (nil_mono _ hH), .flv _ e (C.ti e).ks.length (by rw [shpOf_append_eq]; rfl), by simp [PV.nms]⟩
    · exact absurd rfl h
  · have hm : 0 < news.length := List.length_pos_iff.2 hn
    obtain ⟨olds, hO⟩ := SrcV.slice (P := C.P) hSl hlens
    have hot : olds.take (els.length * (C.ti e).ks.length) = olds := List.take_of_length_le (by rw [hO.size]; exact Nat.le_refl _)
    have hrun := run_append_grow_gen (P := C.P) (w := w) (ty := ty) (olds := olds) ht hu1 hu2 hi hzv (by rw [hlen]; exact hX) (fun w' hw => by have := hO.first els.length (Nat.le_refl _) w' hw; rw [hot] at this; rw [hlen]; exact this) (by omega) (by simp only [maxLen]; omega) (append_fits hr hby)
    obtain ⟨hge, hle⟩ := grown_facts (w := w) (need := els.length + news.length) (cap := els.length) (e := e) hr
    generalize grownCap w (els.length + news.length) els.length e = kc at hrun hge hle
    obtain ⟨r1, r2⟩ := grown_row (z := zv.cells) (by rw [← hsz1, hlen]) hO.size hX.size hge
    generalize hrow : olds.toArray ++ Vs.toArray ++ Builtin.zeroCells zv.cells (kc - (els.length + news.length)) = row at hrun r1 r2
    have hwh : (w.drew.alloc (.cells row e)).heap = w.heap.push (.cells row e) := rfl
    have hE := (hO.toEls.append hX.toEls).mono (w' := w.drew.alloc (.cells row e)) (fun g hg => heap_push_lt hwh (hH.stlt g hg)) (fun _ h => h)
    have hne' : ¬ (z = true ∧ els ++ news = []) := by rintro ⟨_, h⟩; simp at h; exact hn h.2
    have hsize : (olds ++ Vs).length ≤ row.size := by
      rw [r1, List.length_append, hO.size, hX.size, ← Nat.add_mul]
      exact Nat.mul_le_mul_right _ hge
    refine alloc_WV hH hrun hwh rfl rfl rfl (BR.els (g := w.heap.size) (cur := row) (by simp [Ctx.upd]) (heap_push_eq hwh) hE hne' r2 hsize) (by simp [Blk.nms]) ?_ (by simp [PV.nms])
    refine .fl H.length w.heap.size z e (C.ti e).ks.length (els.length + news.length) kc ?_ (fun _ => by omega) (by simp [Ctx.upd]) hge hle ?_
    · rw [shpOf_append_eq]; simp [Blk.shp]
    · simp only [World.shape?, heap_push_eq hwh, r1]

/-- APPENDS TO A ROW OF THE CALL's OWN. -/
theorem append_own {t u ty e b e' sz : Nat} {v : Bool} {els news : List (List SV)} {S X : Value} {sl : List PV} {tmps : Array Value} (hH : HR Γ H w) (ht : C.P.underlying t = some (.slice e)) (hu : isRow (C.sh u) = true) (hok : (C.ti e).ok = true) (hb : H[b]? = some (.arr v e' sz els)) (hnf : fixedT C e' = false)
    (hc : (v = true ∧ els = []) ∨ (e' = e ∧ sz = (C.ti e).ks.length)) (hS : VP Γ (shpOf H) w (.fl b) S) {Vs : List Value} (hX : SrcV C.P Γ w (C.ti e).ks.length X news Vs) (hr : els.length + news.length ≤ 68719476736) :
    WV C Γ H w sl tmps (Builtin.append_ #[t, u] ty #[S, X]) (.fl b) (killL b sl) ((H.map (Blk.kill b)).set b (.arr v e (C.ti e).ks.length (els ++ news))) := by
  obtain ⟨ud, hu1, hu2⟩ := isRow_notInt hu
  obtain ⟨ie, dd, zv, hi, hd, hzv, hsz1, hby, hpos, hks, hagg, hlen⟩ := ti_spec hok
  have hblt := (List.getElem?_eq_some_iff.1 hb).1
  have hnf' : ¬ fixS C (shpOf H b) := by
    simp only [shpOf, hb, Option.map_some, Blk.shp, fixS, hnf]
    simp
  have hbn : b < ((H.map (Blk.kill b)).set b (.arr v e (C.ti e).ks.length (els ++ news))).length := by simpa using hblt
  -- a new place
  have grow : ∀ (base : Option Addr) (cap : Nat), S = .slice base els.length cap → cap < els.length + news.length → SlV Γ w S els → (∀ i (h : i < els.length), (els[i]).length = (C.ti e).ks.length) →
      WV C Γ H w sl tmps (Builtin.append_ #[t, u] ty #[S, X]) (.fl b) (killL b sl) ((H.map (Blk.kill b)).set b (.arr v e (C.ti e).ks.length (els ++ news))) := by
    intro base cap hSe hcap hSl hlens
    subst hSe
    obtain ⟨olds, hO⟩ := SrcV.slice (P := C.P) hSl hlens
    have hot : olds.take (els.length * (C.ti e).ks.length) = olds := List.take_of_length_le (by rw [hO.size]; exact Nat.le_refl _)
    have hrun := run_append_grow_gen (P := C.P) (w := w) (ty := ty) (olds := olds) ht hu1 hu2 hi hzv (by rw [hlen]; exact hX) (fun w' hw => by have := hO.first els.length (Nat.le_refl _) w' hw; rw [hot] at this; rw [hlen]; exact this) hcap (by simp only [maxLen]; omega) (append_fits hr hby)
    obtain ⟨hge, hle⟩ := grown_facts (w := w) (need := els.length + news.length) (cap := cap) (e := e) hr
    generalize grownCap w (els.length + news.length) cap e = kc at hrun hge hle
    obtain ⟨r1, r2⟩ := grown_row (z := zv.cells) (by rw [← hsz1, hlen]) hO.size hX.size hge
    generalize hrow : olds.toArray ++ Vs.toArray ++ Builtin.zeroCells zv.cells (kc - (els.length + news.length)) = row at hrun r1 r2
    have hwh : (w.drew.alloc (.cells row e)).heap = w.heap.push (.cells row e) := rfl
    have hstw : ∀ g, Γ.St g → (w.drew.alloc (.cells row e)).heap[g]? = w.heap[g]? := fun g hg => heap_push_lt hwh (hH.stlt g hg)
    have hE := (hO.toEls.append hX.toEls).mono (w' := w.drew.alloc (.cells row e)) hstw (fun _ h => h)
    have hcl : 0 < els.length + news.length := by omega
    have hne' : ¬ (v = true ∧ els ++ news = []) := by rintro ⟨_, h⟩; have := congrArg List.length h; simp at this; simp [this] at hcl
    have hsize : (olds ++ Vs).length ≤ row.size := by
      rw [r1, List.length_append, hO.size, hX.size, ← Nat.add_mul]
      exact Nat.mul_le_mul_right _ hge
    have hng : (Γ.re b (some w.heap.size)).nm b = some w.heap.size := by simp [Ctx.re]
    obtain ⟨s1, s2, s3⟩ := rebind (C := C) (y := .arr v e (C.ti e).ks.length (els ++ news)) (ng := some w.heap.size) (w' := w.drew.alloc (.cells row e)) hH hblt hnf' (fun g hg => by
        simp only [Option.some.injEq] at hg; subst hg
        refine ⟨by rw [hwh]; simp, fun hs => Nat.lt_irrefl _ (hH.stlt _ hs), fun c _ hc => Nat.lt_irrefl _ (hH.lt c _ hc).2.1⟩)
      (fun g hg => by simp only [Option.some.injEq] at hg; subst hg; exact .inr (Nat.le_refl _)) (fun k hk _ => heap_push_lt hwh hk) (by rw [hwh]; simp) rfl rfl rfl
      (BR.els (g := w.heap.size) (cur := row) hng (heap_push_eq hwh) hE hne' r2 hsize) rfl
    refine ⟨_, _, _, hrun, s1, s2, s3 sl tmps, ?_, by simpa [PV.nms] using hblt⟩
    refine .fl b w.heap.size v e (C.ti e).ks.length (els.length + news.length) kc ?_ (fun _ => by omega) hng hge hle ?_
    · rw [shpOf_re hblt, if_pos rfl]; simp [Blk.shp]
    · simp only [World.shape?, heap_push_eq hwh, r1]
  cases hS with
  | flv _ e2 sz2 h' =>
    obtain ⟨rfl, _, _, h4⟩ := shp_arr hb h'
    obtain rfl := List.length_eq_zero_iff.1 h4
    by_cases hn : news = []
    · subst hn
      have hrun := run_append_room_gen (P := C.P) (w := w) (ty := ty) (n := 0) (cap := 0) (base := none) ht hu1 hu2 hi (by rw [hlen]; exact hX) (Nat.le_refl _) (w' := w) rfl
      obtain ⟨s1, s2, s3⟩ := rebind (C := C) (y := .arr true e (C.ti e).ks.length ([] ++ [])) (ng := Γ.nm b) (w' := w) hH hblt hnf' (fun g hg => ⟨(hH.lt b g hg).2.1, (hH.lt b g hg).2.2, fun c hc hc2 => hc (hH.inj c b g hc2 hg)⟩)
        (fun g hg => .inl hg) (fun _ _ _ => rfl) (Nat.le_refl _) rfl rfl rfl (.inl ⟨rfl, rfl⟩) rfl
      exact ⟨_, _, _, hrun, s1, s2, s3 sl tmps, .flv b e (C.ti e).ks.length (by rw [shpOf_re hblt, if_pos rfl]; rfl), by simpa [PV.nms] using hblt⟩
    · have hm : 0 < news.length := List.length_pos_iff.2 hn
      refine grow none 0 rfl (by simpa using hm) ⟨none, 0, rfl, Nat.le_refl _, Nat.zero_le _, fun _ => rfl, fun h => absurd rfl h⟩ (fun i h => by simp at h)
  | fl _ g v' e2 sz2 n' cap h' hv hg hcap hm hs =>
    have hSl := slV_els (C := C) hH (VP.fl b g v' e2 sz2 n' cap h' hv hg hcap hm hs) (show elsOf H (.fl b) = some els by simp only [elsOf, hb])
    obtain ⟨rfl, rfl, rfl, rfl⟩ := shp_arr hb h'
    have hne : ¬ (v = true ∧ els = []) := by rintro ⟨q1, q2⟩; exact hv q1 (by rw [q2]; rfl)
    rcases hc with hc | ⟨rfl, rfl⟩
    · exact absurd hc hne
    · obtain ⟨g', cur, hg', hh, hsize, hlens, hels⟩ := hH.arr' hb hne
      rw [hg] at hg'; cases hg'
      by_cases hroom : els.length + news.length ≤ cap
      · have hcs : cur.size = cap * (C.ti e').ks.length := by
          have := hs
          simp only [World.shape?, hh, Option.some.injEq, Prod.mk.injEq, true_and] at this
          exact this
        have hin : els.length * (C.ti e').ks.length + Vs.length ≤ cur.size := by
          rw [hX.size, hcs, ← Nat.add_mul]
          exact Nat.mul_le_mul_right _ hroom
        obtain ⟨w', r1, r2, r3, r4, r5, r6, r7, r8⟩ := run_storeCells_put (P := C.P) (o := els.length * (C.ti e').ks.length) hh hin hX.one
        have hrun := run_append_room_gen (P := C.P) (w := w) (ty := ty) (n := els.length) (cap := cap) (base := some ⟨g, 0, none⟩) ht hu1 hu2 hi (by rw [hlen]; exact hX) hroom (w' := w') (by simp only; rw [addr_add, hlen, Nat.zero_add]; exact r1)
        have hstw : ∀ k, Γ.St k → w'.heap[k]? = w.heap[k]? := fun k hk => r3 k (fun e => (hH.lt b g hg).2.2 (e ▸ hk))
        have hO : Els Γ.St w (C.ti e').ks.length els (cur.toList.take (els.length * (C.ti e').ks.length)) := by
          refine ⟨by simp; omega, fun i hi => ⟨hlens i hi, fun j hj => ?_⟩⟩
          obtain ⟨U, e1, k⟩ := hels i hi j hj
          refine ⟨U, ?_, k⟩
          have hj' : j < (C.ti e').ks.length := by rw [← hlens i hi]; exact hj
          have : (i + 1) * (C.ti e').ks.length ≤ els.length * (C.ti e').ks.length := Nat.mul_le_mul_right _ hi
          rw [Nat.add_mul] at this
          rw [List.getElem?_take, if_pos (by omega)]
          simpa using e1
        have hE := (hO.append hX.toEls).mono (w' := w') hstw (fun _ h => h)
        have hne' : ¬ (v = true ∧ els ++ news = []) := by rintro ⟨h1, h⟩; simp at h; exact hne ⟨h1, h.1⟩
        have hng : (Γ.re b (some g)).nm b = some g := by simp [Ctx.re]
        have hol : (cur.toList.take (els.length * (C.ti e').ks.length)).length = els.length * (C.ti e').ks.length := hO.1
        obtain ⟨s1, s2, s3⟩ := rebind (C := C) (y := .arr v e' (C.ti e').ks.length (els ++ news)) (ng := some g) (w' := w') hH hblt hnf' (fun k hk => by
            simp only [Option.some.injEq] at hk; subst hk
            refine ⟨by have := (hH.lt b g hg).2.1; omega, (hH.lt b g hg).2.2, fun c hc hc2 => hc (hH.inj c b g hc2 hg)⟩)
          (fun k hk => by simp only [Option.some.injEq] at hk; subst hk; exact .inl hg) (fun k hk hk2 => r3 k (fun e => hk2 (e ▸ hg))) (by omega) r5 r6 r7
          (BR.els hng r2 hE hne' (fun q hq => by
            rw [List.length_append, hol] at hq
            simp only [List.getElem?_toArray]
            rw [putAt_get _ _ _ (by simpa using hin)]
            by_cases hq2 : q < els.length * (C.ti e').ks.length
            · rw [if_neg (by omega), List.getElem?_append_left (by omega), List.getElem?_take, if_pos hq2]
            · rw [if_pos (by omega), List.getElem?_append_right (by omega), hol]) (by rw [List.length_append, hol]; simpa [putAt_length] using hin)) rfl
        refine ⟨_, _, _, hrun, s1, s2, s3 sl tmps, ?_, by simpa [PV.nms] using hblt⟩
        refine .fl b g v e' (C.ti e').ks.length (els.length + news.length) cap ?_ (fun hv' => ?_) hng hroom hm ?_
        · rw [shpOf_re hblt, if_pos rfl]; simp [Blk.shp]
        · have := hv hv'; omega
        · rw [r8]; exact hs
      · exact grow _ cap rfl (by omega) hSl hlens

/-- APPEND. -/
theorem appendK_sound {t u ty : Nat} {sl : List PV} {s x : PV} {S X : Value} {k : PV → List PV → List Blk → Option R} {tmps : Array Value} (hH : HR Γ H w) (hu : isRow (C.sh u) = true) (h : appendK C t sl s x H k = some r) (hs : VP Γ (shpOf H) w s S) (hx : VP Γ (shpOf H) w x X) :
    ∃ v sl' H', k v sl' H' = some r ∧ WV C Γ H w sl tmps (Builtin.append_ #[t, u] ty #[S, X]) v sl' H' := by
  unfold appendK at h
  split at h
  · rename_i e hsh
    have ht := sh_slice hsh
    split at h
    · rename_i hok
      simp only [Bool.and_eq_true] at hok
      obtain ⟨hok, hsrc⟩ := hok
      split at h
      · rename_i news hnews
        obtain ⟨Vs, hX⟩ := src_sound (C := C) hH hx hsrc hnews
        split at h
        · obtain ⟨h1, h2⟩ := need_some h
          simp only [roomy, decide_eq_true_eq] at h1
          obtain rfl := hs.inv_nsl
          have := append_new (C := C) (t := t) (u := u) (ty := ty) (z := true) (els := []) (A := none) (sl := sl) (tmps := tmps) hH ht hu hok rfl ⟨none, 0, rfl, Nat.le_refl _, Nat.zero_le _, fun _ => rfl, fun h => absurd rfl h⟩ (fun _ => ⟨rfl, rfl⟩) (fun i h => by simp at h) hX (.inl rfl) (by simpa using h1)
          exact ⟨_, _, _, h2, this⟩
        · rename_i z kk els
          split at h
          · rename_i hkk
            subst hkk
            obtain ⟨h1, h2⟩ := need_some h
            simp only [roomy, Bool.and_eq_true, Bool.or_eq_true, decide_eq_true_eq, Bool.not_eq_true', List.isEmpty_eq_false_iff] at h1
            obtain ⟨A, rfl, hz, _, hlens⟩ := tight hs.inv_s
            have hSl := slV_els (C := C) hH hs (show elsOf H (.s (.sl z true (C.ti e).ks.length els)) = some els from rfl)
            exact ⟨_, _, _, h2, append_new (C := C) hH ht hu hok rfl hSl hz hlens hX h1.1 h1.2⟩
          · cases h
        · rename_i b
          split at h
          · rename_i v e' sz els hb
            split at h
            · rename_i hc
              simp only [Bool.and_eq_true, Bool.not_eq_true', Bool.or_eq_true, decide_eq_true_eq, List.isEmpty_iff] at hc
              obtain ⟨h1, h2⟩ := need_some h
              simp only [roomy, decide_eq_true_eq] at h1
              exact ⟨_, _, _, h2, append_own (C := C) hH ht hu hok hb hc.1 hc.2.symm hs hX h1⟩
            · cases h
          · cases h
        · cases h
      · cases h
    · cases h
  · cases h

end
end Go.Proofs.Ytfioahjeanmfpaa.E
