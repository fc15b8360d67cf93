/-
  Slices, conversions, composite values: what the evaluator says of them is what the model does.
-/
import Derived.Test.YtfioahjeanmfpaaE8
import Derived.Lib.Strings
namespace Go.Proofs.Ytfioahjeanmfpaa.E
open Go
set_option linter.unusedVariables false

section
variable {Γ : Ctx} {H : List Blk} {w : World} {R : Type} {r : R}

/-- A bound of a slice expression. -/
def BV (d : Nat) (n : Nat) : Option Value → Prop
  | none => n = d
  | some v => ∃ k, v = .int k n

theorem BV.none (d : Nat) : BV d d none := rfl

theorem run_bounds {P : Program} {isSlice : Bool} {len cap l h m : Nat} {lo hi mx : Option Value} (hl : BV 0 l lo) (hh : BV len h hi) (hm : BV cap m mx) (hmx : mx.isSome = true → hi.isSome = true) (h1 : l ≤ h) (h2 : h ≤ m) (h3 : m ≤ cap) (w' : World) :
    (Instr.sliceBounds isSlice len cap lo hi mx).run P w' = .ok (l, h, m) w' := by
  cases lo <;> cases hi <;> cases mx <;> simp only [BV] at hl hh hm <;> simp at hmx <;>
    (try (obtain ⟨kl, rfl⟩ := hl)) <;> (try (obtain ⟨kh, rfl⟩ := hh)) <;> (try (obtain ⟨km, rfl⟩ := hm)) <;> (try subst hl) <;> (try subst hh) <;> (try subst hm) <;>
    simp [Instr.sliceBounds, run_sliceBound_if, Int.ofNat_le, h1, h2, h3]

/-- An optional operand and its value. -/
def OV (Γ : Ctx) (sh : Nat → Option Shp) (w : World) (p : Option PV) (V : Option Value) : Prop :=
  match p, V with
  | none, none => True
  | some p, some V => VP Γ sh w p V
  | _, _ => False

theorem boundP_BV {sh : Nat → Option Shp} {d : Nat} {p : Option PV} {V : Option Value} {n : Int} (hp : boundP d p = some n) (hv : OV Γ sh w p V) (h0 : 0 ≤ n) : BV d n.toNat V := by
  unfold boundP at hp
  split at hp
  · simp only [Option.some.injEq] at hp; subst hp
    cases V with
    | none => simp [BV]
    | some V => exact hv.elim
  · simp only [Option.some.injEq] at hp; subst hp
    cases V with
    | none => exact hv.elim
    | some V =>
      rename_i kd n'
      have hv' : VP Γ sh w (.s (.int kd n')) V := hv
      obtain rfl := hv'.inv_int
      exact ⟨kd, by simp [Int.toNat_of_nonneg h0]⟩
  · cases hp

theorem run_slice_gen {P : Program} {t e : Nat} {i : TypeInfo} {a : Option Addr} {len cap l h m : Nat} {lo hi mx : Option Value} (hu : P.underlying t = some (.slice e)) (hi' : P.info? e = some i)
    (hl : BV 0 l lo) (hh : BV len h hi) (hm : BV cap m mx) (hmx : mx.isSome = true → hi.isSome = true) (h1 : l ≤ h) (h2 : h ≤ m) (h3 : m ≤ cap) (w' : World) :
    (Instr.sliceAt t (.slice a len cap) lo hi mx).run P w' = .ok (.slice (if m = l then a else a.map (·.add (l * i.size))) (h - l) (m - l)) w' := by
  simp only [Instr.sliceAt, Instr.slice, Sem.run_bind, run_underlying hu, Result.andThen_ok, run_bounds hl hh hm hmx h1 h2 h3, sizeOf, typeInfo, run_program, hi', Sem.run_pure]

theorem run_slice_str {P : Program} {t : Nat} {s : ByteArray} {l h : Nat} {lo hi : Option Value} (hu : P.underlying t = some .string)
    (hl : BV 0 l lo) (hh : BV s.size h hi) (h1 : l ≤ h) (h2 : h ≤ s.size) (w' : World) :
    (Instr.sliceAt t (.string s) lo hi none).run P w' = .ok (.string (s.extract l h)) w' := by
  have hb := run_bounds (P := P) (isSlice := false) (mx := none) (m := s.size) (cap := s.size) hl hh rfl (by simp) h1 h2 (Nat.le_refl _) w'
  simp [Instr.sliceAt, Instr.slice, run_underlying hu, hb]

theorem extract_list (s : ByteArray) (a b : Nat) : (s.extract a b).data.toList = (s.data.toList.take b).drop a := by
  rw [Lib.extract_data, List.drop_take]


theorem OV.none {sh : Nat → Option Shp} {V : Option Value} (h : OV Γ sh w none V) : V = none := by
  cases V with
  | none => rfl
  | some V => exact h.elim

theorem OV.int {sh : Nat → Option Shp} {V : Option Value} {kd : IntKind} {n : Int} (h : OV Γ sh w (some (.s (.int kd n))) V) : V = some (.int kd n) := by
  cases V with
  | none => exact h.elim
  | some V =>
    have hv' : VP Γ sh w (.s (.int kd n)) V := h
    rw [hv'.inv_int]

theorem OV.isSome {sh : Nat → Option Shp} {p : Option PV} {V : Option Value} (h : OV Γ sh w p V) : V.isSome = p.isSome := by
  cases p <;> cases V <;> first | rfl | exact h.elim

theorem drop_take_elem {α : Type} {l : List α} {a b : Nat} (h : a ≤ b) (hb : b ≤ l.length) : ((l.take b).drop a).length = b - a ∧ ∀ i (hi : i < ((l.take b).drop a).length), ∃ h' : a + i < l.length, ((l.take b).drop a)[i] = l[a + i] := by
  have hl : ((l.take b).drop a).length = b - a := by simp; omega
  refine ⟨hl, fun i hi => ⟨by omega, by simp⟩⟩

/-- A part of stable elements. -/
theorem VS.slice {St : Nat → Prop} {z t : Bool} {kk : Nat} {els : List (List SV)} {A : Option Addr} {len cap : Nat} (hs : VS St w (.sl z t kk els) (.slice A len cap)) {l h m : Nat} (h1 : l ≤ h) (h2 : h ≤ len) (hm1 : h ≤ m) (hm2 : m ≤ cap) {t' : Bool} (ht' : t' = true → m = h ∨ cap = 0) {size : Nat} (hsz : size = kk ∨ z = true) :
    len = els.length ∧ VS St w (.sl z t' kk ((els.take h).drop l)) (.slice (if m = l then A else A.map (·.add (l * size))) (h - l) (m - l)) := by
  cases hs with
  | nil =>
    refine ⟨rfl, ?_⟩
    have : h = 0 := by omega
    have : m = 0 := by omega
    subst h m
    have : l = 0 := by omega
    subst l
    simpa using VS.nil t' kk
  | emp _ _ a _ ht hmx =>
    refine ⟨rfl, ?_⟩
    have : h = 0 := by omega
    subst h
    have : l = 0 := by omega
    subst l
    have := VS.emp (St := St) (w := w) t' kk (if m = 0 then a else a.add (0 * size)) m (fun e => by rcases ht' e with h | h <;> omega) (by omega)
    split at this
    · rename_i e; simpa [e] using this
    · rename_i e; simpa [e] using this
  | sl _ _ g off n _ _ Vs hn hcap hm ht hg hl hc hv =>
    refine ⟨hn, ?_⟩
    obtain ⟨e1, e2⟩ := drop_take_elem (l := els) h1 (by omega)
    have hsz' : size = kk := by rcases hsz with h | h <;> first | exact h | cases h
    subst hsz'
    by_cases he : h = l
    · subst he
      have e3 : (els.take h).drop h = [] := by simp
      rw [e3, Nat.sub_self]
      by_cases hml : m = h
      · rw [if_pos hml]
        exact .emp t' _ _ _ (fun _ => by omega) (by omega)
      · rw [if_neg hml]
        exact .emp t' _ _ _ (fun e => by rcases ht' e with h | h <;> omega) (by omega)
    · have hml : ¬ m = l := by omega
      rw [if_neg hml]
      simp only [Option.map_some]
      rw [addr_add]
      refine .sl t' _ g (off + l * size) (h - l) (m - l) size (fun i j => Vs (l + i) j) (by omega) (by omega) (by omega) (fun e => by rcases ht' e with h | h <;> omega) hg (fun i hi => ?_) (fun i hi j hj => ?_) (fun i hi j hj => ?_)
      · obtain ⟨h', e⟩ := e2 i hi
        rw [e]; exact hl _ h'
      · obtain ⟨h', e⟩ := e2 i hi
        rw [show off + l * size + i * size + j = off + (l + i) * size + j by rw [Nat.add_mul]; omega]
        exact hc _ h' j (by rw [← e]; exact hj)
      · obtain ⟨h', e⟩ := e2 i hi
        simp only [e]
        exact hv _ h' j (by rw [← e]; exact hj)

theorem str_len (s : ByteArray) : s.data.toList.length = s.size := by rw [Array.length_toList]; rfl

theorem sliceK_sound {C : Cfg} {t : Nat} {x : PV} {X : Value} {lo hi mx : Option PV} {LO HI MX : Option Value} {k : PV → Option R} (hH : HR Γ H w) (h : sliceK C t x lo hi mx H k = some r) (hx : VP Γ (shpOf H) w x X) (hxn : ∀ c ∈ x.nms, c < H.length)
    (hlo : OV Γ (shpOf H) w lo LO) (hhi : OV Γ (shpOf H) w hi HI) (hmx : OV Γ (shpOf H) w mx MX) (hm : mx.isSome = true → hi.isSome = true) : ∃ v, k v = some r ∧ QV C.P Γ H w (Instr.sliceAt t X LO HI MX) v := by
  unfold sliceK at h
  split at h
  · rename_i hso
    split at h
    · cases h
    · rename_i len hlen
      split at h
      · rename_i l0 h0 hl hh
        split at h
        · obtain ⟨h1, h2⟩ := need_some h
          simp only [Bool.and_eq_true, decide_eq_true_eq] at h1
          obtain rfl := hmx.none
          have bl := boundP_BV hl hlo (by omega)
          have bh := boundP_BV hh hhi (by omega)
          split at h2
          · rename_i s
            simp only [strideOk] at hso
            split at hso
            · rename_i hsh
              obtain ⟨s', rfl, rfl⟩ := hx.inv_str
              simp only [lenOfP, Option.some.injEq] at hlen
              subst hlen
              rw [str_len] at bh
              refine ⟨_, h2, .mk1 (by simp [PV.nms]) (.str (s'.extract l0.toNat h0.toNat) (extract_list _ _ _)) fun w' hw => ?_⟩
              rw [run_slice_str (sh_str hsh) bl bh (by omega) (by rw [← str_len]; omega)]
            · cases hso
          · rename_i z tt kk els
            simp only [strideOk] at hso
            split at hso
            · rename_i e hsh
              simp only [Bool.and_eq_true, decide_eq_true_eq] at hso
              obtain ⟨i, hi, hsz, hpos⟩ := ok_size hso.1
              simp only [lenOfP, Option.some.injEq] at hlen
              subst hlen
              have hs := hx.inv_s
              have key : ∃ A cap, X = .slice A els.length cap ∧ els.length ≤ cap ∧ (z = true → cap = 0) := by
                cases hs with
                | nil => exact ⟨_, _, rfl, Nat.le_refl _, fun _ => rfl⟩
                | emp => exact ⟨_, _, rfl, Nat.zero_le _, by simp⟩
                | sl _ _ g off n cap _ Vs hn hcap hm ht hg hl hc hv => subst hn; exact ⟨_, _, rfl, hcap, by simp⟩
              obtain ⟨A, cap, rfl, hcap, hz⟩ := key
              have := VS.slice hs (l := l0.toNat) (h := h0.toNat) (m := cap) (by omega) (by omega) (by omega) (Nat.le_refl _) (t' := z) (fun e => .inr (hz e)) (size := i.size) (.inl (by omega))
              refine ⟨_, h2, .mk1 (by simp [PV.nms]) (.s _ _ this.2) fun w' hw => ?_⟩
              rw [run_slice_gen (sh_slice hsh) hi bl bh (BV.none cap) (by simp) (by omega) (by omega) (Nat.le_refl _)]
            · cases hso
          · simp only [strideOk] at hso
            split at hso
            · rename_i e hsh
              obtain ⟨i, hi, hsz, hpos⟩ := ok_size hso
              obtain rfl := hx.inv_nsl
              simp only [lenOfP, Option.some.injEq] at hlen
              subst hlen
              refine ⟨_, h2, .mk1 (by simp [PV.nms]) .nsl fun w' hw => ?_⟩
              rw [run_slice_gen (sh_slice hsh) hi bl bh (m := 0) (cap := 0) (BV.none _) (by simp) (by omega) (by omega) (Nat.le_refl _)]
              simp; omega
            · cases hso
          · rename_i b
            simp only [strideOk] at hso
            split at hso
            · rename_i v e' sz els e hb hsh
              simp only [Bool.and_eq_true, decide_eq_true_eq] at hso
              obtain ⟨i, hi, hsz, hpos⟩ := ok_size hso.1
              simp only [lenOfP, hb, Option.some.injEq] at hlen
              subst hlen
              cases hx with
              | flv _ e2 sz2 h' =>
                obtain ⟨_, _, _, h4⟩ := shp_arr hb h'
                have hl0 : l0.toNat = 0 := by omega
                have hh0 : h0.toNat = 0 := by omega
                refine ⟨_, h2, .mk1 hxn (V := .slice none 0 0) ?_ fun w' hw => ?_⟩
                · rw [hl0, hh0]; exact .vwv b _ _ _ h'
                · rw [run_slice_gen (sh_slice hsh) hi bl (by rw [h4] at bh; exact bh) (m := 0) (cap := 0) (BV.none _) (by simp) (by omega) (by omega) (Nat.le_refl _)]
                  simp [hh0]
              | fl _ g v' e2 sz2 n' cap h' hv hg hcap hm hs =>
                obtain ⟨rfl, rfl, rfl, rfl⟩ := shp_arr hb h'
                refine ⟨_, h2, .mk1 hxn (V := .slice (some (if cap = l0.toNat then ⟨g, 0, none⟩ else (⟨g, 0, none⟩ : Addr).add (l0.toNat * i.size))) (h0.toNat - l0.toNat) (cap - l0.toNat)) ?_ fun w' hw => ?_⟩
                · refine .vw b _ _ g _ _ _ _ _ _ h' hv hg (fun hne => ?_) (by omega) (by omega) (by omega)
                  rw [if_neg (by omega), addr_add, hsz, hso.2, Nat.zero_add]
                · rw [run_slice_gen (sh_slice hsh) hi bl bh (m := cap) (BV.none _) (by simp) (by omega) (by omega) (Nat.le_refl _)]
                  congr 2
                  split <;> simp
            · cases hso
          · rename_i b o n
            simp only [strideOk] at hso
            split at hso
            · rename_i v e' sz els e hb hsh
              simp only [Bool.and_eq_true, decide_eq_true_eq] at hso
              obtain ⟨i, hi, hsz, hpos⟩ := ok_size hso.1
              simp only [lenOfP, Option.some.injEq] at hlen
              subst hlen
              cases hx with
              | vwv _ e2 sz2 _ h' =>
                obtain ⟨_, _, _, h4⟩ := shp_arr hb h'
                have hl0 : l0.toNat = 0 := by omega
                have hh0 : h0.toNat = 0 := by omega
                refine ⟨_, h2, .mk1 hxn (V := .slice none 0 0) ?_ fun w' hw => ?_⟩
                · rw [hl0, hh0]; exact .vwv b _ _ _ h'
                · rw [run_slice_gen (sh_slice hsh) hi bl bh (m := 0) (cap := 0) (BV.none _) (by simp) (by omega) (by omega) (Nat.le_refl _)]
                  simp [hh0]
              | vw _ _ _ g a cap v' e2 sz2 m h' hv hg ha hi' hcap hm =>
                obtain ⟨rfl, rfl, rfl, rfl⟩ := shp_arr hb h'
                refine ⟨_, h2, .mk1 hxn (V := .slice (some (if cap = l0.toNat then a else a.add (l0.toNat * i.size))) (h0.toNat - l0.toNat) (cap - l0.toNat)) ?_ fun w' hw => ?_⟩
                · refine .vw b _ _ g _ _ _ _ _ _ h' hv hg (fun hne => ?_) (by omega) (by omega) (by omega)
                  rw [if_neg (by omega), ha (by omega), addr_add, hsz, hso.2, Nat.add_mul]
                · rw [run_slice_gen (sh_slice hsh) hi bl bh (m := cap) (BV.none _) (by simp) (by omega) (by omega) (Nat.le_refl _)]
                  congr 2
                  split <;> simp
            · cases hso
          · cases h2
        · rename_i kd m
          obtain ⟨h1, h2⟩ := need_some h
          simp only [Bool.and_eq_true, decide_eq_true_eq] at h1
          obtain rfl := hmx.int
          have hMX : HI.isSome = true := by rw [hhi.isSome]; exact hm rfl
          have bl := boundP_BV hl hlo (by omega)
          have bh := boundP_BV hh hhi (by omega)
          have bm : ∀ d, BV d m.toNat (some (.int kd m)) := fun d => ⟨kd, by rw [Int.toNat_of_nonneg (by omega)]⟩
          split at h2
          · rename_i z tt kk els
            simp only [strideOk] at hso
            split at hso
            · rename_i e hsh
              simp only [Bool.and_eq_true, decide_eq_true_eq] at hso
              obtain ⟨i, hi, hsz, hpos⟩ := ok_size hso.1
              simp only [lenOfP, Option.some.injEq] at hlen
              subst hlen
              have hs := hx.inv_s
              have key : ∃ A cap, X = .slice A els.length cap ∧ els.length ≤ cap := by
                cases hs with
                | nil => exact ⟨_, _, rfl, Nat.le_refl _⟩
                | emp => exact ⟨_, _, rfl, Nat.zero_le _⟩
                | sl _ _ g off n cap _ Vs hn hcap hm ht hg hl hc hv => subst hn; exact ⟨_, _, rfl, hcap⟩
              obtain ⟨A, cap, rfl, hcap⟩ := key
              have := VS.slice hs (l := l0.toNat) (h := h0.toNat) (m := m.toNat) (by omega) (by omega) (by omega) (by omega) (t' := true) (fun e => .inl (by omega)) (size := i.size) (.inl (by omega))
              refine ⟨_, h2, .mk1 (by simp [PV.nms]) (.s _ _ this.2) fun w' hw => ?_⟩
              rw [run_slice_gen (sh_slice hsh) hi bl bh (bm _) (fun _ => hMX) (by omega) (by omega) (by omega)]
            · cases hso
          · simp only [strideOk] at hso
            split at hso
            · rename_i e hsh
              obtain ⟨i, hi, hsz, hpos⟩ := ok_size hso
              obtain rfl := hx.inv_nsl
              simp only [lenOfP, Option.some.injEq] at hlen
              subst hlen
              refine ⟨_, h2, .mk1 (by simp [PV.nms]) .nsl fun w' hw => ?_⟩
              rw [run_slice_gen (sh_slice hsh) hi bl bh (bm _) (fun _ => hMX) (by omega) (by omega) (by omega)]
              have hh0 : h0.toNat = 0 := by omega
              have hm0 : m.toNat = 0 := by omega
              simp [hh0, hm0]
            · cases hso
          · cases h2
        · cases h
      · cases h
  · cases h

/-- A slice of an array. -/
theorem sliceArrK_sound {C : Cfg} {t e b n : Nat} {v : Bool} {e' sz : Nat} {els : List (List SV)} {X : Value} {lo hi mx : Option PV} {LO HI MX : Option Value} {k : PV → Option R} (hH : HR Γ H w) (h : sliceArrK b n lo hi mx k = some r)
    (hsh : C.sh t = .array n e) (hok : (C.ti e).ok = true) (hks : (C.ti e).ks.length = sz) (hb : H[b]? = some (.arr v e' sz els)) (hn : els.length = n) (hn0 : n ≠ 0) (hnm : n ≤ maxLen) (hx : VP Γ (shpOf H) w (.ptr b 0 0) X)
    (hlo : OV Γ (shpOf H) w lo LO) (hhi : OV Γ (shpOf H) w hi HI) (hmx : OV Γ (shpOf H) w mx MX) : ∃ v, k v = some r ∧ QV C.P Γ H w (Instr.sliceAt t X LO HI MX) v := by
  unfold sliceArrK at h
  split at h
  · rename_i l0 h0 hl hh
    obtain ⟨h1, h2⟩ := need_some h
    simp only [Bool.and_eq_true, decide_eq_true_eq] at h1
    obtain rfl := hmx.none
    have bl := boundP_BV hl hlo (by omega)
    have bh := boundP_BV hh hhi (by omega)
    obtain ⟨i, hi, hsz, hpos⟩ := ok_size hok
    rcases ptr_shape hx with ⟨g, v', e2, sz', els', hb', hg, rfl⟩ | ⟨g, cells, _, hb', hg, rfl⟩
    · rw [hb] at hb'
      simp only [Option.some.injEq, Blk.arr.injEq] at hb'
      obtain ⟨rfl, rfl, rfl, rfl⟩ := hb'
      refine ⟨_, h2, .mk1 (by simp [PV.nms]; exact (List.getElem?_eq_some_iff.1 hb).1) (V := .slice (some (if n = l0.toNat then ⟨g, 0, none⟩ else (⟨g, 0, none⟩ : Addr).add (l0.toNat * i.size))) (h0.toNat - l0.toNat) (n - l0.toNat)) ?_ fun w' hw => ?_⟩
      · refine .vw b _ _ g _ _ v e' sz els.length (by simp [shpOf, hb, Blk.shp]) (fun _ => by omega) hg (fun hne => ?_) (by omega) (by omega) (by omega)
        rw [if_neg (by omega), addr_add, hsz, hks, Nat.zero_add]
      · simp only [Instr.sliceAt, Sem.run_bind, run_underlying (sh_array hsh), Result.andThen_ok, Instr.sureAddr, Sem.run_pure]
        rw [run_bounds bl bh (m := n) (BV.none _) (by simp) (by omega) (by omega) (Nat.le_refl _)]
        simp [sizeOf, typeInfo, hi]
    · rw [hb] at hb'
      cases hb'
  · cases h

end
end Go.Proofs.Ytfioahjeanmfpaa.E
