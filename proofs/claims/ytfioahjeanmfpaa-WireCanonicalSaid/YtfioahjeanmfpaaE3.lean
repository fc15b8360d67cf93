/-
  What it means that a pure value stands for a value of the model in a world; what keeps it so.
-/
import Derived.Test.YtfioahjeanmfpaaE2
import Derived.WalkKit
namespace Go.Proofs.Ytfioahjeanmfpaa.E
open Go
set_option linter.unusedVariables false

structure Ctx where
  St : Nat → Prop
  nm : Nat → Option Nat
  yv : Value
  yv1 : yv.oneCell' = true

inductive Shp where
  | arr (v : Bool) (e sz n : Nat)
  | box
  | iter
  | dead

def Blk.shp : Blk → Shp
  | .arr v e sz els => .arr v e sz els.length
  | .box _ => .box
  | .iter _ _ => .iter
  | .dead => .dead

def shpOf (H : List Blk) (b : Nat) : Option Shp := (H[b]?).map Blk.shp

/-- A stable value stands for a value: what it refers to lies in blocks of 'St'. -/
inductive VS (St : Nat → Prop) (w : World) : SV → Value → Prop
  | bool (b : Bool) : VS St w (.bool b) (.bool b)
  | int (k : IntKind) (n : Int) : VS St w (.int k n) (.int k n)
  | str (s : ByteArray) : VS St w (.str s.data.toList) (.string s)
  | nilp : VS St w .nilp (.pointer none)
  | nilm : VS St w .nilm (.map none)
  | nilf : VS St w .nilf .nilFunc
  | nil (t : Bool) (k : Nat) : VS St w (.sl true t k []) (.slice none 0 0)
  | emp (t : Bool) (k : Nat) (a : Addr) (cap : Nat) (ht : t = true → cap = 0) (hm : cap ≤ maxLen) : VS St w (.sl false t k []) (.slice (some a) 0 cap)
  | sl (t : Bool) (els : List (List SV)) (g off n cap sz : Nat) (Vs : Nat → Nat → Value) (hn : n = els.length) (hcap : n ≤ cap) (hm : cap ≤ maxLen) (ht : t = true → cap = n) (hg : St g)
      (hl : ∀ i (h : i < els.length), (els[i]).length = sz)
      (hc : ∀ i (h : i < els.length) j (h' : j < (els[i]).length), w.cell? ⟨g, off + i * sz + j, none⟩ = some (Vs i j))
      (hv : ∀ i (h : i < els.length) j (h' : j < (els[i]).length), VS St w (els[i][j]) (Vs i j)) :
      VS St w (.sl false t sz els) (.slice (some ⟨g, off, none⟩) n cap)
  | sp (els : List (List SV)) (i o : Nat) (g off sz : Nat) (Vs : Nat → Nat → Value) (hg : St g)
      (hl : ∀ i (h : i < els.length), (els[i]).length = sz)
      (hc : ∀ i (h : i < els.length) j (h' : j < (els[i]).length), w.cell? ⟨g, off + i * sz + j, none⟩ = some (Vs i j))
      (hv : ∀ i (h : i < els.length) j (h' : j < (els[i]).length), VS St w (els[i][j]) (Vs i j)) :
      VS St w (.sp els i o) (.pointer (some ⟨g, off + i * sz + o, none⟩))
  | fn (f : Fn) (x y : List SV) (A B : Array Value) (As Bs : Nat → Value) (hf : ∀ l, f ≠ .yield l) (hA : A.size = x.length) (hB : B.size = y.length)
      (ha : ∀ j, j < x.length → A[j]? = some (As j)) (hb : ∀ j, j < y.length → B[j]? = some (Bs j))
      (hx : ∀ j (h : j < x.length), VS St w (x[j]) (As j)) (hy : ∀ j (h : j < y.length), VS St w (y[j]) (Bs j)) :
      VS St w (.fn f x y) (.func f A B)

theorem VS.mono {St St' : Nat → Prop} {w w' : World} (hs : ∀ g, St g → w'.heap[g]? = w.heap[g]?) (hsub : ∀ g, St g → St' g) {s : SV} {V : Value} (h : VS St w s V) : VS St' w' s V := by
  have hcell : ∀ g o, St g → w'.cell? ⟨g, o, none⟩ = w.cell? ⟨g, o, none⟩ := fun g o hg => by simp [World.cell?, hs g hg]
  induction h with
  | bool b => exact .bool b
  | int k n => exact .int k n
  | str s => exact .str s
  | nilp => exact .nilp
  | nilm => exact .nilm
  | nilf => exact .nilf
  | nil t k => exact .nil t k
  | emp t k a cap ht hm => exact .emp t k a cap ht hm
  | sl t els g off n cap sz Vs hn hcap hm ht hg hl hc hv ih =>
    exact .sl t els g off n cap sz Vs hn hcap hm ht (hsub g hg) hl (fun i h j h' => by rw [hcell g _ hg]; exact hc i h j h') ih
  | sp els i o g off sz Vs hg hl hc hv ih =>
    exact .sp els i o g off sz Vs (hsub g hg) hl (fun i h j h' => by rw [hcell g _ hg]; exact hc i h j h') ih
  | fn f x y A B As Bs hf hA hB ha hb hx hy ihx ihy => exact .fn f x y A B As Bs hf hA hB ha hb ihx ihy

/-- A value that may name blocks stands for a value. 'sh': the shapes of the blocks. -/
inductive VP (Γ : Ctx) (sh : Nat → Option Shp) (w : World) : PV → Value → Prop
  | s (v : SV) (V : Value) (h : VS Γ.St w v V) : VP Γ sh w (.s v) V
  | nsl : VP Γ sh w .nsl (.slice none 0 0)
  | flv (b e sz : Nat) (h : sh b = some (.arr true e sz 0)) : VP Γ sh w (.fl b) (.slice none 0 0)
  | fl (b g : Nat) (v : Bool) (e sz n cap : Nat) (h : sh b = some (.arr v e sz n)) (hv : v = true → n ≠ 0) (hg : Γ.nm b = some g) (hcap : n ≤ cap) (hm : cap ≤ maxLen)
      (hs : w.shape? g = some (e, cap * sz)) : VP Γ sh w (.fl b) (.slice (some ⟨g, 0, none⟩) n cap)
  | vwv (b e sz i : Nat) (h : sh b = some (.arr true e sz 0)) : VP Γ sh w (.vw b i 0) (.slice none 0 0)
  | vw (b i n g : Nat) (a : Addr) (cap : Nat) (v : Bool) (e sz m : Nat) (h : sh b = some (.arr v e sz m)) (hv : v = true → m ≠ 0) (hg : Γ.nm b = some g)
      (ha : n ≠ 0 → a = ⟨g, i * sz, none⟩) (hi : i + n ≤ m) (hcap : n ≤ cap) (hm : cap ≤ maxLen) : VP Γ sh w (.vw b i n) (.slice (some a) n cap)
  | ptrA (b i off g : Nat) (v : Bool) (e sz n : Nat) (h : sh b = some (.arr v e sz n)) (hg : Γ.nm b = some g) : VP Γ sh w (.ptr b i off) (.pointer (some ⟨g, i * sz + off, none⟩))
  | ptrB (b off g : Nat) (h : sh b = some .box) (hg : Γ.nm b = some g) : VP Γ sh w (.ptr b 0 off) (.pointer (some ⟨g, off, none⟩))
  | fnr (f : Fn) (x y : List PV) (A B : Array Value) (As Bs : Nat → Value) (hf : ∀ l, f ≠ .yield l) (hA : A.size = x.length) (hB : B.size = y.length)
      (ha : ∀ j, j < x.length → A[j]? = some (As j)) (hb : ∀ j, j < y.length → B[j]? = some (Bs j))
      (hx : ∀ j (h : j < x.length), VP Γ sh w (x[j]) (As j)) (hy : ∀ j (h : j < y.length), VP Γ sh w (y[j]) (Bs j)) :
      VP Γ sh w (.fnr f x y) (.func f A B)
  | it (b g : Nat) (h : sh b = some .iter) (hg : Γ.nm b = some g) : VP Γ sh w (.it b) (.pointer (some ⟨g, 0, none⟩))
  | yd : VP Γ sh w .yd Γ.yv
  | agg (l : List PV) (A : Array Value) (As : Nat → Value) (hA : A.size = l.length) (ha : ∀ j, j < l.length → A[j]? = some (As j)) (hl : ∀ j (h : j < l.length), VP Γ sh w (l[j]) (As j)) :
      VP Γ sh w (.agg l) (.agg A)
  | tup (l : List PV) (A : Array Value) (As : Nat → Value) (hA : A.size = l.length) (ha : ∀ j, j < l.length → A[j]? = some (As j)) (hl : ∀ j (h : j < l.length), VP Γ sh w (l[j]) (As j)) :
      VP Γ sh w (.tup l) (.tuple A)
  | bad (V : Value) : VP Γ sh w .bad V

theorem mem_nmsL {l : List PV} {b : Nat} : b ∈ nmsL l ↔ ∃ j, ∃ h : j < l.length, b ∈ (l[j]).nms := by
  induction l with
  | nil => simp [nmsL]
  | cons v r ih =>
    simp only [nmsL, List.mem_append, ih]
    constructor
    · rintro (h | ⟨j, hj, h⟩)
      · exact ⟨0, by simp, by simpa using h⟩
      · exact ⟨j + 1, by simpa using hj, by simpa using h⟩
    · rintro ⟨j, hj, h⟩
      cases j with
      | zero => exact .inl (by simpa using h)
      | succ j => exact .inr ⟨j, by simpa using hj, by simpa using h⟩

/-- From one state to another: the stable blocks stay; the names that are 'ok' keep their meaning. -/
structure Mono (Γ : Ctx) (sh : Nat → Option Shp) (w : World) (Γ' : Ctx) (sh' : Nat → Option Shp) (w' : World) (ok : Nat → Prop) : Prop where
  st : ∀ g, Γ.St g → w'.heap[g]? = w.heap[g]?
  sub : ∀ g, Γ.St g → Γ'.St g
  nm : ∀ b, ok b → Γ'.nm b = Γ.nm b
  shp : ∀ b, ok b → sh' b = sh b
  hs : ∀ b g, ok b → Γ.nm b = some g → w'.shape? g = w.shape? g
  yv : Γ'.yv = Γ.yv

theorem VP.mono {Γ Γ' : Ctx} {sh sh' : Nat → Option Shp} {w w' : World} {ok : Nat → Prop} (M : Mono Γ sh w Γ' sh' w' ok) {v : PV} {V : Value} (h : VP Γ sh w v V) :
    (∀ b ∈ v.nms, ok b) → VP Γ' sh' w' v V := by
  induction h with
  | s v V h => intro _; exact .s v V (h.mono M.st M.sub)
  | nsl => intro _; exact .nsl
  | flv b e sz h => intro hok; exact .flv b e sz (by rw [M.shp b (hok b (by simp [PV.nms]))]; exact h)
  | fl b g v e sz n cap h hv hg hcap hm hs =>
    intro hok
    have o := hok b (by simp [PV.nms])
    exact .fl b g v e sz n cap (by rw [M.shp b o]; exact h) hv (by rw [M.nm b o]; exact hg) hcap hm (by rw [M.hs b g o hg]; exact hs)
  | vwv b e sz i h => intro hok; exact .vwv b e sz i (by rw [M.shp b (hok b (by simp [PV.nms]))]; exact h)
  | vw b i n g a cap v e sz m h hv hg ha hi hcap hm =>
    intro hok
    have o := hok b (by simp [PV.nms])
    exact .vw b i n g a cap v e sz m (by rw [M.shp b o]; exact h) hv (by rw [M.nm b o]; exact hg) ha hi hcap hm
  | ptrA b i off g v e sz n h hg =>
    intro hok
    have o := hok b (by simp [PV.nms])
    exact .ptrA b i off g v e sz n (by rw [M.shp b o]; exact h) (by rw [M.nm b o]; exact hg)
  | ptrB b off g h hg =>
    intro hok
    have o := hok b (by simp [PV.nms])
    exact .ptrB b off g (by rw [M.shp b o]; exact h) (by rw [M.nm b o]; exact hg)
  | fnr f x y A B As Bs hf hA hB ha hb hx hy ihx ihy =>
    intro hok
    exact .fnr f x y A B As Bs hf hA hB ha hb
      (fun j h => ihx j h fun b hb => hok b (by simp only [PV.nms, List.mem_append]; exact .inl (mem_nmsL.2 ⟨j, h, hb⟩)))
      (fun j h => ihy j h fun b hb => hok b (by simp only [PV.nms, List.mem_append]; exact .inr (mem_nmsL.2 ⟨j, h, hb⟩)))
  | it b g h hg =>
    intro hok
    have o := hok b (by simp [PV.nms])
    exact .it b g (by rw [M.shp b o]; exact h) (by rw [M.nm b o]; exact hg)
  | yd => intro _; rw [← M.yv]; exact .yd
  | agg l A As hA ha hl ih => intro hok; exact .agg l A As hA ha fun j h => ih j h fun b hb => hok b (by simp only [PV.nms]; exact mem_nmsL.2 ⟨j, h, hb⟩)
  | tup l A As hA ha hl ih => intro hok; exact .tup l A As hA ha fun j h => ih j h fun b hb => hok b (by simp only [PV.nms]; exact mem_nmsL.2 ⟨j, h, hb⟩)
  | bad V => intro _; exact .bad V

theorem killL_eq (b : Nat) (l : List PV) : killL b l = l.map (PV.kill b) := by
  induction l with
  | nil => rfl
  | cons v r ih => simp [killL, ih]

theorem VP.kill {Γ : Ctx} {sh : Nat → Option Shp} {w : World} (c : Nat) {v : PV} {V : Value} (h : VP Γ sh w v V) : VP Γ sh w (v.kill c) V := by
  induction h with
  | s v V h => exact .s v V h
  | nsl => exact .nsl
  | flv b e sz h => unfold PV.kill; split; exact .bad _; exact .flv b e sz h
  | fl b g v e sz n cap h hv hg hcap hm hs => unfold PV.kill; split; exact .bad _; exact .fl b g v e sz n cap h hv hg hcap hm hs
  | vwv b e sz i h => unfold PV.kill; split; exact .bad _; exact .vwv b e sz i h
  | vw b i n g a cap v e sz m h hv hg ha hi hcap hm => unfold PV.kill; split; exact .bad _; exact .vw b i n g a cap v e sz m h hv hg ha hi hcap hm
  | ptrA b i off g v e sz n h hg => unfold PV.kill; split; exact .bad _; exact .ptrA b i off g v e sz n h hg
  | ptrB b off g h hg => unfold PV.kill; split; exact .bad _; exact .ptrB b off g h hg
  | fnr f x y A B As Bs hf hA hB ha hb hx hy ihx ihy =>
    simp only [PV.kill, killL_eq]
    exact .fnr f _ _ A B As Bs hf (by simpa using hA) (by simpa using hB) (fun j h => ha j (by simpa using h)) (fun j h => hb j (by simpa using h))
      (fun j h => by simpa using ihx j (by simpa using h)) (fun j h => by simpa using ihy j (by simpa using h))
  | it b g h hg => unfold PV.kill; split; exact .bad _; exact .it b g h hg
  | yd => exact .yd
  | agg l A As hA ha hl ih =>
    simp only [PV.kill, killL_eq]
    exact .agg _ A As (by simpa using hA) (fun j h => ha j (by simpa using h)) (fun j h => by simpa using ih j (by simpa using h))
  | tup l A As hA ha hl ih =>
    simp only [PV.kill, killL_eq]
    exact .tup _ A As (by simpa using hA) (fun j h => ha j (by simpa using h)) (fun j h => by simpa using ih j (by simpa using h))
  | bad V => exact .bad V

mutual
theorem PV.not_mem_kill (c : Nat) : ∀ v : PV, c ∉ (v.kill c).nms
  | .s _ => by simp [PV.kill, PV.nms]
  | .nsl => by simp [PV.kill, PV.nms]
  | .fl b => by unfold PV.kill; split <;> simp_all [PV.nms, eq_comm]
  | .vw b _ _ => by unfold PV.kill; split <;> simp_all [PV.nms, eq_comm]
  | .ptr b _ _ => by unfold PV.kill; split <;> simp_all [PV.nms, eq_comm]
  | .fnr _ x y => by simp only [PV.kill, PV.nms, List.mem_append, not_or]; exact ⟨not_mem_killL c x, not_mem_killL c y⟩
  | .it b => by unfold PV.kill; split <;> simp_all [PV.nms, eq_comm]
  | .yd => by simp [PV.kill, PV.nms]
  | .agg l => by simp only [PV.kill, PV.nms]; exact not_mem_killL c l
  | .tup l => by simp only [PV.kill, PV.nms]; exact not_mem_killL c l
  | .bad => by simp [PV.kill, PV.nms]
theorem not_mem_killL (c : Nat) : ∀ l : List PV, c ∉ nmsL (killL c l)
  | [] => by simp [killL, nmsL]
  | v :: r => by simp only [killL, nmsL, List.mem_append, not_or]; exact ⟨PV.not_mem_kill c v, not_mem_killL c r⟩
end

mutual
theorem PV.kill_nms (c : Nat) : ∀ (v : PV) b, b ∈ (v.kill c).nms → b ∈ v.nms
  | .s _, b => by simp [PV.kill, PV.nms]
  | .nsl, b => by simp [PV.kill, PV.nms]
  | .fl a, b => by unfold PV.kill; split <;> simp_all [PV.nms]
  | .vw a _ _, b => by unfold PV.kill; split <;> simp_all [PV.nms]
  | .ptr a _ _, b => by unfold PV.kill; split <;> simp_all [PV.nms]
  | .fnr _ x y, b => by
    simp only [PV.kill, PV.nms, List.mem_append]
    rintro (h | h)
    · exact .inl (killL_nms c x b h)
    · exact .inr (killL_nms c y b h)
  | .it a, b => by unfold PV.kill; split <;> simp_all [PV.nms]
  | .yd, b => by simp [PV.kill, PV.nms]
  | .agg l, b => by simp only [PV.kill, PV.nms]; exact killL_nms c l b
  | .tup l, b => by simp only [PV.kill, PV.nms]; exact killL_nms c l b
  | .bad, b => by simp [PV.kill, PV.nms]
theorem killL_nms (c : Nat) : ∀ (l : List PV) b, b ∈ nmsL (killL c l) → b ∈ nmsL l
  | [], b => by simp [killL, nmsL]
  | v :: r, b => by
    simp only [killL, nmsL, List.mem_append]
    rintro (h | h)
    · exact .inl (PV.kill_nms c v b h)
    · exact .inr (killL_nms c r b h)
end

/-- A block stands for what lies in the world under its number. -/
def BR (Γ : Ctx) (sh : Nat → Option Shp) (w : World) (b : Nat) : Blk → Prop
  | .arr v e sz els => (v = true ∧ els = []) ∨ (¬(v = true ∧ els = []) ∧ ∃ g cur, Γ.nm b = some g ∧ w.heap[g]? = some (.cells cur e (0, 0)) ∧ els.length * sz ≤ cur.size ∧
      (∀ i (h : i < els.length), (els[i]).length = sz) ∧ ∀ i (h : i < els.length) j (h' : j < (els[i]).length), ∃ V, cur[i * sz + j]? = some V ∧ VS Γ.St w (els[i][j]) V)
  | .box cells => ∃ g cur e, Γ.nm b = some g ∧ w.heap[g]? = some (.cells cur e (0, 0)) ∧ cur.size = cells.length ∧ ∀ j (h : j < cells.length), ∃ V, cur[j]? = some V ∧ VP Γ sh w (cells[j]) V
  | .iter s p => ∃ g s', Γ.nm b = some g ∧ w.heap[g]? = some (.stringIter s' p) ∧ s'.data.toList = s
  | .dead => True

structure HR (Γ : Ctx) (H : List Blk) (w : World) : Prop where
  inj : ∀ b b' g, Γ.nm b = some g → Γ.nm b' = some g → b = b'
  lt : ∀ b g, Γ.nm b = some g → b < H.length ∧ g < w.heap.size ∧ ¬ Γ.St g
  stlt : ∀ g, Γ.St g → g < w.heap.size
  nms : ∀ b (h : b < H.length), ∀ c ∈ (H[b]).nms, c < H.length
  blk : ∀ b (h : b < H.length), BR Γ (shpOf H) w b (H[b])

/-- Slots. -/
structure SR (Γ : Ctx) (H : List Blk) (w : World) (sl : List PV) (tmps : Array Value) : Prop where
  size : tmps.size = sl.length
  nms : ∀ c ∈ nmsL sl, c < H.length
  slot : ∀ i (h : i < sl.length), ∃ V, tmps[i]? = some V ∧ VP Γ (shpOf H) w (sl[i]) V

theorem BR.mono {Γ Γ' : Ctx} {sh sh' : Nat → Option Shp} {w w' : World} {ok : Nat → Prop} (M : Mono Γ sh w Γ' sh' w' ok) {b : Nat} {x : Blk}
    (h : BR Γ sh w b x) (hnm : Γ'.nm b = Γ.nm b) (hheap : ∀ g, Γ.nm b = some g → w'.heap[g]? = w.heap[g]?) (hok : ∀ c ∈ x.nms, ok c) : BR Γ' sh' w' b x := by
  cases x with
  | arr v e sz els =>
    rcases h with h | ⟨hn, g, cur, h1, h2, h3, h4, h5⟩
    · exact .inl h
    · refine .inr ⟨hn, g, cur, by rw [hnm]; exact h1, by rw [hheap g h1]; exact h2, h3, h4, fun i h j h' => ?_⟩
      obtain ⟨V, e1, e2⟩ := h5 i h j h'
      exact ⟨V, e1, e2.mono M.st M.sub⟩
  | box cells =>
    obtain ⟨g, cur, e, h1, h2, h3, h4⟩ := h
    refine ⟨g, cur, e, by rw [hnm]; exact h1, by rw [hheap g h1]; exact h2, h3, fun j h => ?_⟩
    obtain ⟨V, e1, e2⟩ := h4 j h
    exact ⟨V, e1, e2.mono M fun c hc => hok c (by simp only [Blk.nms]; exact mem_nmsL.2 ⟨j, h, hc⟩)⟩
  | iter s p =>
    obtain ⟨g, s', h1, h2, h3⟩ := h
    exact ⟨g, s', by rw [hnm]; exact h1, by rw [hheap g h1]; exact h2, h3⟩
  | dead => trivial

theorem SR.mono {Γ Γ' : Ctx} {H H' : List Blk} {w w' : World} {ok : Nat → Prop} {sl : List PV} {tmps : Array Value} (M : Mono Γ (shpOf H) w Γ' (shpOf H') w' ok)
    (h : SR Γ H w sl tmps) (hok : ∀ c ∈ nmsL sl, ok c ∧ c < H'.length) : SR Γ' H' w' sl tmps := by
  refine ⟨h.size, fun c hc => (hok c hc).2, fun i hi => ?_⟩
  obtain ⟨V, e1, e2⟩ := h.slot i hi
  exact ⟨V, e1, e2.mono M fun c hc => (hok c (mem_nmsL.2 ⟨i, hi, hc⟩)).1⟩

end Go.Proofs.Ytfioahjeanmfpaa.E
