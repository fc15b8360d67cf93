/-
  From runs to laws: arguments, closed runs.
-/
import Derived.Test.YtfioahjeanmfpaaP2
namespace Go.Proofs.Ytfioahjeanmfpaa.E
open Go Go.Proofs
set_option linter.unusedVariables false

def resTrue (r : Option (PV × List Blk × Unit)) : Bool := match r with
  | some (.s (.bool true), _, _) => true
  | _ => false
theorem resTrue_some {r : Option (PV × List Blk × Unit)} (h : resTrue r = true) : ∃ H, r = some (.s (.bool true), H, ()) := by
  unfold resTrue at h
  split at h
  · exact ⟨_, rfl⟩
  · cases h

/-- A function without arguments that answers true. -/
theorem xfact_true {C₀ : Cfg} {g d : Nat} (hX : XOK C₀) (hO : OkFns C₀) (hm : C₀.P.follows .mixedOrders = true) (h : resTrue (evC C₀ d Unit noY g [] [] ()) = true) : XFact C₀.P C₀.G g (fun args => match args with | [] => .ret (.s (.bool true)) [] | _ => .fail) :=
  xfact_of_val hX hO hm fun args ret Hc hr => by
    cases args with
    | nil =>
      obtain ⟨rfl, rfl⟩ := tr_ret hr
      obtain ⟨H, e⟩ := resTrue_some h
      exact ⟨rfl, rfl, rfl, d, _, H, e, rfl⟩
    | cons a r => cases hr

theorem arg_one {P : Program} {t : Nat} {v : PV} {ty : Ty} (h : ArgOf P t v) (e : tysOf P 20 t = some [ty]) (ha : aggOf P t = false) : ∃ x, v = .s x ∧ ty.of x := by
  obtain ⟨tys, l, h1, h2, h3⟩ := h
  rw [e] at h1
  simp only [Option.some.injEq] at h1
  subst h1
  rcases h3 with ⟨h3, _⟩ | ⟨_, x, rfl, rfl⟩
  · rw [ha] at h3; cases h3
  · simp only [Ty.ofL] at h2
    obtain ⟨v, q, h4, h5, rfl⟩ := h2
    simp only [List.cons.injEq, and_true] at h4
    subst h4
    exact ⟨_, rfl, h5⟩

theorem arg_bytes {P : Program} {t : Nat} {v : PV} (h : ArgOf P t v) (e : tysOf P 20 t = some [.slice [.int .u8]]) (ha : aggOf P t = false) : ∃ z b, v = .s (.sl z false 1 (List.map u8el b)) ∧ b.length ≤ maxLen ∧ (z = true → b = []) := by
  obtain ⟨x, rfl, h5⟩ := arg_one h e ha
  simp only [Ty.of, List.length_cons, List.length_nil] at h5
  rcases h5 with rfl | ⟨els, rfl, hl, hall⟩
  · exact ⟨true, [], rfl, by simp, fun _ => rfl⟩
  · obtain ⟨b, rfl⟩ := bytes_of_Ty hall
    exact ⟨false, b, rfl, by simpa using hl, fun h => by cases h⟩

theorem arg_int {P : Program} {t : Nat} {v : PV} {k : IntKind} (h : ArgOf P t v) (e : tysOf P 20 t = some [.int k]) (ha : aggOf P t = false) : ∃ n, v = .s (.int k n) ∧ k.min ≤ n ∧ n ≤ k.max := by
  obtain ⟨x, rfl, n, rfl, h1, h2⟩ := arg_one h e ha
  exact ⟨n, rfl, h1, h2⟩

theorem arg_str {P : Program} {t : Nat} {v : PV} (h : ArgOf P t v) (e : tysOf P 20 t = some [.str]) (ha : aggOf P t = false) : ∃ l, v = .s (.str l) ∧ l.length ≤ maxLen := by
  obtain ⟨x, rfl, l, rfl, h1⟩ := arg_one h e ha
  exact ⟨l, rfl, h1⟩

theorem arg_bool {P : Program} {t : Nat} {v : PV} (h : ArgOf P t v) (e : tysOf P 20 t = some [.bool]) (ha : aggOf P t = false) : ∃ b, v = .s (.bool b) := by
  obtain ⟨x, rfl, b, rfl⟩ := arg_one h e ha
  exact ⟨b, rfl⟩

end Go.Proofs.Ytfioahjeanmfpaa.E
