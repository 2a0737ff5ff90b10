/- Each region whose order is drawn is fit. No condition. -/
import Derived.Test.YtfokdfakbobemaaGreatDoorTab
set_option autoImplicit true
set_option relaxedAutoImplicit true
set_option linter.unusedVariables false
set_option linter.unusedSimpArgs false
namespace Go.Mu
variable {P : Program}
def okF (f : Func) : Bool := match f.body with
  | some c => okC c
  | none => true
def okL : Nat → List Func → Bool
  | 0, _ => true
  | n + 1, l => match l with
    | [] => true
    | f :: l => match okF f with
      | true => okL n l
      | false => false
theorem okL_spec : ∀ (n : Nat) (l : List Func), okL n l = true → ∀ i f, i < n → l[i]? = some f → okF f = true
  | 0, _, _, i, f, hi, _ => by omega
  | n + 1, [], _, i, f, _, h => by simp at h
  | n + 1, g :: l, h, i, f, hi, hf => by
    simp only [okL] at h
    split at h
    · rename_i hg
      cases i with
      | zero => simp at hf; subst hf; exact hg
      | succ i => exact okL_spec n l h i f (by omega) (by simpa using hf)
    · cases h
theorem okP_of (l : List (Nat × Nat)) (hl : ∀ p ∈ l, okL p.2 (P.funcs.toList.drop p.1) = true) (hc : ∀ i, i < P.funcs.size → ∃ p ∈ l, p.1 ≤ i ∧ i < p.1 + p.2) : OkP P := by
  intro f fn c hf hb
  obtain ⟨hlt, he⟩ := Array.getElem?_eq_some_iff.1 hf
  obtain ⟨p, hp, h1, h2⟩ := hc f hlt
  have := okL_spec p.2 _ (hl p hp) (f - p.1) fn (by omega) (by rw [List.getElem?_drop]; rw [show p.1 + (f - p.1) = f by omega]; simpa using hf)
  simpa only [okF, hb] using this
end Go.Mu
namespace Go.Proofs
open Go.Mu
set_option maxHeartbeats 0 in
theorem Tryz.ok0 : okL 744 (Tryz.prog.funcs.toList.drop 0) = true := by kernel_rfl
theorem Tryz.fsize : Tryz.prog.funcs.size = 744 := by kernel_rfl
theorem Tryz.okP : OkP Tryz.prog := okP_of [(0, 744)] (fun p hp => by simp only [List.mem_singleton] at hp; subst hp; exact Tryz.ok0) fun i hi => ⟨(0, 744), by simp, by omega, by rw [Tryz.fsize] at hi; omega⟩
end Go.Proofs
