/- The table of hooks: each comes to what its function comes to. No condition. -/
import Derived.Test.YtfokdfakbobemaaGreatDoorLay
set_option autoImplicit true
set_option relaxedAutoImplicit true
set_option linter.unusedVariables false
set_option linter.unusedSimpArgs false
namespace Go.Mu
variable {P : Program}

/-! A closed call that comes to a truth, as a hook. -/
theorem below_good {ρ : Rho} {hp : Heap} {nx base : Nat} {w w' : World} {R : Rho → Prop} (hR : HR ρ hp w base) (hF : Fresh ρ nx) (hb : RowKit.Below w.heap.size w w') (hr : R ρ) : Good ρ hp nx base w hp nx R w' := by
  refine ⟨ρ, hr, ⟨fun b k hk => ?_, hR.inj⟩, hF, ⟨.refl ρ, Nat.le_refl _, fun b k hk _ => ⟨k, hk⟩, hb.os, hb.tape, hb.output, hb.size, fun i hi _ => hb.block i hi, fun b c h1 h2 => by rw [h1] at h2; cases h2⟩⟩
  obtain ⟨c, ob, h1, h2, h3, h4⟩ := hR.blk b k hk
  exact ⟨c, ob, h1, h2, by rw [hb.block _ (hR.lt hk h1)]; exact h3, h4⟩

/-- A closed call comes to a truth, in whatever world. -/
def TrueIn (P : Program) (f : FuncId) : Prop := ∀ w : World, Does P f #[] w fun e w' => e = .returned (.bool true) ∧ RowKit.Below w.heap.size w w'

def trueH (args : List AVal) (hp : Heap) (nx : Nat) : Option Out := match args with
  | [] => some (.ret (.bool true) hp nx)
  | _ => none
noncomputable def trueK : HkF := fun args hp nx kr _ => @List.rec AVal (fun _ => A) (kr (.bool true) hp nx) (fun _ _ _ => false) args
theorem trueK_inv {args : List AVal} {hp : Heap} {nx : Nat} {kr : KR} {kp : KP} (h : trueK args hp nx kr kp = true) : ∃ o, trueH args hp nx = some o ∧ outK kr kp o = true := by
  cases args with
  | nil => exact ⟨_, rfl, h⟩
  | cons x l => cases h

theorem Does.mono {f : FuncId} {args : Array Value} {w : World} {R R' : Ending → World → Prop} (h : Does P f args w R) (hr : ∀ e w', R e w' → R' e w') : Does P f args w R' := by
  unfold Does at h ⊢
  split at h
  · rename_i he; exact Calls.mono h hr
  · rename_i he; exact hr _ _ h
  · exact h.elim

theorem true_hook {f : FuncId} (hT : TrueIn P f) {base : Nat} {args : List AVal} {hp : Heap} {nx : Nat} {o : Out} (h : trueH args hp nx = some o) :
    ∀ ρ cargs w, VRs ρ args cargs → HR ρ hp w base → Fresh ρ nx → base ≤ w.heap.size → Does P f cargs.toArray w (OutR ρ hp nx base w o) := by
  intro ρ cargs w hv hR hF _
  unfold trueH at h
  split at h
  · cases h
    have := hv.nil_inv
    subst this
    refine (hT w).mono fun e w' ⟨he, hb⟩ => ?_
    subst he
    exact below_good hR hF hb (by simp only [VR])
  · cases h

noncomputable def isTrue (v : AVal) : A := condE v true false

theorem true_of_run (hN : NamesOK P) (hm : P.follows .mixedOrders = true) (hO : OkP P) {H : Hook} {HK : HookK} (hH : ∀ base, HookOK P base H) (hHK : HookRel H HK) {LF n : Nat} {f : FuncId}
    (h : (cdC (callsK P HK LF n)) f [] .e 0 (fun v _ _ => isTrue v) (fun _ _ _ => false) = true) : TrueIn P f := by
  intro w
  obtain ⟨o, h1, h2⟩ := (callsK_ok hO hHK (LF := LF) n).1 f [] .e 0 _ _ h
  cases o with
  | pan c hp nx => cases h2
  | ret v hp nx =>
    replace h2 : isTrue v = true := h2
    obtain ⟨b, rfl, hb⟩ := condE_inv h2
    have hbt : b = true := by cases b; cases hb; rfl
    subst hbt
    refine (eval_sound hN hm w (hH _) (LF := LF) (n := n) VRs.nil h1).mono fun e w' ⟨ρ, c, he, hv, hbl⟩ => ?_
    simp only [VR] at hv
    subst hv
    exact ⟨he, hbl⟩
end Go.Mu
namespace Go.Proofs
open Go.Mu
set_option maxRecDepth 100000
def Tryz.H0 : Hook := fun f =>
  bif Nat.beq f 305 then some moreH else
  bif Nat.beq f 168 then some (sortedHI Tryz.gsI 3) else
  bif Nat.beq f 216 then some (sortedHS Tryz.gsS 9) else
  bif Nat.beq f 351 then some cmpA else
  bif Nat.beq f 680 then some cmpA else
  bif Nat.beq f 534 then some fbitsH else
  bif Nat.beq f 536 then some ffromH else none
noncomputable def Tryz.HK0 : HookK := fun f =>
  bif Nat.beq f 305 then some ⟨moreK⟩ else
  bif Nat.beq f 168 then some ⟨sortedKI Tryz.gsI 3⟩ else
  bif Nat.beq f 216 then some ⟨sortedKS Tryz.gsS 9⟩ else
  bif Nat.beq f 351 then some ⟨cmpK2⟩ else
  bif Nat.beq f 680 then some ⟨cmpK2⟩ else
  bif Nat.beq f 534 then some ⟨fbitsK2⟩ else
  bif Nat.beq f 536 then some ⟨ffromK2⟩ else none
def Tryz.H1 : Hook := fun f => bif Nat.beq f 5 then some trueH else Tryz.H0 f
noncomputable def Tryz.HK1 : HookK := fun f => bif Nat.beq f 5 then some ⟨trueK⟩ else Tryz.HK0 f
theorem Tryz.hooksOK (hN : NamesOK Tryz.prog) (hm : Tryz.prog.follows .mixedOrders = true) (hT : MoreTy Tryz.prog) (base : Nat) : HookOK Tryz.prog base Tryz.H0 := by
  intro f h hf args hp nx o ho
  unfold Tryz.H0 at hf
  cases h1 : Nat.beq f 305 with
  | true => rw [h1] at hf; simp only [cond_true, Option.some.injEq] at hf; subst hf; have e := Nat.eq_of_beq_eq_true h1; subst e; exact more_hook hN hm hT Tryz.func305 ho
  | false =>
  rw [h1] at hf; simp only [cond_false] at hf
  cases h1 : Nat.beq f 168 with
  | true => rw [h1] at hf; simp only [cond_true, Option.some.injEq] at hf; subst hf; have e := Nat.eq_of_beq_eq_true h1; subst e; exact Tryz.sortedI ho
  | false =>
  rw [h1] at hf; simp only [cond_false] at hf
  cases h1 : Nat.beq f 216 with
  | true => rw [h1] at hf; simp only [cond_true, Option.some.injEq] at hf; subst hf; have e := Nat.eq_of_beq_eq_true h1; subst e; exact Tryz.sortedSS ho
  | false =>
  rw [h1] at hf; simp only [cond_false] at hf
  cases h1 : Nat.beq f 351 with
  | true => rw [h1] at hf; simp only [cond_true, Option.some.injEq] at hf; subst hf; have e := Nat.eq_of_beq_eq_true h1; subst e; exact cmp_hook Tryz.func351 (hN _ _ Tryz.func351) (by kernel_rfl) (by kernel_rfl) (by kernel_rfl) ho
  | false =>
  rw [h1] at hf; simp only [cond_false] at hf
  cases h1 : Nat.beq f 680 with
  | true => rw [h1] at hf; simp only [cond_true, Option.some.injEq] at hf; subst hf; have e := Nat.eq_of_beq_eq_true h1; subst e; exact cmp_hook Tryz.func680 (hN _ _ Tryz.func680) (by kernel_rfl) (by kernel_rfl) (by kernel_rfl) ho
  | false =>
  rw [h1] at hf; simp only [cond_false] at hf
  cases h1 : Nat.beq f 534 with
  | true => rw [h1] at hf; simp only [cond_true, Option.some.injEq] at hf; subst hf; have e := Nat.eq_of_beq_eq_true h1; subst e; exact fbits_hook Tryz.func534 (hN _ _ Tryz.func534) (by kernel_rfl) (by kernel_rfl) (by kernel_rfl) ho
  | false =>
  rw [h1] at hf; simp only [cond_false] at hf
  cases h1 : Nat.beq f 536 with
  | true => rw [h1] at hf; simp only [cond_true, Option.some.injEq] at hf; subst hf; have e := Nat.eq_of_beq_eq_true h1; subst e; exact ffrom_hook Tryz.func536 (hN _ _ Tryz.func536) (by kernel_rfl) (by kernel_rfl) (by kernel_rfl) ho
  | false =>
  rw [h1] at hf; simp only [cond_false] at hf
  cases hf
theorem Tryz.hooksRel : HookRel Tryz.H0 Tryz.HK0 := by
  intro f
  unfold Tryz.H0 Tryz.HK0
  cases Nat.beq f 305 with
  | true => exact ⟨_, rfl, fun _ _ _ _ _ h => moreK_inv h⟩
  | false =>
  cases Nat.beq f 168 with
  | true => exact ⟨_, rfl, fun _ _ _ _ _ h => sortedKI_inv h⟩
  | false =>
  cases Nat.beq f 216 with
  | true => exact ⟨_, rfl, fun _ _ _ _ _ h => sortedKS_inv h⟩
  | false =>
  cases Nat.beq f 351 with
  | true => exact ⟨_, rfl, fun _ _ _ _ _ h => cmpK2_inv h⟩
  | false =>
  cases Nat.beq f 680 with
  | true => exact ⟨_, rfl, fun _ _ _ _ _ h => cmpK2_inv h⟩
  | false =>
  cases Nat.beq f 534 with
  | true => exact ⟨_, rfl, fun _ _ _ _ _ h => fbitsK2_inv h⟩
  | false =>
  cases Nat.beq f 536 with
  | true => exact ⟨_, rfl, fun _ _ _ _ _ h => ffromK2_inv h⟩
  | false =>
  rfl
theorem Tryz.hooksOK1 {base : Nat} (h0 : HookOK Tryz.prog base Tryz.H0) (hT : TrueIn Tryz.prog 5) : HookOK Tryz.prog base Tryz.H1 := by
  intro f h hf args hp nx o ho
  unfold Tryz.H1 at hf
  cases h1 : Nat.beq f 5 with
  | true => rw [h1] at hf; simp only [cond_true, Option.some.injEq] at hf; subst hf; have e := Nat.eq_of_beq_eq_true h1; subst e; exact true_hook hT ho
  | false => rw [h1] at hf; exact h0 f h hf args hp nx o ho
theorem Tryz.hooksRel1 : HookRel Tryz.H1 Tryz.HK1 := by
  intro f
  unfold Tryz.H1 Tryz.HK1
  cases Nat.beq f 5 with
  | true => exact ⟨_, rfl, fun _ _ _ _ _ h => trueK_inv h⟩
  | false => exact Tryz.hooksRel f
end Go.Proofs
