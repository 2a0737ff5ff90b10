/- Calls, deferred calls, code, ranges over functions, regions whose order is drawn; an evaluation is what a call comes to in any world. No condition. -/
import Derived.Recover
import Derived.RangeFuncLeaves
import Derived.RangeFuncRecord
import Derived.Orders
import Derived.Below
import Derived.Test.YtfokdfakbobemaaGreatDoorMuB
set_option autoImplicit true
set_option relaxedAutoImplicit true
set_option linter.unusedVariables false
set_option linter.unusedSimpArgs false
namespace Go.Mu
variable {P : Program} {ρ : Rho} {hp : Heap} {nx base : Nat} {w : World} {tm : Tm} {a : Act}

/-! Calls: what they are to come to. -/
def CHR (ρ : Rho) : List (AVal × Bool) → List PanicEntry → Prop
  | [], l => l = []
  | x :: xs, l => ∃ y ys, l = y :: ys ∧ VR ρ x.1 y.v ∧ y.recovered = x.2 ∧ y.goexit = false ∧ CHR ρ xs ys

theorem CHR.mono {ρ ρ' : Rho} (hx : Ext ρ ρ') : ∀ {x : List (AVal × Bool)} {y : List PanicEntry}, CHR ρ x y → CHR ρ' x y
  | [], _, h => h
  | _ :: _, _, ⟨y, ys, h0, h1, h2, h3, h4⟩ => ⟨y, ys, h0, VR.mono hx _ _ h1, h2, h3, CHR.mono hx h4⟩

theorem CHR.append {ρ : Rho} : ∀ {x x' : List (AVal × Bool)} {y y' : List PanicEntry}, CHR ρ x y → CHR ρ x' y' → CHR ρ (x ++ x') (y ++ y')
  | [], _, _, _, h, k => by simp only [CHR] at h; subst h; exact k
  | _ :: _, _, _, _, ⟨y, ys, h0, h1, h2, h3, h4⟩, k => by subst h0; exact ⟨y, _, rfl, h1, h2, h3, CHR.append h4 k⟩

def MR (ρ : Rho) : AMode → FrameMode → Prop
  | .returning, u => u = .returning
  | .panicking c, u => ∃ c', u = .panicking c' ∧ CHR ρ c c'

theorem MR.mono {ρ ρ' : Rho} (hx : Ext ρ ρ') : ∀ {m : AMode} {u : FrameMode}, MR ρ m u → MR ρ' m u
  | .returning, _, h => h
  | .panicking _, _, ⟨c', h1, h2⟩ => ⟨c', h1, h2.mono hx⟩

def Good (ρ : Rho) (hp : Heap) (nx base : Nat) (w : World) (hp' : Heap) (nx' : Nat) (R : Rho → Prop) (w' : World) : Prop :=
  ∃ ρ', R ρ' ∧ HR ρ' hp' w' base ∧ Fresh ρ' nx' ∧ Ev ρ hp nx w ρ' hp' nx' w'

def OutR (ρ : Rho) (hp : Heap) (nx base : Nat) (w : World) : Out → Ending → World → Prop
  | .ret v hp' nx', .returned c, w' => Good ρ hp nx base w hp' nx' (fun ρ' => VR ρ' v c) w'
  | .pan ch hp' nx', .panicked ch', w' => Good ρ hp nx base w hp' nx' (fun ρ' => CHR ρ' ch ch') w'
  | _, _, _ => False

/-- What entering a function comes to. -/
def Does (P : Program) (f : FuncId) (args : Array Value) (w : World) (R : Ending → World → Prop) : Prop :=
  match (callFunc f args).run P w with
  | .ok (.enter f' as) w1 => Calls P f' as w1 R
  | .ok (.value c) w1 => R (.returned c) w1
  | _ => False

def CallsOK (P : Program) (base : Nat) (C : CallFn) : Prop :=
  ∀ f args hp nx o, C f args hp nx = some o → ∀ ρ cargs w, VRs ρ args cargs → HR ρ hp w base → Fresh ρ nx → base ≤ w.heap.size → Does P f cargs.toArray w (OutR ρ hp nx base w o)

def DR (ρ : Rho) (d : ADf) (cd : Deferred) : Prop := match d.mark with
  | none => ∃ cap args, cd = { target := .fn d.fn cap, args := args } ∧ VRs ρ d.cap cap.toList ∧ VRs ρ d.args args.toList
  | some b => ∃ c, ρ b = some c ∧ cd = { target := .collected c.blk, args := #[] }

theorem DR.mono {ρ ρ' : Rho} (hx : Ext ρ ρ') {d : ADf} {cd : Deferred} (h : DR ρ d cd) : DR ρ' d cd := by
  unfold DR at h ⊢
  split
  · rename_i he
    rw [he] at h
    obtain ⟨c, s, h1, h2, h3⟩ := h
    exact ⟨c, s, h1, VRs.mono hx _ _ h2, VRs.mono hx _ _ h3⟩
  · rename_i b he
    rw [he] at h
    obtain ⟨c, h1, h2⟩ := h
    exact ⟨c, hx _ _ h1, h2⟩

def recA : AMode → AVal × AMode
  | .panicking ((v, false) :: older) => (v, .panicking ((v, true) :: older))
  | m => (.niliface, m)

/-- What an operation is to come to. -/
def UponR (P : Program) (ρ : Rho) (hp : Heap) (nx base : Nat) (w : World) (md : Option AMode) : OpRes → Result Next → Prop
  | .val v hp' nx', .ok (.value c) w' => Good ρ hp nx base w hp' nx' (fun ρ' => VR ρ' v c) w'
  | .val v hp' nx', .ok .skip w' => Good ρ hp nx base w hp' nx' (fun ρ' => VR ρ' v undef) w'
  | .val v hp' nx', .ok (.enter f args) w' => Calls P f args w' (OutR ρ hp nx base w (.ret v hp' nx'))
  | .pan ch hp' nx', .ok (.enter f args) w' => Calls P f args w' (OutR ρ hp nx base w (.pan ch hp' nx'))
  | .pan ch hp' nx', .halt (.panic v) w' => Good ρ hp nx base w hp' nx' (fun ρ' => CHR ρ' ch [{ v, recovered := false }]) w'
  | .defer d, .ok (.defer cd) w' => w' = w ∧ DR ρ d cd
  | .recov v m', .ok .recover w' => w' = w ∧ ∃ m, md = some m ∧ recA m = (v, m')
  | _, _ => False

theorem uponR_ret {md : Option AMode} {r : OpRes} {o : Option Out} (h : callRes o = some r) {f : FuncId} {cargs : Array Value} (hd : ∀ x, o = some x → Does P f cargs w (OutR ρ hp nx base w x)) : UponR P ρ hp nx base w md r ((callFunc f cargs).run P w) := by
  cases o with
  | none => cases h
  | some x =>
    have hd := hd x rfl
    cases x with
    | ret v hp' nx' =>
      simp only [callRes, Option.some.injEq] at h; subst h
      unfold Does at hd
      split at hd
      · rename_i he; rw [he]; exact hd
      · rename_i he; rw [he]; exact hd
      · exact hd.elim
    | pan c hp' nx' =>
      simp only [callRes, Option.some.injEq] at h; subst h
      unfold Does at hd
      split at hd
      · rename_i he; rw [he]; exact hd
      · exact hd.elim
      · exact hd.elim

theorem ValOK.upon {md : Option AMode} {s : Sem Value} {v : AVal} {hp' : Heap} {nx' : Nat} (h : ValOK P ρ hp nx base w s v hp' nx') : UponR P ρ hp nx base w md (.val v hp' nx') ((do pure (.value (← s)) : Sem Next).run P w) := by
  obtain ⟨c, w', ρ', h1, h2, h3, h4, h5⟩ := h
  simp only [Sem.run_bind, h1, Result.andThen_ok]
  exact ⟨ρ', h2, h3, h4, h5⟩

theorem unit_upon {md : Option AMode} {s : Sem Unit} {hp' : Heap} {nx' : Nat} (h : ∃ w' ρ', s.run P w = .ok () w' ∧ HR ρ' hp' w' base ∧ Fresh ρ' nx' ∧ Ev ρ hp nx w ρ' hp' nx' w') : UponR P ρ hp nx base w md (.val undefA hp' nx') ((do s; pure .skip : Sem Next).run P w) := by
  obtain ⟨w', ρ', h1, h3, h4, h5⟩ := h
  simp only [Sem.run_bind, h1, Result.andThen_ok]
  exact ⟨ρ', undef_VR, h3, h4, h5⟩

theorem app_VRs {x y : List AVal} {cx cy : Array Value} (h : VRs ρ x cx.toList) (k : VRs ρ y cy.toList) : VRs ρ (appS x y) (cx ++ cy).toList := by
  rw [appS_eq, Array.toList_append]; exact h.append k

theorem targetA_sound {fn : Fn} {cap args as : List AVal} {ccap cargs : Array Value} {f : FuncId} (hc : VRs ρ cap ccap.toList) (ha : VRs ρ args cargs.toList) (h : targetA P fn cap args = some (f, as)) :
    ∃ cas : List Value, VRs ρ as cas ∧ (invoke (.fn fn ccap) cargs).run P w = (callFunc f cas.toArray).run P w := by
  unfold targetA at h
  split at h
  · simp only [Option.some.injEq, Prod.mk.injEq] at h
    obtain ⟨rfl, rfl⟩ := h
    exact ⟨(cargs ++ ccap).toList, app_VRs ha hc, by simp only [invoke, Array.toArray_toList]⟩
  · rename_i name
    split at h
    case h_2 => cases h
    rename_i t v rest
    simp only [Option.map_eq_some_iff] at h
    obtain ⟨⟨f0, r⟩, hm, he⟩ := h
    simp only [Prod.mk.injEq] at he
    obtain ⟨rfl, rfl⟩ := he
    obtain ⟨c1, cr, hcl, hv1, hvr⟩ := ha.cons_inv
    simp only [VR] at hv1
    obtain ⟨y, rfl, hy⟩ := hv1
    obtain ⟨cr', h1, h2⟩ := methodA_sound (w := w) hy hm (P.types.size + Made.depth - 1)
    refine ⟨cr' :: cr, VRs.cons h1 hvr, ?_⟩
    have hd : P.types.size + Made.depth - 1 + 1 = P.types.size + Made.depth := by simp [Made.depth]
    rw [hd] at h2
    have hc0 : cargs = (Value.iface t y :: cr).toArray := by rw [← hcl]
    subst hc0
    simp [invoke, callMethod, h2, program, Sem.run]
  · rename_i t name
    split at h
    case h_2 => cases h
    rename_i x rest
    obtain ⟨c1, cr, hcl, hv1, hvr⟩ := ha.cons_inv
    have hc0 : cargs = (c1 :: cr).toArray := by rw [← hcl]
    subst hc0
    have hd : P.types.size + Made.depth - 1 + 1 = P.types.size + Made.depth := by simp [Made.depth]
    cases hu : P.underlying t with
    | none => simp [hu] at h
    | some u =>
      rw [hu] at h
      have hun := run_underlying' hu w
      split at h
      · rename_i t' v heq
        simp only [Option.map_eq_some_iff] at h
        obtain ⟨⟨f0, r⟩, hm, he⟩ := h
        simp only [Prod.mk.injEq] at he
        obtain ⟨rfl, rfl⟩ := he
        cases heq
        simp only [VR] at hv1
        obtain ⟨y, rfl, hy⟩ := hv1
        obtain ⟨cr', h1, h2⟩ := methodA_sound (w := w) hy hm (P.types.size + Made.depth - 1)
        rw [hd] at h2
        refine ⟨cr' :: cr, VRs.cons h1 hvr, ?_⟩
        simp [invoke, callMethod, h2, program, Sem.run, hun]
      · cases h
      · rename_i u' hni hni2 heq
        simp only [Option.map_eq_some_iff] at h
        obtain ⟨⟨f0, r⟩, hm, he⟩ := h
        simp only [Prod.mk.injEq] at he
        obtain ⟨rfl, rfl⟩ := he
        obtain ⟨cr', h1, h2⟩ := methodA_sound (w := w) hv1 hm (P.types.size + Made.depth - 1)
        rw [hd] at h2
        refine ⟨cr' :: cr, VRs.cons h1 hvr, ?_⟩
        cases u <;> first
          | (exfalso; cases hni2; exact hni _ rfl)
          | simp [invoke, callMethod, h2, program, Sem.run, hun]
      · cases h
  · rename_i t path f0 pr
    split at h
    case h_2 => cases h
    rename_i x rest
    obtain ⟨c1, cr, hcl, hv1, hvr⟩ := ha.cons_inv
    have hc0 : cargs = (c1 :: cr).toArray := by rw [← hcl]
    subst hc0
    split at h
    case isFalse => cases h
    rename_i hp
    have hpl : path.toList = [] := by
      have : path = #[] := by simpa using hp
      simp [this]
    cases hu : P.underlying t with
    | none => rw [hu] at h; simp at h
    | some u =>
      rw [hu] at h
      have hun := run_underlying' hu w
      have hfo : (follow [] t (Place.val c1)).run P w = .ok (t, .val c1) w := by rfl
      refine ⟨c1 :: cr, ?_, ?_⟩
      · split at h <;> first | (cases h; done) | (simp only [Option.some.injEq, Prod.mk.injEq] at h; obtain ⟨rfl, rfl⟩ := h; exact VRs.cons hv1 hvr)
      · have hf0 : f0 = f := by
          split at h <;> first | (cases h; done) | (simp only [Option.some.injEq, Prod.mk.injEq] at h; exact h.1)
        subst hf0
        cases u <;> cases pr <;> first | (simp at h; done) | simp [invoke, receiverVia, hpl, hfo, receiverAt, hun, Place.get]
  · cases h

theorem panic_upon {md : Option AMode} {t : TypeId} {v : AVal} {c : Value} (hR : HR ρ hp w base) (hF : Fresh ρ nx) (hv : VR ρ (.iface t v) c) :
    UponR P ρ hp nx base w md (.pan [(.iface t v, false)] hp nx) ((do pure (.value (← Instr.panic c)) : Sem Next).run P w) := by
  have hv0 := hv
  simp only [VR] at hv
  obtain ⟨y, rfl, hy⟩ := hv
  have : ((do pure (.value (← Instr.panic (.iface t y))) : Sem Next).run P w) = .halt (.panic (.iface t y)) w := by
    simp [Instr.panic, goPanic, Sem.run]
  rw [this]
  exact ⟨ρ, ⟨_, [], rfl, hv0, rfl, rfl, rfl⟩, hR, hF, Ev.refl ..⟩

variable {C : CallFn} {d : Option Tmp} {op : Op} {ty : TypeId} {pos : String} {af : Array Edge} {gd : Option (Nat × Bool)}

theorem map_toList {α β : Type} (f : α → β) (x : Array α) : (x.map f).toList = x.toList.map f := by simp

theorem two_args {x y : AVal} {cargs : Array Value} (h : VRs ρ [x, y] cargs.toList) : ∃ c1 c2, cargs = #[c1, c2] ∧ VR ρ x c1 ∧ VR ρ y c2 := by
  obtain ⟨c1, l, h0, h1, h2⟩ := h.cons_inv
  obtain ⟨c2, l', h3, h4, h5⟩ := h2.cons_inv
  have := h5.nil_inv
  subst this; subst h3
  exact ⟨c1, c2, by rw [← Array.toList_inj, h0], h1, h4⟩

theorem one_arg {x : AVal} {cargs : Array Value} (h : VRs ρ [x] cargs.toList) : ∃ c1, cargs = #[c1] ∧ VR ρ x c1 := by
  obtain ⟨c1, l, h0, h1, h2⟩ := h.cons_inv
  have := h2.nil_inv
  subst this
  exact ⟨c1, by rw [← Array.toList_inj, h0], h1⟩

theorem invoke_method {t : TypeId} {y cr' : Value} {name : String} {A : Array Value} {f0 : FuncId} (h2 : (method (P.types.size + Made.depth) t y name).run P w = .ok (f0, cr') w) :
    (invoke (.fn (.method name) #[]) (#[Value.iface t y] ++ A)).run P w = (callFunc f0 (#[cr'] ++ A)).run P w := by
  have e1 : (#[Value.iface t y] ++ A)[0]? = some (.iface t y) := by rw [Array.getElem?_append_left (Nat.zero_lt_one)]; rfl
  have e2 : (#[Value.iface t y] ++ A).extract 1 (#[Value.iface t y] ++ A).size = A := by
    apply Array.toList_inj.1; simp
  simp only [invoke, e1, e2, callMethod, Sem.run_bind, program, Sem.run, Result.andThen_ok, h2]

theorem hev_sound (hC : CallsOK P base C) (hR : HR ρ hp w base) (hT : TR ρ tm a.tmps) (hF : Fresh ρ nx) (hb : base ≤ w.heap.size) {md : Option AMode} {r : OpRes} (h : hev P C (opnd tm) hp nx md op = some r) :
    UponR P ρ hp nx base w md r ((execOp a.eval ⟨d, op, ty, pos, af, gd⟩).run P w) := by
  unfold hev hevW at h
  split at h
  · rename_i t x y
    simp only [Option.bind_eq_some_iff] at h
    obtain ⟨va, ha, vx, hx, h⟩ := h
    have ha' := opnd_sound hT ha
    have hx' := opnd_sound hT hx
    split at h
    case h_2 => cases h
    rename_i b o
    simp only [Option.bind_eq_some_iff] at h
    obtain ⟨n, hn, h⟩ := h
    split at h
    case isFalse => cases h
    rename_i hl
    simp only [Option.bind_eq_some_iff, Option.some.injEq] at h
    obtain ⟨hp', hw, rfl⟩ := h
    exact unit_upon (storeA_sound hR hF ha' hx' hn hl hw)
  · simp only [Option.bind_eq_some_iff, Option.some.injEq] at h
    obtain ⟨vm, hm, vk, hk, vx, hx, hp', hu, rfl⟩ := h
    exact unit_upon (updateA_sound hR hF (opnd_sound hT hm) (opnd_sound hT hk) (opnd_sound hT hx) hu)
  · simp only [Option.bind_eq_some_iff, Option.some.injEq] at h
    obtain ⟨vm, hm, vk, hk, vx, hx, hp', hu, rfl⟩ := h
    exact unit_upon (updateA_sound hR hF (opnd_sound hT hm) (opnd_sound hT hk) (opnd_sound hT hx) hu)
  · simp only [Option.bind_eq_some_iff, Option.some.injEq, Prod.exists] at h
    obtain ⟨vm, hm, vk, hk, v, hp', hu, rfl⟩ := h
    exact (mapEntryA_sound hR hF (opnd_sound hT hm) (opnd_sound hT hk) hu).upon
  · simp only [Option.bind_eq_some_iff, Option.some.injEq] at h
    obtain ⟨vm, hm, vk, hk, vx, hx, hp', hu, rfl⟩ := h
    exact unit_upon (entryStoreA_sound hR hF (opnd_sound hT hm) (opnd_sound hT hk) (opnd_sound hT hx) hu)
  · simp only [Option.bind_eq_some_iff, Option.some.injEq, Prod.exists] at h
    obtain ⟨vi, hi, v, hp', hu, rfl⟩ := h
    exact (nextA_sound hR hF (opnd_sound hT hi) hu).upon
  · rename_i src dst x
    simp only [Option.bind_eq_some_iff] at h
    obtain ⟨v, hx, h⟩ := h
    have hx' := opnd_sound hT hx
    split at h
    · rename_i u e s hsrc hdst
      split at h
      case h_2 => cases h
      rename_i he
      simp only [Option.some.injEq] at h
      subst h
      exact (bytesA_sound hR hF hb hx' hsrc hdst he).upon
    · rename_i u e v hsrc hdst _
      split at h
      case isFalse => cases h
      rename_i heq
      subst heq
      split at h
      case h_2 => cases h
      rename_i he
      split at h
      · split at h
        case h_2 => cases h
        rename_i hb'
        simp only [Option.some.injEq] at h
        subst h
        exact (sameBytes_sound hR hF hx' hdst he (.inl ⟨_, _, _, _, _, _, rfl, hb'⟩)).upon
      · split at h
        case h_2 => cases h
        rename_i hb'
        simp only [Option.some.injEq] at h
        subst h
        exact (sameBytes_sound hR hF hx' hdst he (.inr ⟨_, _, _, _, _, _, rfl, hb'⟩)).upon
      · cases h
    · cases h
  · simp only [Option.bind_eq_some_iff] at h
    obtain ⟨v, hx, h⟩ := h
    have hx' := opnd_sound hT hx
    split at h
    case h_2 => cases h
    simp only [Option.some.injEq] at h
    subst h
    exact panic_upon hR hF hx'
  · rename_i c
    simp only [Option.bind_eq_some_iff] at h
    obtain ⟨args, hargs, h⟩ := h
    have hargs' := opnds_sound hT hargs
    rw [← map_toList] at hargs'
    split at h
    · rename_i f hcal
      simp only [Option.bind_eq_some_iff] at h
      obtain ⟨fv, hf, h⟩ := h
      have hf' := opnd_sound hT hf
      split at h
      case h_2 => cases h
      rename_i fn first cap
      simp only [Option.some.injEq] at h
      subst h
      simp only [VR] at hf'
      obtain ⟨f1, c1, hfe, hv1, hv2⟩ := hf'
      have : (execOp a.eval ⟨d, .defer c, ty, pos, af, gd⟩).run P w = .ok (.defer { target := .fn fn c1, args := f1 ++ c.args.map a.eval }) w := by
        simp [execOp, resolve, hcal, hfe, Deferred.ofValue]
      rw [this]
      exact ⟨rfl, _, _, rfl, hv2, app_VRs hv1 hargs'⟩
    · rename_i rc name hcal
      simp only [Option.bind_eq_some_iff, Option.some.injEq] at h
      obtain ⟨rv, hr, rfl⟩ := h
      have hr' := opnd_sound hT hr
      have : (execOp a.eval ⟨d, .defer c, ty, pos, af, gd⟩).run P w = .ok (.defer { target := .fn (.method name) #[], args := #[a.eval rc] ++ c.args.map a.eval }) w := by
        simp [execOp, resolve, hcal]
      rw [this]
      refine ⟨rfl, _, _, rfl, VRs.nil, ?_⟩
      have : (#[a.eval rc] ++ c.args.map a.eval).toList = a.eval rc :: (c.args.map a.eval).toList := by simp
      rw [this]
      exact VRs.cons hr' hargs'
    · cases h
  · rename_i c
    simp only [Option.bind_eq_some_iff] at h
    obtain ⟨args, hargs, h⟩ := h
    have hargs' := opnds_sound hT hargs
    rw [← map_toList] at hargs'
    split at h
    · rename_i f hcal
      simp only [Option.bind_eq_some_iff] at h
      obtain ⟨fv, hf, h⟩ := h
      have hf' := opnd_sound hT hf
      split at h
      case h_2 => cases h
      rename_i fn first cap
      simp only [Option.bind_eq_some_iff, Prod.exists] at h
      obtain ⟨f0, as, htar, h⟩ := h
      simp only [VR] at hf'
      obtain ⟨f1, c1, hfe, hv1, hv2⟩ := hf'
      obtain ⟨cas, hcas, hinv⟩ := targetA_sound (P := P) (w := w) hv2 (app_VRs hv1 hargs') htar
      have : (execOp a.eval ⟨d, .call c, ty, pos, af, gd⟩).run P w = (callFunc f0 cas.toArray).run P w := by
        rw [← hinv]
        simp [execOp, resolve, hcal, hfe, Deferred.ofValue]
      rw [this]
      exact uponR_ret h fun x hx => hC _ _ _ _ _ hx ρ cas w hcas hR hF hb
    · rename_i rc name hcal
      simp only [Option.bind_eq_some_iff] at h
      obtain ⟨rv, hr, h⟩ := h
      have hr' := opnd_sound hT hr
      split at h
      case h_2 => cases h
      rename_i t v
      simp only [Option.bind_eq_some_iff, Prod.exists] at h
      obtain ⟨f0, r0, hm, h⟩ := h
      simp only [VR] at hr'
      obtain ⟨y, hye, hy⟩ := hr'
      obtain ⟨cr', h1, h2⟩ := methodA_sound (w := w) hy hm (P.types.size + Made.depth - 1)
      have hd : P.types.size + Made.depth - 1 + 1 = P.types.size + Made.depth := by simp [Made.depth]
      rw [hd] at h2
      have : (execOp a.eval ⟨d, .call c, ty, pos, af, gd⟩).run P w = (callFunc f0 (cr' :: (c.args.map a.eval).toList).toArray).run P w := by
        have e : (cr' :: (c.args.map a.eval).toList).toArray = #[cr'] ++ c.args.map a.eval := by
          apply Array.toList_inj.1; simp
        rw [e, ← invoke_method (A := c.args.map a.eval) h2]
        simp [execOp, resolve, hcal, hye]
      rw [this]
      exact uponR_ret h fun x hx => hC _ _ _ _ _ hx ρ _ w (VRs.cons h1 hargs') hR hF hb
    · rename_i hcal
      split at h
      case h_2 => cases h
      rename_i s x
      simp only [Option.bind_eq_some_iff, Option.some.injEq, Prod.exists] at h
      obtain ⟨v, hp', nx', hap, rfl⟩ := h
      obtain ⟨c1, c2, hce, hv1, hv2⟩ := two_args hargs'
      have hx := (appendA_sound (ty := ty) hR hF hb hv1 hv2 hap).upon (md := md)
      simpa [execOp, resolve, hcal, invoke, builtin, hce] using hx
    · rename_i hcal
      split at h
      case h_2 => cases h
      rename_i s x
      simp only [Option.bind_eq_some_iff, Option.some.injEq, Prod.exists] at h
      obtain ⟨v, hp', hap, rfl⟩ := h
      obtain ⟨c1, c2, hce, hv1, hv2⟩ := two_args hargs'
      have hx := (copyA_sound (ty := ty) hR hF hv1 hv2 hap).upon (md := md)
      simpa [execOp, resolve, hcal, invoke, builtin, hce] using hx
    · rename_i hcal
      split at h
      case h_2 => cases h
      rename_i t m k h0
      simp only [Option.bind_eq_some_iff, Option.some.injEq] at h
      obtain ⟨hp', hap, rfl⟩ := h
      obtain ⟨c1, c2, hce, hv1, hv2⟩ := two_args hargs'
      obtain ⟨w', ρ', q1, q2, q3, q4⟩ := deleteA_sound (ty := ty) hR hF h0 hv1 hv2 hap
      have : (execOp a.eval ⟨d, .call c, ty, pos, af, gd⟩).run P w = .ok (.value undef) w' := by
        simp [execOp, resolve, hcal, invoke, builtin, hce, q1]
      rw [this]
      exact ⟨ρ', undef_VR, q2, q3, q4⟩
    · rename_i hcal
      split at h
      case h_2 => cases h
      rename_i t x h0
      simp only [Option.bind_eq_some_iff, Option.some.injEq] at h
      obtain ⟨hp', hap, rfl⟩ := h
      obtain ⟨c1, hce, hv1⟩ := one_arg hargs'
      obtain ⟨w', ρ', q1, q2, q3, q4⟩ := clearA_sound (ty := ty) hR hF h0 hv1 hap
      have : (execOp a.eval ⟨d, .call c, ty, pos, af, gd⟩).run P w = .ok (.value undef) w' := by
        simp [execOp, resolve, hcal, invoke, builtin, hce, q1]
      rw [this]
      exact ⟨ρ', undef_VR, q2, q3, q4⟩
    · rename_i hcal
      split at h
      case h_2 => cases h
      simp only [Option.some.injEq] at h
      subst h
      obtain ⟨c1, hce, hv1⟩ := one_arg hargs'
      have hx := panic_upon (P := P) (md := md) hR hF hv1
      simpa [execOp, resolve, hcal, invoke, builtin, hce] using hx
    · rename_i hcal
      have hrun : (execOp a.eval ⟨d, .call c, ty, pos, af, gd⟩).run P w = .ok .recover w := by
        simp [execOp, resolve, hcal, invoke, builtin]
      rw [hrun]
      split at h
      · simp only [Option.some.injEq] at h; subst h
        exact ⟨rfl, _, rfl, rfl⟩
      · rename_i m hm
        simp only [Option.some.injEq] at h; subst h
        refine ⟨rfl, _, rfl, ?_⟩
        unfold recA
        split
        · exact absurd rfl (hm _ _)
        · rfl
      · cases h
    · cases h
  · cases h
end Go.Mu

namespace Go.Mu
variable {P : Program} {ρ : Rho} {hp : Heap} {nx base : Nat} {w : World} {tm : Tm} {a : Act}

/-! Code. -/
def DRs (ρ : Rho) : List ADf → List Deferred → Prop
  | [], l => l = []
  | d :: ds, l => ∃ c cs, l = c :: cs ∧ DR ρ d c ∧ DRs ρ ds cs

theorem DRs.mono {ρ ρ' : Rho} (hx : Ext ρ ρ') : ∀ {d : List ADf} {c : List Deferred}, DRs ρ d c → DRs ρ' d c
  | [], _, h => h
  | _ :: _, _, ⟨c, cs, h0, h1, h2⟩ => ⟨c, cs, h0, h1.mono hx, DRs.mono hx h2⟩

structure SRel (ρ : Rho) (st : St) (N : Nat) (dfr : Bool) (a : Act) (w : World) (base : Nat) : Prop where
  tr : TR ρ st.tm a.tmps
  hr : HR ρ st.hp w base
  fr : Fresh ρ st.nx
  sz : a.tmps.size = N
  df : DRs ρ st.df a.defers
  md : st.md.isSome = dfr
  ba : base ≤ w.heap.size

/-- The callers: the first one's mode is the state's, behind a deferred call. -/
def CSR (ρ : Rho) (c0 : Frame) (cs0 : List Frame) : Option AMode → List Frame → Prop
  | none, cs => cs = cs0
  | some m, cs => ∃ u, MR ρ m u ∧ cs = { c0 with mode := u } :: cs0

theorem CSR.mono {ρ ρ' : Rho} (hx : Ext ρ ρ') {c0 : Frame} {cs0 : List Frame} : ∀ {m : Option AMode} {cs : List Frame}, CSR ρ c0 cs0 m cs → CSR ρ' c0 cs0 m cs
  | none, _, h => h
  | some _, _, ⟨u, h1, h2⟩ => ⟨u, h1.mono hx, h2⟩

def ExR (ρ : Rho) : AExit → Exit → Prop
  | .normal, .normal => True
  | .exit i, .exit j => i = j
  | .goto i, .goto j => i = j
  | .ret, .ret => True
  | .panic c, .panic c' => CHR ρ c c'
  | _, _ => False

theorem ExR.mono {ρ ρ' : Rho} (hx : Ext ρ ρ') {e : AExit} {E : Exit} (h : ExR ρ e E) : ExR ρ' e E := by
  cases e <;> cases E <;> simp only [ExR] at * <;> first | exact h.mono hx | exact h

/-- What a piece of code comes to. -/
def Post (ρ : Rho) (hp : Heap) (nx base : Nat) (w : World) (N : Nat) (dfr : Bool) (c0 : Frame) (cs0 : List Frame) (e : AExit) (st' : St) (E : Exit) (a' : Act) (cs' : List Frame) (w' : World) : Prop :=
  ∃ ρ', ExR ρ' e E ∧ SRel ρ' st' N dfr a' w' base ∧ CSR ρ' c0 cs0 st'.md cs' ∧ Ev ρ hp nx w ρ' st'.hp st'.nx w'

theorem Post.trans {ρ1 : Rho} {hp1 : Heap} {nx1 : Nat} {w1 : World} {N : Nat} {dfr : Bool} {c0 : Frame} {cs0 : List Frame} {e : AExit} {st' : St} {E : Exit} {a' : Act} {cs' : List Frame} {w' : World} (hR : HR ρ hp w base) (hF : Fresh ρ nx)
    (h : Ev ρ hp nx w ρ1 hp1 nx1 w1) (k : Post ρ1 hp1 nx1 base w1 N dfr c0 cs0 e st' E a' cs' w') : Post ρ hp nx base w N dfr c0 cs0 e st' E a' cs' w' :=
  let ⟨ρ', h1, h2, h3, h4⟩ := k
  ⟨ρ', h1, h2, h3, Ev.trans hR hF h h4⟩

theorem Post.self {N : Nat} {dfr : Bool} {c0 : Frame} {cs0 : List Frame} {e : AExit} {st : St} {E : Exit} {cs : List Frame} (hS : SRel ρ st N dfr a w base) (hc : CSR ρ c0 cs0 st.md cs) (he : ExR ρ e E) : Post ρ st.hp st.nx base w N dfr c0 cs0 e st E a cs w :=
  ⟨ρ, he, hS, hc, Ev.refl ..⟩

/-! One operation. -/
theorem upon_val {md : Option AMode} {v : AVal} {hp' : Heap} {nx' : Nat} {res : Result Next} (h : UponR P ρ hp nx base w md (.val v hp' nx') res) {o : Oper} {K : Act → World → Prop} {Q : Exit → Act → World → Prop}
    (hK : ∀ c w', Good ρ hp nx base w hp' nx' (fun ρ' => VR ρ' v c) w' → K (a.put o.dst c) w') : o.upon P a K Q res := by
  cases res with
  | ok n w' =>
    cases n <;> simp only [UponR] at h <;> simp only [Oper.upon]
    · exact hK _ _ h
    · exact hK _ _ h
    · refine Calls.mono h fun e w'' he => ?_
      cases e <;> simp only [OutR] at he
      exact hK _ _ he
  | halt x w' => cases x <;> simp only [UponR] at h

theorem upon_pan {md : Option AMode} {ch : List (AVal × Bool)} {hp' : Heap} {nx' : Nat} {res : Result Next} (h : UponR P ρ hp nx base w md (.pan ch hp' nx') res) {o : Oper} {K : Act → World → Prop} {Q : Exit → Act → World → Prop}
    (hQ : ∀ c w', Good ρ hp nx base w hp' nx' (fun ρ' => CHR ρ' ch c) w' → Q (.panic c) a w') : o.upon P a K Q res := by
  cases res with
  | ok n w' =>
    cases n <;> simp only [UponR] at h
    simp only [Oper.upon]
    refine Calls.mono h fun e w'' he => ?_
    cases e <;> simp only [OutR] at he
    exact hQ _ _ he
  | halt x w' =>
    cases x <;> simp only [UponR] at h
    exact hQ _ _ h

theorem upon_defer {md : Option AMode} {d : ADf} {res : Result Next} (h : UponR P ρ hp nx base w md (.defer d) res) {o : Oper} {K : Act → World → Prop} {Q : Exit → Act → World → Prop}
    (hK : ∀ cd, DR ρ d cd → K (({ a with defers := cd :: a.defers } : Act).put o.dst undef) w) : o.upon P a K Q res := by
  cases res with
  | ok n w' =>
    cases n <;> simp only [UponR] at h
    obtain ⟨rfl, h⟩ := h
    exact hK _ h
  | halt x w' => cases x <;> simp only [UponR] at h

theorem upon_recov {md : Option AMode} {v : AVal} {m' : AMode} {res : Result Next} (h : UponR P ρ hp nx base w md (.recov v m') res) : res = .ok .recover w ∧ ∃ m, md = some m ∧ recA m = (v, m') := by
  cases res with
  | ok n w' =>
    cases n <;> simp only [UponR] at h
    obtain ⟨rfl, h⟩ := h
    exact ⟨rfl, h⟩
  | halt x w' => cases x <;> simp only [UponR] at h

theorem recoverD_sound {c0 : Frame} {cs0 cs : List Frame} {m m' : AMode} {v : AVal} (h : CSR ρ c0 cs0 (some m) cs) (hr : recA m = (v, m')) :
    (∃ c cs', recoverD cs = some (c, cs') ∧ VR ρ v c ∧ CSR ρ c0 cs0 (some m') cs') ∨ (recoverD cs = none ∧ v = .niliface ∧ CSR ρ c0 cs0 (some m') cs) := by
  obtain ⟨u, hu, rfl⟩ := h
  cases m with
  | returning =>
    simp only [MR] at hu
    subst hu
    simp only [recA, Prod.mk.injEq] at hr
    obtain ⟨rfl, rfl⟩ := hr
    exact .inr ⟨by simp [recoverD], rfl, _, rfl, rfl⟩
  | panicking ch =>
    obtain ⟨ch', rfl, hc⟩ := hu
    cases ch with
    | nil =>
      simp only [CHR] at hc
      subst hc
      simp only [recA, Prod.mk.injEq] at hr
      obtain ⟨rfl, rfl⟩ := hr
      exact .inr ⟨by simp [recoverD], rfl, _, ⟨[], rfl, rfl⟩, rfl⟩
    | cons x xs =>
      obtain ⟨x1, x2⟩ := x
      obtain ⟨y, ys, rfl, h1, h2, h3, h4⟩ := hc
      obtain ⟨yv, yr, yg⟩ := y
      simp only at h1 h2 h3
      subst h2; subst h3
      cases yr with
      | false =>
        simp only [recA, Prod.mk.injEq] at hr
        obtain ⟨rfl, rfl⟩ := hr
        refine .inl ⟨yv, { c0 with mode := .panicking ({ v := yv, recovered := true } :: ys) } :: cs0, by simp [recoverD], h1, _, ⟨_, rfl, ?_⟩, rfl⟩
        exact ⟨{ v := yv, recovered := true }, ys, rfl, h1, rfl, rfl, h4⟩
      | true =>
        simp only [recA, Prod.mk.injEq] at hr
        obtain ⟨rfl, rfl⟩ := hr
        exact .inr ⟨by simp [recoverD], rfl, _, ⟨_, rfl, _, _, rfl, h1, rfl, rfl, h4⟩, rfl⟩

theorem wantA_sound {ops : Array Oper} {o : Oper} {b : Bool} (hT : TR ρ tm a.tmps) (h : wantA ops tm o = some b) : Region.wanted o (yielded ops a.tmps) = b := by
  unfold wantA at h
  unfold Region.wanted
  cases hg : o.guard with
  | none => rw [hg] at h; simpa using h
  | some jw =>
    obtain ⟨j, wnt⟩ := jw
    rw [hg] at h
    simp only at h ⊢
    unfold yielded
    cases hd : (ops[j]?).bind (·.dst) with
    | none => rw [hd] at h; simp at h; subst h; simp
    | some d =>
      rw [hd] at h
      simp only at h
      split at h
      · rename_i b' hb
        obtain ⟨c, h1, h2⟩ := hT _ _ hb
        simp only [VR] at h2
        subst h2
        simp only [Option.some.injEq] at h
        subst h
        simp [h1]
      · rename_i v hv hnb
        obtain ⟨c, h1, h2⟩ := hT _ _ hnb
        simp only [Option.some.injEq] at h
        subst h
        have : ∀ b, c ≠ .bool b := by
          intro b' e
          subst e
          cases v <;> simp only [VR] at h2 <;> first
            | (exact hv _ rfl)
            | (obtain ⟨_, h2⟩ := h2; done)
            | (cases h2; done)
            | (simp at h2; done)
            | (obtain ⟨_, h2⟩ := h2; simp at h2; done)
            | (obtain ⟨_, _, h2⟩ := h2; simp at h2; done)
            | skip
        simp only [Option.bind_some, h1]
        cases c <;> first | rfl | exact absurd rfl (this _)
      · cases h

theorem put_size (a : Act) (d : Option Tmp) (v : Value) : (a.put d v).tmps.size = a.tmps.size := by cases d <;> simp [Act.put]
theorem put_defers' (a : Act) (d : Option Tmp) (v : Value) : (a.put d v).defers = a.defers := by cases d <;> rfl

theorem putD_sound {N : Nat} {d : Option Tmp} {v : AVal} {c : Value} {tm' : Tm} (hT : TR ρ tm a.tmps) (hN : a.tmps.size = N) (hv : VR ρ v c) (h : putD N tm d v = some tm') : TR ρ tm' (a.put d c).tmps := by
  unfold putD at h
  cases d with
  | none => simp at h; subst h; exact hT
  | some d =>
    simp only at h
    cases hb : Nat.blt d N with
    | false => rw [hb] at h; cases h
    | true =>
      rw [hb] at h
      simp only [cond_true, Option.some.injEq] at h
      subst h
      exact hT.set (by rw [hN, ← Nat.blt_eq]; exact hb) hv

/-- What one operation in its place comes to. -/
theorem evOp_sound {C : CallFn} (hC : CallsOK P base C) {st : St} {N : Nat} {dfr : Bool} (hS : SRel ρ st N dfr a w base) {o : Oper} {r : OpRes} (h : evOp P C st o.op = some r) :
    UponR P ρ st.hp st.nx base w st.md r ((execOp a.eval o).run P w) := by
  obtain ⟨d, op, ty, pos, af, gd⟩ := o
  unfold evOp at h
  split at h
  · exact hev_sound hC hS.hr hS.tr hS.fr hS.ba h
  · simp only [Option.bind_eq_some_iff, Prod.exists] at h
    obtain ⟨v, b, hl, h⟩ := h
    have hok := lev_sound1 (d := d) (ty := ty) (pos := pos) (af := af) (gd := gd) hS.hr hS.tr hl
    cases b with
    | none =>
      simp only [addBlk, Option.some.injEq] at h
      subst h
      obtain ⟨c, h1, h2⟩ := hok
      rw [h1]
      exact ⟨ρ, h2, hS.hr, hS.fr, Ev.refl ..⟩
    | some k =>
      simp only [addBlk, T.fz_eq, fn_eq, Option.some.injEq] at h
      subst h
      obtain ⟨ob, c, h1, h2⟩ := hok
      rw [h1]
      obtain ⟨ρ', a1, a2, a3, a4, a5⟩ := alloc_ev (k := k) (ob := ob) (c := ⟨w.heap.size, 0, 0, 0⟩) hS.hr hS.fr hS.ba rfl (fun ρ' hx hn => (h2 ρ' hx hn).2) (fun _ => .inr trivial)
      exact ⟨ρ', (h2 ρ' a2 a1).1, a3, a4, a5⟩

theorem SRel.next {st : St} {N : Nat} {dfr : Bool} (hS : SRel ρ st N dfr a w base) {ρ' : Rho} {hp' : Heap} {nx' : Nat} {w' : World} {o : Option Tmp} {v : AVal} {c : Value} {tm' : Tm} (hv : VR ρ' v c) (hR : HR ρ' hp' w' base) (hF : Fresh ρ' nx') (hE : Ev ρ st.hp st.nx w ρ' hp' nx' w')
    (ht : putD N st.tm o v = some tm') : SRel ρ' { st with tm := tm', hp := hp', nx := nx' } N dfr (a.put o c) w' base :=
  ⟨putD_sound (hS.tr.mono hE.ext) hS.sz hv ht, hR, hF, by rw [put_size]; exact hS.sz, by rw [put_defers']; exact hS.df.mono hE.ext, hS.md, Nat.le_trans hS.ba hE.size⟩

theorem SRel.skip {st : St} {N : Nat} {dfr : Bool} (hS : SRel ρ st N dfr a w base) {o : Option Tmp} {v : AVal} {c : Value} {tm' : Tm} (hv : VR ρ v c) (ht : putD N st.tm o v = some tm') : SRel ρ { st with tm := tm' } N dfr (a.put o c) w base :=
  ⟨putD_sound hS.tr hS.sz hv ht, hS.hr, hS.fr, by rw [put_size]; exact hS.sz, by rw [put_defers']; exact hS.df, hS.md, hS.ba⟩

/-- A region in its order: of an ordinary call. -/
theorem evOps_sound {C : CallFn} (hC : CallsOK P base C) {N : Nat} {ops : Array Oper} {c0 : Frame} {cs0 : List Frame} {e : AExit} {st' : St} : ∀ (l : List Oper) (idxs : List Nat) (st : St), evOps P C N ops l st = some (e, st') → idxs.map (ops[·]?) = l.map some →
    ∀ (ρ : Rho) (a : Act) (w : World), SRel ρ st N false a w base → ∀ (Q : Exit → Act → World → Prop), (∀ E a' w', Post ρ st.hp st.nx base w N false c0 cs0 e st' E a' cs0 w' → Q E a' w') → wpOps P ops Q idxs a w
  | [], idxs, st, h, hi, ρ, a, w, hS, Q, hQ => by
    simp only [evOps, Option.some.injEq, Prod.mk.injEq] at h
    obtain ⟨rfl, rfl⟩ := h
    have : idxs = [] := by simpa using hi
    subst this
    simp only [wpOps]
    refine hQ _ _ _ (Post.self hS ?_ trivial)
    have hm := hS.md
    cases hmd : st.md with
    | none => rfl
    | some m => rw [hmd] at hm; cases hm
  | o :: l, [], st, h, hi, _, _, _, _, _, _ => by simp at hi
  | o :: l, i :: idxs, st, h, hi, ρ, a, w, hS, Q, hQ => by
    simp only [List.map_cons, List.cons.injEq] at hi
    obtain ⟨ho, hi⟩ := hi
    have hmd : st.md = none := by
      have hm := hS.md
      cases hmd : st.md with
      | none => rfl
      | some m => rw [hmd] at hm; cases hm
    simp only [evOps, Option.bind_eq_some_iff, Prod.exists] at h
    obtain ⟨p, st1, hst, h⟩ := h
    simp only [stepA, Option.bind_eq_some_iff] at hst
    obtain ⟨wnt, hw, hst⟩ := hst
    have hwant := wantA_sound hS.tr hw
    simp only [wpOps, ho, hwant]
    cases wnt with
    | false =>
      simp only [Option.bind_eq_some_iff, Option.some.injEq, Prod.mk.injEq] at hst
      obtain ⟨tm1, ht, rfl, rfl⟩ := hst
      simp only [Bool.false_eq_true, if_false]
      exact evOps_sound hC l idxs _ h hi ρ _ w (hS.skip undef_VR ht) Q hQ
    | true =>
      simp only [Option.bind_eq_some_iff] at hst
      obtain ⟨r, hr, hst⟩ := hst
      have hU := evOp_sound hC hS hr
      simp only [if_true]
      left
      cases r with
      | val v hp1 nx1 =>
        simp only [Option.bind_eq_some_iff, Option.some.injEq, Prod.mk.injEq] at hst
        obtain ⟨tm1, ht, rfl, rfl⟩ := hst
        refine upon_val hU fun c w' ⟨ρ', g1, g2, g3, g4⟩ => ?_
        refine evOps_sound (c0 := c0) (cs0 := cs0) hC l idxs _ h hi ρ' _ w' (hS.next g1 g2 g3 g4 ht) Q fun E a' w'' hp => hQ _ _ _ ?_
        exact hp.trans hS.hr hS.fr g4
      | defer d =>
        simp only [Option.bind_eq_some_iff, Option.some.injEq, Prod.mk.injEq] at hst
        obtain ⟨tm1, ht, rfl, rfl⟩ := hst
        refine upon_defer hU fun cd hd => ?_
        refine evOps_sound hC l idxs _ h hi ρ _ w ⟨putD_sound (a := { a with defers := cd :: a.defers }) hS.tr hS.sz undef_VR ht, hS.hr, hS.fr, ?_, ?_, hS.md, hS.ba⟩ Q hQ
        · rw [put_size]; exact hS.sz
        · rw [put_defers']; exact ⟨_, _, rfl, hd, hS.df⟩
      | recov v m' =>
        obtain ⟨_, m, hm, _⟩ := upon_recov hU
        rw [hmd] at hm; cases hm
      | pan c hp1 nx1 =>
        simp only [Option.some.injEq, Prod.mk.injEq] at hst
        obtain ⟨rfl, rfl⟩ := hst
        simp only [Option.some.injEq, Prod.mk.injEq] at h
        obtain ⟨rfl, rfl⟩ := h
        refine upon_pan hU fun c' w' ⟨ρ', g1, g2, g3, g4⟩ => hQ _ _ _ ⟨ρ', g1, ⟨hS.tr.mono g4.ext, g2, g3, hS.sz, hS.df.mono g4.ext, hS.md, Nat.le_trans hS.ba g4.size⟩, ?_, g4⟩
        show CSR ρ' c0 cs0 st.md cs0
        rw [hmd]; rfl

/-- The same of a deferred call, which may recover. -/
theorem evOpsS_sound {C : CallFn} (hC : CallsOK P base C) {N : Nat} {ops : Array Oper} {c0 : Frame} {cs0 : List Frame} {e : AExit} {st' : St} : ∀ (l : List Oper) (idxs : List Nat) (st : St), evOps P C N ops l st = some (e, st') → idxs.map (ops[·]?) = l.map some →
    ∀ (ρ : Rho) (a : Act) (cs : List Frame) (w : World), SRel ρ st N true a w base → CSR ρ c0 cs0 st.md cs → ∀ (Q : Exit → Act → List Frame → World → Prop), (∀ E a' cs' w', Post ρ st.hp st.nx base w N true c0 cs0 e st' E a' cs' w' → Q E a' cs' w') → wpOpsS P ops Q idxs a cs w
  | [], idxs, st, h, hi, ρ, a, cs, w, hS, hc, Q, hQ => by
    simp only [evOps, Option.some.injEq, Prod.mk.injEq] at h
    obtain ⟨rfl, rfl⟩ := h
    have : idxs = [] := by simpa using hi
    subst this
    simp only [wpOpsS]
    exact hQ _ _ _ _ (Post.self hS hc trivial)
  | o :: l, [], st, h, hi, _, _, _, _, _, _, _, _ => by simp at hi
  | o :: l, i :: idxs, st, h, hi, ρ, a, cs, w, hS, hc, Q, hQ => by
    simp only [List.map_cons, List.cons.injEq] at hi
    obtain ⟨ho, hi⟩ := hi
    simp only [evOps, Option.bind_eq_some_iff, Prod.exists] at h
    obtain ⟨p, st1, hst, h⟩ := h
    simp only [stepA, Option.bind_eq_some_iff] at hst
    obtain ⟨wnt, hw, hst⟩ := hst
    have hwant := wantA_sound hS.tr hw
    simp only [wpOpsS, ho, hwant]
    cases wnt with
    | false =>
      simp only [Option.bind_eq_some_iff, Option.some.injEq, Prod.mk.injEq] at hst
      obtain ⟨tm1, ht, rfl, rfl⟩ := hst
      simp only [Bool.false_eq_true, if_false]
      exact evOpsS_sound hC l idxs _ h hi ρ _ cs w (hS.skip undef_VR ht) hc Q hQ
    | true =>
      simp only [Option.bind_eq_some_iff] at hst
      obtain ⟨r, hr, hst⟩ := hst
      have hU := evOp_sound hC hS hr
      simp only [if_true]
      cases r with
      | recov v m' =>
        simp only [Option.bind_eq_some_iff, Option.some.injEq, Prod.mk.injEq] at hst
        obtain ⟨tm1, ht, rfl, rfl⟩ := hst
        obtain ⟨hrun, m, hm, hrec⟩ := upon_recov hU
        rw [hm] at hc
        rw [hrun]
        simp only
        rcases recoverD_sound hc hrec with ⟨c, cs', q1, q2, q3⟩ | ⟨q1, q2, q3⟩
        · rw [q1]
          have hS1 := hS.skip (c := c) q2 ht
          exact evOpsS_sound hC l idxs _ h hi ρ _ cs' w ⟨hS1.tr, hS1.hr, hS1.fr, hS1.sz, hS1.df, by have := hS.md; rw [hm] at this; exact this, hS1.ba⟩ q3 Q hQ
        · rw [q1]
          subst q2
          have hS1 := hS.skip (c := .nilIface) (v := .niliface) (by simp only [VR]) ht
          exact evOpsS_sound hC l idxs _ h hi ρ _ cs w ⟨hS1.tr, hS1.hr, hS1.fr, hS1.sz, hS1.df, by have := hS.md; rw [hm] at this; exact this, hS1.ba⟩ q3 Q hQ
      | val v hp1 nx1 =>
        simp only [Option.bind_eq_some_iff, Option.some.injEq, Prod.mk.injEq] at hst
        obtain ⟨tm1, ht, rfl, rfl⟩ := hst
        have hne : ∀ w', (execOp a.eval o).run P w ≠ .ok .recover w' := by
          intro w' hx; rw [hx] at hU; simp only [UponR] at hU
        split
        · rename_i w' hx; exact absurd hx (hne w')
        refine upon_val hU fun c w' ⟨ρ', g1, g2, g3, g4⟩ => ?_
        refine evOpsS_sound (c0 := c0) (cs0 := cs0) hC l idxs _ h hi ρ' _ cs w' (hS.next g1 g2 g3 g4 ht) (hc.mono g4.ext) Q fun E a' cs' w'' hp => hQ _ _ _ _ ?_
        exact hp.trans hS.hr hS.fr g4
      | defer d =>
        simp only [Option.bind_eq_some_iff, Option.some.injEq, Prod.mk.injEq] at hst
        obtain ⟨tm1, ht, rfl, rfl⟩ := hst
        have hne : ∀ w', (execOp a.eval o).run P w ≠ .ok .recover w' := by
          intro w' hx; rw [hx] at hU; simp only [UponR] at hU
        split
        · rename_i w' hx; exact absurd hx (hne w')
        refine upon_defer hU fun cd hd => ?_
        refine evOpsS_sound hC l idxs _ h hi ρ _ cs w ⟨putD_sound (a := { a with defers := cd :: a.defers }) hS.tr hS.sz undef_VR ht, hS.hr, hS.fr, ?_, ?_, hS.md, hS.ba⟩ hc Q hQ
        · rw [put_size]; exact hS.sz
        · rw [put_defers']; exact ⟨_, _, rfl, hd, hS.df⟩
      | pan c hp1 nx1 =>
        simp only [Option.some.injEq, Prod.mk.injEq] at hst
        obtain ⟨rfl, rfl⟩ := hst
        simp only [Option.some.injEq, Prod.mk.injEq] at h
        obtain ⟨rfl, rfl⟩ := h
        have hne : ∀ w', (execOp a.eval o).run P w ≠ .ok .recover w' := by
          intro w' hx; rw [hx] at hU; simp only [UponR] at hU
        split
        · rename_i w' hx; exact absurd hx (hne w')
        refine upon_pan hU fun c' w' ⟨ρ', g1, g2, g3, g4⟩ => hQ _ _ _ _ ⟨ρ', g1, ⟨hS.tr.mono g4.ext, g2, g3, hS.sz, hS.df.mono g4.ext, hS.md, Nat.le_trans hS.ba g4.size⟩, hc.mono g4.ext, g4⟩
end Go.Mu

namespace Go.Mu
variable {P : Program} {ρ : Rho} {hp : Heap} {nx base : Nat} {w : World} {tm : Tm} {a : Act} {C : CallFn} {N LF : Nat} {dfr : Bool}

/-! A range over a function. -/

/-- A block that is let go. -/
theorem del_ev (hR : HR ρ hp w base) (hF : Fresh ρ nx) {b : Nat} {k : ABlk} {c : CB} (hk : hp.get b = some k) (hc : ρ b = some c) {w' : World}
    (hoth : ∀ i, i ≠ c.blk → w'.heap[i]? = w.heap[i]?) (hsz : w'.heap.size = w.heap.size) (hos : w'.os = w.os) (htape : w'.tape = w.tape) (hout : w'.output = w.output) (hns : ∀ b', ¬ sibs k b') :
    HR ρ (hp.del b) w' base ∧ Ev ρ hp nx w ρ (hp.del b) nx w' := by
  have old : ∀ b' q, (hp.del b).get b' = some q → b' ≠ b ∧ hp.get b' = some q := by
    intro b' q hq
    rw [T.get_del] at hq
    split at hq
    · cases hq
    · rename_i hne; exact ⟨hne, hq⟩
  refine ⟨⟨fun b' q hq => ?_, fun b1 b2 k1 k2 c1 c2 hk1 hk2 hc1 hc2 he hne => ?_⟩, ⟨.refl ρ, Nat.le_refl _, fun b' q hq _ => ⟨q, (old b' q hq).2⟩, hos, htape, hout, by omega, fun i hi hno => ?_, fun b' c' h1 h2 => by rw [h1] at h2; cases h2⟩⟩
  · obtain ⟨hne, h1⟩ := old b' q hq
    obtain ⟨c0, ob0, h3, h4, h5, h6⟩ := hR.blk b' q h1
    have : c0.blk ≠ c.blk := fun e => hns b' (hR.inj b b' k q c c0 hk h1 hc h3 e.symm (Ne.symm hne))
    exact ⟨c0, ob0, h3, h4, by rw [hoth _ this]; exact h5, h6⟩
  · exact hR.inj b1 b2 k1 k2 c1 c2 (old b1 k1 hk1).2 (old b2 k2 hk2).2 hc1 hc2 he hne
  · exact hoth i (fun e => hno b k c hk hc e.symm)

theorem putObj_ev (hR : HR ρ hp w base) (hF : Fresh ρ nx) {b : Nat} {k : ABlk} {c : CB} (hk : hp.get b = some k) (hc : ρ b = some c) (hns : ∀ b', ¬ sibs k b') (ob : Obj) :
    HR ρ (hp.del b) (w.putObj c.blk ob) base ∧ Ev ρ hp nx w ρ (hp.del b) nx (w.putObj c.blk ob) :=
  del_ev hR hF hk hc (fun i hi => World.putObj_heap_other hi) (by simp [World.putObj]) rfl rfl rfl hns

theorem hasBody_some {f : FuncId} (h : hasBody P f = true) : ∃ fn c, P.funcs[f]? = some fn ∧ fn.body = some c := by
  unfold hasBody at h
  split at h
  · rename_i fn hf
    cases hb : fn.body with
    | none => rw [hb] at h; cases h
    | some c => exact ⟨fn, c, hf, hb⟩
  · cases h

theorem does_enter {f : FuncId} (h : hasBody P f = true) {args : Array Value} {R : Ending → World → Prop} (hd : Does P f args w R) : (callFunc f args).run P w = .ok (.enter f args) w ∧ Calls P f args w R := by
  obtain ⟨fn, c, hf, hb⟩ := hasBody_some h
  cases hn : (fn.name == "runtime.NumGoroutine") with
  | false =>
    have hr : (callFunc f args).run P w = .ok (.enter f args) w := by
      have hn' : ¬ fn.name = "runtime.NumGoroutine" := by simpa using hn
      simp [callFunc, program, Sem.run, hf, hn', hb]
    unfold Does at hd
    rw [hr] at hd
    exact ⟨hr, hd⟩
  | true =>
    have hn' : fn.name = "runtime.NumGoroutine" := by simpa using hn
    unfold Does at hd
    simp [callFunc, program, Sem.run, hf, hn'] at hd

theorem jump_none {e : AExit} (h : jumpE none = some e) : e = .normal := by simp only [jumpE, Option.some.injEq] at h; exact h.symm

theorem jump_wp {F : Fence} {n : Nat} {c : Code} {e : AExit} (h : jumpE (some c) = some e) {Q : Exit → Act → World → Prop} (hq : ∀ E, ExR ρ e E → Q E a w) : c.wpIn F n P Q a w := by
  unfold jumpE at h
  split at h
  · rename_i he; cases he
  · rename_i he; cases he; simp only [Option.some.injEq] at h; subst h; exact wpIn_ret (hq .ret trivial)
  · rename_i he; cases he; simp only [Option.some.injEq] at h; subst h; exact wpIn_exit (hq (.exit _) rfl)
  · rename_i he; cases he; simp only [Option.some.injEq] at h; subst h; exact wpIn_goto (hq (.goto _) rfl)
  · cases h

theorem rangeA_sound (hC : CallsOK P base C) {g : Operand} {ps : Array Tmp} {assign body : Code} {st st' : St} {e : AExit} (h : rangeA P C N g ps assign body st = some (e, st')) (hS : SRel ρ st N dfr a w base) {Q : Exit → Act → World → Prop}
    (hQ : ∀ ρ' E a' w', ExR ρ' e E → SRel ρ' st' N dfr a' w' base → Ev ρ st.hp st.nx w ρ' st'.hp st'.nx w' → Q E a' w') : (Code.rangeFunc g ps assign body).wp P Q a w ∧ st.md = none ∧ st'.md = none := by
  unfold rangeA at h
  split at h
  · cases h
  rename_i hmd
  simp only [Option.bind_eq_some_iff] at h
  obtain ⟨v, hv, h⟩ := h
  split at h
  case h_2 => cases h
  rename_i fn first cap
  simp only [Option.bind_eq_some_iff] at h
  obtain ⟨p, htar, h⟩ := h
  split at h
  case isFalse => cases h
  rename_i hbody
  simp only [Option.bind_eq_some_iff] at h
  obtain ⟨o, hcall, h⟩ := h
  split at h
  · cases h
  rename_i rv hp' nx'
  simp only [Option.bind_eq_some_iff] at h
  obtain ⟨k, hk, h⟩ := h
  split at h
  case h_2 => cases h
  rename_i dn pend tm1 N1 ps1 as1 bo1
  simp only [Option.bind_eq_some_iff, Option.some.injEq, Prod.mk.injEq] at h
  obtain ⟨e1, hj, rfl, rfl⟩ := h
  refine ⟨?_, hmd, hmd⟩
  have hv' := opnd_sound hS.tr hv
  simp only [VR] at hv'
  obtain ⟨f1, c1, hfe, hv1, hv2⟩ := hv'
  have hD0 : BR ρ ⟨w.heap.size, 0, 0, 0⟩ .dblk (.deferred (some [])) := ⟨rfl, rfl⟩
  obtain ⟨ρ1, g1, g2, g3, g4, g5⟩ := alloc_ev (k := .dblk) (ob := .deferred (some [])) (c := ⟨w.heap.size, 0, 0, 0⟩) hS.hr hS.fr hS.ba rfl (fun ρ' hx hn => ⟨rfl, rfl⟩) (fun _ => .inr trivial)
  refine wpIn_wide (n := 0) |>.1 (wpIn_rangeFunc fun fnid _ => ?_)
  let lp : Loop := { state := .ready, pending := none, fn := fnid, tmps := a.tmps, params := ps, assign, body, defers := w.heap.size }
  obtain ⟨ρ2, i1, i2, i3, i4, i5⟩ := alloc_ev (k := .loop false none st.tm N ps.toList assign body) (ob := .loop lp) (c := ⟨(w.alloc (.deferred (some []))).heap.size, 0, 0, 0⟩) g3 g4 (Nat.le_trans hS.ba g5.size) rfl
    (fun ρ' hx hn => ⟨⟨fnid, a.tmps, w.heap.size, by simp [lp], hS.sz, fun t v ht => by
      obtain ⟨c, h1, h2⟩ := hS.tr t v ht
      exact ⟨c, h1, VR.mono (g2.trans hx) _ _ h2⟩⟩, rfl⟩) (fun _ => .inr trivial)
  have hsz : (w.alloc (.deferred (some []))).heap.size = w.heap.size + 1 := by simp
  rw [hsz] at i1
  have hx2 : Ext ρ ρ2 := g2.trans i2
  have hargs : VRs ρ2 (appS first [.yld (st.nx + 1)]) (f1 ++ #[Value.func (.yield (w.heap.size + 1)) #[] #[]]).toList := by
    refine app_VRs (VRs.mono hx2 _ _ hv1) (VRs.cons ?_ VRs.nil)
    simp only [VR]
    exact ⟨_, i1, rfl⟩
  have E2 := Ev.trans hS.hr hS.fr g5 i5
  obtain ⟨cas, hcas, hinv⟩ := targetA_sound (P := P) (w := (w.alloc (.deferred (some []))).alloc (.loop lp)) (VRs.mono hx2 _ _ hv2) hargs htar
  have hdo := hC _ _ _ _ _ hcall ρ2 cas ((w.alloc (.deferred (some []))).alloc (.loop lp)) hcas i3 i4 (Nat.le_trans hS.ba E2.size)
  obtain ⟨hent, hcalls⟩ := does_enter hbody hdo
  refine ⟨w.heap.size + 1, [{ target := .collected w.heap.size, args := #[] }], (w.alloc (.deferred (some []))).alloc (.loop lp), { target := .fn fn c1, args := f1 ++ #[.func (.yield (w.heap.size + 1)) #[] #[]] }, _, p.1, cas.toArray, _,
    run_enterLoop_outer _ _ _ _ _, ?_, fun _ _ => trivial, by rw [hinv]; exact hent, fun h => by simp [Fence.wide] at h, callsIn_wide.2 (Calls.mono hcalls fun e w3 ho => ?_)⟩
  · have hf' : a.eval g = .func fn f1 c1 := hfe
    simp [resolve, hf', Deferred.ofValue]
    rfl
  cases e with
  | panicked c => exact ho.elim
  | outgrown => exact ho.elim
  | returned c =>
    obtain ⟨ρ3, j1, j2, j3, j4⟩ := ho
    have hc3 : ρ3 (st.nx + 1) = some ⟨w.heap.size + 1, 0, 0, 0⟩ := j4.ext _ _ i1
    obtain ⟨ob, hob, ⟨fn3, tmps3, D3, rfl, q2, q3⟩, q4⟩ := j2.at hk hc3
    have hend := run_endLoop (P := P) hob (by cases dn <;> simp)
    obtain ⟨k1, k2⟩ := putObj_ev j2 j3 hk hc3 (by intro b'; simp [sibs]) (.loop { state := .exhausted, pending := pend, fn := fn3, tmps := tmps3, params := ps1.toArray, assign := as1, body := bo1, defers := D3 })
    refine ⟨pend, _, hend, ?_⟩
    have Eall : Ev ρ st.hp st.nx w ρ3 (rangeEnd st hp' nx').hp (rangeEnd st hp' nx').nx _ := Ev.trans hS.hr hS.fr (Ev.trans hS.hr hS.fr E2 j4) k2
    have key : ∀ E, ExR ρ3 e1 E → Q E { a with defers := [{ target := .collected w.heap.size, args := #[] }] ++ a.defers } _ := fun E hE => hQ ρ3 E _ _ hE ⟨hS.tr.mono Eall.ext, k1, j3, hS.sz, ⟨_, _, rfl, ⟨_, (Ext.trans i2 j4.ext) _ _ g1, rfl⟩, hS.df.mono Eall.ext⟩, hS.md, Nat.le_trans hS.ba Eall.size⟩ Eall
    cases pend with
    | none => rw [jump_none hj] at key; exact key .normal trivial
    | some c => exact jump_wp (ρ := ρ3) hj key
end Go.Mu

namespace Go.Mu
variable {P : Program} {ρ : Rho} {hp : Heap} {nx base : Nat} {w : World} {tm : Tm} {a : Act} {C : CallFn} {N LF : Nat} {dfr : Bool} {c0 : Frame} {cs0 cs : List Frame}

def Runs (P : Program) (m : Machine) (b : Frame) (k : List Item) (R : Exit → Act → List Frame → World → Prop) : Prop :=
  ∃ E a' cs' w', R E a' cs' w' ∧ Arrives P m b k cs' E a' w'

def wpG (P : Program) (dfr : Bool) (c : Code) (R : Exit → Act → List Frame → World → Prop) (a : Act) (cs : List Frame) (w : World) : Prop :=
  ∀ (b : Frame) (k : List Item), (dfr = true → b.kind = .deferred ∧ b.roundOf = none) → Runs P (lone (b.at a (.code c :: k)) cs w) b k R

def DrawnOK (P : Program) (base : Nat) (N : Nat) (drawn : Array Oper → St → Option (AExit × St)) : Prop :=
  ∀ id ops dfr st e st' c0 cs0, drawn ops st = some (e, st') → ∀ ρ a cs w, SRel ρ st N dfr a w base → CSR ρ c0 cs0 st.md cs →
    wpG P dfr (.region id ops true) (Post ρ st.hp st.nx base w N dfr c0 cs0 e st') a cs w

theorem range_map (ops : Array Oper) : (List.range ops.size).map (ops[·]?) = ops.toList.map some := by
  apply List.ext_getElem?
  intro i
  simp only [List.getElem?_map, List.getElem?_range', Array.getElem?_toList]
  by_cases h : i < ops.size
  · simp [h]
  · simp [h]

theorem region_sound (hC : CallsOK P base C) {ops : Array Oper} {id : Nat} {st : St} {e : AExit} {st' : St} (h : evOps P C N ops ops.toList st = some (e, st')) (hS : SRel ρ st N dfr a w base) (hc : CSR ρ c0 cs0 st.md cs) :
    wpG P dfr (.region id ops false) (Post ρ st.hp st.nx base w N dfr c0 cs0 e st') a cs w := by
  intro b k hb
  cases dfr with
  | true =>
    obtain ⟨h1, h2⟩ := hb rfl
    have hw := evOpsS_sound (c0 := c0) (cs0 := cs0) hC ops.toList (List.range ops.size) st h (range_map ops) ρ a cs w hS hc _ (fun E a' cs' w' hp => hp)
    exact wpS_region hw b k h1 h2
  | false =>
    have hm : st.md = none := by
      have hm := hS.md
      cases hmd : st.md with
      | none => rfl
      | some m => rw [hmd] at hm; cases hm
    rw [hm] at hc
    have hcs : cs = cs0 := hc
    subst hcs
    have hw := evOps_sound (c0 := c0) (cs0 := cs) hC ops.toList (List.range ops.size) st h (range_map ops) ρ a w hS _ (fun E a' w' hp => hp)
    obtain ⟨E, a', w', q, r⟩ := wp_region (id := id) hw b k cs
    exact ⟨E, a', cs, w', q, r⟩

/-- What goes on behind a piece of code that ends as it does. -/
theorem Runs.pass {m : Machine} {b : Frame} {k : List Item} {x : Item} {R : Exit → Act → List Frame → World → Prop} (hx : x.plain = true) (h : Runs P m b (x :: k) (fun E a' cs' w' => E ≠ .normal ∧ R E a' cs' w')) : Runs P m b k R := by
  obtain ⟨E, a', cs', w', ⟨hne, q⟩, r⟩ := h
  exact ⟨E, a', cs', w', q, .pass hx (fun _ _ => .inl hne) r⟩

theorem Runs.steps {m m1 : Machine} {b : Frame} {k : List Item} {R : Exit → Act → List Frame → World → Prop} (h : Steps P m m1) (k' : Runs P m1 b k R) : Runs P m b k R := by
  obtain ⟨E, a', cs', w', q, r⟩ := k'
  exact ⟨E, a', cs', w', q, .of_steps h r⟩

theorem Runs.mono {m : Machine} {b : Frame} {k : List Item} {R R' : Exit → Act → List Frame → World → Prop} (h : Runs P m b k R) (hr : ∀ E a' cs' w', R E a' cs' w' → R' E a' cs' w') : Runs P m b k R' := by
  obtain ⟨E, a', cs', w', q, r⟩ := h
  exact ⟨E, a', cs', w', hr _ _ _ _ q, r⟩

theorem ExR.normal_inv {e : AExit} (h : ExR ρ e .normal) : e = .normal := by cases e <;> first | rfl | exact h.elim

theorem ExR.to_normal {E : Exit} (h : ExR ρ .normal E) : E = .normal := by cases E <;> first | rfl | exact h.elim

theorem step_scope {b : Frame} {k : List Item} {x : Code} : step P (lone (b.at a (.code (.scope x) :: k)) cs w) = .next (lone (b.at a (.code x :: .inScope x :: k)) cs w) :=
  step_lone_go (by simp [stepG, stepG.exec, Frame.at])

theorem step_inScope {b : Frame} {k : List Item} {x : Code} : step P (lone (b.at a (.inScope x :: k)) cs w) = .next (lone (b.at a k) cs w) :=
  step_lone_go (by simp [stepG, stepG.exec, Frame.at])

theorem evC_sound (hC : CallsOK P base C) {drawn : Array Oper → St → Option (AExit × St)} (hD : DrawnOK P base N drawn) : ∀ (c : Code) (st : St) (e : AExit) (st' : St), evC P C N drawn LF c st = some (e, st') →
    ∀ (ρ : Rho) (a : Act) (cs : List Frame) (w : World), SRel ρ st N dfr a w base → CSR ρ c0 cs0 st.md cs → wpG P dfr c (Post ρ st.hp st.nx base w N dfr c0 cs0 e st') a cs w := by
  intro c
  induction c with
  | skip =>
    intro st e st' h ρ a cs w hS hc b k hb
    simp only [evC, Option.some.injEq, Prod.mk.injEq] at h
    obtain ⟨rfl, rfl⟩ := h
    exact ⟨.normal, a, cs, w, Post.self hS hc trivial, .one step_skip⟩
  | label l =>
    intro st e st' h ρ a cs w hS hc b k hb
    simp only [evC, Option.some.injEq, Prod.mk.injEq] at h
    obtain ⟨rfl, rfl⟩ := h
    exact ⟨.normal, a, cs, w, Post.self hS hc trivial, .one step_label⟩
  | region id ops dr =>
    intro st e st' h ρ a cs w hS hc
    cases dr with
    | false => simp only [evC] at h; exact region_sound hC h hS hc
    | true => simp only [evC] at h; exact hD id ops dfr st e st' c0 cs0 h ρ a cs w hS hc
  | seq x y ihx ihy =>
    intro st e st' h ρ a cs w hS hc b k hb
    simp only [evC] at h
    split at h
    · rename_i st1 hx
      obtain ⟨E, a1, cs1, w1, ⟨ρ1, h1, h2, h3, h4⟩, harr⟩ := ihx st _ st1 hx ρ a cs w hS hc b (.code y :: k) hb
      have hE := h1.to_normal
      subst hE
      exact Runs.steps (.head step_seq harr) ((ihy st1 e st' h ρ1 a1 cs1 w1 h2 h3 b k hb).mono fun E a' cs' w' hp => hp.trans hS.hr hS.fr h4)
    · rename_i r hne
      have hx' : evC P C N drawn LF x st = some (e, st') := h
      refine Runs.steps (.one step_seq) (Runs.pass (x := .code y) rfl ((ihx st e st' hx' ρ a cs w hS hc b (.code y :: k) hb).mono fun E a' cs' w' hp => ⟨fun hE => ?_, hp⟩))
      subst hE
      obtain ⟨ρ1, h1, _⟩ := hp
      have := h1.normal_inv
      subst this
      exact hne st' hx'
  | cond c x y ihx ihy =>
    intro st e st' h ρ a cs w hS hc b k hb
    simp only [evC] at h
    split at h
    · rename_i hop
      have hv := opnd_sound hS.tr hop
      simp only [VR] at hv
      exact Runs.steps (.one (step_cond hv)) (ihx st e st' h ρ a cs w hS hc b k hb)
    · rename_i hop
      have hv := opnd_sound hS.tr hop
      simp only [VR] at hv
      exact Runs.steps (.one (step_cond hv)) (ihy st e st' h ρ a cs w hS hc b k hb)
    · cases h
  | block id x ih =>
    intro st e st' h ρ a cs w hS hc b k hb
    simp only [evC] at h
    have key : ∀ e1 st1, evC P C N drawn LF x st = some (e1, st1) → (e1 = .exit id → e = .normal ∧ st' = st1) → (e1 ≠ .exit id → e = e1 ∧ st' = st1) → Runs P (lone (b.at a (.code (.block id x) :: k)) cs w) b k (Post ρ st.hp st.nx base w N dfr c0 cs0 e st') := by
      intro e1 st1 hx hin hout
      obtain ⟨E, a1, cs1, w1, ⟨ρ1, h1, h2, h3, h4⟩, harr⟩ := ih st _ st1 hx ρ a cs w hS hc b (.inBlock id :: k) hb
      cases E with
      | normal =>
        have he := h1.normal_inv
        subst he
        obtain ⟨rfl, rfl⟩ := hout (by simp)
        exact ⟨.normal, a1, cs1, w1, ⟨ρ1, trivial, h2, h3, h4⟩, .head step_block (Steps.trans harr (.one step_inBlock))⟩
      | exit id' =>
        cases e1 with
        | exit j =>
          simp only [ExR] at h1
          subst h1
          by_cases hid : j = id
          · subst hid
            obtain ⟨rfl, rfl⟩ := hin rfl
            exact ⟨.normal, a1, cs1, w1, ⟨ρ1, trivial, h2, h3, h4⟩, .head step_block (harr k (by simp [exitTo]))⟩
          · obtain ⟨rfl, rfl⟩ := hout (by simpa using hid)
            refine ⟨.exit j, a1, cs1, w1, ⟨ρ1, rfl, h2, h3, h4⟩, fun k' hk => .head step_block (harr k' ?_)⟩
            have : (id == j) = false := by simp; exact fun h => hid h.symm
            simp [exitTo, this, hk]
        | _ => exact h1.elim
      | goto l =>
        cases e1 with
        | goto j =>
          obtain ⟨rfl, rfl⟩ := hout (by simp)
          exact ⟨_, a1, cs1, w1, ⟨ρ1, h1, h2, h3, h4⟩, fun k' hk => .head step_block (harr k' (by simp [gotoIn, hk]))⟩
        | _ => exact h1.elim
      | ret =>
        cases e1 with
        | ret =>
          obtain ⟨rfl, rfl⟩ := hout (by simp)
          exact ⟨_, a1, cs1, w1, ⟨ρ1, h1, h2, h3, h4⟩, .of_steps (.one step_block) harr⟩
        | _ => exact h1.elim
      | panic ch =>
        cases e1 with
        | panic c =>
          obtain ⟨rfl, rfl⟩ := hout (by simp)
          exact ⟨_, a1, cs1, w1, ⟨ρ1, h1, h2, h3, h4⟩, .of_steps (.one step_block) harr⟩
        | _ => exact h1.elim
      | outgrown => cases e1 <;> exact h1.elim
    split at h
    · rename_i i st1 hx
      split at h
      · rename_i hid
        subst hid
        simp only [Option.some.injEq, Prod.mk.injEq] at h
        exact key _ _ hx (fun _ => ⟨h.1.symm, h.2.symm⟩) (fun hne => absurd rfl hne)
      · rename_i hid
        simp only [Option.some.injEq, Prod.mk.injEq] at h
        exact key _ _ hx (fun he => by cases he; exact absurd rfl hid) (fun _ => ⟨h.1.symm, h.2.symm⟩)
    · rename_i r hne
      have hx' : evC P C N drawn LF x st = some (e, st') := h
      exact key e st' hx' (fun he => by subst he; exact absurd hx' (hne _ _)) (fun _ => ⟨rfl, rfl⟩)
  | loop x ih =>
    intro st e st' h ρ a cs w hS hc b k hb
    simp only [evC] at h
    have key : ∀ (f : Nat) (st : St), loopA (evC P C N drawn LF x) f st = some (e, st') → ∀ (ρ : Rho) (a : Act) (cs : List Frame) (w : World), SRel ρ st N dfr a w base → CSR ρ c0 cs0 st.md cs →
        Runs P (lone (b.at a (.code x :: .inLoop x :: k)) cs w) b k (Post ρ st.hp st.nx base w N dfr c0 cs0 e st') := by
      intro f
      induction f with
      | zero => intro st h; cases h
      | succ f ihf =>
        intro st h ρ a cs w hS hc
        simp only [loopA] at h
        split at h
        · rename_i st1 hx
          obtain ⟨E, a1, cs1, w1, ⟨ρ1, h1, h2, h3, h4⟩, harr⟩ := ih st _ st1 hx ρ a cs w hS hc b (.inLoop x :: k) hb
          have hE := h1.to_normal
          subst hE
          exact Runs.steps (Steps.trans harr (.one step_inLoop)) ((ihf st1 h ρ1 a1 cs1 w1 h2 h3).mono fun E a' cs' w' hp => hp.trans hS.hr hS.fr h4)
        · rename_i r hne
          have hx' : evC P C N drawn LF x st = some (e, st') := h
          refine Runs.pass (x := .inLoop x) rfl ((ih st e st' hx' ρ a cs w hS hc b (.inLoop x :: k) hb).mono fun E a' cs' w' hp => ⟨fun hE => ?_, hp⟩)
          subst hE
          obtain ⟨ρ1, h1, _⟩ := hp
          have := h1.normal_inv
          subst this
          exact hne st' hx'
    exact Runs.steps (.one step_loop) (key LF st h ρ a cs w hS hc)
  | exit id =>
    intro st e st' h ρ a cs w hS hc b k hb
    simp only [evC, Option.some.injEq, Prod.mk.injEq] at h
    obtain ⟨rfl, rfl⟩ := h
    exact ⟨.exit id, a, cs, w, Post.self hS hc rfl, fun _ hk => .one (step_exit hk)⟩
  | goto l =>
    intro st e st' h ρ a cs w hS hc b k hb
    simp only [evC, Option.some.injEq, Prod.mk.injEq] at h
    obtain ⟨rfl, rfl⟩ := h
    exact ⟨.goto l, a, cs, w, Post.self hS hc rfl, fun _ hk => .one (step_goto hk)⟩
  | scope x ih =>
    intro st e st' h ρ a cs w hS hc b k hb
    simp only [evC] at h
    split at h
    · cases h
    · rename_i r hne
      have hx' : evC P C N drawn LF x st = some (e, st') := h
      obtain ⟨E, a1, cs1, w1, ⟨ρ1, h1, h2, h3, h4⟩, harr⟩ := ih st _ st' hx' ρ a cs w hS hc b (.inScope x :: k) hb
      refine ⟨E, a1, cs1, w1, ⟨ρ1, h1, h2, h3, h4⟩, ?_⟩
      cases E with
      | normal => exact .head step_scope (Steps.trans harr (.one step_inScope))
      | exit id => exact fun k' hk => .head step_scope (harr k' (by simpa [exitTo] using hk))
      | goto l =>
        cases e with
        | goto j => exact absurd hx' (hne _ _)
        | _ => exact h1.elim
      | ret => exact .of_steps (.one step_scope) harr
      | panic c => exact .of_steps (.one step_scope) harr
      | outgrown => cases e <;> exact h1.elim
  | ret =>
    intro st e st' h ρ a cs w hS hc b k hb
    simp only [evC, Option.some.injEq, Prod.mk.injEq] at h
    obtain ⟨rfl, rfl⟩ := h
    exact ⟨.ret, a, cs, w, Post.self hS hc trivial, _, .one step_ret⟩
  | rangeFunc g ps x y _ _ =>
    intro st e st' h ρ a cs w hS hc b k hb
    simp only [evC] at h
    have hm := (rangeA_sound hC h hS (Q := fun _ _ _ => True) fun _ _ _ _ _ _ _ => trivial).2
    rw [hm.1] at hc
    have hcs : cs = cs0 := hc
    subst hcs
    obtain ⟨E, a', w', q, r⟩ := (rangeA_sound hC h hS (Q := fun E a' w' => Post ρ st.hp st.nx base w N dfr c0 cs e st' E a' cs w') fun ρ' E a' w' h1 h2 h3 => ⟨ρ', h1, h2, by rw [hm.2]; rfl, h3⟩).1 b k cs
    exact ⟨E, a', cs, w', q, r⟩
  | refuse => intro st e st' h; simp [evC] at h
end Go.Mu

namespace Go.Mu
variable {P : Program} {base : Nat} {w : World}

/-! A frame on its way out, marks among its deferred calls. -/
def LeavesN (P : Program) (fn : Func) (tmps : Array Value) (R : Ending → World → Prop) : List Deferred → FrameMode → World → Prop
  | [], u, w => Leaves P fn tmps R [] u w
  | d :: ds, u, w => u ≠ .run ∧
      ((∃ r w', d.target = .collected r ∧ (Instr.takeDeferred r).run P w = .ok [] w' ∧ LeavesN P fn tmps R ds u w') ∨
       (∃ fv cap f args, d.target = .fn fv cap ∧ (invoke d.target d.args).run P w = .ok (.enter f args) w ∧
        CallsD P f args u w fun
          | .returned _, u', w' => LeavesN P fn tmps R ds (settle u') w'
          | .panicked chain, u', w' => LeavesN P fn tmps R ds (raised u' chain) w'
          | .outgrown, _, w' => R .outgrown w'))

theorem leavesN_steps {fn : Func} {tmps : Array Value} {R : Ending → World → Prop} : ∀ (ds : List Deferred) (u : FrameMode) (w : World) (fr : Frame)
    (cs : List Frame), fr.mode = u → fr.defers = ds → fr.tmps = tmps → P.funcs[fr.fn]? = some fn → fr.kind = .normal → LeavesN P fn tmps R ds u w →
    ∃ e w' fr', R e w' ∧ Comes P (lone fr cs w) (lone fr' cs w') e ∧ fr'.fn = fr.fn ∧ fr'.leaving P w' e := by
  intro ds
  induction ds with
  | nil => exact fun u w fr cs hu hd ht hf hk h => leaves_steps [] u w fr cs hu hd ht hf hk h
  | cons d ds ih =>
    intro u w fr cs hu hd ht hf hk h
    obtain ⟨hrun, h⟩ := h
    rcases h with ⟨r, w', htar, htake, hrest⟩ | ⟨fv, cap, f, args, htar, hinv, hcall⟩
    · have h1 := step_collected (cs := cs) (hu ▸ hrun) hd htar htake
      obtain ⟨e', w'', fr', hR', hs', hfn', hl'⟩ := ih u w' { fr with defers := [] ++ ds } cs hu rfl ht hf hk hrest
      exact ⟨e', w'', fr', hR', Comes.of_steps (.one h1) hs', hfn', hl'⟩
    · have h1 := step_defer (cs := cs) (hu ▸ hrun) hd htar hinv
      obtain ⟨e, u', w', frX, hR, hsteps, hkX, hgo⟩ := hcall { fr with defers := ds } cs hu
      cases e with
      | returned v =>
        have h2 := step_going_returned (c := { { fr with defers := ds } with mode := u' }) (cs := cs) hkX hgo
        obtain ⟨e', w'', fr', hR', hs', hfn', hl'⟩ := ih (settle u') w' { { { fr with defers := ds } with mode := u' } with mode := settle u' } cs rfl rfl ht hf hk hR
        exact ⟨e', w'', fr', hR', Comes.of_steps (.head h1 (Steps.trans hsteps (.one h2))) hs', hfn', hl'⟩
      | panicked chain =>
        have h2 := step_going_panicked (c := { { fr with defers := ds } with mode := u' }) (cs := cs) hgo
        obtain ⟨e', w'', fr', hR', hs', hfn', hl'⟩ := ih (raised u' chain) w' { { { fr with defers := ds } with mode := u' } with mode := raised u' chain } cs rfl rfl ht hf hk hR
        exact ⟨e', w'', fr', hR', Comes.of_steps (.head h1 (Steps.trans hsteps (.one h2))) hs', hfn', hl'⟩
      | outgrown => exact ⟨.outgrown, w', fr, hR, Outgrown.of_steps (.one h1) hsteps, rfl, trivial⟩

def bodyPostN (P : Program) (fn : Func) (R : Ending → World → Prop) : Exit → Act → World → Prop
  | .normal, a, w | .ret, a, w => LeavesN P fn a.tmps R a.defers .returning w
  | .panic chain, a, w => LeavesN P fn a.tmps R a.defers (.panicking chain) w
  | .outgrown, _, w => R .outgrown w
  | _, _, _ => False

theorem calls_of_wp_marks {f : FuncId} {fn : Func} {c : Code} {args : Array Value} {R : Ending → World → Prop}
    (hf : P.funcs[f]? = some fn) (hb : fn.body = some c)
    (h : c.wp P (bodyPostN P fn R) { tmps := args ++ Array.replicate (fn.ntmps - args.size) undef, defers := [] } w) : Calls P f args w R := by
  intro cs
  let b : Frame := { (default : Frame) with fn := f, kind := .normal }
  have henter : Frame.enter P f args .normal =
      b.at { tmps := args ++ Array.replicate (fn.ntmps - args.size) undef, defers := [] } [.code c] := by
    simp [Frame.enter, Frame.at, hf, hb, b]
  obtain ⟨e, a', w', hq, harr⟩ := h b [] cs
  rw [← henter] at harr
  cases e with
  | normal =>
    obtain ⟨e', w'', fr', hR, hs, hfn, hl⟩ := leavesN_steps a'.defers .returning w' { b.at a' [] with mode := .returning } cs rfl rfl rfl hf rfl hq
    exact ⟨e', w'', fr', hR, Comes.of_steps (Steps.trans harr (.one step_end)) hs, hfn, hl⟩
  | ret =>
    obtain ⟨todo, hs₀⟩ := harr
    obtain ⟨e', w'', fr', hR, hs, hfn, hl⟩ := leavesN_steps a'.defers .returning w' { b.at a' todo with mode := .returning } cs rfl rfl rfl hf rfl hq
    exact ⟨e', w'', fr', hR, Comes.of_steps hs₀ hs, hfn, hl⟩
  | panic chain =>
    obtain ⟨todo, hs₀⟩ := harr
    obtain ⟨e', w'', fr', hR, hs, hfn, hl⟩ := leavesN_steps a'.defers (.panicking chain) w' { b.at a' todo with mode := .panicking chain } cs rfl rfl rfl hf rfl hq
    exact ⟨e', w'', fr', hR, Comes.of_steps hs₀ hs, hfn, hl⟩
  | exit id => exact hq.elim
  | goto l => exact hq.elim
  | outgrown => exact ⟨.outgrown, w', b, hq, harr.resolve_left (by simp [b]), rfl, trivial⟩
end Go.Mu

namespace Go.Mu
variable {P : Program} {ρ : Rho} {hp : Heap} {nx base : Nat} {w : World} {tm : Tm} {a : Act} {C : CallFn} {N LF : Nat} {dfr : Bool} {c0 : Frame} {cs0 cs : List Frame}

def resV (tmps : Array Value) : ResultVar → Sem Value
  | .tmp t => pure (tmps.getD t undef)
  | .cell a t => do loadVar t (← asAddr (tmps.getD a undef))

theorem resultsA_sound (hR : HR ρ hp w base) {tmps : Array Value} (hT : TR ρ tm tmps) : ∀ {l : List ResultVar} {vs : List AVal}, resultsA P tm hp l = some vs →
    ∃ cvs, VRs ρ vs cvs ∧ (l.mapM (resV tmps)).run P w = .ok cvs w
  | [], vs, h => by simp [resultsA] at h; subst h; exact ⟨[], VRs.nil, rfl⟩
  | r :: l, vs, h => by
    simp only [resultsA, Option.bind_eq_some_iff, Option.some.injEq] at h
    obtain ⟨v, hv, r', hr, rfl⟩ := h
    obtain ⟨cvs, h1, h2⟩ := resultsA_sound hR hT hr
    have hc : ∃ c, VR ρ v c ∧ (resV tmps r).run P w = .ok c w := by
      cases r with
      | tmp t =>
        obtain ⟨c, q1, q2⟩ := hT _ _ hv
        exact ⟨c, q2, by simp [resV, Array.getD_eq_getD_getElem?, q1]⟩
      | cell x t =>
        simp only at hv
        split at hv
        case h_2 => cases hv
        rename_i b o hx
        obtain ⟨c, q1, q2⟩ := hT _ _ hx
        simp only [VR] at q2
        obtain ⟨cb, q3, rfl⟩ := q2
        obtain ⟨cb', v', e1, e2, e3⟩ := loadT_sound hR hv
        rw [q3] at e1; cases e1
        refine ⟨v', e2, ?_⟩
        simp [resV, Array.getD_eq_getD_getElem?, q1, asAddr, e3]
    obtain ⟨c, q1, q2⟩ := hc
    refine ⟨c :: cvs, VRs.cons q1 h1, ?_⟩
    simp only [List.mapM_cons, Sem.run_bind, q2, Result.andThen_ok, h2, Sem.run_pure]

theorem results_sound (hR : HR ρ hp w base) {tmps : Array Value} (hT : TR ρ tm tmps) {fn : Func} {vs : List AVal} (h : resultsA P tm hp fn.results.toList = some vs) :
    ∃ c, VR ρ (tupleA vs) c ∧ (results fn tmps).run P w = .ok c w := by
  obtain ⟨cvs, h1, h2⟩ := resultsA_sound hR hT h
  have hl := h1.length
  refine ⟨if h : cvs.toArray.size = 1 then cvs.toArray[0] else .tuple cvs.toArray, ?_, ?_⟩
  · cases vs with
    | nil =>
      have := h1.nil_inv
      subst this
      simp only [tupleA, VR]
      exact ⟨#[], rfl, VRs.nil⟩
    | cons x xs =>
      obtain ⟨y, ys, rfl, k1, k2⟩ := h1.cons_inv
      cases xs with
      | nil =>
        have := k2.nil_inv
        subst this
        exact k1
      | cons x2 xs2 =>
        obtain ⟨y2, ys2, rfl, k3, k4⟩ := k2.cons_inv
        simp only [tupleA, VR]
        exact ⟨(y :: y2 :: ys2).toArray, by simp, VRs.cons k1 (VRs.cons k3 k4)⟩
  · have he : results fn tmps = (do let vs ← fn.results.mapM (resV tmps); pure (if h : vs.size = 1 then vs[0] else .tuple vs)) := rfl
    rw [he, Array.mapM_eq_mapM_toList]
    simp [h2]

/-! Deferred calls, and calls by fuel. -/
def OutD (ρ : Rho) (hp : Heap) (nx base : Nat) (w : World) (u' : AMode) : Out → Ending → FrameMode → World → Prop
  | .ret v hp' nx', .returned c, cu, w' => Good ρ hp nx base w hp' nx' (fun ρ' => VR ρ' v c ∧ MR ρ' u' cu) w'
  | .pan ch hp' nx', .panicked ch', cu, w' => Good ρ hp nx base w hp' nx' (fun ρ' => CHR ρ' ch ch' ∧ MR ρ' u' cu) w'
  | _, _, _, _ => False

def DCallsOK (P : Program) (base : Nat) (D : DCallFn) : Prop :=
  ∀ f args u hp nx o u', D f args u hp nx = some (o, u') → ∀ ρ cargs cu w, VRs ρ args cargs → MR ρ u cu → HR ρ hp w base → Fresh ρ nx → base ≤ w.heap.size →
    (callFunc f cargs.toArray).run P w = .ok (.enter f cargs.toArray) w ∧ CallsD P f cargs.toArray cu w (OutD ρ hp nx base w u' o)

theorem CHR.goexit : ∀ {c : List (AVal × Bool)} {c' : List PanicEntry}, CHR ρ c c' → c'.dropWhile (!·.goexit) = []
  | [], _, h => by simp only [CHR] at h; subst h; rfl
  | _ :: _, _, ⟨y, ys, h0, _, _, h3, h4⟩ => by subst h0; simp [List.dropWhile_cons, h3, CHR.goexit h4]

theorem settle_sound {u u' : AMode} {cu : FrameMode} (h : settleA u = some u') (hm : MR ρ u cu) : MR ρ u' (settle cu) := by
  cases u with
  | returning =>
    simp only [settleA, Option.some.injEq] at h
    subst h
    simp only [MR] at hm
    subst hm
    rfl
  | panicking ch =>
    obtain ⟨ch', rfl, hc⟩ := hm
    cases ch with
    | nil =>
      simp only [settleA, Option.some.injEq] at h
      subst h
      simp only [CHR] at hc
      subst hc
      exact ⟨[], rfl, rfl⟩
    | cons x xs =>
      obtain ⟨x1, x2⟩ := x
      have hc0 := hc
      obtain ⟨y, ys, rfl, h1, h2, h3, h4⟩ := hc
      cases x2 with
      | true =>
        simp only [settleA, Option.some.injEq] at h
        subst h
        simp only at h2
        have := h4.goexit
        simp only [settle]
        obtain ⟨yv, yr, yg⟩ := y
        simp only at h2
        subst h2
        simp [this, MR]
      | false =>
        simp only [settleA, Option.some.injEq] at h
        subst h
        obtain ⟨yv, yr, yg⟩ := y
        simp only at h2
        subst h2
        exact ⟨_, rfl, hc0⟩

theorem raised_sound {u : AMode} {cu : FrameMode} {c : List (AVal × Bool)} {c' : List PanicEntry} (hm : MR ρ u cu) (hc : CHR ρ c c') : MR ρ (raisedA u c) (raised cu c') := by
  cases u with
  | returning =>
    simp only [MR] at hm
    subst hm
    exact ⟨_, rfl, hc⟩
  | panicking old =>
    obtain ⟨o', rfl, ho⟩ := hm
    simp only [raisedA, raised, appS_eq]
    exact ⟨_, rfl, hc.append ho⟩

theorem MR.ne_run {u : AMode} {cu : FrameMode} (h : MR ρ u cu) : cu ≠ .run := by
  cases u with
  | returning => simp only [MR] at h; subst h; simp
  | panicking c => obtain ⟨c', rfl, _⟩ := h; simp

theorem OutR.trans {ρ1 : Rho} {hp1 : Heap} {nx1 : Nat} {w1 : World} {o : Out} {e : Ending} {w' : World} (hR : HR ρ hp w base) (hF : Fresh ρ nx) (h : Ev ρ hp nx w ρ1 hp1 nx1 w1) (k : OutR ρ1 hp1 nx1 base w1 o e w') : OutR ρ hp nx base w o e w' := by
  cases o <;> cases e <;> simp only [OutR] at k ⊢
  all_goals
    obtain ⟨ρ', a1, a2, a3, a4⟩ := k
    exact ⟨ρ', a1, a2, a3, Ev.trans hR hF h a4⟩

theorem leaveA_sound {D : DCallFn} (hD : DCallsOK P base D) {fn : Func} {tmps : Array Value} {o : Out} : ∀ (l : List ADf) (u : AMode) (hp : Heap) (nx : Nat), leaveA P D fn tm l u hp nx = some o →
    ∀ (ρ : Rho) (ds : List Deferred) (cu : FrameMode) (w : World), TR ρ tm tmps → HR ρ hp w base → Fresh ρ nx → base ≤ w.heap.size → DRs ρ l ds → MR ρ u cu → ∀ R : Ending → World → Prop, (∀ e w', OutR ρ hp nx base w o e w' → R e w') → LeavesN P fn tmps R ds cu w
  | [], .returning, hp, nx, h, ρ, ds, cu, w, hT, hR, hF, hb, hd, hm, R, hq => by
    simp only [leaveA, Option.bind_eq_some_iff, Option.some.injEq] at h
    obtain ⟨vs, hv, rfl⟩ := h
    simp only [DRs] at hd
    subst hd
    simp only [MR] at hm
    subst hm
    obtain ⟨c, h1, h2⟩ := results_sound hR hT hv
    exact ⟨c, h2, hq _ _ ⟨ρ, h1, hR, hF, Ev.refl ..⟩⟩
  | [], .panicking c, hp, nx, h, ρ, ds, cu, w, hT, hR, hF, hb, hd, hm, R, hq => by
    simp only [leaveA, Option.some.injEq] at h
    subst h
    simp only [DRs] at hd
    subst hd
    obtain ⟨c', rfl, hc⟩ := hm
    exact hq _ _ ⟨ρ, hc, hR, hF, Ev.refl ..⟩
  | d :: l, u, hp, nx, h, ρ, ds, cu, w, hT, hR, hF, hb, hd, hm, R, hq => by
    obtain ⟨cd, cds, rfl, hd1, hds⟩ := hd
    simp only [leaveA] at h
    unfold DR at hd1
    split at h
    · rename_i b hmk
      rw [hmk] at hd1
      obtain ⟨c, hcb, rfl⟩ := hd1
      simp only [Option.bind_eq_some_iff] at h
      obtain ⟨k, hk, h⟩ := h
      split at h
      case h_2 => cases h
      obtain ⟨ob, hob, rfl, _⟩ := hR.at hk hcb
      obtain ⟨k1, k2⟩ := putObj_ev hR hF hk hcb (by intro b'; simp [sibs]) (.deferred none)
      refine ⟨hm.ne_run, .inl ⟨_, _, rfl, run_takeDeferred hob, ?_⟩⟩
      exact leaveA_sound hD l u _ nx h ρ cds cu _ hT k1 hF (Nat.le_trans hb k2.size) hds hm R fun e w'' ho => hq _ _ (ho.trans hR hF k2)
    rename_i hmk
    rw [hmk] at hd1
    obtain ⟨cap, dargs, rfl, hc1, hc2⟩ := hd1
    simp only [Option.bind_eq_some_iff, Prod.exists] at h
    obtain ⟨f, as, htar, o1, u1, hcall, h⟩ := h
    obtain ⟨cas, hcas, hinv⟩ := targetA_sound (P := P) (w := w) hc1 hc2 htar
    obtain ⟨hent, hcd⟩ := hD _ _ _ _ _ _ _ hcall ρ cas cu w hcas hm hR hF hb
    refine ⟨hm.ne_run, .inr ⟨_, _, f, cas.toArray, rfl, by rw [hinv]; exact hent, hcd.mono fun e cu' w' he => ?_⟩⟩
    cases o1 with
    | ret v hp1 nx1 =>
      cases e with
      | returned c =>
        obtain ⟨ρ', ⟨g1, g2⟩, g3, g4, g5⟩ := he
        simp only [Option.bind_eq_some_iff] at h
        obtain ⟨u2, hs, h⟩ := h
        refine leaveA_sound hD l u2 hp1 nx1 h ρ' cds _ w' (hT.mono g5.ext) g3 g4 (Nat.le_trans hb g5.size) (hds.mono g5.ext) (settle_sound hs g2) R fun e w'' ho => hq _ _ (ho.trans hR hF g5)
      | panicked c => exact he.elim
      | outgrown => exact he.elim
    | pan ch hp1 nx1 =>
      cases e with
      | panicked c =>
        obtain ⟨ρ', ⟨g1, g2⟩, g3, g4, g5⟩ := he
        simp only at h
        refine leaveA_sound hD l _ hp1 nx1 h ρ' cds _ w' (hT.mono g5.ext) g3 g4 (Nat.le_trans hb g5.size) (hds.mono g5.ext) (raised_sound g2 g1) R fun e w'' ho => hq _ _ (ho.trans hR hF g5)
      | returned c => exact he.elim
      | outgrown => exact he.elim

theorem argsTm_get : ∀ (l : List AVal) (i : Nat) (tm : Tm) (t : Nat), (argsTm i l tm).get t = if i ≤ t ∧ t < i + l.length then l[t - i]? else tm.get t
  | [], i, tm, t => by
    simp only [argsTm, List.length_nil, Nat.add_zero]
    rw [if_neg (by omega)]
  | v :: l, i, tm, t => by
    simp only [argsTm, fn_eq, argsTm_get l (i + 1), Tm.get_set, List.length_cons]
    by_cases h1 : i + 1 ≤ t ∧ t < i + 1 + l.length
    · rw [if_pos h1, if_pos (by omega)]
      have : t - i = t - (i + 1) + 1 := by omega
      rw [this]; simp
    · rw [if_neg h1]
      by_cases h2 : t = i
      · subst h2; simp
      · rw [if_neg h2, if_neg (by omega)]

theorem entry_TR {args : List AVal} {cargs : List Value} (hv : VRs ρ args cargs) (n : Nat) : TR ρ (argsTm 0 args .e) (cargs.toArray ++ Array.replicate n undef) := by
  intro t v ht
  rw [argsTm_get] at ht
  split at ht
  · rename_i h
    simp only [Nat.sub_zero] at ht
    obtain ⟨c, h1, h2⟩ := hv.get t ht
    refine ⟨c, ?_, h2⟩
    obtain ⟨hlt, _⟩ := List.getElem?_eq_some_iff.1 h1
    rw [Array.getElem?_append_left (by simpa using hlt)]
    simpa using h1
  · rw [Tm.get_e] at ht; cases ht

theorem callFunc_enter {f : FuncId} {fn : Func} {c : Code} {args : Array Value} (hf : P.funcs[f]? = some fn) (hn : (fn.name == "runtime.NumGoroutine") = false) (hb : fn.body = some c) : (callFunc f args).run P w = .ok (.enter f args) w := by
  have hn' : ¬ fn.name = "runtime.NumGoroutine" := by simpa using hn
  simp [callFunc, program, Sem.run, hf, hn', hb]

def NamesOK (P : Program) : Prop := ∀ (f : FuncId) (fn : Func), P.funcs[f]? = some fn → (fn.name == "runtime.NumGoroutine") = false

def HookOK (P : Program) (base : Nat) (H : Hook) : Prop :=
  ∀ f h, H f = some h → ∀ args hp nx o, h args hp nx = some o → ∀ ρ cargs w, VRs ρ args cargs → HR ρ hp w base → Fresh ρ nx → base ≤ w.heap.size → Does P f cargs.toArray w (OutR ρ hp nx base w o)

def DrOK (P : Program) (base : Nat) (dr : Drawn) : Prop := ∀ C N, CallsOK P base C → DrawnOK P base N (dr C N)

theorem calls_sound {H : Hook} {dr : Drawn} (hN : NamesOK P) (hH : HookOK P base H) (hdr : DrOK P base dr) : ∀ n, CallsOK P base (calls P H dr LF n).1 ∧ DCallsOK P base (calls P H dr LF n).2
  | 0 => ⟨fun f args hp nx o h => by simp [calls] at h, fun f args u hp nx o u' h => by simp [calls] at h⟩
  | n + 1 => by
    obtain ⟨ihC, ihD⟩ := calls_sound hN hH hdr n
    refine ⟨fun f args hp nx o h ρ cargs w hv hR hF hb => ?_, fun f args u hp nx o u' h ρ cargs cu w hv hm hR hF hb => ?_⟩
    · simp only [calls] at h
      split at h
      · rename_i hk hh
        exact hH _ _ hh _ _ _ _ h ρ cargs w hv hR hF hb
      · split at h
        · cases h
        · rename_i fn hfn
          split at h
          · cases h
          · rename_i c hbody
            split at h
            case isFalse => cases h
            rename_i hlen
            have hent := callFunc_enter (w := w) (args := cargs.toArray) hfn (hN f fn hfn) hbody
            unfold Does
            rw [hent]
            simp only
            have hcl : cargs.length ≤ fn.ntmps := by rw [hv.length]; exact hlen
            have hS : SRel ρ { tm := argsTm 0 args .e, hp, nx, df := [], md := none } fn.ntmps false { tmps := cargs.toArray ++ Array.replicate (fn.ntmps - cargs.toArray.size) undef, defers := [] } w base :=
              ⟨entry_TR hv _, hR, hF, by simp; omega, rfl, rfl, hb⟩
            refine calls_of_wp_marks hfn hbody fun b k cs => ?_
            have key : ∀ e st, evC P (calls P H dr LF n).1 fn.ntmps (dr (calls P H dr LF n).1 fn.ntmps) LF c { tm := argsTm 0 args .e, hp, nx, df := [], md := none } = some (e, st) →
                (∀ E ρ' a' w', ExR ρ' e E → SRel ρ' st fn.ntmps false a' w' base → Ev ρ hp nx w ρ' st.hp st.nx w' → bodyPostN P fn (OutR ρ hp nx base w o) E a' w') →
                ∃ e a' w', bodyPostN P fn (OutR ρ hp nx base w o) e a' w' ∧ Arrives P (lone (b.at { tmps := cargs.toArray ++ Array.replicate (fn.ntmps - cargs.toArray.size) undef, defers := [] } (.code c :: k)) cs w) b k cs e a' w' := by
              intro e st hev hq
              obtain ⟨E, a', cs', w', ⟨ρ', h1, h2, h3, h4⟩, harr⟩ := evC_sound (c0 := default) (cs0 := cs) ihC (hdr _ _ ihC) c _ e st hev ρ _ cs w hS rfl b k (fun h => by cases h)
              have hmd : st.md = none := by
                have hm := h2.md
                cases hmd : st.md with
                | none => rfl
                | some m => rw [hmd] at hm; cases hm
              rw [hmd] at h3
              simp only [CSR] at h3
              subst h3
              exact ⟨E, a', w', hq E ρ' a' w' h1 h2 h4, harr⟩
            split at h
            · rename_i st hev
              refine key _ _ hev fun E ρ' a' w' h1 h2 h4 => ?_
              have hE := h1.to_normal
              subst hE
              exact leaveA_sound ihD _ _ _ _ h ρ' a'.defers .returning w' h2.tr h2.hr h2.fr h2.ba h2.df rfl _ fun e w'' ho => ho.trans hR hF h4
            · rename_i st hev
              refine key _ _ hev fun E ρ' a' w' h1 h2 h4 => ?_
              cases E <;> first | exact h1.elim | skip
              exact leaveA_sound ihD _ _ _ _ h ρ' a'.defers .returning w' h2.tr h2.hr h2.fr h2.ba h2.df rfl _ fun e w'' ho => ho.trans hR hF h4
            · rename_i ch st hev
              refine key _ _ hev fun E ρ' a' w' h1 h2 h4 => ?_
              cases E <;> first | exact h1.elim | skip
              exact leaveA_sound ihD _ _ _ _ h ρ' a'.defers _ w' h2.tr h2.hr h2.fr h2.ba h2.df ⟨_, rfl, h1⟩ _ fun e w'' ho => ho.trans hR hF h4
            · cases h
    · simp only [calls] at h
      split at h
      · cases h
      · rename_i fn hfn
        split at h
        · cases h
        · rename_i c hbody
          split at h
          case isFalse => cases h
          rename_i hlen
          refine ⟨callFunc_enter hfn (hN f fn hfn) hbody, ?_⟩
          have hcl : cargs.length ≤ fn.ntmps := by rw [hv.length]; exact hlen
          have hS : SRel ρ { tm := argsTm 0 args .e, hp, nx, df := [], md := some u } fn.ntmps true { tmps := cargs.toArray ++ Array.replicate (fn.ntmps - cargs.toArray.size) undef, defers := [] } w base :=
            ⟨entry_TR hv _, hR, hF, by simp; omega, rfl, rfl, hb⟩
          refine callsD_of_wpS hfn hbody fun c0 cs hc0 b k hb1 hb2 => ?_
          have key : ∀ e st, evC P (calls P H dr LF n).1 fn.ntmps (dr (calls P H dr LF n).1 fn.ntmps) LF c { tm := argsTm 0 args .e, hp, nx, df := [], md := some u } = some (e, st) →
              (∀ E ρ' a' cs' w', ExR ρ' e E → SRel ρ' st fn.ntmps true a' w' base → CSR ρ' c0 cs st.md cs' → Ev ρ hp nx w ρ' st.hp st.nx w' → bodyPostS P fn c0 cs (OutD ρ hp nx base w u' o) E a' cs' w') →
              ∃ e a' cs' w', bodyPostS P fn c0 cs (OutD ρ hp nx base w u' o) e a' cs' w' ∧ Arrives P (lone (b.at { tmps := cargs.toArray ++ Array.replicate (fn.ntmps - cargs.toArray.size) undef, defers := [] } (.code c :: k)) (c0 :: cs) w) b k cs' e a' w' := by
            intro e st hev hq
            obtain ⟨E, a', cs', w', ⟨ρ', h1, h2, h3, h4⟩, harr⟩ := evC_sound (c0 := c0) (cs0 := cs) ihC (hdr _ _ ihC) c _ e st hev ρ _ (c0 :: cs) w hS ⟨cu, hm, by subst hc0; rfl⟩ b k (fun _ => ⟨hb1, hb2⟩)
            exact ⟨E, a', cs', w', hq E ρ' a' cs' w' h1 h2 h3 h4, harr⟩
          have fin : ∀ st : St, (if st.df.isEmpty = true then (leaveA P (calls P H dr LF n).2 fn st.tm [] .returning st.hp st.nx).bind fun o => st.md.bind fun u => some (o, u) else none) = some (o, u') →
              ∀ ρ' a' cs' w', SRel ρ' st fn.ntmps true a' w' base → CSR ρ' c0 cs st.md cs' → Ev ρ hp nx w ρ' st.hp st.nx w' →
              a'.defers = [] ∧ ∃ u1, cs' = { c0 with mode := u1 } :: cs ∧ ∃ v, (results fn a'.tmps).run P w' = .ok v w' ∧ OutD ρ hp nx base w u' o (.returned v) u1 w' := by
            intro st h ρ' a' cs' w' h2 h3 h4
            split at h
            case isFalse => cases h
            rename_i hdf
            simp only [leaveA, Option.bind_eq_some_iff, Option.some.injEq, Prod.mk.injEq] at h
            obtain ⟨o1, ⟨vs, hvs, rfl⟩, u2, hmd, rfl, rfl⟩ := h
            rw [hmd] at h3
            obtain ⟨u1, hu1, rfl⟩ := h3
            have hd := h2.df
            have hdf' : st.df = [] := by simpa using hdf
            rw [hdf'] at hd
            simp only [DRs] at hd
            obtain ⟨v, hv1, hv2⟩ := results_sound h2.hr h2.tr hvs
            exact ⟨hd, u1, rfl, v, hv2, ρ', ⟨hv1, hu1⟩, h2.hr, h2.fr, h4⟩
          split at h
          · rename_i st hev
            refine key _ _ hev fun E ρ' a' cs' w' h1 h2 h3 h4 => ?_
            have hE := h1.to_normal
            subst hE
            exact fin st h ρ' a' cs' w' h2 h3 h4
          · rename_i st hev
            refine key _ _ hev fun E ρ' a' cs' w' h1 h2 h3 h4 => ?_
            cases E <;> first | exact h1.elim | skip
            exact fin st h ρ' a' cs' w' h2 h3 h4
          · rename_i ch st hev
            refine key _ _ hev fun E ρ' a' cs' w' h1 h2 h3 h4 => ?_
            cases E <;> first | exact h1.elim | skip
            split at h
            case isFalse => cases h
            rename_i hdf
            simp only [Option.bind_eq_some_iff, Option.some.injEq, Prod.mk.injEq] at h
            obtain ⟨u2, hmd, rfl, rfl⟩ := h
            rw [hmd] at h3
            obtain ⟨u1, hu1, rfl⟩ := h3
            have hd := h2.df
            have hdf' : st.df = [] := by simpa using hdf
            rw [hdf'] at hd
            simp only [DRs] at hd
            exact ⟨hd, u1, rfl, ρ', ⟨h1, hu1⟩, h2.hr, h2.fr, h4⟩
          · cases h
end Go.Mu

namespace Go.Mu

/-! Regions whose order is drawn: the list's order, and what shows that every other comes to the same. -/
mutual
def eqA : AVal → AVal → Bool
  | .bool a, .bool b => a == b
  | .int k a, .int k' b => k == k' && a == b
  | .float k a, .float k' b => k == k' && Nat.beq a b
  | .str a, .str b => eqL a b
  | .nilptr, .nilptr => true
  | .ptr a b, .ptr c d => Nat.beq a c && Nat.beq b d
  | .nilslice, .nilslice => true
  | .slice a b c d, .slice a' b' c' d' => Nat.beq a a' && Nat.beq b b' && Nat.beq c c' && Nat.beq d d'
  | .oslice a b c, .oslice a' b' c' => Nat.beq a a' && Nat.beq b b' && Nat.beq c c'
  | .emp0, .emp0 => true
  | .empU, .empU => true
  | .nilmap, .nilmap => true
  | .map a, .map b => Nat.beq a b
  | .func f a c, .func f' a' c' => decide (f = f') && eqAs a a' && eqAs c c'
  | .nilfunc, .nilfunc => true
  | .iface t v, .iface t' v' => decide (t = t') && eqA v v'
  | .niliface, .niliface => true
  | .agg l, .agg l' => eqAs l l'
  | .tup l, .tup l' => eqAs l l'
  | _, _ => false
def eqAs : List AVal → List AVal → Bool
  | [], [] => true
  | x :: xs, y :: ys => eqA x y && eqAs xs ys
  | _, _ => false
end

def eqB : Option ABlk → Option ABlk → Bool
  | none, none => true
  | some (.miter m a s l), some (.miter m' a' s' l') => decide (m = m') && Nat.beq a a' && decide (s = s') && Nat.beq l l'
  | _, _ => false

/-- What reads memory. -/
def reads : Op → Bool
  | .load .. | .lookup .. | .range .. | .entry _ | .slice .. | .indexAddr .. | .convert .. | .call _ => true
  | _ => false

def noSib : ABlk → Bool
  | .grown .. => false
  | _ => true

inductive Rec where
  | skip
  | light (tm : Tm) (nm : Nat) (v : AVal) (b : Option ABlk)
  | heavy (V0 : Heap) (tm : Tm) (U : Heap) (nx : Nat) (v : AVal) (V1 : Heap) (nx1 : Nat)

/-- The list's own order. V: memory behind the last operation that turned it; U: memory now. -/
def runD (P : Program) (C : CallFn) (N : Nat) (ops : Array Oper) : List Oper → Tm → Heap → Heap → Nat → Option (List Rec × Tm × Heap × Nat)
  | [], tm, _, U, nx => some ([], tm, U, nx)
  | o :: l, tm, V, U, nx => (wantA ops tm o).bind fun w => match w with
    | false => (putD N tm o.dst undefA).bind fun tm' => (runD P C N ops l tm' V U nx).bind fun (rs, r) => some (.skip :: rs, r)
    | true => match heavy P o.op with
      | true => (hev P C (opnd tm) U nx none o.op).bind fun r => match r with
        | .val v V1 nx1 => match Nat.ble nx nx1 with
          | true => (putD N tm o.dst v).bind fun tm' => (runD P C N ops l tm' V1 V1 nx1).bind fun (rs, r) => some (.heavy V tm U nx v V1 nx1 :: rs, r)
          | false => none
        | _ => none
      | false => (lev P (opnd tm) V nx o.op).bind fun (v, b) => (putD N tm o.dst v).bind fun tm' => match b with
        | none => (runD P C N ops l tm' V U nx).bind fun (rs, r) => some (.light tm nx v none :: rs, r)
        | some k => match noSib k with
          | true => T.fz (U.set nx k) fun U' => fn (nx + 1) fun nx' => (runD P C N ops l tm' V U' nx').bind fun (rs, r) => some (.light tm nx v (some k) :: rs, r)
          | false => none

def sameL (P : Program) (tm : Tm) (V : Heap) (nm : Nat) (op : Op) (v : AVal) (b : Option ABlk) : Bool :=
  !reads op || (match lev P (opnd tm) V nm op with
    | some (v', b') => eqA v v' && eqB b b'
    | none => false)

def against (P : Program) (m : Nat) (o : Oper) (r : Rec) (j : Nat) (oj : Oper) (rj : Rec) : Bool :=
  match r, rj with
  | .light tm nm v b, .heavy V0 .. => Nat.testBit m j || sameL P tm V0 nm o.op v b
  | .heavy _ _ _ _ _ V1 _, .light tm nm v b => Nat.testBit m j || (b.isNone && sameL P tm V1 nm oj.op v b)
  | .heavy .., .heavy .. => Nat.testBit m j
  | _, _ => true

def chk1 (P : Program) (m : Nat) (o : Oper) (r : Rec) : Nat → List Oper → List Rec → Nat → Bool
  | _, _, _, 0 => true
  | j, oj :: os, rj :: rs, n + 1 => against P m o r j oj rj && chk1 P m o r (j + 1) os rs n
  | _, _, _, _ => false

def chk (P : Program) (os0 : List Oper) (rs0 : List Rec) : Nat → List Nat → List Oper → List Rec → Bool
  | _, [], [], [] => true
  | i, m :: ms, o :: os, r :: rs => chk1 P m o r 0 os0 rs0 i && chk P os0 rs0 (i + 1) ms os rs
  | _, _, _, _ => false

/-! What is asked of the region alone. -/
def maskOf (acc : List Nat) (o : Oper) : Nat :=
  o.after.toList.foldl (fun s e => if Region.binds .any e then s ||| 2 ^ e.on ||| (nth acc e.on).getD 0 else s) 0

def masksFrom : List Nat → List Oper → List Nat
  | acc, [] => acc
  | acc, o :: l => masksFrom (acc ++ [maskOf acc o]) l

def edgesOk : Nat → List Oper → Bool
  | _, [] => true
  | i, o :: l => o.after.toList.all (fun e => !Region.binds .any e || decide (e.on < i)) && edgesOk (i + 1) l

def ne? : Option Tmp → Option Tmp → Bool
  | some a, some b => !(Nat.beq a b)
  | _, _ => true

def apart1 (ops : Array Oper) (m : Nat) (o : Oper) : Nat → List Oper → Nat → Bool
  | _, _, 0 => true
  | j, oj :: os, n + 1 => ne? oj.dst o.dst && (Nat.testBit m j || oj.apart ops o) && apart1 ops m o (j + 1) os n
  | _, _, _ => false

def apartAll (ops : Array Oper) (os0 : List Oper) : Nat → List Nat → List Oper → Bool
  | _, [], [] => true
  | i, m :: ms, o :: os => apart1 ops m o 0 os0 i && apartAll ops os0 (i + 1) ms os
  | _, _, _ => false

def okR (ops : Array Oper) : Bool :=
  edgesOk 0 ops.toList && apartAll ops ops.toList 0 (masksFrom [] ops.toList) ops.toList

def drawnA (P : Program) (C : CallFn) (N : Nat) (ops : Array Oper) (st : St) : Option (AExit × St) :=
  match okR ops with
  | false => none
  | true => (runD P C N ops ops.toList st.tm st.hp st.hp st.nx).bind fun (rs, tm, U, nx) =>
    match chk P ops.toList rs 0 (masksFrom [] ops.toList) ops.toList rs with
    | true => some (.normal, { st with tm, hp := U, nx })
    | false => none

end Go.Mu

namespace Go.Mu
variable {P : Program} {ρ : Rho} {hp : Heap} {nx base : Nat} {w : World} {tm tm' : Tm} {a : Act} {C : CallFn} {N LF : Nat}

mutual
theorem eqA_sound : ∀ (x y : AVal), eqA x y = true → x = y
  | .bool a, y, h => by cases y <;> simp_all [eqA]
  | .int k a, y, h => by cases y <;> simp_all [eqA]
  | .float k a, y, h => by cases y <;> simp_all [eqA]
  | .str a, y, h => by
    cases y <;> simp only [eqA] at h <;> first | (cases h; done) | skip
    rename_i b
    have : ∀ (a b : List Nat), eqL a b = true → a = b := by
      intro a
      induction a with
      | nil => intro b h; cases b <;> simp_all [eqL]
      | cons x xs ih =>
        intro b h
        cases b with
        | nil => simp [eqL] at h
        | cons y ys =>
          simp only [eqL] at h
          cases hb : Nat.beq x y with
          | false => simp [hb] at h
          | true => rw [hb] at h; simp only [cond_true] at h; rw [ih ys h, Nat.eq_of_beq_eq_true hb]
    rw [this a b h]
  | .nilptr, y, h => by cases y <;> simp_all [eqA]
  | .ptr a b, y, h => by cases y <;> simp_all [eqA]
  | .nilslice, y, h => by cases y <;> simp_all [eqA]
  | .slice a b c d, y, h => by cases y <;> simp_all [eqA]
  | .oslice a b c, y, h => by cases y <;> simp_all [eqA]
  | .emp0, y, h => by cases y <;> simp_all [eqA]
  | .empU, y, h => by cases y <;> simp_all [eqA]
  | .nilmap, y, h => by cases y <;> simp_all [eqA]
  | .map a, y, h => by cases y <;> simp_all [eqA]
  | .func f a c, y, h => by
    cases y <;> simp only [eqA] at h <;> first | (cases h; done) | skip
    simp only [Bool.and_eq_true, decide_eq_true_eq] at h
    rw [h.1.1, eqAs_sound _ _ h.1.2, eqAs_sound _ _ h.2]
  | .nilfunc, y, h => by cases y <;> simp_all [eqA]
  | .iface t v, y, h => by
    cases y <;> simp only [eqA] at h <;> first | (cases h; done) | skip
    simp only [Bool.and_eq_true, decide_eq_true_eq] at h
    rw [h.1, eqA_sound _ _ h.2]
  | .niliface, y, h => by cases y <;> simp_all [eqA]
  | .agg l, y, h => by
    cases y <;> simp only [eqA] at h <;> first | (cases h; done) | skip
    rw [eqAs_sound _ _ h]
  | .tup l, y, h => by
    cases y <;> simp only [eqA] at h <;> first | (cases h; done) | skip
    rw [eqAs_sound _ _ h]
theorem eqAs_sound : ∀ (x y : List AVal), eqAs x y = true → x = y
  | [], y, h => by cases y <;> simp_all [eqAs]
  | x :: xs, y, h => by
    cases y with
    | nil => simp [eqAs] at h
    | cons y ys =>
      simp only [eqAs, Bool.and_eq_true] at h
      rw [eqA_sound _ _ h.1, eqAs_sound _ _ h.2]
end

theorem eqB_sound {x y : Option ABlk} (h : eqB x y = true) : x = y := by
  unfold eqB at h
  split at h
  · rfl
  · simp only [Bool.and_eq_true, decide_eq_true_eq] at h
    rw [h.1.1.1, h.1.2, Nat.eq_of_beq_eq_true h.1.1.2, Nat.eq_of_beq_eq_true h.2]
  · cases h

theorem reads_indep {op : Op} (h : reads op = false) (V V' : Heap) : lev P (opnd tm) V nx op = lev P (opnd tm) V' nx op := by
  cases op <;> first | rfl | (simp [reads] at h; done)

theorem sameL_sound {V V' : Heap} {nm : Nat} {op : Op} {v : AVal} {b : Option ABlk} (h : sameL P tm V' nm op v b = true) (hl : lev P (opnd tm) V nm op = some (v, b)) : lev P (opnd tm) V' nm op = some (v, b) := by
  unfold sameL at h
  cases hr : reads op with
  | false => rw [reads_indep hr V' V]; exact hl
  | true =>
    rw [hr] at h
    simp only [Bool.not_true, Bool.false_or] at h
    split at h
    · rename_i v' b' he
      simp only [Bool.and_eq_true] at h
      rw [he, eqA_sound _ _ h.1, eqB_sound h.2]
    · cases h

/-! An operation looks at its operands alone. -/
def Agree (tm tm' : Tm) (o : Operand) : Prop := opnd tm o = opnd tm' o

theorem opnds_congr : ∀ {l : List Operand}, (∀ x ∈ l, opnd tm x = opnd tm' x) → opnds (opnd tm) l = opnds (opnd tm') l
  | [], _ => rfl
  | x :: l, h => by simp only [opnds, h x (by simp), opnds_congr fun y hy => h y (List.mem_cons_of_mem _ hy)]

theorem parts_congr : ∀ {l : List (Nat × Operand)}, (∀ x ∈ l.map (·.2), opnd tm x = opnd tm' x) → parts (opnd tm) l = parts (opnd tm') l
  | [], _ => rfl
  | (i, x) :: l, h => by simp only [parts, h x (by simp), parts_congr fun y hy => h y (by simp only [List.map_cons]; exact List.mem_cons_of_mem _ hy)]

theorem optO_congr {x : Option Operand} (h : ∀ y ∈ x.toArray, opnd tm y = opnd tm' y) : optO (opnd tm) x = optO (opnd tm') x := by
  cases x with
  | none => rfl
  | some x => simp only [optO, h x (by simp)]

theorem lev_congr {op : Op} (h : ∀ x ∈ op.operands, opnd tm x = opnd tm' x) : lev P (opnd tm) hp nx op = lev P (opnd tm') hp nx op := by
  cases op <;> simp only [Op.operands] at h
  case build t ps => simp only [lev, levW, parts_congr (l := ps.toList) fun x hx => h x (by simpa using hx)]
  case buildSlice t n ps => simp only [lev, levW, parts_congr (l := ps.toList) fun x hx => h x (by simpa using hx)]
  case makeFunc f first cap => simp only [lev, levW, opnds_congr (l := first.toList) fun x hx => h x (by simp at hx ⊢; exact .inl hx), opnds_congr (l := cap.toList) fun x hx => h x (by simp at hx ⊢; exact .inr hx)]
  case makeMap t r => cases r <;> simp_all [lev, levW]
  case slice t x lo hi mx =>
    simp only [lev, levW, h x (by simp), optO_congr (x := lo) fun y hy => h y (by simp at hy ⊢; simp [hy]), optO_congr (x := hi) fun y hy => h y (by simp at hy ⊢; simp [hy]), optO_congr (x := mx) fun y hy => h y (by simp at hy ⊢; simp [hy])]
  case call c =>
    have hc : opnds (opnd tm) c.args.toList = opnds (opnd tm') c.args.toList := opnds_congr fun x hx => h x (by simp [Call.operands]; right; simpa using hx)
    simp only [lev, levW, hc]
  all_goals (first | rfl | (simp only [lev, levW, levW]; simp_all; done))

theorem hev_congr {op : Op} {md : Option AMode} (h : ∀ x ∈ op.operands, opnd tm x = opnd tm' x) : hev P C (opnd tm) hp nx md op = hev P C (opnd tm') hp nx md op := by
  cases op <;> simp only [Op.operands] at h
  case call c =>
    have hc : opnds (opnd tm) c.args.toList = opnds (opnd tm') c.args.toList := opnds_congr fun x hx => h x (by simp [Call.operands]; right; simpa using hx)
    simp only [hev, hevW, hc]
    cases hcal : c.callee with
    | value f => simp only [h f (by simp [Call.operands, hcal])]
    | invoke r n => simp only [h r (by simp [Call.operands, hcal])]
    | builtin b => cases b <;> rfl
  case defer c =>
    have hc : opnds (opnd tm) c.args.toList = opnds (opnd tm') c.args.toList := opnds_congr fun x hx => h x (by simp [Call.operands]; right; simpa using hx)
    simp only [hev, hevW, hc]
    cases hcal : c.callee with
    | value f => simp only [h f (by simp [Call.operands, hcal])]
    | invoke r n => simp only [h r (by simp [Call.operands, hcal])]
    | builtin b => cases b <;> rfl
  all_goals (first | rfl | (simp only [hev, hevW, hevW]; simp_all; done))

theorem wantA_congr {ops : Array Oper} {o : Oper} (h : ∀ g wv d, o.guard = some (g, wv) → (ops[g]?).bind (·.dst) = some d → tm.get d = tm'.get d) : wantA ops tm o = wantA ops tm' o := by
  unfold wantA
  cases hg : o.guard with
  | none => rfl
  | some gw =>
    obtain ⟨g, wv⟩ := gw
    simp only
    cases hd : (ops[g]?).bind (·.dst) with
    | none => rfl
    | some d => simp only [h g wv d hg hd]

/-- Some temporaries of all. -/
def restr (tm : Tm) : List Nat → Tm
  | [] => .e
  | t :: l => match tm.get t with
    | some v => (restr tm l).set t v
    | none => restr tm l

theorem restr_get (tm : Tm) : ∀ (l : List Nat) (t : Nat), (restr tm l).get t = if t ∈ l then tm.get t else none
  | [], t => by simp [restr, Tm.get_e]
  | s :: l, t => by
    simp only [restr]
    by_cases hts : t = s
    · subst hts
      cases hg : tm.get t with
      | none => simp only [restr_get tm l t, hg]; simp
      | some v => simp [Tm.get_set]
    · cases hg : tm.get s with
      | none => simp only [restr_get tm l t, List.mem_cons, hts, false_or]
      | some v => simp only [Tm.get_set, hts, if_false, restr_get tm l t, List.mem_cons, false_or]

theorem restr_opnd {ops : Array Oper} {o : Oper} (x : Operand) (hx : x ∈ o.op.operands) : opnd tm x = opnd (restr tm (o.looksAt ops)) x := by
  cases x with
  | tmp t =>
    simp only [opnd, restr_get]
    rw [if_pos]
    exact List.mem_append_left _ (List.mem_filterMap.2 ⟨.tmp t, by simpa using hx, rfl⟩)
  | _ => rfl

theorem restr_want {ops : Array Oper} {o : Oper} : wantA ops tm o = wantA ops (restr tm (o.looksAt ops)) o := by
  refine wantA_congr fun g wv d hg hd => ?_
  rw [restr_get, if_pos]
  exact List.mem_append_right _ (by simp [hg, hd])
end Go.Mu

namespace Go.Mu
variable {P : Program} {ρ : Rho} {hp : Heap} {nx base : Nat} {w : World} {tm tm' : Tm} {a : Act} {C : CallFn} {N LF : Nat} {ops : Array Oper}

/-! What comes before what. -/
inductive Bef (ops : Array Oper) : Nat → Nat → Prop
  | edge {i : Nat} {o : Oper} {e : Edge} (h : ops[i]? = some o) (he : e ∈ o.after) (hb : Region.binds .any e = true) : Bef ops e.on i
  | far {i j : Nat} {o : Oper} {e : Edge} (h : ops[i]? = some o) (he : e ∈ o.after) (hb : Region.binds .any e = true) (k : Bef ops j e.on) : Bef ops j i

theorem testBit_pow {n j : Nat} (h : Nat.testBit (2 ^ n) j = true) : j = n := by
  rw [Nat.testBit_two_pow] at h
  simpa [eq_comm] using h

theorem maskFold {acc : List Nat} {j : Nat} : ∀ (l : List Edge) (s : Nat), Nat.testBit (l.foldl (fun s e => if Region.binds .any e then s ||| 2 ^ e.on ||| (nth acc e.on).getD 0 else s) s) j = true →
    Nat.testBit s j = true ∨ ∃ e ∈ l, Region.binds .any e = true ∧ (j = e.on ∨ Nat.testBit ((nth acc e.on).getD 0) j = true)
  | [], s, h => .inl h
  | e :: l, s, h => by
    simp only [List.foldl_cons] at h
    rcases maskFold l _ h with h | ⟨e', he', hb', h'⟩
    · split at h
      · rename_i hb
        simp only [Nat.testBit_or, Bool.or_eq_true] at h
        rcases h with (h | h) | h
        · exact .inl h
        · exact .inr ⟨e, by simp, hb, .inl (testBit_pow h)⟩
        · exact .inr ⟨e, by simp, hb, .inr h⟩
      · exact .inl h
    · exact .inr ⟨e', List.mem_cons_of_mem _ he', hb', h'⟩

def MasksOK (ops : Array Oper) (ms : List Nat) : Prop := ∀ i m j, ms[i]? = some m → Nat.testBit m j = true → Bef ops j i

theorem masksFrom_ok : ∀ (l : List Oper) (acc : List Nat), (∀ k o, l[k]? = some o → ops[acc.length + k]? = some o) → MasksOK ops acc → MasksOK ops (masksFrom acc l) ∧ (masksFrom acc l).length = acc.length + l.length
  | [], acc, _, h => ⟨h, rfl⟩
  | o :: l, acc, hl, h => by
    simp only [masksFrom]
    have h0 := hl 0 o rfl
    have := masksFrom_ok l (acc ++ [maskOf acc o]) (fun k o' hk => by
      have := hl (k + 1) o' (by simpa using hk)
      simp only [List.length_append, List.length_singleton]
      rw [← this]; congr 1; omega) (fun i m j hi ht => by
      rw [List.getElem?_append] at hi
      split at hi
      · exact h i m j hi ht
      · rename_i hge
        have hi0 : i = acc.length := by
          rcases Nat.lt_or_ge (i - acc.length) 1 with h1 | h1
          · omega
          · rw [List.getElem?_eq_none (by simpa using h1)] at hi; cases hi
        subst hi0
        simp at hi
        subst hi
        rcases maskFold _ _ ht with h1 | ⟨e, he, hb, h1⟩
        · simp at h1
        · rcases h1 with rfl | h1
          · exact .edge h0 (by simpa using he) hb
          · rw [nth_eq] at h1
            cases hn : acc[e.on]? with
            | none => rw [hn] at h1; simp at h1
            | some m' => rw [hn] at h1; exact .far h0 (by simpa using he) hb (h _ _ _ hn h1))
    refine ⟨this.1, ?_⟩
    rw [this.2]; simp; omega

theorem masks_ok (ops : Array Oper) : MasksOK ops (masksFrom [] ops.toList) ∧ (masksFrom [] ops.toList).length = ops.size := by
  have := masksFrom_ok (ops := ops) ops.toList [] (fun k o h => by simpa using h) (fun i m j hi => by simp at hi)
  simpa using this

theorem edgesOk_spec : ∀ (l : List Oper) (i : Nat), edgesOk i l = true → ∀ k o e, l[k]? = some o → e ∈ o.after → Region.binds .any e = true → e.on < i + k
  | [], _, _, k, o, e, h, _, _ => by simp at h
  | x :: l, i, h, k, o, e, hk, he, hb => by
    simp only [edgesOk, Bool.and_eq_true] at h
    cases k with
    | zero =>
      simp only [List.getElem?_cons_zero, Option.some.injEq] at hk
      subst hk
      have := List.all_eq_true.1 h.1 e (by simpa using he)
      simp [hb] at this
      omega
    | succ k =>
      have := edgesOk_spec l (i + 1) h.2 k o e (by simpa using hk) he hb
      omega

theorem apart1_spec {m : Nat} {o : Oper} : ∀ (os : List Oper) (j n : Nat), apart1 ops m o j os n = true → ∀ k oj, k < n → os[k]? = some oj → ne? oj.dst o.dst = true ∧ (Nat.testBit m (j + k) = true ∨ oj.apart ops o = true)
  | _, _, 0, _, k, _, hk, _ => by omega
  | [], _, n + 1, h, k, oj, hk, ho => by simp at ho
  | x :: os, j, n + 1, h, k, oj, hk, ho => by
    simp only [apart1, Bool.and_eq_true, Bool.or_eq_true] at h
    cases k with
    | zero => simp only [List.getElem?_cons_zero, Option.some.injEq] at ho; subst ho; exact ⟨h.1.1, h.1.2⟩
    | succ k =>
      have := apart1_spec os (j + 1) n h.2 k oj (by omega) (by simpa using ho)
      rw [show j + (k + 1) = j + 1 + k by omega]; exact this

theorem apartAll_spec {os0 : List Oper} : ∀ (ms : List Nat) (os : List Oper) (i : Nat), apartAll ops os0 i ms os = true → ∀ k m o j oj, ms[k]? = some m → os[k]? = some o → j < i + k → os0[j]? = some oj → ne? oj.dst o.dst = true ∧ (Nat.testBit m j = true ∨ oj.apart ops o = true)
  | [], [], _, _, k, m, o, j, oj, hm, _, _, _ => by simp at hm
  | [], _ :: _, _, h, _, _, _, _, _, _, _, _, _ => by simp [apartAll] at h
  | _ :: _, [], _, h, _, _, _, _, _, _, _, _, _ => by simp [apartAll] at h
  | m0 :: ms, o0 :: os, i, h, k, m, o, j, oj, hm, ho, hj, hoj => by
    simp only [apartAll, Bool.and_eq_true] at h
    cases k with
    | zero =>
      simp only [List.getElem?_cons_zero, Option.some.injEq] at hm ho
      subst hm; subst ho
      have := apart1_spec os0 0 i h.1 j oj (by omega) hoj
      simpa using this
    | succ k =>
      exact apartAll_spec ms os (i + 1) h.2 k m o j oj (by simpa using hm) (by simpa using ho) (by omega) hoj

structure Stat (ops : Array Oper) : Prop where
  edge : ∀ (i : Nat) (o : Oper) (e : Edge), ops[i]? = some o → e ∈ o.after → Region.binds .any e = true → e.on < i
  dst : ∀ (i j : Nat) (oi oj : Oper) (d : Tmp), ops[i]? = some oi → ops[j]? = some oj → i ≠ j → oi.dst = some d → oj.dst ≠ some d
  apart : ∀ (i j : Nat) (oi oj : Oper), ops[i]? = some oi → ops[j]? = some oj → j < i → Bef ops j i ∨ oj.apart ops oi = true

theorem okR_spec (h : okR ops = true) : Stat ops := by
  simp only [okR, Bool.and_eq_true] at h
  obtain ⟨hm, hlen⟩ := masks_ok ops
  have hap : ∀ i j oi oj, ops[i]? = some oi → ops[j]? = some oj → j < i → ne? oj.dst oi.dst = true ∧ (Bef ops j i ∨ oj.apart ops oi = true) := by
    intro i j oi oj hi hj hlt
    have hi' : i < ops.size := (Array.getElem?_eq_some_iff.1 hi).1
    have hmi : ∃ m, (masksFrom [] ops.toList)[i]? = some m := ⟨_, List.getElem?_eq_getElem (by rw [hlen]; exact hi')⟩
    obtain ⟨m, hmi⟩ := hmi
    obtain ⟨h1, h2⟩ := apartAll_spec _ _ 0 h.2 i m oi j oj hmi (by simpa using hi) (by omega) (by simpa using hj)
    exact ⟨h1, h2.imp (hm i m j hmi) id⟩
  refine ⟨fun i o e hi he hb => by have := edgesOk_spec _ 0 h.1 i o e (by simpa using hi) he hb; omega, fun i j oi oj d hi hj hne hd hdj => ?_, fun i j oi oj hi hj hlt => (hap i j oi oj hi hj hlt).2⟩
  rcases Nat.lt_or_gt_of_ne hne with hlt | hlt
  · have := (hap j i oj oi hj hi hlt).1
    rw [hd, hdj] at this
    simp [ne?] at this
  · have := (hap i j oi oj hi hj hlt).1
    rw [hd, hdj] at this
    simp [ne?] at this

/-! The run in the list's order, place by place. -/
structure RS where
  tm : Tm
  V : Heap
  U : Heap
  nx : Nat

def StepR (P : Program) (C : CallFn) (N : Nat) (ops : Array Oper) (o : Oper) (s s' : RS) : Rec → Prop
  | .skip => wantA ops s.tm o = some false ∧ putD N s.tm o.dst undefA = some s'.tm ∧ s'.V = s.V ∧ s'.U = s.U ∧ s'.nx = s.nx
  | .light tm nm v b => wantA ops s.tm o = some true ∧ tm = s.tm ∧ nm = s.nx ∧ heavy P o.op = false ∧ lev P (opnd s.tm) s.V s.nx o.op = some (v, b) ∧ putD N s.tm o.dst v = some s'.tm ∧ s'.V = s.V ∧ (b = none → s'.U = s.U ∧ s'.nx = s.nx) ∧ (∀ k, b = some k → s'.U = s.U.set s.nx k ∧ s'.nx = s.nx + 1 ∧ noSib k = true)
  | .heavy V0 tm U nx v V1 nx1 => wantA ops s.tm o = some true ∧ V0 = s.V ∧ tm = s.tm ∧ U = s.U ∧ nx = s.nx ∧ hev P C (opnd s.tm) s.U s.nx none o.op = some (.val v V1 nx1) ∧ s.nx ≤ nx1 ∧ putD N s.tm o.dst v = some s'.tm ∧ s'.V = V1 ∧ s'.U = V1 ∧ s'.nx = nx1

theorem runD_spec : ∀ (l : List Oper) (s : RS) (rs : List Rec) (tm : Tm) (U : Heap) (nx : Nat), runD P C N ops l s.tm s.V s.U s.nx = some (rs, tm, U, nx) →
    ∃ f : Nat → RS, f 0 = s ∧ rs.length = l.length ∧ (∀ i o r, l[i]? = some o → rs[i]? = some r → StepR P C N ops o (f i) (f (i + 1)) r) ∧ (f l.length).tm = tm ∧ (f l.length).U = U ∧ (f l.length).nx = nx
  | [], s, rs, tm, U, nx, h => by
    simp only [runD, Option.some.injEq, Prod.mk.injEq] at h
    obtain ⟨rfl, rfl, rfl, rfl⟩ := h
    exact ⟨fun _ => s, rfl, rfl, fun i o r h => by simp at h, rfl, rfl, rfl⟩
  | o :: l, s, rs, tm, U, nx, h => by
    have ext : ∀ (s' : RS) (r : Rec) (rs' : List Rec), StepR P C N ops o s s' r → rs = r :: rs' → runD P C N ops l s'.tm s'.V s'.U s'.nx = some (rs', tm, U, nx) →
        ∃ f : Nat → RS, f 0 = s ∧ rs.length = (o :: l).length ∧ (∀ i o' r, (o :: l)[i]? = some o' → rs[i]? = some r → StepR P C N ops o' (f i) (f (i + 1)) r) ∧ (f (o :: l).length).tm = tm ∧ (f (o :: l).length).U = U ∧ (f (o :: l).length).nx = nx := by
      intro s' r rs' hs he hr
      obtain ⟨f, f0, fl, fs, f1, f2, f3⟩ := runD_spec l s' rs' tm U nx hr
      subst he
      refine ⟨fun i => match i with | 0 => s | i + 1 => f i, rfl, by simp [fl], fun i o' r' ho hr' => ?_, by simpa using f1, by simpa using f2, by simpa using f3⟩
      cases i with
      | zero =>
        simp only [List.getElem?_cons_zero, Option.some.injEq] at ho hr'
        subst ho; subst hr'
        simp only [f0]; exact hs
      | succ i => exact fs i o' r' (by simpa using ho) (by simpa using hr')
    simp only [runD, Option.bind_eq_some_iff] at h
    obtain ⟨wn, hw, h⟩ := h
    cases wn with
    | false =>
      simp only [Option.bind_eq_some_iff, Option.some.injEq, Prod.exists, Prod.mk.injEq] at h
      obtain ⟨tm1, ht, rs', tm2, U2, nx2, hr, he, rfl, rfl, rfl⟩ := h
      exact ext ⟨tm1, s.V, s.U, s.nx⟩ .skip rs' ⟨hw, ht, rfl, rfl, rfl⟩ he.symm hr
    | true =>
      simp only at h
      cases hh : heavy P o.op with
      | true =>
        rw [hh] at h
        simp only [Option.bind_eq_some_iff] at h
        obtain ⟨r, hr0, h⟩ := h
        split at h
        case h_2 => cases h
        rename_i v V1 nx1
        cases hb : Nat.ble s.nx nx1 with
        | false => rw [hb] at h; cases h
        | true =>
          rw [hb] at h
          simp only [Option.bind_eq_some_iff, Option.some.injEq, Prod.exists, Prod.mk.injEq] at h
          obtain ⟨tm1, ht, rs', tm2, U2, nx2, hr, he, rfl, rfl, rfl⟩ := h
          exact ext ⟨tm1, V1, V1, nx1⟩ (.heavy s.V s.tm s.U s.nx v V1 nx1) rs' ⟨hw, rfl, rfl, rfl, rfl, hr0, Nat.le_of_ble_eq_true hb, ht, rfl, rfl, rfl⟩ he.symm hr
      | false =>
        rw [hh] at h
        simp only [Option.bind_eq_some_iff, Prod.exists] at h
        obtain ⟨v, b, hl, tm1, ht, h⟩ := h
        cases b with
        | none =>
          simp only [Option.bind_eq_some_iff, Option.some.injEq, Prod.exists, Prod.mk.injEq] at h
          obtain ⟨rs', tm2, U2, nx2, hr, he, rfl, rfl, rfl⟩ := h
          exact ext ⟨tm1, s.V, s.U, s.nx⟩ (.light s.tm s.nx v none) rs' ⟨hw, rfl, rfl, hh, hl, ht, rfl, fun _ => ⟨rfl, rfl⟩, fun k hk => (by cases hk)⟩ he.symm hr
        | some k =>
          simp only at h
          cases hns : noSib k with
          | false => rw [hns] at h; cases h
          | true =>
          rw [hns] at h
          simp only [T.fz_eq, fn_eq, Option.bind_eq_some_iff, Option.some.injEq, Prod.exists, Prod.mk.injEq] at h
          obtain ⟨rs', tm2, U2, nx2, hr, he, rfl, rfl, rfl⟩ := h
          exact ext ⟨tm1, s.V, s.U.set s.nx k, s.nx + 1⟩ (.light s.tm s.nx v (some k)) rs' ⟨hw, rfl, rfl, hh, hl, ht, rfl, fun h => (by cases h), fun k' hk => (by cases hk; exact ⟨rfl, rfl, hns⟩)⟩ he.symm hr

theorem chk1_spec {m : Nat} {o : Oper} {r : Rec} : ∀ (os : List Oper) (rs : List Rec) (j n : Nat), chk1 P m o r j os rs n = true → ∀ k oj rj, k < n → os[k]? = some oj → rs[k]? = some rj → against P m o r (j + k) oj rj = true
  | _, _, _, 0, _, k, _, _, hk, _, _ => by omega
  | [], _, _, n + 1, h, k, oj, _, hk, ho, _ => by simp at ho
  | _ :: _, [], _, n + 1, h, k, oj, _, hk, _, hr => by simp at hr
  | x :: os, y :: rs, j, n + 1, h, k, oj, rj, hk, ho, hr => by
    simp only [chk1, Bool.and_eq_true] at h
    cases k with
    | zero =>
      simp only [List.getElem?_cons_zero, Option.some.injEq] at ho hr
      subst ho; subst hr; exact h.1
    | succ k =>
      have := chk1_spec os rs (j + 1) n h.2 k oj rj (by omega) (by simpa using ho) (by simpa using hr)
      rw [show j + (k + 1) = j + 1 + k by omega]; exact this

theorem chk_spec {os0 : List Oper} {rs0 : List Rec} : ∀ (ms : List Nat) (os : List Oper) (rs : List Rec) (i : Nat), chk P os0 rs0 i ms os rs = true → ∀ k m o r j oj rj, ms[k]? = some m → os[k]? = some o → rs[k]? = some r → j < i + k → os0[j]? = some oj → rs0[j]? = some rj → against P m o r j oj rj = true
  | [], [], [], _, _, k, m, o, r, j, oj, rj, hm, _, _, _, _, _ => by simp at hm
  | m0 :: ms, o0 :: os, r0 :: rs, i, h, k, m, o, r, j, oj, rj, hm, ho, hr, hj, hoj, hrj => by
    simp only [chk, Bool.and_eq_true] at h
    cases k with
    | zero =>
      simp only [List.getElem?_cons_zero, Option.some.injEq] at hm ho hr
      subst hm; subst ho; subst hr
      have := chk1_spec os0 rs0 0 i h.1 j oj rj (by omega) hoj hrj
      simpa using this
    | succ k =>
      exact chk_spec ms os rs (i + 1) h.2 k m o r j oj rj (by simpa using hm) (by simpa using ho) (by simpa using hr) (by omega) hoj hrj
  | [], [], _ :: _, _, h, _, _, _, _, _, _, _, _, _, _, _, _, _ => by simp [chk] at h
  | [], _ :: _, _, _, h, _, _, _, _, _, _, _, _, _, _, _, _, _ => by simp [chk] at h
  | _ :: _, [], _, _, h, _, _, _, _, _, _, _, _, _, _, _, _, _ => by simp [chk] at h
  | _ :: _, _ :: _, [], _, h, _, _, _, _, _, _, _, _, _, _, _, _, _ => by simp [chk] at h
end Go.Mu

namespace Go.Mu
variable {P : Program} {ρ : Rho} {hp : Heap} {nx base : Nat} {w : World} {tm tm' : Tm} {a : Act} {C : CallFn} {N LF : Nat} {ops : Array Oper}

structure Run (P : Program) (C : CallFn) (N : Nat) (ops : Array Oper) where
  f : Nat → RS
  rs : List Rec
  len : rs.length = ops.size
  step : ∀ i o r, ops[i]? = some o → rs[i]? = some r → StepR P C N ops o (f i) (f (i + 1)) r
  chk : ∀ i j oi oj ri rj, ops[i]? = some oi → ops[j]? = some oj → rs[i]? = some ri → rs[j]? = some rj → j < i → ∃ m, (∀ k, Nat.testBit m k = true → Bef ops k i) ∧ against P m oi ri j oj rj = true
  stat : Stat ops

namespace Run
variable (R : Run P C N ops)

theorem rec_at {i : Nat} (h : i < ops.size) : ∃ o r, ops[i]? = some o ∧ R.rs[i]? = some r ∧ StepR P C N ops o (R.f i) (R.f (i + 1)) r := by
  have h1 : ops[i]? = some ops[i] := Array.getElem?_eq_getElem h
  have h2 : R.rs[i]? = some (R.rs[i]'(by rw [R.len]; exact h)) := List.getElem?_eq_getElem _
  exact ⟨_, _, h1, h2, R.step i _ _ h1 h2⟩

def isHv (i : Nat) : Prop := ∃ V0 tm U nx v V1 nx1, R.rs[i]? = some (.heavy V0 tm U nx v V1 nx1)
def alloc (i b : Nat) (k : ABlk) : Prop := ∃ tm v, R.rs[i]? = some (.light tm b v (some k))
def val (i : Nat) : AVal := match R.rs[i]? with
  | some (.light _ _ v _) => v
  | some (.heavy _ _ _ _ v _ _) => v
  | _ => undefA

theorem lt_of_rec {i : Nat} {r : Rec} (h : R.rs[i]? = some r) : i < ops.size := by
  rw [← R.len]; exact (List.getElem?_eq_some_iff.1 h).1

theorem nx_step {i : Nat} (h : i < ops.size) : (R.f i).nx ≤ (R.f (i + 1)).nx := by
  obtain ⟨o, r, ho, hr, hs⟩ := R.rec_at h
  cases r with
  | skip => rw [hs.2.2.2.2]; exact Nat.le_refl _
  | light tm nm v b =>
    obtain ⟨_, _, _, _, _, _, _, h1, h2⟩ := hs
    cases b with
    | none => rw [(h1 rfl).2]; exact Nat.le_refl _
    | some k => rw [(h2 k rfl).2.1]; omega
  | heavy V0 tm U nx v V1 nx1 =>
    obtain ⟨_, _, _, _, _, _, h1, _, _, _, h2⟩ := hs
    rw [h2]; exact h1

theorem nx_mono {i j : Nat} (h : i ≤ j) (hj : j ≤ ops.size) : (R.f i).nx ≤ (R.f j).nx := by
  induction j with
  | zero => have : i = 0 := by omega
            subst this; exact Nat.le_refl _
  | succ j ih =>
    by_cases e : i = j + 1
    · subst e; exact Nat.le_refl _
    · exact Nat.le_trans (ih (by omega) (by omega)) (R.nx_step (by omega))

theorem alloc_nx {i b : Nat} {k : ABlk} (h : R.alloc i b k) : i < ops.size ∧ b = (R.f i).nx ∧ (R.f (i + 1)).nx = b + 1 ∧ noSib k = true ∧ (R.f (i + 1)).V = (R.f i).V ∧ (R.f (i + 1)).U = (R.f i).U.set b k := by
  obtain ⟨tm, v, hr⟩ := h
  have hi := R.lt_of_rec hr
  obtain ⟨o, r, ho, hr', hs⟩ := R.rec_at hi
  rw [hr] at hr'; cases hr'
  obtain ⟨_, _, h1, _, _, _, h3, _, h2⟩ := hs
  obtain ⟨q1, q2, q3⟩ := h2 k rfl
  exact ⟨hi, h1, by rw [q2, h1], q3, h3, by rw [q1, h1]⟩

theorem alloc_inj {i j b : Nat} {k k' : ABlk} (h : R.alloc i b k) (h' : R.alloc j b k') : i = j := by
  obtain ⟨hi, e1, e2, _⟩ := R.alloc_nx h
  obtain ⟨hj, e3, e4, _⟩ := R.alloc_nx h'
  rcases Nat.lt_trichotomy i j with hl | hl | hl
  · have := R.nx_mono (i := i + 1) (j := j) (by omega) (by omega); omega
  · exact hl
  · have := R.nx_mono (i := j + 1) (j := i) (by omega) (by omega); omega

theorem alloc_fun {i b : Nat} {k k' : ABlk} (h : R.alloc i b k) (h' : R.alloc i b k') : k = k' := by
  obtain ⟨_, _, h⟩ := h
  obtain ⟨_, _, h'⟩ := h'
  rw [h] at h'; cases h'; rfl

theorem V_const {q i : Nat} (hq : q ≤ i) (hi : i ≤ ops.size) : (∃ h, q ≤ h ∧ h < i ∧ R.isHv h ∧ (R.f h).V = (R.f q).V) ∨ ((∀ h, q ≤ h → h < i → ¬ R.isHv h) ∧ (R.f i).V = (R.f q).V) := by
  induction i with
  | zero =>
    have : q = 0 := by omega
    subst this
    exact .inr ⟨fun h _ hl => by omega, rfl⟩
  | succ i ih =>
    by_cases e : q = i + 1
    · subst e; exact .inr ⟨fun h _ hl => by omega, rfl⟩
    · rcases ih (by omega) (by omega) with ⟨h, h1, h2, h3, h4⟩ | ⟨h1, h2⟩
      · exact .inl ⟨h, h1, by omega, h3, h4⟩
      · obtain ⟨o, r, ho, hr, hs⟩ := R.rec_at (i := i) (by omega)
        cases r with
        | skip =>
          refine .inr ⟨fun h hl hlt => ?_, by rw [hs.2.2.1, h2]⟩
          by_cases he : h = i
          · subst he; rintro ⟨V0, tm, U, nx, v, V1, nx1, hh⟩; rw [hr] at hh; cases hh
          · exact h1 h hl (by omega)
        | light tm nm v b =>
          refine .inr ⟨fun h hl hlt => ?_, by rw [hs.2.2.2.2.2.2.1, h2]⟩
          by_cases he : h = i
          · subst he; rintro ⟨V0, tm, U, nx, v, V1, nx1, hh⟩; rw [hr] at hh; cases hh
          · exact h1 h hl (by omega)
        | heavy V0 tm U nx v V1 nx1 => exact .inl ⟨i, by omega, by omega, ⟨_, _, _, _, _, _, _, hr⟩, h2⟩

theorem U_spec {q i : Nat} (hq : q ≤ i) (hi : i ≤ ops.size) (hno : ∀ h, q ≤ h → h < i → ¬ R.isHv h) {b : Nat} {k : ABlk} (hg : (R.f i).U.get b = some k) : (R.f q).U.get b = some k ∨ ∃ j, q ≤ j ∧ j < i ∧ R.alloc j b k := by
  induction i with
  | zero =>
    have : q = 0 := by omega
    subst this; exact .inl hg
  | succ i ih =>
    by_cases e : q = i + 1
    · subst e; exact .inl hg
    · obtain ⟨o, r, ho, hr, hs⟩ := R.rec_at (i := i) (by omega)
      have rec_ : (R.f i).U.get b = some k → (R.f q).U.get b = some k ∨ ∃ j, q ≤ j ∧ j < i + 1 ∧ R.alloc j b k := fun h =>
        (ih (by omega) (by omega) (fun h hl hlt => hno h hl (by omega)) h).imp id fun ⟨j, h1, h2, h3⟩ => ⟨j, h1, by omega, h3⟩
      cases r with
      | skip => rw [hs.2.2.2.1] at hg; exact rec_ hg
      | light tm nm v bo =>
        obtain ⟨_, _, h0, _, _, _, _, h1, h2⟩ := hs
        cases bo with
        | none => rw [(h1 rfl).1] at hg; exact rec_ hg
        | some k0 =>
          rw [(h2 k0 rfl).1, T.get_set] at hg
          split at hg
          · rename_i hb
            simp only [Option.some.injEq] at hg
            subst hg
            exact .inr ⟨i, by omega, by omega, tm, v, by rw [hr, hb, h0]⟩
          · exact rec_ hg
      | heavy V0 tm U nx v V1 nx1 => exact absurd ⟨_, _, _, _, _, _, _, hr⟩ (hno i (by omega) (by omega))

theorem putD_get {N : Nat} {tm tm' : Tm} {d : Option Tmp} {v : AVal} (h : putD N tm d v = some tm') (t : Nat) : tm'.get t = if d = some t then some v else tm.get t := by
  unfold putD at h
  cases d with
  | none => simp at h; subst h; simp
  | some d =>
    simp only at h
    cases hb : Nat.blt d N with
    | false => rw [hb] at h; cases h
    | true =>
      rw [hb] at h
      simp only [cond_true, Option.some.injEq] at h
      subst h
      rw [Tm.get_set]
      by_cases e : t = d
      · subst e; simp
      · simp [e, Ne.symm e]

theorem putD_lt {N : Nat} {tm tm' : Tm} {d : Tmp} {v : AVal} (h : putD N tm (some d) v = some tm') : d < N := by
  simp only [putD] at h
  cases hb : Nat.blt d N with
  | false => rw [hb] at h; cases h
  | true => rw [← Nat.blt_eq]; exact hb

theorem put_at {i : Nat} {o : Oper} (ho : ops[i]? = some o) : putD N (R.f i).tm o.dst (R.val i) = some (R.f (i + 1)).tm := by
  have hi : i < ops.size := (Array.getElem?_eq_some_iff.1 ho).1
  obtain ⟨o', r, ho', hr, hs⟩ := R.rec_at hi
  rw [ho] at ho'; cases ho'
  unfold val
  rw [hr]
  cases r with
  | skip => exact hs.2.1
  | light tm nm v b => exact hs.2.2.2.2.2.1
  | heavy V0 tm U nx v V1 nx1 => exact hs.2.2.2.2.2.2.2.1

theorem tm_spec {i : Nat} (hi : i ≤ ops.size) {t : Nat} {x : AVal} (h : (R.f i).tm.get t = some x) : (∃ j o, j < i ∧ ops[j]? = some o ∧ o.dst = some t ∧ x = R.val j) ∨ ((∀ j o, j < i → ops[j]? = some o → o.dst ≠ some t) ∧ (R.f 0).tm.get t = some x) := by
  induction i with
  | zero => exact .inr ⟨fun j o hj => by omega, h⟩
  | succ i ih =>
    have hlt : i < ops.size := by omega
    have ho : ops[i]? = some ops[i] := Array.getElem?_eq_getElem hlt
    rw [putD_get (R.put_at ho)] at h
    split at h
    · rename_i hd
      simp only [Option.some.injEq] at h
      exact .inl ⟨i, _, by omega, ho, hd, h.symm⟩
    · rename_i hd
      rcases ih (by omega) h with ⟨j, o, h1, h2⟩ | ⟨h1, h2⟩
      · exact .inl ⟨j, o, by omega, h2⟩
      · refine .inr ⟨fun j o hj hoj => ?_, h2⟩
        by_cases e : j = i
        · subst e; rw [ho] at hoj; cases hoj; exact hd
        · exact h1 j o (by omega) hoj

/-- What a light operation comes to, whichever part of the region was done. -/
theorem light_at {D : Nat → Prop} (hdc : ∀ i j, D i → Bef ops j i → D j) {q i : Nat} (hq : q ≤ ops.size) (hlo : ∀ h, h < q → R.isHv h → D h) (hhi : ∀ h, q ≤ h → R.isHv h → ¬ D h) (hq' : q = 0 ∨ R.isHv (q - 1))
    (hi : ¬ D i) (hb : ∀ j, Bef ops j i → D j) {o : Oper} (ho : ops[i]? = some o) {tm : Tm} {nm : Nat} {v : AVal} {b : Option ABlk} (hr : R.rs[i]? = some (.light tm nm v b)) :
    lev P (opnd (R.f i).tm) (R.f q).V (R.f i).nx o.op = some (v, b) ∧ (∀ k, b = some k → q ≤ i) := by
  have hlt := R.lt_of_rec hr
  obtain ⟨hw, rfl, rfl, hh, hl, hput, hV, hn, hs⟩ := R.step i o _ ho hr
  by_cases hqi : q ≤ i
  · refine ⟨?_, fun _ _ => hqi⟩
    rcases R.V_const hqi (by omega) with ⟨h, h1, h2, ⟨V0, tm0, U0, nx0, v0, V1, nx1, h3⟩, h4⟩ | ⟨_, h2⟩
    · have hoh : ops[h]? = some ops[h] := Array.getElem?_eq_getElem (by omega)
      obtain ⟨m, hm, hag⟩ := R.chk i h _ _ _ _ ho hoh hr h3 h2
      obtain ⟨_, hV0, _⟩ := R.step h _ _ hoh h3
      simp only [against, Bool.or_eq_true] at hag
      rcases hag with hag | hag
      · exact absurd (hb h (hm h hag)) (hhi h h1 ⟨_, _, _, _, _, _, _, h3⟩)
      · rw [hV0, h4] at hag
        exact sameL_sound hag hl
    · rw [← h2]; exact hl
  · have hq0 : q ≠ 0 := by omega
    obtain ⟨V0, tm0, U0, nx0, v0, V1, nx1, h3⟩ := hq'.resolve_left hq0
    have hne : i ≠ q - 1 := by
      intro e
      rw [e, h3] at hr; cases hr
    have hoh : ops[q - 1]? = some ops[q - 1] := Array.getElem?_eq_getElem (by omega)
    obtain ⟨m, hm, hag⟩ := R.chk (q - 1) i _ _ _ _ hoh ho h3 hr (by omega)
    obtain ⟨_, _, _, _, _, _, _, _, hV1, _⟩ := R.step (q - 1) _ _ hoh h3
    simp only [against, Bool.or_eq_true, Bool.and_eq_true] at hag
    rcases hag with hag | ⟨hbn, hag⟩
    · exact absurd (hdc _ _ (hlo (q - 1) (by omega) ⟨_, _, _, _, _, _, _, h3⟩) (hm i hag)) hi
    · have hqq : q - 1 + 1 = q := by omega
      rw [hqq] at hV1
      rw [← hV1] at hag
      exact ⟨sameL_sound hag hl, fun k hk => by rw [hk] at hbn; cases hbn⟩

/-- Which heavy operation is next. -/
theorem heavy_at {D : Nat → Prop} {q i : Nat} (hlo : ∀ h, h < q → R.isHv h → D h) (hhi : ∀ h, q ≤ h → R.isHv h → ¬ D h)
    (hi : ¬ D i) (hb : ∀ j, Bef ops j i → D j) (hh : R.isHv i) : q ≤ i ∧ (∀ h, q ≤ h → h < i → ¬ R.isHv h) ∧ (R.f i).V = (R.f q).V ∧ ∀ j b k, j < i → R.alloc j b k → D j := by
  have hqi : q ≤ i := by
    rcases Nat.lt_or_ge i q with h | h
    · exact absurd (hlo i h hh) hi
    · exact h
  obtain ⟨V0, tm0, U0, nx0, v0, V1, nx1, hr⟩ := hh
  have hlt := R.lt_of_rec hr
  have ho : ops[i]? = some ops[i] := Array.getElem?_eq_getElem hlt
  have none_between : ∀ h, q ≤ h → h < i → ¬ R.isHv h := by
    intro h h1 h2 h3
    obtain ⟨V0', tm0', U0', nx0', v0', V1', nx1', hr'⟩ := id h3
    have hoh : ops[h]? = some ops[h] := Array.getElem?_eq_getElem (by omega)
    obtain ⟨m, hm, hag⟩ := R.chk i h _ _ _ _ ho hoh hr hr' h2
    simp only [against] at hag
    exact hhi h h1 h3 (hb h (hm h hag))
  refine ⟨hqi, none_between, ?_, fun j b k hj ⟨tm, v, ha⟩ => ?_⟩
  · rcases R.V_const hqi (by omega) with ⟨h, h1, h2, h3, _⟩ | ⟨_, h2⟩
    · exact absurd h3 (none_between h h1 h2)
    · exact h2
  · have hoj : ops[j]? = some ops[j] := Array.getElem?_eq_getElem (by omega)
    obtain ⟨m, hm, hag⟩ := R.chk i j _ _ _ _ ho hoj hr ha hj
    simp only [against, Bool.or_eq_true, Bool.and_eq_true] at hag
    rcases hag with hag | ⟨hag, _⟩
    · exact hb j (hm j hag)
    · cases hag

end Run

/-- The names below a bound. -/
def rst (ρ : Rho) (β : Nat) : Rho := fun b => if b < β then ρ b else none

theorem rst_ext {β : Nat} : Ext (rst ρ β) ρ := fun b c h => by
  unfold rst at h
  split at h
  · exact h
  · cases h

theorem rst_some {β b : Nat} {c : CB} (h : rst ρ β b = some c) : b < β ∧ ρ b = some c := by
  unfold rst at h
  split at h
  · rename_i hb; exact ⟨hb, h⟩
  · cases h

theorem rst_lt {β b : Nat} {c : CB} (hb : b < β) (h : ρ b = some c) : rst ρ β b = some c := by unfold rst; rw [if_pos hb]; exact h

theorem rst_mono {ρ' : Rho} {β β' : Nat} (hx : Ext ρ ρ') (hb : β ≤ β') : Ext (rst ρ β) (rst ρ' β') := fun b c h => by
  obtain ⟨h1, h2⟩ := rst_some h
  exact rst_lt (by omega) (hx _ _ h2)

theorem HR.ext {ρ' : Rho} (h : HR ρ hp w base) (hx : Ext ρ ρ') : HR ρ' hp w base := by
  have back : ∀ b k c, hp.get b = some k → ρ' b = some c → ρ b = some c := fun b k c hk hc => by
    obtain ⟨c0, _, h1, _⟩ := h.blk b k hk
    rw [hx _ _ h1] at hc; cases hc; exact h1
  exact ⟨fun b k hk => by
    obtain ⟨c, ob, h1, h2, h3, h4⟩ := h.blk b k hk
    exact ⟨c, ob, hx _ _ h1, h2, h3, h4.mono hx⟩,
   fun b b' k k' c c' hk hk' hc hc' he hne => h.inj b b' k k' c c' hk hk' (back _ _ _ hk hc) (back _ _ _ hk' hc') he hne⟩

structure Inv (R : Run P C N ops) (ρ0 : Rho) (hp0 : Heap) (nx0 : Nat) (w0 : World) (base : Nat) (df : List ADf) (D : Nat → Prop) (a : Act) (w : World) (q : Nat) (ρ : Rho) : Prop where
  qle : q ≤ ops.size
  lo : ∀ h, h < q → R.isHv h → D h
  hi : ∀ h, q ≤ h → R.isHv h → ¬ D h
  q0 : q = 0 ∨ R.isHv (q - 1)
  dn : ∀ i, D i → i < ops.size
  h1 : HR (rst ρ (R.f q).nx) (R.f q).V w base
  h2 : ∀ i b k, D i → q ≤ i → R.alloc i b k → ∃ c ob, ρ b = some c ∧ base ≤ c.blk ∧ w.heap[c.blk]? = some ob ∧ BR (rst ρ (R.f (i + 1)).nx) c k ob
  h3 : ∀ i b k c, D i → q ≤ i → R.alloc i b k → ρ b = some c → (∀ b' k' c', (R.f q).V.get b' = some k' → ρ b' = some c' → c'.blk ≠ c.blk) ∧ (∀ j b' k' c', D j → q ≤ j → R.alloc j b' k' → ρ b' = some c' → j ≠ i → c'.blk ≠ c.blk)
  nm : ∀ b c, ρ b = some c → b < (R.f q).nx ∨ ∃ i k, D i ∧ q ≤ i ∧ R.alloc i b k
  ext : Ext ρ0 ρ
  live : ∀ b k, b < nx0 → (R.f q).V.get b = some k → ∃ k0, hp0.get b = some k0
  os : w.os = w0.os
  tape : w.tape = w0.tape
  output : w.output = w0.output
  size : w0.heap.size ≤ w.heap.size
  same : ∀ i, i < w0.heap.size → (∀ b k c, hp0.get b = some k → ρ0 b = some c → c.blk ≠ i) → w.heap[i]? = w0.heap[i]?
  new : ∀ b c, ρ0 b = none → ρ b = some c → w0.heap.size ≤ c.blk ∨ ∃ b0 k0 c0, hp0.get b0 = some k0 ∧ ρ0 b0 = some c0 ∧ c0.blk = c.blk
  t1 : ∀ i o t, D i → ops[i]? = some o → o.dst = some t → ∃ c, a.tmps[t]? = some c ∧ VR (rst ρ (max (R.f (i + 1)).nx (R.f q).nx)) (R.val i) c
  t2 : ∀ t x, (R.f 0).tm.get t = some x → (∀ i o, D i → ops[i]? = some o → o.dst ≠ some t) → ∃ c, a.tmps[t]? = some c ∧ VR (rst ρ (R.f q).nx) x c
  sz : a.tmps.size = N
  df : DRs ρ df a.defers
  ba : base ≤ w.heap.size

section inv
variable {R : Run P C N ops} {ρ0 : Rho} {hp0 : Heap} {nx0 : Nat} {w0 : World} {df : List ADf} {D : Nat → Prop} {q : Nat}

theorem Inv.tr_at (I : Inv R ρ0 hp0 nx0 w0 base df D a w q ρ) (hdc : ∀ i j, D i → Bef ops j i → D j) {i : Nat} {o : Oper} (ho : ops[i]? = some o) (hi : ¬ D i) (hb : ∀ j, Bef ops j i → D j) :
    TR (rst ρ (max (R.f i).nx (R.f q).nx)) (restr (R.f i).tm (o.looksAt ops)) a.tmps := by
  have hlt : i < ops.size := (Array.getElem?_eq_some_iff.1 ho).1
  intro t x ht
  rw [restr_get] at ht
  split at ht
  case isFalse => cases ht
  rename_i hmem
  rcases R.tm_spec (by omega) ht with ⟨j, oj, hj, hoj, hd, rfl⟩ | ⟨hno, h0⟩
  · have hbj : Bef ops j i := by
      rcases R.stat.apart i j o oj ho hoj hj with h | h
      · exact h
      · exact absurd hmem ((Oper.apart_spec h).1 t hd)
    obtain ⟨c, h1, h2⟩ := I.t1 j oj t (hb j hbj) hoj hd
    have := R.nx_mono (i := j + 1) (j := i) (by omega) (by omega)
    exact ⟨c, h1, VR.mono (rst_mono (Ext.refl _) (by omega)) _ _ h2⟩
  · obtain ⟨c, h1, h2⟩ := I.t2 t x h0 fun j oj hDj hoj hd => by
      rcases Nat.lt_trichotomy j i with hl | hl | hl
      · exact hno j oj hl hoj hd
      · subst hl; exact hi hDj
      · rcases R.stat.apart j i oj o hoj ho hl with h | h
        · exact hi (hdc _ _ hDj h)
        · exact (Oper.apart_spec h).2.2 t hd hmem
    exact ⟨c, h1, VR.mono (rst_mono (Ext.refl _) (by omega)) _ _ h2⟩

theorem Inv.VU (I : Inv R ρ0 hp0 nx0 w0 base df D a w q ρ) (hst : (R.f 0).U = (R.f 0).V) : (R.f q).U = (R.f q).V := by
  rcases I.q0 with h | ⟨V0, tm0, U0, nx0', v0, V1, nx1, h3⟩
  · subst h; exact hst
  · have hlt := R.lt_of_rec h3
    obtain ⟨_, _, _, _, _, _, _, _, hV, hU, _⟩ := R.step (q - 1) _ _ (Array.getElem?_eq_getElem hlt) h3
    have hq : q - 1 + 1 = q ∨ q = 0 := by omega
    rcases hq with hq | hq
    · rw [hq] at hV hU; rw [hV, hU]
    · subst hq; exact hst

/-- Memory at a place to which nothing heavy leads. -/
theorem Inv.HRU (I : Inv R ρ0 hp0 nx0 w0 base df D a w q ρ) (hst : (R.f 0).U = (R.f 0).V) {i : Nat} (hq : q ≤ i) (hi : i ≤ ops.size) (hno : ∀ h, q ≤ h → h < i → ¬ R.isHv h) (hal : ∀ j b k, j < i → R.alloc j b k → D j) :
    HR (rst ρ (R.f i).nx) (R.f i).U w base := by
  have hle := R.nx_mono hq hi
  have hV := I.h1.ext (rst_mono (Ext.refl ρ) hle)
  have cs : ∀ b k, (R.f i).U.get b = some k → (R.f q).V.get b = some k ∨ ∃ j, q ≤ j ∧ j < i ∧ R.alloc j b k := fun b k h => by
    rw [← I.VU hst]; exact R.U_spec hq hi hno h
  have nxj : ∀ j b k, j < i → R.alloc j b k → b < (R.f i).nx ∧ (R.f (j + 1)).nx ≤ (R.f i).nx := fun j b k hj ha => by
    obtain ⟨_, _, h2, _⟩ := R.alloc_nx ha
    have := R.nx_mono (i := j + 1) (j := i) (by omega) hi
    omega
  refine ⟨fun b k hk => ?_, fun b b' k k' c c' hk hk' hc hc' he hne => ?_⟩
  · rcases cs b k hk with h | ⟨j, h1, h2, h3⟩
    · exact hV.blk b k h
    · obtain ⟨c, ob, e1, e2, e3, e4⟩ := I.h2 j b k (hal j b k h2 h3) h1 h3
      obtain ⟨n1, n2⟩ := nxj j b k h2 h3
      exact ⟨c, ob, rst_lt n1 e1, e2, e3, e4.mono (rst_mono (Ext.refl _) n2)⟩
  · rcases cs b k hk with h | ⟨j, h1, h2, h3⟩
    · rcases cs b' k' hk' with h' | ⟨j', h1', h2', h3'⟩
      · exact hV.inj b b' k k' c c' h h' hc hc' he hne
      · exact absurd he ((I.h3 j' b' k' c' (hal _ _ _ h2' h3') h1' h3' (rst_some hc').2).1 b k c h (rst_some hc).2)
    · rcases cs b' k' hk' with h' | ⟨j', h1', h2', h3'⟩
      · exact absurd he.symm ((I.h3 j b k c (hal _ _ _ h2 h3) h1 h3 (rst_some hc).2).1 b' k' c' h' (rst_some hc').2)
      · by_cases hjj : j = j'
        · subst hjj
          have e1 := (R.alloc_nx h3).2.1
          have e2 := (R.alloc_nx h3').2.1
          exact absurd (e1.trans e2.symm) hne
        · exact absurd he ((I.h3 j' b' k' c' (hal _ _ _ h2' h3') h1' h3' (rst_some hc').2).2 j b k c (hal _ _ _ h2 h3) h1 h3 (rst_some hc).2 hjj)

/-- Temporaries when one more operation is done. -/
theorem Inv.temps (I : Inv R ρ0 hp0 nx0 w0 base df D a w q ρ) {i : Nat} {o : Oper} (ho : ops[i]? = some o) (hi : ¬ D i) {ρ' : Rho} {q' : Nat} {c : Value} (hx : Ext ρ ρ') (hqq : (R.f q).nx ≤ (R.f q').nx) (hv : VR (rst ρ' (max (R.f (i + 1)).nx (R.f q').nx)) (R.val i) c) :
    (∀ j oj t, (D j ∨ j = i) → ops[j]? = some oj → oj.dst = some t → ∃ c', (a.put o.dst c).tmps[t]? = some c' ∧ VR (rst ρ' (max (R.f (j + 1)).nx (R.f q').nx)) (R.val j) c') ∧
    (∀ t x, (R.f 0).tm.get t = some x → (∀ j oj, (D j ∨ j = i) → ops[j]? = some oj → oj.dst ≠ some t) → ∃ c', (a.put o.dst c).tmps[t]? = some c' ∧ VR (rst ρ' (R.f q').nx) x c') := by
  have keep : ∀ t, o.dst ≠ some t → (a.put o.dst c).tmps[t]? = a.tmps[t]? := fun t ht => by
    cases hd : o.dst with
    | none => rfl
    | some d =>
      have : d ≠ t := fun e => ht (by rw [hd, e])
      simp [Act.put, Array.getElem?_setIfInBounds_ne this]
  have hput := R.put_at ho
  refine ⟨fun j oj t hj hoj hd => ?_, fun t x h0 hno => ?_⟩
  · by_cases hji : j = i
    · subst hji
      rw [ho] at hoj; cases hoj
      rw [hd] at hput
      have hlt := Run.putD_lt hput
      refine ⟨c, ?_, hv⟩
      rw [hd]
      simp [Act.put, I.sz, hlt]
    · have hDj := hj.resolve_right hji
      obtain ⟨c', h1, h2⟩ := I.t1 j oj t hDj hoj hd
      refine ⟨c', ?_, VR.mono (rst_mono hx (by omega)) _ _ h2⟩
      rw [keep t (R.stat.dst j i oj o t hoj ho hji hd)]; exact h1
  · obtain ⟨c', h1, h2⟩ := I.t2 t x h0 fun j oj hDj => hno j oj (.inl hDj)
    refine ⟨c', ?_, VR.mono (rst_mono hx hqq) _ _ h2⟩
    rw [keep t (hno i o (.inr rfl) ho)]; exact h1

/-- An operation that makes no block and turns none. -/
theorem Inv.quiet (I : Inv R ρ0 hp0 nx0 w0 base df D a w q ρ) {i : Nat} {o : Oper} (ho : ops[i]? = some o) (hi : ¬ D i) (hnh : ¬ R.isHv i) (hna : ∀ b k, ¬ R.alloc i b k) {c : Value} (hv : VR (rst ρ (max (R.f (i + 1)).nx (R.f q).nx)) (R.val i) c) :
    Inv R ρ0 hp0 nx0 w0 base df (fun j => D j ∨ j = i) (a.put o.dst c) w q ρ := by
  obtain ⟨ht1, ht2⟩ := I.temps ho hi (Ext.refl ρ) (Nat.le_refl _) hv
  refine ⟨I.qle, fun h hl hh => .inl (I.lo h hl hh), fun h hl hh => ?_, I.q0, fun j hj => ?_, I.h1, fun j b k hj hq ha => ?_, fun j b k c hj hq ha hc => ⟨?_, ?_⟩, fun b c hc => ?_, I.ext, I.live, I.os, I.tape, I.output, I.size, I.same, I.new, ht1, ht2, by rw [put_size]; exact I.sz, by rw [put_defers']; exact I.df, I.ba⟩
  · rintro (h' | rfl)
    · exact I.hi h hl hh h'
    · exact hnh hh
  · rcases hj with h | rfl
    · exact I.dn j h
    · exact (Array.getElem?_eq_some_iff.1 ho).1
  · rcases hj with h | rfl
    · exact I.h2 j b k h hq ha
    · exact absurd ha (hna b k)
  · rcases hj with h | rfl
    · exact (I.h3 j b k c h hq ha hc).1
    · exact absurd ha (hna b k)
  · rcases hj with h | rfl
    · intro j' b' k' c' hj' hq' ha' hc' hne
      rcases hj' with h' | rfl
      · exact (I.h3 j b k c h hq ha hc).2 j' b' k' c' h' hq' ha' hc' hne
      · exact absurd ha' (hna b' k')
    · exact absurd ha (hna b k)
  · rcases I.nm b c hc with h | ⟨j, k, h1, h2, h3⟩
    · exact .inl h
    · exact .inr ⟨j, k, .inl h1, h2, h3⟩
end inv
end Go.Mu

namespace Go.Mu
variable {P : Program} {ρ : Rho} {hp : Heap} {nx base : Nat} {w : World} {tm tm' : Tm} {a : Act} {C : CallFn} {N LF : Nat} {ops : Array Oper}

theorem HR.alloc (h : HR ρ hp w base) (ob : Obj) : HR ρ hp (w.alloc ob) base :=
  ⟨fun b k hk => by
    obtain ⟨c, ob0, h1, h2, h3, h4⟩ := h.blk b k hk
    exact ⟨c, ob0, h1, h2, by rw [heap_alloc_old w ob _ (Array.getElem?_eq_some_iff.1 h3).1]; exact h3, h4⟩, h.inj⟩

section inv
variable {R : Run P C N ops} {ρ0 : Rho} {hp0 : Heap} {nx0 : Nat} {w0 : World} {df : List ADf} {D : Nat → Prop} {q : Nat}

/-- An operation that makes a block. -/
theorem Inv.alloc (I : Inv R ρ0 hp0 nx0 w0 base df D a w q ρ) {i b : Nat} {k : ABlk} {o : Oper} (ho : ops[i]? = some o) (hi : ¬ D i) (ha : R.alloc i b k) (hq : q ≤ i) {ob : Obj} {c : Value}
    (hbr : ∀ ρ', Ext (rst ρ (max (R.f i).nx (R.f q).nx)) ρ' → ρ' b = some ⟨w.heap.size, 0, 0, 0⟩ → VR ρ' (R.val i) c ∧ BR ρ' ⟨w.heap.size, 0, 0, 0⟩ k ob) :
    ∃ ρ', Inv R ρ0 hp0 nx0 w0 base df (fun j => D j ∨ j = i) (a.put o.dst c) (w.alloc ob) q ρ' := by
  obtain ⟨hlt, hb, hb1, _, _, _⟩ := R.alloc_nx ha
  have hqi := R.nx_mono hq (by omega)
  have hnone : ρ b = none := by
    cases hr : ρ b with
    | none => rfl
    | some c =>
      rcases I.nm b c hr with h | ⟨j, k', h1, _, h3⟩
      · omega
      · have := R.alloc_inj ha h3
        subst this; exact absurd h1 hi
  let ρ' : Rho := fun x => if x = b then some ⟨w.heap.size, 0, 0, 0⟩ else ρ x
  have hx : Ext ρ ρ' := fun x c hc => by
    have : x ≠ b := fun e => by rw [e, hnone] at hc; cases hc
    simp [ρ', this, hc]
  have hat : ρ' b = some ⟨w.heap.size, 0, 0, 0⟩ := by simp [ρ']
  have old : ∀ x c, x ≠ b → ρ' x = some c → ρ x = some c := fun x c hne hc => by simpa [ρ', hne] using hc
  have hnh : ¬ R.isHv i := by
    rintro ⟨V0, tm, U, nx, v, V1, nx1, h3⟩
    obtain ⟨tm', v', h4⟩ := ha
    rw [h3] at h4; cases h4
  have hbnd : b < (R.f (i + 1)).nx := by omega
  obtain ⟨hv, hbb⟩ := hbr (rst ρ' (max (R.f (i + 1)).nx (R.f q).nx)) (rst_mono hx (by omega)) (rst_lt (by omega) hat)
  have hb2 : max (R.f (i + 1)).nx (R.f q).nx = (R.f (i + 1)).nx := by omega
  obtain ⟨ht1, ht2⟩ := I.temps (q' := q) ho hi hx (Nat.le_refl _) hv
  have vlt : ∀ b' k', (R.f q).V.get b' = some k' → b' < (R.f q).nx := fun b' k' h => by
    obtain ⟨c', _, h1, _⟩ := I.h1.blk b' k' h
    exact (rst_some h1).1
  refine ⟨ρ', I.qle, fun h hl hh => .inl (I.lo h hl hh), fun h hl hh => ?_, I.q0, fun j hj => ?_, (I.h1.alloc ob).ext (rst_mono hx (Nat.le_refl _)), fun j b' k' hj hq' ha' => ?_, fun j b' k' c' hj hq' ha' hc' => ?_, fun b' c' hc' => ?_, I.ext.trans hx, I.live, I.os, I.tape, I.output, by simp; exact Nat.le_trans I.size (by omega), fun x hxl hno => ?_, fun b' c' h1 h2 => ?_, ht1, ht2, by rw [put_size]; exact I.sz, by rw [put_defers']; exact I.df.mono hx, by simp; exact Nat.le_trans I.ba (by omega)⟩
  · rintro (h' | rfl)
    · exact I.hi h hl hh h'
    · exact hnh hh
  · rcases hj with h | rfl
    · exact I.dn j h
    · exact hlt
  · rcases hj with h | rfl
    · obtain ⟨c', ob', e1, e2, e3, e4⟩ := I.h2 j b' k' h hq' ha'
      exact ⟨c', ob', hx _ _ e1, e2, by rw [heap_alloc_old w ob _ (Array.getElem?_eq_some_iff.1 e3).1]; exact e3, e4.mono (rst_mono hx (Nat.le_refl _))⟩
    · have e1 : b' = b := by rw [hb]; exact (R.alloc_nx ha').2.1
      subst e1
      have e2 := R.alloc_fun ha ha'
      subst e2
      refine ⟨_, ob, hat, I.ba, heap_alloc_new w ob, ?_⟩
      rw [hb2] at hbb; exact hbb
  · have lt2 : ∀ j' b'' k'' c'', D j' → q ≤ j' → R.alloc j' b'' k'' → ρ b'' = some c'' → c''.blk < w.heap.size := fun j' b'' k'' c'' hj'' hq'' ha'' hc'' => by
      obtain ⟨c0, ob0, e1, e2, e3, e4⟩ := I.h2 j' b'' k'' hj'' hq'' ha''
      rw [hc''] at e1; cases e1
      exact (Array.getElem?_eq_some_iff.1 e3).1
    rcases hj with h | rfl
    · have hne : b' ≠ b := fun e => by
        subst e
        have := R.alloc_inj ha ha'
        subst this; exact hi h
      have hc0 := old b' c' hne hc'
      refine ⟨fun b'' k'' c'' hk'' hc'' => ?_, fun j' b'' k'' c'' hj' hq'' ha'' hc'' hne' => ?_⟩
      · have hne2 : b'' ≠ b := fun e => by have := vlt b'' k'' hk''; omega
        exact (I.h3 j b' k' c' h hq' ha' hc0).1 b'' k'' c'' hk'' (old b'' c'' hne2 hc'')
      · rcases hj' with h' | rfl
        · have hne2 : b'' ≠ b := fun e => by
            subst e
            have := R.alloc_inj ha ha''
            subst this; exact hi h'
          exact (I.h3 j b' k' c' h hq' ha' hc0).2 j' b'' k'' c'' h' hq'' ha'' (old b'' c'' hne2 hc'') hne'
        · have e1 : b'' = b := by rw [hb]; exact (R.alloc_nx ha'').2.1
          subst e1
          rw [hat] at hc''; cases hc''
          have := lt2 j b' k' c' h hq' ha' hc0
          simp only; omega
    · have e1 : b' = b := by rw [hb]; exact (R.alloc_nx ha').2.1
      subst e1
      rw [hat] at hc'; cases hc'
      refine ⟨fun b'' k'' c'' hk'' hc'' => ?_, fun j' b'' k'' c'' hj' hq'' ha'' hc'' hne' => ?_⟩
      · have hl := vlt b'' k'' hk''
        have hne2 : b'' ≠ b' := by omega
        have := I.h1.lt hk'' (rst_lt hl (old b'' c'' hne2 hc''))
        simp only; omega
      · have h' := hj'.resolve_right hne'
        have hne2 : b'' ≠ b' := fun e => by
          subst e
          have := R.alloc_inj ha' ha''
          exact hne' this.symm
        have := lt2 j' b'' k'' c'' h' hq'' ha'' (old b'' c'' hne2 hc'')
        simp only; omega
  · by_cases e : b' = b
    · subst e; exact .inr ⟨i, k, .inr rfl, hq, ha⟩
    · rcases I.nm b' c' (old b' c' e hc') with h | ⟨j, k', h1, h2, h3⟩
      · exact .inl h
      · exact .inr ⟨j, k', .inl h1, h2, h3⟩
  · rw [heap_alloc_old w ob x (Nat.lt_of_lt_of_le hxl I.size)]
    exact I.same x hxl hno
  · by_cases e : b' = b
    · subst e
      rw [hat] at h2; cases h2
      exact .inl I.size
    · exact I.new b' c' h1 (old b' c' e h2)

/-- An operation that turns memory. -/
theorem Inv.heavy (I : Inv R ρ0 hp0 nx0 w0 base df D a w q ρ) (hst : (R.f 0).U = (R.f 0).V) (hn0 : (R.f 0).nx = nx0) (hF0 : Fresh ρ0 nx0) {i : Nat} {o : Oper} (ho : ops[i]? = some o) (hi : ¬ D i) (hb : ∀ j, Bef ops j i → D j) (hh : R.isHv i)
    {ρ' : Rho} {w' : World} {c : Value} (hv : VR ρ' (R.val i) c) (hR : HR ρ' (R.f (i + 1)).V w' base) (hF : Fresh ρ' (R.f (i + 1)).nx) (hE : Ev (rst ρ (R.f i).nx) (R.f i).U (R.f i).nx w ρ' (R.f (i + 1)).V (R.f (i + 1)).nx w') :
    ∃ ρ1, Inv R ρ0 hp0 nx0 w0 base df (fun j => D j ∨ j = i) (a.put o.dst c) w' (i + 1) ρ1 := by
  have hlt : i < ops.size := (Array.getElem?_eq_some_iff.1 ho).1
  obtain ⟨hq, hno, hV, hal⟩ := R.heavy_at I.lo I.hi hi hb hh
  have hqi := R.nx_mono hq (by omega)
  have hii := R.nx_step hlt
  have h0i := R.nx_mono (i := 0) (j := i) (by omega) (by omega)
  have hna : ∀ b k, ¬ R.alloc i b k := by
    rintro b k ⟨tm', v', h4⟩
    obtain ⟨V0, tm, U, nx, v, V1, nx1, h3⟩ := hh
    rw [h3] at h4; cases h4
  have lowhi : ∀ b c, ρ b = some c → b < (R.f i).nx ∨ ((R.f (i + 1)).nx ≤ b ∧ ∃ j k, D j ∧ i < j ∧ R.alloc j b k) := fun b c hc => by
    rcases I.nm b c hc with h | ⟨j, k, h1, h2, h3⟩
    · exact .inl (by omega)
    · obtain ⟨e1, e2, e3, _⟩ := R.alloc_nx h3
      rcases Nat.lt_trichotomy j i with hl | hl | hl
      · have := R.nx_mono (i := j + 1) (j := i) (by omega) (by omega)
        exact .inl (by omega)
      · subst hl; exact absurd h3 (hna b k)
      · have := R.nx_mono (i := i + 1) (j := j) (by omega) (by omega)
        exact .inr ⟨by omega, j, k, h1, hl, h3⟩
  let ρ1 : Rho := fun b => if b < (R.f (i + 1)).nx then ρ' b else ρ b
  have lo1 : ∀ b, b < (R.f (i + 1)).nx → ρ1 b = ρ' b := fun b h => by simp [ρ1, h]
  have hi1 : ∀ b, (R.f (i + 1)).nx ≤ b → ρ1 b = ρ b := fun b h => by simp [ρ1, show ¬ b < (R.f (i + 1)).nx by omega]
  have hx : Ext ρ ρ1 := fun b c hc => by
    rcases lowhi b c hc with h | ⟨h, _⟩
    · rw [lo1 b (by omega)]
      exact hE.ext _ _ (rst_lt h hc)
    · rw [hi1 b h]; exact hc
  have hxr : Ext ρ' (rst ρ1 (R.f (i + 1)).nx) := fun b c hc => by
    have hl : b < (R.f (i + 1)).nx := by
      rcases Nat.lt_or_ge b (R.f (i + 1)).nx with h | h
      · exact h
      · rw [hF b h] at hc; cases hc
    exact rst_lt hl (by rw [lo1 b hl]; exact hc)
  have cs : ∀ b k, (R.f i).U.get b = some k → (R.f q).V.get b = some k ∨ ∃ j, q ≤ j ∧ j < i ∧ R.alloc j b k ∧ D j := fun b k h => by
    rw [← I.VU hst]
    exact (R.U_spec hq (by omega) hno h).imp id fun ⟨j, h1, h2, h3⟩ => ⟨j, h1, h2, h3, hal j b k h2 h3⟩
  -- a block beside those that the operation knows
  have beside : ∀ j b k c, D j → i + 1 ≤ j → R.alloc j b k → ρ b = some c → ∀ b0 k0 c0, (R.f i).U.get b0 = some k0 → rst ρ (R.f i).nx b0 = some c0 → c0.blk ≠ c.blk := fun j b k c hj hij ha hc b0 k0 c0 hk0 hc0 => by
    rcases cs b0 k0 hk0 with h | ⟨j0, e1, e2, e3, e4⟩
    · exact (I.h3 j b k c hj (by omega) ha hc).1 b0 k0 c0 h (rst_some hc0).2
    · exact (I.h3 j b k c hj (by omega) ha hc).2 j0 b0 k0 c0 e4 e1 e3 (rst_some hc0).2 (by omega)
  have oldlive : ∀ b k, b < nx0 → (R.f i).U.get b = some k → ∃ k0, hp0.get b = some k0 := fun b k hbl hk => by
    rcases cs b k hk with h | ⟨j0, e1, e2, e3, e4⟩
    · exact I.live b k hbl h
    · have e5 := (R.alloc_nx e3).2.1
      have := R.nx_mono (i := 0) (j := j0) (by omega) (by omega)
      omega
  have fresh0 : ∀ b c, ρ0 b = some c → b < nx0 := fun b c hc => by
    rcases Nat.lt_or_ge b nx0 with h | h
    · exact h
    · rw [hF0 b h] at hc; cases hc
  have hextra : ∀ j b k c, D j → i + 1 ≤ j → R.alloc j b k → ρ1 b = some c → ρ b = some c := fun j b k c hj hij ha hc => by
    have e1 := (R.alloc_nx ha).2.1
    have := R.nx_mono (i := i + 1) (j := j) hij (by have := (R.alloc_nx ha).1; omega)
    rw [hi1 b (by omega)] at hc; exact hc
  obtain ⟨ht1, ht2⟩ := I.temps (q' := i + 1) (ρ' := ρ1) ho hi hx (by omega) (VR.mono (fun b c h => by rw [Nat.max_self]; exact hxr b c h) _ _ hv)
  have blt : ∀ j b k c, D j → q ≤ j → R.alloc j b k → ρ b = some c → c.blk < w.heap.size := fun j b k c hj hq' ha hc => by
    obtain ⟨c0, ob0, e1, e2, e3, e4⟩ := I.h2 j b k hj hq' ha
    rw [hc] at e1; cases e1
    exact (Array.getElem?_eq_some_iff.1 e3).1
  refine ⟨ρ1, by omega, fun h hl hh' => ?_, fun h hl hh' => ?_, .inr hh, fun j hj => ?_, hR.ext hxr, fun j b k hj hq' ha => ?_, fun j b k c' hj hq' ha hc' => ⟨fun b' k' c'' hk' hc'' => ?_, fun j' b' k' c'' hj' hq'' ha' hc'' hne => ?_⟩, fun b c' hc' => ?_, I.ext.trans hx, fun b k hbl hk => ?_, hE.os.trans I.os, hE.tape.trans I.tape, hE.output.trans I.output, Nat.le_trans I.size hE.size, fun x hxl hnone => ?_, fun b c' h1 h2 => ?_, ht1, ht2, by rw [put_size]; exact I.sz, by rw [put_defers']; exact I.df.mono hx, Nat.le_trans I.ba hE.size⟩
  · by_cases e : h = i
    · exact .inr e
    · rcases Nat.lt_or_ge h q with h' | h'
      · exact .inl (I.lo h h' hh')
      · exact absurd hh' (hno h h' (by omega))
  · rintro (h' | rfl)
    · exact I.hi h (by omega) hh' h'
    · omega
  · rcases hj with h | rfl
    · exact I.dn j h
    · exact hlt
  · have hDj : D j := hj.resolve_right (by omega)
    obtain ⟨c0, ob0, e1, e2, e3, e4⟩ := I.h2 j b k hDj (by omega) ha
    refine ⟨c0, ob0, hx _ _ e1, e2, ?_, e4.mono (rst_mono hx (Nat.le_refl _))⟩
    rw [hE.same c0.blk (Array.getElem?_eq_some_iff.1 e3).1 (fun b0 k0 c1 h1 h2 => beside j b k c0 hDj hq' ha e1 b0 k0 c1 h1 h2)]
    exact e3
  · have hDj : D j := hj.resolve_right (by omega)
    have hc0 := hextra j b k c' hDj hq' ha hc'
    obtain ⟨c1, _, r1, _⟩ := hR.blk b' k' hk'
    have hbl : b' < (R.f (i + 1)).nx := by
      rcases Nat.lt_or_ge b' (R.f (i + 1)).nx with h | h
      · exact h
      · rw [hF b' h] at r1; cases r1
    rw [lo1 b' hbl] at hc''
    cases hr : rst ρ (R.f i).nx b' with
    | some c2 =>
      have := hE.ext _ _ hr
      rw [hc''] at this; cases this
      obtain ⟨k2, hk2⟩ := hE.live b' k' hk' (rst_some hr).1
      exact beside j b k c' hDj hq' ha hc0 b' k2 c'' hk2 hr
    | none =>
      rcases hE.new b' c'' hr hc'' with h | ⟨b0, k0, c0, e1, e2, e3⟩
      · have := blt j b k c' hDj (by omega) ha hc0
        omega
      · have := beside j b k c' hDj hq' ha hc0 b0 k0 c0 e1 e2
        omega
  · have hDj : D j := hj.resolve_right (by omega)
    have hDj' : D j' := hj'.resolve_right (by omega)
    exact (I.h3 j b k c' hDj (by omega) ha (hextra j b k c' hDj hq' ha hc')).2 j' b' k' c'' hDj' (by omega) ha' (hextra j' b' k' c'' hDj' hq'' ha' hc'') hne
  · rcases Nat.lt_or_ge b (R.f (i + 1)).nx with h | h
    · exact .inl h
    · rw [hi1 b h] at hc'
      rcases lowhi b c' hc' with h' | ⟨_, j, k, h1, h2, h3⟩
      · omega
      · exact .inr ⟨j, k, .inl h1, h2, h3⟩
  · obtain ⟨k2, hk2⟩ := hE.live b k hk (by omega)
    exact oldlive b k2 hbl hk2
  · rw [hE.same x (Nat.lt_of_lt_of_le hxl I.size) (fun b0 k0 c0 e1 e2 => ?_)]
    · exact I.same x hxl hnone
    · have e3 := (rst_some e2).2
      cases hr : ρ0 b0 with
      | some c1 =>
        have := I.ext _ _ hr
        rw [e3] at this; cases this
        obtain ⟨k1, hk1⟩ := oldlive b0 k0 (fresh0 _ _ hr) e1
        exact hnone b0 k1 c0 hk1 hr
      | none =>
        rcases I.new b0 c0 hr e3 with h | ⟨b1, k1, c1, f1, f2, f3⟩
        · omega
        · have := hnone b1 k1 c1 f1 f2
          omega
  · rcases Nat.lt_or_ge b (R.f (i + 1)).nx with h | h
    · rw [lo1 b h] at h2
      cases hr : rst ρ (R.f i).nx b with
      | some c2 =>
        have := hE.ext _ _ hr
        rw [h2] at this; cases this
        exact I.new b c' h1 (rst_some hr).2
      | none =>
        rcases hE.new b c' hr h2 with h' | ⟨b0, k0, c0, e1, e2, e3⟩
        · exact .inl (Nat.le_trans I.size h')
        · have e4 := (rst_some e2).2
          cases hr0 : ρ0 b0 with
          | some c1 =>
            have := I.ext _ _ hr0
            rw [e4] at this; cases this
            obtain ⟨k1, hk1⟩ := oldlive b0 k0 (fresh0 _ _ hr0) e1
            exact .inr ⟨b0, k1, c0, hk1, hr0, e3⟩
          | none =>
            rcases I.new b0 c0 hr0 e4 with h' | ⟨b1, k1, c1, f1, f2, f3⟩
            · exact .inl (by omega)
            · exact .inr ⟨b1, k1, c1, f1, f2, by omega⟩
    · rw [hi1 b h] at h2
      exact I.new b c' h1 h2
end inv
end Go.Mu

namespace Go.Mu
variable {P : Program} {ρ : Rho} {hp : Heap} {nx base : Nat} {w : World} {tm tm' : Tm} {a : Act} {C : CallFn} {N LF : Nat} {ops : Array Oper}

section inv
variable {R : Run P C N ops} {ρ0 : Rho} {hp0 : Heap} {nx0 : Nat} {w0 : World} {df : List ADf} {D : Nat → Prop} {q : Nat} {Q : Exit → Act → World → Prop}

/-- One operation that is ready. -/
theorem Inv.op (hC : CallsOK P base C) (I : Inv R ρ0 hp0 nx0 w0 base df D a w q ρ) (hst : (R.f 0).U = (R.f 0).V) (hn0 : (R.f 0).nx = nx0) (hF0 : Fresh ρ0 nx0) (hdc : ∀ i j, D i → Bef ops j i → D j) {i : Nat} (hlt : i < ops.size) (hi : ¬ D i) (hb : ∀ j, Bef ops j i → D j)
    {K : Act → World → Prop} (hK : ∀ a' w' q' ρ', Inv R ρ0 hp0 nx0 w0 base df (fun j => D j ∨ j = i) a' w' q' ρ' → K a' w') : wpOp P ops Q i K a w := by
  obtain ⟨o, r, ho, hr, hs⟩ := R.rec_at hlt
  have hT := I.tr_at hdc ho hi hb
  have hval : ∀ v, R.val i = v → R.val i = v := fun _ h => h
  unfold wpOp
  simp only [ho]
  cases r with
  | skip =>
    have hw := hs.1
    rw [restr_want] at hw
    have hwant := wantA_sound hT hw
    simp only [hwant, Bool.false_eq_true, if_false]
    refine hK _ _ q ρ (I.quiet ho hi ?_ ?_ (c := undef) ?_)
    · rintro ⟨V0, tm, U, nx, v, V1, nx1, h3⟩; rw [hr] at h3; cases h3
    · rintro b k ⟨tm, v, h3⟩; rw [hr] at h3; cases h3
    · have : R.val i = undefA := by unfold Run.val; rw [hr]
      rw [this]; exact undef_VR
  | light tm nm v b =>
    have hw := hs.1
    rw [restr_want] at hw
    have hwant := wantA_sound hT hw
    simp only [hwant, if_true]
    left
    have hv : R.val i = v := by unfold Run.val; rw [hr]
    have hnh : ¬ R.isHv i := by
      rintro ⟨V0, tm, U, nx, v, V1, nx1, h3⟩; rw [hr] at h3; cases h3
    obtain ⟨hlev, hqb⟩ := R.light_at hdc I.qle I.lo I.hi I.q0 hi hb ho hr
    rw [lev_congr (tm' := restr (R.f i).tm (o.looksAt ops)) fun x hx => restr_opnd x hx] at hlev
    obtain ⟨d, op, ty, pos, af, gd⟩ := o
    have hok := lev_sound1 (d := d) (ty := ty) (pos := pos) (af := af) (gd := gd) (I.h1.ext (rst_mono (Ext.refl ρ) (Nat.le_max_right (R.f i).nx _))) hT hlev
    have hrec := hs
    obtain ⟨_, _, hnm, _, _, _, _, hn, hsm⟩ := hs
    cases b with
    | none =>
      obtain ⟨c, h1, h2⟩ := hok
      unfold Oper.wp
      rw [h1]
      simp only [Oper.upon]
      refine hK _ _ q ρ (I.quiet ho hi hnh ?_ (c := c) ?_)
      · rintro b k ⟨tm, v, h3⟩; rw [hr] at h3; cases h3
      · rw [hv, (hn rfl).2]; exact h2
    | some k =>
      obtain ⟨ob, c, h1, h2⟩ := hok
      unfold Oper.wp
      rw [h1]
      simp only [Oper.upon]
      subst hnm
      obtain ⟨ρ', I'⟩ := I.alloc ho hi ⟨tm, v, hr⟩ (hqb k rfl) (ob := ob) (c := c) (fun ρ' e1 e2 => by rw [hv]; exact h2 ρ' e1 e2)
      exact hK _ _ q ρ' I'
  | heavy V0 tm U nx v V1 nx1 =>
    obtain ⟨hw, _, _, _, _, hhev, _, _, hV1, _, hnx1⟩ := hs
    rw [restr_want] at hw
    have hwant := wantA_sound hT hw
    simp only [hwant, if_true]
    left
    have hv : R.val i = v := by unfold Run.val; rw [hr]
    have hh : R.isHv i := ⟨_, _, _, _, _, _, _, hr⟩
    obtain ⟨hq, hno, hV, hal⟩ := R.heavy_at I.lo I.hi hi hb hh
    have hqi := R.nx_mono hq (by omega)
    have hmax : max (R.f i).nx (R.f q).nx = (R.f i).nx := by omega
    rw [hmax] at hT
    rw [hev_congr (tm' := restr (R.f i).tm (o.looksAt ops)) fun x hx => restr_opnd x hx] at hhev
    have hRU := I.HRU hst hq (by omega) hno hal
    have hFr : Fresh (rst ρ (R.f i).nx) (R.f i).nx := fun b hb => by unfold rst; rw [if_neg (by omega)]
    obtain ⟨d, op, ty, pos, af, gd⟩ := o
    have hU := hev_sound (d := d) (ty := ty) (pos := pos) (af := af) (gd := gd) hC hRU hT hFr I.ba hhev
    refine upon_val hU fun c w' ⟨ρ', g1, g2, g3, g4⟩ => ?_
    rw [← hV1, ← hnx1] at g4
    rw [← hV1] at g2
    rw [← hnx1] at g3
    rw [← hv] at g1
    obtain ⟨ρ1, I'⟩ := I.heavy hst hn0 hF0 ho hi hb hh g1 g2 g3 g4
    exact hK _ _ (i + 1) ρ1 I'

theorem bef_closed {D : Nat → Prop} (h : ∀ i o e, D i → ops[i]? = some o → e ∈ o.after → Region.binds .any e = true → D e.on) : ∀ i j, D i → Bef ops j i → D j := by
  intro i j hD hB
  induction hB with
  | edge ho he hb => exact h _ _ _ hD ho he hb
  | far ho he hb _ ih => exact ih (h _ _ _ hD ho he hb)

theorem any_sound (hC : CallsOK P base C) (hst : (R.f 0).U = (R.f 0).V) (hn0 : (R.f 0).nx = nx0) (hF0 : Fresh ρ0 nx0) (hQ : ∀ a w q ρ, Inv R ρ0 hp0 nx0 w0 base df (fun i => i < ops.size) a w q ρ → Q .normal a w) :
    ∀ (fuel : Nat) (listed : Array Bool) (S : List Nat) (a : Act) (w : World) (q : Nat) (ρ : Rho), listed.size = ops.size → (∀ i, i < ops.size → ¬ listed.getD i false = true → i ∈ S) → S.length ≤ fuel →
      (∀ i o e, listed.getD i false = true → ops[i]? = some o → e ∈ o.after → Region.binds .any e = true → listed.getD e.on false = true) →
      Inv R ρ0 hp0 nx0 w0 base df (fun i => listed.getD i false = true) a w q ρ → wpAny P .any ops Q fuel listed a w := by
  intro fuel
  have fin : ∀ (listed : Array Bool) (a : Act) (w : World) (q : Nat) (ρ : Rho), Inv R ρ0 hp0 nx0 w0 base df (fun i => listed.getD i false = true) a w q ρ → (∀ i, i < ops.size → listed.getD i false = true) → Q .normal a w := by
    intro listed a w q ρ I hall
    have : (fun i => listed.getD i false = true) = (fun i => i < ops.size) := by
      funext i
      exact propext ⟨fun h => I.dn i h, fun h => hall i h⟩
    rw [this] at I
    exact hQ _ _ _ _ I
  have notD : ∀ (listed : Array Bool) (i : Nat), listed.size = ops.size → i < ops.size → listed.getD i true = false → ¬ listed.getD i false = true := by
    intro listed i hs hi h1 h2
    have hi' : i < listed.size := by omega
    simp [hi'] at h1 h2
    rw [h1] at h2; cases h2
  induction fuel with
  | zero =>
    intro listed S a w q ρ hs hS hl hdn I
    have hS0 : S = [] := by cases S with | nil => rfl | cons _ _ => simp at hl
    subst hS0
    have hall : ∀ i, i < ops.size → listed.getD i false = true := fun i hi => by
      by_cases h : listed.getD i false = true
      · exact h
      · exact absurd (hS i hi h) (by simp)
    refine ⟨?_, fin listed a w q ρ I hall⟩
    cases hr : Region.ready .any ops listed with
    | nil => rfl
    | cons i l =>
      have hm : i ∈ Region.ready .any ops listed := by rw [hr]; simp
      obtain ⟨h1, o, ho, _⟩ := mem_ready.1 hm
      have hi := (Array.getElem?_eq_some_iff.1 ho).1
      exact absurd (hall i hi) (notD listed i hs hi h1)
  | succ fuel ih =>
    intro listed S a w q ρ hs hS hl hdn I
    refine ⟨fun hr => fin listed a w q ρ I fun i => ?_, fun i hm => ?_⟩
    · induction i using Nat.strongRecOn with
      | _ i ihi =>
        intro hi
        by_cases h : listed.getD i false = true
        · exact h
        · have : i ∈ Region.ready .any ops listed := by
            have hi' : i < listed.size := by omega
            refine mem_ready.2 ⟨?_, ops[i], Array.getElem?_eq_getElem hi, fun e he hb => ?_⟩
            · simp [hi'] at h ⊢; exact h
            · have := R.stat.edge i ops[i] e (Array.getElem?_eq_getElem hi) he hb
              exact ihi e.on this (by omega)
          rw [hr] at this; cases this
    · obtain ⟨h1, o, ho, hrd⟩ := mem_ready.1 hm
      have hi := (Array.getElem?_eq_some_iff.1 ho).1
      have hnD := notD listed i hs hi h1
      have hbc := bef_closed (ops := ops) (D := fun i => listed.getD i false = true) hdn
      have hb : ∀ j, Bef ops j i → listed.getD j false = true := fun j hB => by
        cases hB with
        | edge ho' he hb => rw [ho] at ho'; cases ho'; exact hrd _ he hb
        | far ho' he hb k => rw [ho] at ho'; cases ho'; exact hbc _ _ (hrd _ he hb) k
      have hset : (fun j => (listed.setIfInBounds i true).getD j false = true) = (fun j => listed.getD j false = true ∨ j = i) := by
        funext j
        apply propext
        by_cases e : j = i
        · subst e
          have hj' : j < listed.size := by omega
          simp [hj']
        · rw [getD_set_ne false (Ne.symm e)]
          simp [e]
      refine I.op hC hst hn0 hF0 hbc hi hnD hb fun a' w' q' ρ' I' => ?_
      refine ih (listed.setIfInBounds i true) (S.erase i) a' w' q' ρ' (by simpa using hs) (fun j hj hnj => ?_) ?_ (fun j oj e hj hoj he hbe => ?_) (by rw [hset]; exact I')
      · have hne : j ≠ i := fun e => hnj (by rw [congrFun hset j]; exact .inr e)
        have : ¬ listed.getD j false = true := fun h => hnj (by rw [congrFun hset j]; exact .inl h)
        exact (List.mem_erase_of_ne hne).2 (hS j hj this)
      · rw [List.length_erase_of_mem (hS i hi hnD)]; omega
      · rw [congrFun hset e.on]
        rw [congrFun hset j] at hj
        rcases hj with h | h
        · exact .inl (hdn j oj e h hoj he hbe)
        · subst h
          rw [ho] at hoj; cases hoj
          exact .inl (hrd e he hbe)

theorem Inv.done (I : Inv R ρ0 hp0 nx0 w0 base df (fun i => i < ops.size) a w q ρ) (hst : (R.f 0).U = (R.f 0).V) (hn0 : (R.f 0).nx = nx0) :
    TR ρ (R.f ops.size).tm a.tmps ∧ HR ρ (R.f ops.size).U w base ∧ Fresh ρ (R.f ops.size).nx ∧ Ev ρ0 hp0 nx0 w0 ρ (R.f ops.size).U (R.f ops.size).nx w := by
  have hno : ∀ h, q ≤ h → h < ops.size → ¬ R.isHv h := fun h h1 h2 h3 => I.hi h h1 h3 h2
  have hU := I.HRU hst I.qle (Nat.le_refl _) hno fun j b k hj _ => hj
  have hqn := R.nx_mono I.qle (Nat.le_refl _)
  refine ⟨fun t x ht => ?_, hU.ext rst_ext, fun b hb => ?_, ⟨I.ext, ?_, fun b k hk hlt => ?_, I.os, I.tape, I.output, I.size, I.same, I.new⟩⟩
  · rcases R.tm_spec (Nat.le_refl _) ht with ⟨j, o, hj, ho, hd, rfl⟩ | ⟨h1, h2⟩
    · obtain ⟨c, e1, e2⟩ := I.t1 j o t hj ho hd
      exact ⟨c, e1, VR.mono rst_ext _ _ e2⟩
    · obtain ⟨c, e1, e2⟩ := I.t2 t x h2 fun i o hi ho => h1 i o hi ho
      exact ⟨c, e1, VR.mono rst_ext _ _ e2⟩
  · cases hr : ρ b with
    | none => rfl
    | some c =>
      rcases I.nm b c hr with h | ⟨j, k, h1, _, h3⟩
      · omega
      · obtain ⟨e1, e2, e3, _⟩ := R.alloc_nx h3
        have := R.nx_mono (i := j + 1) (j := ops.size) (by omega) (Nat.le_refl _)
        omega
  · rw [← hn0]; exact R.nx_mono (Nat.zero_le _) (Nat.le_refl _)
  · rcases R.U_spec I.qle (Nat.le_refl _) hno hk with h | ⟨j, h1, h2, h3⟩
    · rw [I.VU hst] at h
      exact I.live b k hlt h
    · have e1 := (R.alloc_nx h3).2.1
      have := R.nx_mono (i := 0) (j := j) (by omega) (by omega)
      omega
end inv

/-- Regions whose order is drawn. -/
theorem drawnA_sound (hm : P.follows .mixedOrders = true) : DrOK P base (drawnA P) := by
  intro C N hC id ops dfr st e st' c0 cs0 h ρ a cs w hS hc
  unfold drawnA at h
  cases hok : okR ops with
  | false => rw [hok] at h; cases h
  | true =>
    rw [hok] at h
    simp only [Option.bind_eq_some_iff, Prod.exists] at h
    obtain ⟨rs, tm, U, nx, hrun, h⟩ := h
    cases hchk : chk P ops.toList rs 0 (masksFrom [] ops.toList) ops.toList rs with
    | false => rw [hchk] at h; cases h
    | true =>
      rw [hchk] at h
      simp only [Option.some.injEq, Prod.mk.injEq] at h
      obtain ⟨rfl, rfl⟩ := h
      obtain ⟨f, f0, fl, fs, f1, f2, f3⟩ := runD_spec ops.toList ⟨st.tm, st.hp, st.hp, st.nx⟩ rs tm U nx hrun
      obtain ⟨hmk, hmlen⟩ := masks_ok ops
      let R : Run P C N ops := ⟨f, rs, by simpa using fl, fun i o r ho hr => fs i o r (by simpa using ho) hr, fun i j oi oj ri rj hoi hoj hri hrj hlt => by
        have hi' : i < ops.size := (Array.getElem?_eq_some_iff.1 hoi).1
        have hmi : (masksFrom [] ops.toList)[i]? = some ((masksFrom [] ops.toList)[i]'(by rw [hmlen]; exact hi')) := List.getElem?_eq_getElem _
        exact ⟨_, fun k hk => hmk i _ k hmi hk, chk_spec _ _ _ 0 hchk i _ oi ri j oj rj hmi (by simpa using hoi) hri (by omega) (by simpa using hoj) hrj⟩, okR_spec hok⟩
      have hst : (R.f 0).U = (R.f 0).V := by show (f 0).U = (f 0).V; rw [f0]
      have hn0 : (R.f 0).nx = st.nx := by show (f 0).nx = _; rw [f0]
      have hlen : ops.toList.length = ops.size := by simp
      rw [hlen] at f1 f2 f3
      have vlt : ∀ b k, st.hp.get b = some k → b < st.nx := fun b k hk => by
        obtain ⟨c, _, r1, _⟩ := hS.hr.blk b k hk
        rcases Nat.lt_or_ge b st.nx with h | h
        · exact h
        · rw [hS.fr b h] at r1; cases r1
      have hx0 : Ext ρ (rst ρ (R.f 0).nx) := fun b c hbc => by
        rcases Nat.lt_or_ge b st.nx with h | h
        · exact rst_lt (by rw [hn0]; exact h) hbc
        · rw [hS.fr b h] at hbc; cases hbc
      have h0V : (R.f 0).V = st.hp := by show (f 0).V = _; rw [f0]
      have h0t : (R.f 0).tm = st.tm := by show (f 0).tm = _; rw [f0]
      have hgd : ∀ i, (Array.replicate ops.size false).getD i false = false := fun i => by
        by_cases h : i < ops.size <;> simp [h]
      have hnD : ∀ i, ¬ (Array.replicate ops.size false).getD i false = true := fun i h => by rw [hgd i] at h; cases h
      let w1 : World := { w with drawn := w.drawn + 1 }
      have hR1 : HR ρ st.hp w1 base := ⟨hS.hr.blk, hS.hr.inj⟩
      have I0 : Inv R ρ st.hp st.nx w1 base st.df (fun i => (Array.replicate ops.size false).getD i false = true) a w1 0 ρ :=
        { qle := Nat.zero_le _, lo := fun h hl => by omega, hi := fun h _ _ => hnD h, q0 := .inl rfl, dn := fun i h => absurd h (hnD i)
          h1 := by rw [h0V]; exact hR1.ext hx0
          h2 := fun i b k h => absurd h (hnD i), h3 := fun i b k c h => absurd h (hnD i)
          nm := fun b c hbc => .inl (rst_some (hx0 b c hbc)).1
          ext := Ext.refl ρ, live := fun b k _ hk => ⟨k, by rw [← h0V]; exact hk⟩
          os := rfl, tape := rfl, output := rfl, size := Nat.le_refl _, same := fun _ _ _ => rfl, new := fun b c h1 h2 => by rw [h1] at h2; cases h2
          t1 := fun i o t h => absurd h (hnD i)
          t2 := fun t x ht _ => by
            rw [h0t] at ht
            obtain ⟨c, e1, e2⟩ := hS.tr t x ht
            exact ⟨c, e1, VR.mono hx0 _ _ e2⟩
          sz := hS.sz, df := hS.df, ba := hS.ba }
      have hwp := wp_region_any (P := P) (ops := ops) (Q := fun E a' w' => E = .normal ∧ ∃ q ρ', Inv R ρ st.hp st.nx w1 base st.df (fun i => i < ops.size) a' w' q ρ') (id := id) (a := a) (w := w) hm
        (any_sound hC hst hn0 hS.fr (fun a' w' q ρ' I => ⟨rfl, q, ρ', I⟩) ops.size _ (List.range ops.size) a w1 0 ρ (by simp) (fun i hi _ => by simpa using hi) (by simp) (fun i o e h => absurd h (hnD i)) I0)
      intro b k _
      obtain ⟨E, a', w', ⟨rfl, q, ρ', I⟩, harr⟩ := hwp b k cs
      obtain ⟨d1, d2, d3, d4⟩ := I.done hst hn0
      have ft : (R.f ops.size).tm = tm := f1
      have fU : (R.f ops.size).U = U := f2
      have fn' : (R.f ops.size).nx = nx := f3
      rw [ft] at d1
      rw [fU] at d2 d4
      rw [fn'] at d3 d4
      have hev : Ev ρ st.hp st.nx w ρ' U nx w' := ⟨d4.ext, d4.nxle, d4.live, d4.os, d4.tape, d4.output, d4.size, d4.same, d4.new⟩
      exact ⟨.normal, a', cs, w', ⟨ρ', trivial, ⟨d1, d2, d3, I.sz, I.df, hS.md, I.ba⟩, hc.mono hev.ext, hev⟩, harr⟩

end Go.Mu

namespace Go.Mu
variable {P : Program}

/-- From an evaluation, begun with an empty memory, to a call in any world. -/
theorem eval_sound {H : Hook} (hN : NamesOK P) (hm : P.follows .mixedOrders = true) (w : World) (hH : HookOK P w.heap.size H) {LF n : Nat} {f : FuncId} {args : List AVal} {cargs : List Value} {v : AVal} {hp' : Heap} {nx' : Nat}
    (hv : VRs (fun _ => none) args cargs) (h : (calls P H (drawnA P) LF n).1 f args .e 0 = some (.ret v hp' nx')) :
    Does P f cargs.toArray w fun e w' => ∃ ρ c, e = .returned c ∧ VR ρ v c ∧ RowKit.Below w.heap.size w w' := by
  have hok := (calls_sound (LF := LF) hN hH (drawnA_sound hm) n).1 f args .e 0 _ h (fun _ => none) cargs w hv
    ⟨fun b k hk => (by rw [T.get_e] at hk; cases hk), fun b b' k k' c c' hk => (by rw [T.get_e] at hk; cases hk)⟩ (fun _ _ => rfl) (Nat.le_refl _)
  have imp : ∀ e w', OutR (fun _ => none) .e 0 w.heap.size w (.ret v hp' nx') e w' → ∃ ρ c, e = .returned c ∧ VR ρ v c ∧ RowKit.Below w.heap.size w w' := by
    intro e w' ho
    cases e with
    | returned c =>
      obtain ⟨ρ', g1, _, _, g4⟩ := ho
      exact ⟨ρ', c, rfl, g1, g4.os, g4.tape, g4.output, g4.size, fun k hk => g4.same k hk fun b k c hk => by rw [T.get_e] at hk; cases hk⟩
    | panicked c => exact ho.elim
    | outgrown => exact ho.elim
  unfold Does at hok ⊢
  split at hok
  · rename_i he; exact Calls.mono hok imp
  · rename_i he; exact imp _ _ hok
  · exact hok.elim

end Go.Mu
