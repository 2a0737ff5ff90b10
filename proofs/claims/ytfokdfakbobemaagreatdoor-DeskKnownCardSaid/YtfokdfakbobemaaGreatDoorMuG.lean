/- What bodies name, and what a function leads to, over a great cut. No condition. -/
import Derived.JoinedCond
import GoSem.ClaimGoes
import Derived.Test.YtfokdfakbobemaaGreatDoorMuF
set_option autoImplicit true
set_option relaxedAutoImplicit true
set_option linter.unusedVariables false
set_option linter.unusedSimpArgs false
namespace Go.Mu
variable {P : Program}

/-! A row's computed cells over a great cut: what a body names, looked at once. -/
def tagO : Operand → Option Nat
  | .func g => some (2 * g)
  | .const (.func (.func g) _ _) => some (2 * g)
  | .global g => some (2 * g + 1)
  | _ => none
def readyTags : Op → List Nat
  | .ready g => [2 * g + 1]
  | .waits g => [2 * g + 1]
  | _ => []
def tagsOp (o : Op) : List Nat := o.operands.toList.filterMap tagO ++ (CheckCode.names o).2.toList.map (2 * ·) ++ readyTags o
def tagsC : Code → List Nat
  | .region _ ops _ => ops.toList.flatMap fun o => tagsOp o.op
  | .seq a b => tagsC a ++ tagsC b
  | .cond c a b => (tagO c).toList ++ tagsC a ++ tagsC b
  | .block _ c | .loop c | .scope c => tagsC c
  | .rangeFunc g _ a c => (tagO g).toList ++ tagsC a ++ tagsC c
  | _ => []
def evenH (n : Nat) : Option Nat := if n % 2 = 0 then some (n / 2) else none
def oddH (n : Nat) : Option Nat := if n % 2 = 1 then some (n / 2) else none
theorem even_two (g : Nat) : evenH (2 * g) = some g := by unfold evenH; rw [if_pos (by omega)]; congr 1; omega
theorem even_odd (g : Nat) : evenH (2 * g + 1) = none := by unfold evenH; rw [if_neg (by omega)]
theorem odd_two (g : Nat) : oddH (2 * g) = none := by unfold oddH; rw [if_neg (by omega)]
theorem odd_odd (g : Nat) : oddH (2 * g + 1) = some g := by unfold oddH; rw [if_pos (by omega)]; congr 1; omega

def glO : Operand → Option Nat
  | .global g => some g
  | _ => none
theorem tagO_even (x : Operand) : (tagO x).bind evenH = x.funcNamed := by
  cases x with
  | const v => cases v <;> first | rfl | (rename_i f _ _; cases f <;> first | rfl | exact even_two _)
  | func g => exact even_two g
  | global g => exact even_odd g
  | tmp t => rfl
theorem tagO_odd (x : Operand) : (tagO x).bind oddH = glO x := by
  cases x with
  | const v => cases v <;> first | rfl | (rename_i f _ _; cases f <;> first | rfl | exact odd_two _)
  | func g => exact odd_two g
  | global g => exact odd_odd g
  | tmp t => rfl
theorem fm_even (l : List Nat) : (l.map (2 * ·)).filterMap evenH = l := by
  induction l with
  | nil => rfl
  | cons x l ih => simp only [List.map_cons, List.filterMap_cons, even_two, ih]
theorem fm_odd (l : List Nat) : (l.map (2 * ·)).filterMap oddH = [] := by
  induction l with
  | nil => rfl
  | cons x l ih => simp only [List.map_cons, List.filterMap_cons, odd_two, ih]
theorem ready_even (o : Op) : (readyTags o).filterMap evenH = [] := by cases o <;> first | rfl | simp [readyTags, even_odd]
def glR : Op → List Nat
  | .ready g => [g]
  | .waits g => [g]
  | _ => []
theorem ready_odd (o : Op) : (readyTags o).filterMap oddH = glR o := by cases o <;> first | rfl | simp [readyTags, odd_odd, glR]
theorem tagsOp_even (o : Op) : (tagsOp o).filterMap evenH = o.operands.toList.filterMap Operand.funcNamed ++ (CheckCode.names o).2.toList := by
  simp only [tagsOp, List.filterMap_append, List.filterMap_filterMap, fm_even, ready_even, List.append_nil]
  congr 2
  funext x; exact tagO_even x
theorem tagsOp_odd (o : Op) : (tagsOp o).filterMap oddH = o.operands.toList.filterMap glO ++ glR o := by
  simp only [tagsOp, List.filterMap_append, List.filterMap_filterMap, fm_odd, ready_odd, List.append_nil]
  congr 2
  funext x; exact tagO_odd x
theorem opt_even (x : Operand) : (tagO x).toList.filterMap evenH = x.funcNamed.toList := by
  rw [← tagO_even]; cases tagO x with
  | none => rfl
  | some t => simp only [Option.toList_some, Option.bind_some, List.filterMap_cons, List.filterMap_nil]; cases evenH t <;> rfl
theorem opt_odd (x : Operand) : (tagO x).toList.filterMap oddH = (glO x).toList := by
  rw [← tagO_odd]; cases tagO x with
  | none => rfl
  | some t => simp only [Option.toList_some, Option.bind_some, List.filterMap_cons, List.filterMap_nil]; cases oddH t <;> rfl
theorem tagsC_even (c : Code) : (tagsC c).filterMap evenH = c.funcsNamed := by
  induction c with
  | region id ops dr =>
    simp only [tagsC, Code.funcsNamed]
    induction ops.toList with
    | nil => rfl
    | cons o l ih => simp only [List.flatMap_cons, List.filterMap_append, ih, tagsOp_even]
  | seq a b iha ihb => simp only [tagsC, Code.funcsNamed, List.filterMap_append, iha, ihb]
  | cond c a b iha ihb => simp only [tagsC, Code.funcsNamed, List.filterMap_append, iha, ihb, opt_even]
  | block i c ih => simpa only [tagsC, Code.funcsNamed] using ih
  | loop c ih => simpa only [tagsC, Code.funcsNamed] using ih
  | scope c ih => simpa only [tagsC, Code.funcsNamed] using ih
  | rangeFunc g ps a c iha ihc => simp only [tagsC, Code.funcsNamed, List.filterMap_append, iha, ihc, opt_even]
  | _ => rfl
theorem tagsC_odd (c : Code) : (tagsC c).filterMap oddH = c.globalsNamed := by
  induction c with
  | region id ops dr =>
    simp only [tagsC, Code.globalsNamed]
    induction ops.toList with
    | nil => rfl
    | cons o l ih =>
      simp only [List.flatMap_cons, List.filterMap_append, ih, tagsOp_odd]
      congr 1
  | seq a b iha ihb => simp only [tagsC, Code.globalsNamed, List.filterMap_append, iha, ihb]
  | cond c a b iha ihb =>
    simp only [tagsC, Code.globalsNamed, List.filterMap_append, iha, ihb, opt_odd]
    cases c <;> rfl
  | block i c ih => simpa only [tagsC, Code.globalsNamed] using ih
  | loop c ih => simpa only [tagsC, Code.globalsNamed] using ih
  | scope c ih => simpa only [tagsC, Code.globalsNamed] using ih
  | rangeFunc g ps a c iha ihc =>
    simp only [tagsC, Code.globalsNamed, List.filterMap_append, iha, ihc, opt_odd]
    cases g <;> rfl
  | _ => rfl

/-! Eaten in continuations. -/
noncomputable def eatT (t : Nat) (l : List Nat) (k : List Nat → A) : A := @List.rec Nat (fun _ => A) false (fun x l _ => @Bool.rec (fun _ => A) false (k l) (Nat.beq t x)) l
theorem eatT_ok {t : Nat} {l : List Nat} {k : List Nat → A} (h : eatT t l k = true) : ∃ r, l = [t] ++ r ∧ k r = true := by
  cases l with
  | nil => cases h
  | cons x l =>
    obtain ⟨h1, h2⟩ := bool_inv h
    have := Nat.eq_of_beq_eq_true h1
    subst this
    exact ⟨l, rfl, h2⟩
noncomputable def eatG (t : Option Nat) (l : List Nat) (k : List Nat → A) : A := @Option.rec Nat (fun _ => A) (k l) (fun t => eatT t l k) t
theorem eatG_ok {t : Option Nat} {l : List Nat} {k : List Nat → A} (h : eatG t l k = true) : ∃ r, l = t.toList ++ r ∧ k r = true := by
  cases t with
  | none => exact ⟨l, rfl, h⟩
  | some t => exact eatT_ok h
noncomputable def eatO (x : Operand) (l : List Nat) (k : List Nat → A) : A :=
  Operand.rec (motive := fun _ => A) (tmp := fun _ => k l) (const := fun v => eatG (tagO (.const v)) l k) (func := fun g => eatT (2 * g) l k) (global := fun g => eatT (2 * g + 1) l k) x
theorem eatO_ok {x : Operand} {l : List Nat} {k : List Nat → A} (h : eatO x l k = true) : ∃ r, l = (tagO x).toList ++ r ∧ k r = true := by
  cases x with
  | tmp t => exact ⟨l, rfl, h⟩
  | const v => exact eatG_ok h
  | func g => exact eatT_ok h
  | global g => exact eatT_ok h
theorem fm_cons {α β : Type} (f : α → Option β) (x : α) (l : List α) : (x :: l).filterMap f = (f x).toList ++ l.filterMap f := by
  rw [List.filterMap_cons]; cases f x <;> rfl
noncomputable def eatOs (xs : List Operand) : List Nat → (List Nat → A) → A := @List.rec Operand (fun _ => List Nat → (List Nat → A) → A) (fun l k => k l) (fun x _ ih l k => eatO x l fun l => ih l k) xs
theorem eatOs_ok : ∀ {xs : List Operand} {l : List Nat} {k : List Nat → A}, eatOs xs l k = true → ∃ r, l = xs.filterMap tagO ++ r ∧ k r = true
  | [], l, k, h => ⟨l, rfl, h⟩
  | x :: xs, l, k, h => by
    obtain ⟨r, h1, h2⟩ := eatO_ok (k := fun l => eatOs xs l k) h
    obtain ⟨r2, h3, h4⟩ := eatOs_ok h2
    exact ⟨r2, by rw [h1, h3, fm_cons, List.append_assoc], h4⟩
noncomputable def eatPs (xs : List (Nat × Operand)) : List Nat → (List Nat → A) → A := @List.rec (Nat × Operand) (fun _ => List Nat → (List Nat → A) → A) (fun l k => k l) (fun x _ ih l k => eatO x.2 l fun l => ih l k) xs
theorem eatPs_ok : ∀ {xs : List (Nat × Operand)} {l : List Nat} {k : List Nat → A}, eatPs xs l k = true → ∃ r, l = (xs.map (·.2)).filterMap tagO ++ r ∧ k r = true
  | [], l, k, h => ⟨l, rfl, h⟩
  | x :: xs, l, k, h => by
    obtain ⟨r, h1, h2⟩ := eatO_ok (k := fun l => eatPs xs l k) h
    obtain ⟨r2, h3, h4⟩ := eatPs_ok h2
    exact ⟨r2, by rw [h1, h3, List.map_cons, fm_cons, List.append_assoc], h4⟩
def optTags (x : Option Operand) : List Nat := (x.toList).filterMap tagO
noncomputable def eatOpt (x : Option Operand) (l : List Nat) (k : List Nat → A) : A := @Option.rec Operand (fun _ => A) (k l) (fun x => eatO x l k) x
theorem eatOpt_ok {x : Option Operand} {l : List Nat} {k : List Nat → A} (h : eatOpt x l k = true) : ∃ r, l = optTags x ++ r ∧ k r = true := by
  cases x with
  | none => exact ⟨l, rfl, h⟩
  | some x =>
    obtain ⟨r, h1, h2⟩ := eatO_ok h
    exact ⟨r, by rw [h1]; simp [optTags, fm_cons], h2⟩
def fnTag : Fn → List Nat
  | .func f => [2 * f]
  | .via _ _ f _ => [2 * f]
  | _ => []
noncomputable def eatFn (f : Fn) (l : List Nat) (k : List Nat → A) : A := @List.rec Nat (fun _ => A) (k l) (fun t _ _ => eatT t l k) (fnTag f)
theorem eatFn_ok {f : Fn} {l : List Nat} {k : List Nat → A} (h : eatFn f l k = true) : ∃ r, l = fnTag f ++ r ∧ k r = true := by
  cases f <;> first | exact ⟨l, rfl, h⟩ | exact eatT_ok h
noncomputable def eatCall (c : Call) (l : List Nat) (k : List Nat → A) : A :=
  Callee.rec (motive := fun _ => A) (value := fun f => eatO f l fun l => eatOs c.args.toList l k) (invoke := fun r _ => eatO r l fun l => eatOs c.args.toList l k) (builtin := fun _ => eatOs c.args.toList l k) c.callee
theorem eatCall_ok {c : Call} {l : List Nat} {k : List Nat → A} (h : eatCall c l k = true) : ∃ r, l = c.operands.toList.filterMap tagO ++ r ∧ k r = true := by
  obtain ⟨ce, args, ts⟩ := c
  cases ce with
  | value f =>
    obtain ⟨r, h1, h2⟩ := eatO_ok (k := fun l => eatOs args.toList l k) h
    obtain ⟨r2, h3, h4⟩ := eatOs_ok h2
    exact ⟨r2, by rw [h1, h3]; simp [Call.operands, fm_cons], h4⟩
  | invoke f n =>
    obtain ⟨r, h1, h2⟩ := eatO_ok (k := fun l => eatOs args.toList l k) h
    obtain ⟨r2, h3, h4⟩ := eatOs_ok h2
    exact ⟨r2, by rw [h1, h3]; simp [Call.operands, fm_cons], h4⟩
  | builtin b =>
    obtain ⟨r2, h3, h4⟩ := eatOs_ok (xs := args.toList) h
    exact ⟨r2, by rw [h3]; simp [Call.operands], h4⟩
noncomputable def eat2 (x y : Operand) (l : List Nat) (k : List Nat → A) : A := eatO x l fun l => eatO y l k
theorem eat2_ok {x y : Operand} {l : List Nat} {k : List Nat → A} (h : eat2 x y l k = true) : ∃ r, l = (tagO x).toList ++ ((tagO y).toList ++ r) ∧ k r = true := by
  obtain ⟨r, h1, h2⟩ := eatO_ok (k := fun l => eatO y l k) h
  obtain ⟨r2, h3, h4⟩ := eatO_ok h2
  exact ⟨r2, by rw [h1, h3], h4⟩
noncomputable def eat3 (x y z : Operand) (l : List Nat) (k : List Nat → A) : A := eatO x l fun l => eat2 y z l k
theorem eat3_ok {x y z : Operand} {l : List Nat} {k : List Nat → A} (h : eat3 x y z l k = true) : ∃ r, l = (tagO x).toList ++ ((tagO y).toList ++ ((tagO z).toList ++ r)) ∧ k r = true := by
  obtain ⟨r, h1, h2⟩ := eatO_ok (k := fun l => eat2 y z l k) h
  obtain ⟨r2, h3, h4⟩ := eat2_ok h2
  exact ⟨r2, by rw [h1, h3], h4⟩
noncomputable def eatMF (f : Fn) (a c : List Operand) (l : List Nat) (k : List Nat → A) : A := eatOs a l fun l => eatOs c l fun l => eatFn f l k
theorem eatMF_ok {f : Fn} {a c : List Operand} {l : List Nat} {k : List Nat → A} (h : eatMF f a c l k = true) : ∃ r, l = a.filterMap tagO ++ (c.filterMap tagO ++ (fnTag f ++ r)) ∧ k r = true := by
  obtain ⟨r, h1, h2⟩ := eatOs_ok (k := fun l => eatOs c l fun l => eatFn f l k) h
  obtain ⟨r2, h3, h4⟩ := eatOs_ok (k := fun l => eatFn f l k) h2
  obtain ⟨r3, h5, h6⟩ := eatFn_ok h4
  exact ⟨r3, by rw [h1, h3, h5], h6⟩
noncomputable def eatSl (x : Operand) (a b c : Option Operand) (l : List Nat) (k : List Nat → A) : A := eatO x l fun l => eatOpt a l fun l => eatOpt b l fun l => eatOpt c l k
theorem eatSl_ok {x : Operand} {a b c : Option Operand} {l : List Nat} {k : List Nat → A} (h : eatSl x a b c l k = true) : ∃ r, l = (tagO x).toList ++ (optTags a ++ (optTags b ++ (optTags c ++ r))) ∧ k r = true := by
  obtain ⟨r, h1, h2⟩ := eatO_ok (k := fun l => eatOpt a l fun l => eatOpt b l fun l => eatOpt c l k) h
  obtain ⟨r2, h3, h4⟩ := eatOpt_ok (k := fun l => eatOpt b l fun l => eatOpt c l k) h2
  obtain ⟨r3, h5, h6⟩ := eatOpt_ok (k := fun l => eatOpt c l k) h4
  obtain ⟨r4, h7, h8⟩ := eatOpt_ok h6
  exact ⟨r4, by rw [h1, h3, h5, h7], h8⟩
noncomputable def eatOp (o : Op) (ll : List Nat) (kk : List Nat → A) : A :=
  Op.rec (motive := fun _ => A)
    (move := fun x => eatO x ll kk)
    (assign := fun x => eatO x ll kk)
    (pick := fun c a b => eat3 c a b ll kk)
    (alloc := fun e => kk ll)
    (box := fun e x => eatO x ll kk)
    (build := fun t ps => eatPs ps.toList ll kk)
    (buildSlice := fun t n ps => eatPs ps.toList ll kk)
    (insert := fun t m k x => eat3 m k x ll kk)
    (load := fun t a => eatO a ll kk)
    (store := fun t a x => eat2 a x ll kk)
    (ready := fun g => eatT (2 * g + 1) ll kk)
    (waits := fun g => eatT (2 * g + 1) ll kk)
    (nilCheck := fun x => eatO x ll kk)
    (binOp := fun op t x y yt => eat2 x y ll kk)
    (unOp := fun op t x => eatO x ll kk)
    (convert := fun src dst x => eatO x ll kk)
    (sliceToArrayPointer := fun t x => eatO x ll kk)
    (makeInterface := fun t x => eatO x ll kk)
    (makeFunc := fun f a c => eatMF f a.toList c.toList ll kk)
    (makeMap := fun t r => eatOpt r ll kk)
    (makeChan := fun t x => eatO x ll kk)
    (makeSlice := fun t l c => eat2 l c ll kk)
    (slice := fun t x lo hi mx => eatSl x lo hi mx ll kk)
    (fieldAddr := fun s x f => eatO x ll kk)
    (field := fun t x f => eatO x ll kk)
    (indexAddr := fun t x i => eat2 x i ll kk)
    (index := fun t x i => eat2 x i ll kk)
    (lookup := fun t x i ok => eat2 x i ll kk)
    (mapUpdate := fun t m k x => eat3 m k x ll kk)
    (mapEntry := fun t m k => eat2 m k ll kk)
    (entryStore := fun t m s x => eat3 m s x ll kk)
    (range := fun t x => eatO x ll kk)
    (next := fun it s => eatO it ll kk)
    (entry := fun x => eatO x ll kk)
    (typeAssert := fun x t a ok => eatO x ll kk)
    (extract := fun x i => eatO x ll kk)
    (call := fun c => eatCall c ll kk)
    (go := fun c => false)
    (defer := fun c => eatCall c ll kk)
    (panic := fun x => eatO x ll kk)
    (send := fun c x => eat2 c x ll kk)
    (recv := fun t c ok => eatO c ll kk)
    (select := fun cs b => false)
    o
theorem eatOp_ok {o : Op} {ll : List Nat} {kk : List Nat → A} (h : eatOp o ll kk = true) : ∃ r, ll = tagsOp o ++ r ∧ kk r = true := by
  cases o with
  | move x =>
    obtain ⟨r1, h1, h2⟩ := eatO_ok h; exact ⟨r1, by rw [h1]; simp [tagsOp, Op.operands, CheckCode.names, fm_cons, readyTags], h2⟩
  | assign x =>
    obtain ⟨r1, h1, h2⟩ := eatO_ok h; exact ⟨r1, by rw [h1]; simp [tagsOp, Op.operands, CheckCode.names, fm_cons, readyTags], h2⟩
  | pick c a b =>
    obtain ⟨r1, h1, h2⟩ := eat3_ok h; exact ⟨r1, by rw [h1]; simp [tagsOp, Op.operands, CheckCode.names, fm_cons, readyTags], h2⟩
  | alloc e =>
    exact ⟨ll, rfl, h⟩
  | box e x =>
    obtain ⟨r1, h1, h2⟩ := eatO_ok h; exact ⟨r1, by rw [h1]; simp [tagsOp, Op.operands, CheckCode.names, fm_cons, readyTags], h2⟩
  | build t ps =>
    obtain ⟨r1, h1, h2⟩ := eatPs_ok h; exact ⟨r1, by rw [h1]; simp only [tagsOp, Op.operands, CheckCode.names, readyTags, List.toList_toArray]; simp, h2⟩
  | buildSlice t n ps =>
    obtain ⟨r1, h1, h2⟩ := eatPs_ok h; exact ⟨r1, by rw [h1]; simp only [tagsOp, Op.operands, CheckCode.names, readyTags, List.toList_toArray]; simp, h2⟩
  | insert t m k x =>
    obtain ⟨r1, h1, h2⟩ := eat3_ok h; exact ⟨r1, by rw [h1]; simp [tagsOp, Op.operands, CheckCode.names, fm_cons, readyTags], h2⟩
  | load t a =>
    obtain ⟨r1, h1, h2⟩ := eatO_ok h; exact ⟨r1, by rw [h1]; simp [tagsOp, Op.operands, CheckCode.names, fm_cons, readyTags], h2⟩
  | store t a x =>
    obtain ⟨r1, h1, h2⟩ := eat2_ok h; exact ⟨r1, by rw [h1]; simp [tagsOp, Op.operands, CheckCode.names, fm_cons, readyTags], h2⟩
  | ready g =>
    obtain ⟨r1, h1, h2⟩ := eatT_ok h; exact ⟨r1, h1, h2⟩
  | waits g =>
    obtain ⟨r1, h1, h2⟩ := eatT_ok h; exact ⟨r1, h1, h2⟩
  | nilCheck x =>
    obtain ⟨r1, h1, h2⟩ := eatO_ok h; exact ⟨r1, by rw [h1]; simp [tagsOp, Op.operands, CheckCode.names, fm_cons, readyTags], h2⟩
  | binOp op t x y yt =>
    obtain ⟨r1, h1, h2⟩ := eat2_ok h; exact ⟨r1, by rw [h1]; simp [tagsOp, Op.operands, CheckCode.names, fm_cons, readyTags], h2⟩
  | unOp op t x =>
    obtain ⟨r1, h1, h2⟩ := eatO_ok h; exact ⟨r1, by rw [h1]; simp [tagsOp, Op.operands, CheckCode.names, fm_cons, readyTags], h2⟩
  | convert src dst x =>
    obtain ⟨r1, h1, h2⟩ := eatO_ok h; exact ⟨r1, by rw [h1]; simp [tagsOp, Op.operands, CheckCode.names, fm_cons, readyTags], h2⟩
  | sliceToArrayPointer t x =>
    obtain ⟨r1, h1, h2⟩ := eatO_ok h; exact ⟨r1, by rw [h1]; simp [tagsOp, Op.operands, CheckCode.names, fm_cons, readyTags], h2⟩
  | makeInterface t x =>
    obtain ⟨r1, h1, h2⟩ := eatO_ok h; exact ⟨r1, by rw [h1]; simp [tagsOp, Op.operands, CheckCode.names, fm_cons, readyTags], h2⟩
  | makeFunc f a c =>
    obtain ⟨r1, h1, h2⟩ := eatMF_ok h; exact ⟨r1, by rw [h1]; cases f <;> simp [tagsOp, Op.operands, CheckCode.names, fnTag, readyTags], h2⟩
  | makeMap t r =>
    obtain ⟨r2, h1, h2⟩ := eatOpt_ok h; exact ⟨r2, by rw [h1]; simp [tagsOp, Op.operands, CheckCode.names, optTags, readyTags], h2⟩
  | makeChan t x =>
    obtain ⟨r1, h1, h2⟩ := eatO_ok h; exact ⟨r1, by rw [h1]; simp [tagsOp, Op.operands, CheckCode.names, fm_cons, readyTags], h2⟩
  | makeSlice t l c =>
    obtain ⟨r1, h1, h2⟩ := eat2_ok h; exact ⟨r1, by rw [h1]; simp [tagsOp, Op.operands, CheckCode.names, fm_cons, readyTags], h2⟩
  | slice t x lo hi mx =>
    obtain ⟨r1, h1, h2⟩ := eatSl_ok h; exact ⟨r1, by rw [h1]; simp [tagsOp, Op.operands, CheckCode.names, fm_cons, optTags, readyTags], h2⟩
  | fieldAddr s x f =>
    obtain ⟨r1, h1, h2⟩ := eatO_ok h; exact ⟨r1, by rw [h1]; simp [tagsOp, Op.operands, CheckCode.names, fm_cons, readyTags], h2⟩
  | field t x f =>
    obtain ⟨r1, h1, h2⟩ := eatO_ok h; exact ⟨r1, by rw [h1]; simp [tagsOp, Op.operands, CheckCode.names, fm_cons, readyTags], h2⟩
  | indexAddr t x i =>
    obtain ⟨r1, h1, h2⟩ := eat2_ok h; exact ⟨r1, by rw [h1]; simp [tagsOp, Op.operands, CheckCode.names, fm_cons, readyTags], h2⟩
  | index t x i =>
    obtain ⟨r1, h1, h2⟩ := eat2_ok h; exact ⟨r1, by rw [h1]; simp [tagsOp, Op.operands, CheckCode.names, fm_cons, readyTags], h2⟩
  | lookup t x i ok =>
    obtain ⟨r1, h1, h2⟩ := eat2_ok h; exact ⟨r1, by rw [h1]; simp [tagsOp, Op.operands, CheckCode.names, fm_cons, readyTags], h2⟩
  | mapUpdate t m k x =>
    obtain ⟨r1, h1, h2⟩ := eat3_ok h; exact ⟨r1, by rw [h1]; simp [tagsOp, Op.operands, CheckCode.names, fm_cons, readyTags], h2⟩
  | mapEntry t m k =>
    obtain ⟨r1, h1, h2⟩ := eat2_ok h; exact ⟨r1, by rw [h1]; simp [tagsOp, Op.operands, CheckCode.names, fm_cons, readyTags], h2⟩
  | entryStore t m s x =>
    obtain ⟨r1, h1, h2⟩ := eat3_ok h; exact ⟨r1, by rw [h1]; simp [tagsOp, Op.operands, CheckCode.names, fm_cons, readyTags], h2⟩
  | range t x =>
    obtain ⟨r1, h1, h2⟩ := eatO_ok h; exact ⟨r1, by rw [h1]; simp [tagsOp, Op.operands, CheckCode.names, fm_cons, readyTags], h2⟩
  | next it s =>
    obtain ⟨r1, h1, h2⟩ := eatO_ok h; exact ⟨r1, by rw [h1]; simp [tagsOp, Op.operands, CheckCode.names, fm_cons, readyTags], h2⟩
  | entry x =>
    obtain ⟨r1, h1, h2⟩ := eatO_ok h; exact ⟨r1, by rw [h1]; simp [tagsOp, Op.operands, CheckCode.names, fm_cons, readyTags], h2⟩
  | typeAssert x t a ok =>
    obtain ⟨r1, h1, h2⟩ := eatO_ok h; exact ⟨r1, by rw [h1]; simp [tagsOp, Op.operands, CheckCode.names, fm_cons, readyTags], h2⟩
  | extract x i =>
    obtain ⟨r1, h1, h2⟩ := eatO_ok h; exact ⟨r1, by rw [h1]; simp [tagsOp, Op.operands, CheckCode.names, fm_cons, readyTags], h2⟩
  | call c =>
    obtain ⟨r1, h1, h2⟩ := eatCall_ok h; exact ⟨r1, by rw [h1]; simp [tagsOp, Op.operands, CheckCode.names, readyTags], h2⟩
  | go c =>
    cases h
  | defer c =>
    obtain ⟨r1, h1, h2⟩ := eatCall_ok h; exact ⟨r1, by rw [h1]; simp [tagsOp, Op.operands, CheckCode.names, readyTags], h2⟩
  | panic x =>
    obtain ⟨r1, h1, h2⟩ := eatO_ok h; exact ⟨r1, by rw [h1]; simp [tagsOp, Op.operands, CheckCode.names, fm_cons, readyTags], h2⟩
  | send c x =>
    obtain ⟨r1, h1, h2⟩ := eat2_ok h; exact ⟨r1, by rw [h1]; simp [tagsOp, Op.operands, CheckCode.names, fm_cons, readyTags], h2⟩
  | recv t c ok =>
    obtain ⟨r1, h1, h2⟩ := eatO_ok h; exact ⟨r1, by rw [h1]; simp [tagsOp, Op.operands, CheckCode.names, fm_cons, readyTags], h2⟩
  | select cs b =>
    cases h
theorem eatOp_goes {o : Op} {l : List Nat} {k : List Nat → A} (h : eatOp o l k = true) : o.goes = false := by
  cases o <;> first | rfl | cases h
noncomputable def eatReg (os : List Oper) : List Nat → (List Nat → A) → A := @List.rec Oper (fun _ => List Nat → (List Nat → A) → A) (fun l k => k l) (fun o _ ih l k => eatOp o.op l fun l => ih l k) os
theorem eatReg_ok : ∀ {os : List Oper} {l : List Nat} {k : List Nat → A}, eatReg os l k = true → (∃ r, l = os.flatMap (fun o => tagsOp o.op) ++ r ∧ k r = true) ∧ os.any (·.op.goes) = false
  | [], l, k, h => ⟨⟨l, rfl, h⟩, rfl⟩
  | o :: os, l, k, h => by
    obtain ⟨r, h1, h2⟩ := eatOp_ok (kk := fun l => eatReg os l k) h
    have hg := eatOp_goes (k := fun l => eatReg os l k) h
    obtain ⟨⟨r2, h3, h4⟩, h5⟩ := eatReg_ok h2
    exact ⟨⟨r2, by rw [h1, h3, List.flatMap_cons, List.append_assoc], h4⟩, by simp only [List.any_cons, hg, h5, Bool.or_self]⟩
noncomputable def eatC (c : Code) : List Nat → (List Nat → A) → A :=
  Code.rec (motive := fun _ => List Nat → (List Nat → A) → A) (skip := fun l k => k l) (region := fun _ ops _ => eatReg ops.toList) (seq := fun _ _ a b l k => a l fun l => b l k)
    (cond := fun c _ _ a b l k => eatO c l fun l => a l fun l => b l k) (block := fun _ _ b => b) (loop := fun _ b => b) (rangeFunc := fun g _ _ _ a c l k => eatO g l fun l => a l fun l => c l k)
    (exit := fun _ l k => k l) (scope := fun _ b => b) (label := fun _ l k => k l) (goto := fun _ l k => k l) (ret := fun l k => k l) (refuse := fun _ l k => k l) c
theorem eatC_ok : ∀ {c : Code} {l : List Nat} {k : List Nat → A}, eatC c l k = true → (∃ r, l = tagsC c ++ r ∧ k r = true) ∧ c.goes = false := by
  intro c
  induction c with
  | region id ops dr => intro l k h; exact eatReg_ok h
  | seq a b iha ihb =>
    intro l k h
    obtain ⟨⟨r, h1, h2⟩, h5⟩ := iha (k := fun l => eatC b l k) h
    obtain ⟨⟨r2, h3, h4⟩, h6⟩ := ihb h2
    exact ⟨⟨r2, by rw [h1, h3]; simp [tagsC], h4⟩, by simp only [Code.goes, h5, h6, Bool.or_self]⟩
  | cond c a b iha ihb =>
    intro l k h
    obtain ⟨r0, h7, h⟩ := eatO_ok (k := fun l => eatC a l fun l => eatC b l k) h
    obtain ⟨⟨r, h1, h2⟩, h5⟩ := iha (k := fun l => eatC b l k) h
    obtain ⟨⟨r2, h3, h4⟩, h6⟩ := ihb h2
    exact ⟨⟨r2, by rw [h7, h1, h3]; simp [tagsC], h4⟩, by simp only [Code.goes, h5, h6, Bool.or_self]⟩
  | rangeFunc g ps a b iha ihb =>
    intro l k h
    obtain ⟨r0, h7, h⟩ := eatO_ok (k := fun l => eatC a l fun l => eatC b l k) h
    obtain ⟨⟨r, h1, h2⟩, h5⟩ := iha (k := fun l => eatC b l k) h
    obtain ⟨⟨r2, h3, h4⟩, h6⟩ := ihb h2
    exact ⟨⟨r2, by rw [h7, h1, h3]; simp [tagsC], h4⟩, by simp only [Code.goes, h5, h6, Bool.or_self]⟩
  | block i c ih => intro l k h; obtain ⟨⟨r, h1, h2⟩, h3⟩ := ih h; exact ⟨⟨r, by rw [h1]; simp [tagsC], h2⟩, by simpa only [Code.goes] using h3⟩
  | loop c ih => intro l k h; obtain ⟨⟨r, h1, h2⟩, h3⟩ := ih h; exact ⟨⟨r, by rw [h1]; simp [tagsC], h2⟩, by simpa only [Code.goes] using h3⟩
  | scope c ih => intro l k h; obtain ⟨⟨r, h1, h2⟩, h3⟩ := ih h; exact ⟨⟨r, by rw [h1]; simp [tagsC], h2⟩, by simpa only [Code.goes] using h3⟩
  | _ => intro l k h; exact ⟨⟨l, rfl, h⟩, rfl⟩
noncomputable def nilE (l : List Nat) (k : A) : A := @List.rec Nat (fun _ => A) k (fun _ _ _ => false) l
theorem nilE_ok {l : List Nat} {k : A} (h : nilE l k = true) : l = [] ∧ k = true := by
  cases l with
  | nil => exact ⟨rfl, h⟩
  | cons x l => cases h

/-- All functions with a body: what each names; none starts a goroutine. -/
noncomputable def eatFs (fs : List Func) : List (List Nat) → A := @List.rec Func (fun _ => List (List Nat) → A) (fun l => @List.rec (List Nat) (fun _ => A) true (fun _ _ _ => false) l)
  (fun f _ ih l => @List.rec (List Nat) (fun _ => A) false (fun t ts _ => @Option.rec Code (fun _ => A) (ih ts) (fun c => eatC c t fun r => nilE r (ih ts)) f.body) l) fs
theorem eatFs_ok : ∀ {fs : List Func} {ts : List (List Nat)}, eatFs fs ts = true → fs.length = ts.length ∧ ∀ (i : Nat) (f : Func) (c : Code) (t : List Nat), fs[i]? = some f → f.body = some c → ts[i]? = some t → tagsC c = t ∧ c.goes = false
  | [], [], _ => ⟨rfl, fun i f c t h => by simp at h⟩
  | [], _ :: _, h => by cases h
  | _ :: _, [], h => by cases h
  | g :: fs, t0 :: ts, h => by
    cases hb : g.body with
    | none =>
      have h' : eatFs fs ts = true := by
        have : eatFs (g :: fs) (t0 :: ts) = @Option.rec Code (fun _ => A) (eatFs fs ts) (fun c => eatC c t0 fun r => nilE r (eatFs fs ts)) g.body := rfl
        rw [this, hb] at h; exact h
      obtain ⟨h1, h2⟩ := eatFs_ok h'
      refine ⟨by simp [h1], fun i f c t hf hc ht => ?_⟩
      cases i with
      | zero => simp at hf; subst hf; rw [hb] at hc; cases hc
      | succ i => exact h2 i f c t (by simpa using hf) hc (by simpa using ht)
    | some c0 =>
      have h' : (eatC c0 t0 fun r => nilE r (eatFs fs ts)) = true := by
        have : eatFs (g :: fs) (t0 :: ts) = @Option.rec Code (fun _ => A) (eatFs fs ts) (fun c => eatC c t0 fun r => nilE r (eatFs fs ts)) g.body := rfl
        rw [this, hb] at h; exact h
      obtain ⟨⟨r, h3, h4⟩, h5⟩ := eatC_ok h'
      obtain ⟨h6, h7⟩ := nilE_ok h4
      obtain ⟨h1, h2⟩ := eatFs_ok h7
      refine ⟨by simp [h1], fun i f c t hf hc ht => ?_⟩
      cases i with
      | zero =>
        simp at hf ht
        subst hf; subst ht
        rw [hb] at hc
        cases hc
        exact ⟨by rw [h3, h6, List.append_nil], h5⟩
      | succ i => exact h2 i f c t (by simpa using hf) hc (by simpa using ht)
end Go.Mu

namespace Go.Mu
variable {P : Program}

/-! Functions without a body; what each function leads to. -/
def noneB (f : Func) : Bool := (entryEnters.lookup f.name).isNone && !(entryGoes.contains f.name || entryGoes.contains f.origin)
noncomputable def noneFs (fs : List Func) : List (List Nat) → A := @List.rec Func (fun _ => List (List Nat) → A) (fun _ => true)
  (fun f _ ih l => @List.rec (List Nat) (fun _ => A) false (fun t ts _ => @Option.rec Code (fun _ => A) (nilE t (@Bool.rec (fun _ => A) false (ih ts) (noneB f))) (fun _ => ih ts) f.body) l) fs
theorem noneFs_ok : ∀ {fs : List Func} {ts : List (List Nat)}, noneFs fs ts = true → ∀ (i : Nat) (f : Func) (t : List Nat), fs[i]? = some f → f.body = none → ts[i]? = some t → t = [] ∧ noneB f = true
  | [], ts, _, i, f, t, h, _, _ => by simp at h
  | g :: fs, [], h, i, f, t, _, _, ht => by simp at ht
  | g :: fs, t0 :: ts, h, i, f, t, hf, hb, ht => by
    have e : noneFs (g :: fs) (t0 :: ts) = @Option.rec Code (fun _ => A) (nilE t0 (@Bool.rec (fun _ => A) false (noneFs fs ts) (noneB g))) (fun _ => noneFs fs ts) g.body := rfl
    rw [e] at h
    cases hg : g.body with
    | none =>
      rw [hg] at h
      obtain ⟨h1, h2⟩ := nilE_ok h
      obtain ⟨h3, h4⟩ := bool_inv h2
      cases i with
      | zero => simp at hf ht; subst hf; subst ht; exact ⟨h1, h3⟩
      | succ i => exact noneFs_ok h4 i f t (by simpa using hf) hb (by simpa using ht)
    | some c =>
      rw [hg] at h
      cases i with
      | zero => simp at hf; subst hf; rw [hg] at hb; cases hb
      | succ i => exact noneFs_ok h i f t (by simpa using hf) hb (by simpa using ht)

/-- A table of what each function names. -/
structure Tags (P : Program) (ts : List (List Nat)) : Prop where
  len : P.funcs.toList.length = ts.length
  code : ∀ (i : Nat) (f : Func) (c : Code) (t : List Nat), P.funcs.toList[i]? = some f → f.body = some c → ts[i]? = some t → tagsC c = t ∧ c.goes = false
  none : ∀ (i : Nat) (f : Func) (t : List Nat), P.funcs.toList[i]? = some f → f.body = none → ts[i]? = some t → t = [] ∧ noneB f = true
theorem tags_of {ts : List (List Nat)} (h1 : eatFs P.funcs.toList ts = true) (h2 : noneFs P.funcs.toList ts = true) : Tags P ts :=
  ⟨(eatFs_ok h1).1, (eatFs_ok h1).2, noneFs_ok h2⟩

theorem Tags.leads {ts : List (List Nat)} (T : Tags P ts) {i : Nat} {f : Func} {t : List Nat} (hf : P.funcs.toList[i]? = some f) (ht : ts[i]? = some t) : P.leadsTo f = t.filterMap evenH := by
  unfold Program.leadsTo
  cases hb : f.body with
  | some c => rw [← (T.code i f c t hf hb ht).1]; exact (tagsC_even c).symm
  | none =>
    obtain ⟨rfl, h2⟩ := T.none i f t hf hb ht
    unfold noneB at h2
    simp only [Bool.and_eq_true] at h2
    cases hl : entryEnters.lookup f.name with
    | none => simp
    | some x => rw [hl] at h2; simp at h2
theorem Tags.globals {ts : List (List Nat)} (T : Tags P ts) {i : Nat} {f : Func} {t : List Nat} (hf : P.funcs.toList[i]? = some f) (ht : ts[i]? = some t) : f.body.elim [] Code.globalsNamed = t.filterMap oddH := by
  cases hb : f.body with
  | some c => rw [← (T.code i f c t hf hb ht).1]; exact (tagsC_odd c).symm
  | none =>
    obtain ⟨rfl, h2⟩ := T.none i f t hf hb ht
    rfl
theorem Tags.goes {ts : List (List Nat)} (T : Tags P ts) : P.funcs.any Func.goes = false := by
  rw [← Array.any_toList, List.any_eq_false]
  intro f hf
  obtain ⟨i, hi⟩ := List.getElem?_of_mem hf
  have hlt : i < ts.length := by rw [← T.len]; exact (List.getElem?_eq_some_iff.1 hi).1
  have ht : ts[i]? = some ts[i] := List.getElem?_eq_getElem hlt
  unfold Func.goes
  cases hb : f.body with
  | some c => simpa using (T.code i f c _ hi hb ht).2
  | none =>
    have h2 := (T.none i f _ hi hb ht).2
    unfold noneB at h2
    simp only [Bool.and_eq_true, Bool.not_eq_true'] at h2
    simpa using h2.2

/-! The closure, by a mask. -/
noncomputable def evK (t : List Nat) (todo : List Nat) : (List Nat → A) → A := @List.rec Nat (fun _ => (List Nat → A) → A) (fun k => k todo)
  (fun x _ ih k => @Bool.rec (fun _ => A) (ih k) (fnS (Nat.div x 2) fun y => ih fun r => k (y :: r)) (Nat.beq (Nat.mod x 2) 0)) t
theorem evK_eq (todo : List Nat) : ∀ (t : List Nat) (k : List Nat → A), evK t todo k = k (t.filterMap evenH ++ todo)
  | [], _ => rfl
  | x :: t, k => by
    show @Bool.rec (fun _ => A) (evK t todo k) (fnS (Nat.div x 2) fun y => evK t todo fun r => k (y :: r)) (Nat.beq (Nat.mod x 2) 0) = _
    cases hb : Nat.beq (Nat.mod x 2) 0 with
    | true =>
      have h : x % 2 = 0 := Nat.eq_of_beq_eq_true hb
      simp only [fnS_eq]
      rw [evK_eq todo t]
      have : evenH x = some (x / 2) := by unfold evenH; rw [if_pos h]
      simp only [List.filterMap_cons, this, List.cons_append]
      rfl
    | false =>
      have h : ¬ x % 2 = 0 := fun e => by rw [show Nat.mod x 2 = 0 from e] at hb; cases hb
      have : evenH x = none := by unfold evenH; rw [if_neg h]
      simp only [List.filterMap_cons, this]
      exact evK_eq todo t k
def bitB (m f : Nat) : Bool := Nat.beq (Nat.land (Nat.shiftRight m f) 1) 1
theorem bitB_eq (m f : Nat) : bitB m f = m.testBit f := by
  unfold bitB
  rw [Bool.eq_iff_iff, Nat.beq_eq]
  have e : Nat.land (Nat.shiftRight m f) 1 = (m >>> f) &&& 1 := rfl
  rw [e, Nat.and_one_is_mod, Nat.testBit_eq_decide_div_mod_eq, Nat.shiftRight_eq_div_pow]
  simp
noncomputable def closK (tw : W (Tree (List Nat))) (n : Nat) : List Nat → Nat → List Nat → A := @Nat.rec (fun _ => List Nat → Nat → List Nat → A) (fun _ _ _ => false)
  (fun _ ih todo mask L => @List.rec Nat (fun _ => A) (nilE L true)
    (fun f todo _ => @Bool.rec (fun _ => A) (eatT f L fun L => lookW tw f false fun t => evK t todo fun todo => fnS (Nat.lor mask (Nat.pow 2 f)) fun mask => ih todo mask L) (ih todo mask L) (bitB mask f)) todo) n
theorem closK_ok {ts : List (List Nat)} (T : Tags P ts) : ∀ (n : Nat) (todo : List Nat) (mask : Nat) (L seen : List Nat), (∀ f, mask.testBit f = seen.contains f) → closK (treeW ts) n todo mask L = true → ∀ m, n ≤ m → P.closureVia m todo seen = seen.reverse ++ L
  | 0, todo, mask, L, seen, _, h => by cases h
  | n + 1, [], mask, L, seen, hs, h => by
    intro m _
    obtain ⟨rfl, _⟩ := nilE_ok h
    cases m <;> simp [Program.closureVia]
  | n + 1, f :: todo, mask, L, seen, hs, h => by
    intro m hm
    obtain ⟨m, rfl⟩ : ∃ m', m = m' + 1 := ⟨m - 1, by omega⟩
    replace h : @Bool.rec (fun _ => A) (eatT f L fun L => lookW (treeW ts) f false fun t => evK t todo fun todo => fnS (Nat.lor mask (Nat.pow 2 f)) fun mask => closK (treeW ts) n todo mask L) (closK (treeW ts) n todo mask L) (bitB mask f) = true := h
    rw [bitB_eq, hs] at h
    unfold Program.closureVia
    cases hc : seen.contains f with
    | true =>
      rw [hc] at h
      simp only [if_true]
      exact closK_ok T n todo mask L seen hs h m (by omega)
    | false =>
      rw [hc] at h
      obtain ⟨L', rfl, h'⟩ := eatT_ok h
      clear h
      have h := h'
      clear h'
      rw [lookW_eq] at h
      cases ht : ts[f]? with
      | none => rw [ht] at h; cases h
      | some t =>
        rw [ht] at h
        simp only [evK_eq, fnS_eq] at h
        have hlt : f < P.funcs.toList.length := by rw [T.len]; exact (List.getElem?_eq_some_iff.1 ht).1
        have hf : P.funcs.toList[f]? = some P.funcs.toList[f] := List.getElem?_eq_getElem hlt
        have hl := T.leads hf ht
        have hf' : P.funcs[f]? = some P.funcs.toList[f] := by rw [← hf]; simp
        simp only [Bool.false_eq_true, if_false, hf', Option.elim_some, hl]
        have := closK_ok T n _ _ L' (f :: seen) (fun g => by
          show (mask ||| 2 ^ f).testBit g = _
          rw [Nat.testBit_or, hs, Nat.testBit_two_pow, List.contains_cons]
          by_cases e : f = g
          · subst e; simp
          · have e' : ¬ g = f := fun h => e h.symm
            simp [e, e']) h m (by omega)
        rw [this]
        simp
theorem Tags.fuel {ts : List (List Nat)} (T : Tags P ts) : (P.funcs.toList.map fun g => (P.leadsTo g).length + 1).sum = (ts.map fun t => (t.filterMap evenH).length + 1).sum := by
  congr 1
  apply List.ext_getElem?
  intro i
  simp only [List.getElem?_map]
  by_cases hi : i < ts.length
  · have ht : ts[i]? = some ts[i] := List.getElem?_eq_getElem hi
    have hlt : i < P.funcs.toList.length := by rw [T.len]; exact hi
    have hf : P.funcs.toList[i]? = some P.funcs.toList[i] := List.getElem?_eq_getElem hlt
    rw [hf, ht]
    simp only [Option.map_some, T.leads hf ht]
  · have h2 : ¬ i < P.funcs.toList.length := by rw [T.len]; exact hi
    rw [List.getElem?_eq_none (by omega), List.getElem?_eq_none (by omega)]
    rfl
theorem sum_len : ∀ (ts : List (List Nat)), ts.length ≤ (ts.map fun t => (t.filterMap evenH).length + 1).sum
  | [] => by simp
  | t :: ts => by
    have := sum_len ts
    simp only [List.length_cons, List.map_cons, List.sum_cons]
    omega
noncomputable def sumK (ts : List (List Nat)) : Nat → (Nat → A) → A := @List.rec (List Nat) (fun _ => Nat → (Nat → A) → A) (fun n k => k n) (fun t _ ih n k => evK t [] fun l => lenK l (Nat.succ n) fun n => ih n k) ts
theorem sumK_ok : ∀ {ts : List (List Nat)} {n : Nat} {k : Nat → A}, sumK ts n k = true → k (n + (ts.map fun t => (t.filterMap evenH).length + 1).sum) = true
  | [], n, k, h => h
  | t :: ts, n, k, h => by
    replace h : (evK t [] fun l => lenK l (Nat.succ n) fun n => sumK ts n k) = true := h
    rw [evK_eq] at h
    rw [lenK_eq] at h
    have := sumK_ok h
    rw [List.map_cons, List.sum_cons]
    rw [← this]
    congr 1
    simp only [List.append_nil]
    omega
noncomputable def closAll (ts : List (List Nat)) (f n : Nat) (L : List Nat) : A := sumK ts 1 fun s => @Bool.rec (fun _ => A) false (closK (treeW ts) n [f] 0 L) (Nat.ble n s)
theorem closure_of {ts : List (List Nat)} (T : Tags P ts) {f n : Nat} {L : List Nat} (h : closAll ts f n L = true) : P.closure f = L := by
  have h1 := sumK_ok h
  obtain ⟨h2, h3⟩ := bool_inv h1
  have h2 := Nat.le_of_ble_eq_true h2
  unfold Program.closure
  rw [T.fuel]
  have := closK_ok T n [f] 0 L [] (fun g => by simp) h3 _ h2
  simpa using this

/-! The cells. -/
noncomputable def eatS (s : String) (l : List String) (k : List String → A) : A := @List.rec String (fun _ => A) false (fun x l _ => @Bool.rec (fun _ => A) false (k l) (decide (s = x))) l
theorem eatS_ok {s : String} {l : List String} {k : List String → A} (h : eatS s l k = true) : ∃ r, l = s :: r ∧ k r = true := by
  cases l with
  | nil => cases h
  | cons x l =>
    obtain ⟨h1, h2⟩ := bool_inv h
    have := of_decide_eq_true h1
    subst this
    exact ⟨l, rfl, h2⟩
noncomputable def nilS (l : List String) (k : A) : A := @List.rec String (fun _ => A) k (fun _ _ _ => false) l
theorem nilS_ok {l : List String} {k : A} (h : nilS l k = true) : l = [] ∧ k = true := by
  cases l with
  | nil => exact ⟨rfl, h⟩
  | cons x l => cases h
/-- For each of some functions: a word, or none. -/
noncomputable def wordsK (fw : W (Tree Func)) (g : Func → (String → A) → A → A) (L : List Nat) : List String → A := @List.rec Nat (fun _ => List String → A) (fun l => nilS l true)
  (fun f _ ih l => lookW fw f false fun fn => g fn (fun s => eatS s l ih) (ih l)) L
theorem wordsK_ok {g : Func → (String → A) → A → A} {G : Func → Option String} (hg : ∀ fn k x, g fn k x = true → (∃ s, G fn = some s ∧ k s = true) ∨ (G fn = none ∧ x = true)) : ∀ {L : List Nat} {l : List String}, wordsK (funcsW P) g L l = true →
    L.filterMap (fun i => (P.funcs[i]?).bind G) = l
  | [], l, h => by obtain ⟨rfl, _⟩ := nilS_ok h; rfl
  | i :: L, l, h => by
    replace h : (lookW (treeW P.funcs.toList) i false fun fn => g fn (fun s => eatS s l (wordsK (funcsW P) g L)) (wordsK (funcsW P) g L l)) = true := h
    rw [lookW_eq] at h
    have e1 : P.funcs.toList[i]? = P.funcs[i]? := by simp
    rw [e1] at h
    cases hf : P.funcs[i]? with
    | none => rw [hf] at h; cases h
    | some fn =>
      rw [hf] at h
      rcases hg fn _ _ h with ⟨s, h1, h2⟩ | ⟨h1, h2⟩
      · obtain ⟨r, rfl, h3⟩ := eatS_ok h2
        have := wordsK_ok hg h3
        simp only [List.filterMap_cons, hf, Option.bind_some, h1, this]
      · have := wordsK_ok hg h2
        simp only [List.filterMap_cons, hf, Option.bind_some, h1, this]
noncomputable def placeK (fn : Func) (k : String → A) (x : A) : A := @Bool.rec (fun _ => A) (@Option.rec Code (fun _ => A) (k fn.name) (fun _ => x) fn.body) (k fn.name) fn.ours
theorem inPlace_of (hN : NamesOK P) {f : FuncId} {L : List Nat} (hL : P.closure f = L) {l : List String} (h : wordsK (funcsW P) placeK L l = true) : P.inPlace f = l := by
  unfold Program.inPlace
  rw [hL]
  have := wordsK_ok (P := P) (g := placeK) (G := fun fn => if fn.ours || fn.body.isNone then some fn.name else none) (fun fn k x h => by
    unfold placeK at h
    cases ho : fn.ours with
    | true => rw [ho] at h; exact .inl ⟨fn.name, by simp, h⟩
    | false =>
      rw [ho] at h
      cases hb : fn.body with
      | none => rw [hb] at h; exact .inl ⟨fn.name, by simp, h⟩
      | some c => rw [hb] at h; exact .inr ⟨by simp, h⟩) h
  rw [← this]
  congr 1
  funext i
  cases hf : P.funcs[i]? with
  | none => rfl
  | some fn => simp only [Option.bind_some, hN i fn hf, Bool.or_false]
noncomputable def readK (fn : Func) (k : String → A) (x : A) : A := @Option.rec Code (fun _ => A) (@Option.rec String (fun _ => A) x k (entryReads.lookup fn.name)) (fun _ => x) fn.body
theorem reads_of {L : List Nat} {l : List String} (h : wordsK (funcsW P) readK L l = true) : (L.filterMap fun g => (P.funcs[g]?).bind fun fn => if fn.body.isNone then entryReads.lookup fn.name else none) = l :=
  wordsK_ok (P := P) (g := readK) (G := fun fn => if fn.body.isNone then entryReads.lookup fn.name else none) (fun fn k x h => by
    unfold readK at h
    cases hb : fn.body with
    | some c => rw [hb] at h; exact .inr ⟨by simp, h⟩
    | none =>
      rw [hb] at h
      cases hl : entryReads.lookup fn.name with
      | none => rw [hl] at h; exact .inr ⟨by simp, h⟩
      | some s => rw [hl] at h; exact .inl ⟨s, by simp, h⟩) h
noncomputable def odK (t : List Nat) : List Nat → (List Nat → A) → A := @List.rec Nat (fun _ => List Nat → (List Nat → A) → A) (fun l k => k l)
  (fun x _ ih l k => @Bool.rec (fun _ => A) (ih l k) (eatT (Nat.div x 2) l fun l => ih l k) (Nat.beq (Nat.mod x 2) 1)) t
theorem odK_ok : ∀ {t l : List Nat} {k : List Nat → A}, odK t l k = true → ∃ r, l = t.filterMap oddH ++ r ∧ k r = true
  | [], l, k, h => ⟨l, rfl, h⟩
  | x :: t, l, k, h => by
    replace h : @Bool.rec (fun _ => A) (odK t l k) (eatT (Nat.div x 2) l fun l => odK t l k) (Nat.beq (Nat.mod x 2) 1) = true := h
    cases hb : Nat.beq (Nat.mod x 2) 1 with
    | true =>
      rw [hb] at h
      obtain ⟨r, h1, h2⟩ := eatT_ok h
      obtain ⟨r2, h3, h4⟩ := odK_ok h2
      have h5 : x % 2 = 1 := Nat.eq_of_beq_eq_true hb
      have : oddH x = some (x / 2) := by unfold oddH; rw [if_pos h5]
      exact ⟨r2, by rw [h1, h3]; simp only [List.filterMap_cons, this]; rfl, h4⟩
    | false =>
      rw [hb] at h
      obtain ⟨r2, h3, h4⟩ := odK_ok h
      have h5 : ¬ x % 2 = 1 := fun e => by rw [show Nat.mod x 2 = 1 from e] at hb; cases hb
      have : oddH x = none := by unfold oddH; rw [if_neg h5]
      exact ⟨r2, by rw [h3]; simp only [List.filterMap_cons, this], h4⟩
noncomputable def glK (tw : W (Tree (List Nat))) (L : List Nat) : List Nat → A := @List.rec Nat (fun _ => List Nat → A) (fun l => nilE l true) (fun f _ ih l => lookW tw f false fun t => odK t l ih) L
theorem globals_of {ts : List (List Nat)} (T : Tags P ts) : ∀ {L l : List Nat}, glK (treeW ts) L l = true → (L.flatMap fun g => ((P.funcs[g]?).bind (·.body)).elim [] Code.globalsNamed) = l
  | [], l, h => by obtain ⟨rfl, _⟩ := nilE_ok h; rfl
  | f :: L, l, h => by
    replace h : (lookW (treeW ts) f false fun t => odK t l (glK (treeW ts) L)) = true := h
    rw [lookW_eq] at h
    cases ht : ts[f]? with
    | none => rw [ht] at h; cases h
    | some t =>
      rw [ht] at h
      obtain ⟨r, rfl, h2⟩ := odK_ok h
      have hlt : f < P.funcs.toList.length := by rw [T.len]; exact (List.getElem?_eq_some_iff.1 ht).1
      have hf : P.funcs.toList[f]? = some P.funcs.toList[f] := List.getElem?_eq_getElem hlt
      have hf' : P.funcs[f]? = some P.funcs.toList[f] := by rw [← hf]; simp
      rw [List.flatMap_cons, globals_of T h2, hf', Option.bind_some, T.globals hf ht]
theorem varsNamed_of {ts : List (List Nat)} (T : Tags P ts) {f : FuncId} {L G : List Nat} {E : List String} (hL : P.closure f = L) (hG : glK (treeW ts) L G = true) (hE : wordsK (funcsW P) readK L E = true) :
    P.varsNamed f = ((G.eraseDups.filterMap fun g => (P.globals[g]?).map (·.name)) ++ E).eraseDups := by
  unfold Program.varsNamed
  rw [hL, globals_of T hG, reads_of hE]
theorem unfollowed_of {f g : FuncId} {fn : Func} {c : Code} {L : List Nat} (hL : P.closure f = L) (hg : L.contains g = true) (hf : P.funcs[g]? = some fn) (hb : fn.body = some c) (hu : c.unfollowed = true) : P.unfollowed f = true := by
  unfold Program.unfollowed
  rw [hL, List.any_eq_true]
  exact ⟨g, by simpa using hg, by rw [hf]; simp [hb, hu]⟩
theorem recurses_of {f : FuncId} (h : P.unfollowed f = true) : P.recurses f = true := by unfold Program.recurses; rw [h]; rfl
theorem goes_of {ts : List (List Nat)} (T : Tags P ts) (f : FuncId) : P.goes f = false := by
  unfold Program.goes
  rw [T.goes, Bool.and_false, Bool.or_false, List.any_eq_false]
  intro g _
  cases hf : P.funcs[g]? with
  | none => simp
  | some fn =>
    have := T.goes
    rw [← Array.any_toList, List.any_eq_false] at this
    simpa using this fn (by rw [Array.mem_toList_iff]; exact Array.mem_of_getElem? hf)

/-- The table of types in pieces. -/
theorem rows_of {n : Nat} (l : List (Nat × Nat)) (hl : ∀ p ∈ l, (List.range' p.1 p.2).all (rowFine P) = true) (hc : ∀ i, i < n → ∃ p ∈ l, p.1 ≤ i ∧ i < p.1 + p.2) : (List.range n).all (rowFine P) = true := by
  rw [List.all_eq_true]
  intro i hi
  obtain ⟨p, hp, h1, h2⟩ := hc i (List.mem_range.1 hi)
  exact List.all_eq_true.1 (hl p hp) i (List.mem_range'_1.2 ⟨h1, h2⟩)
end Go.Mu
