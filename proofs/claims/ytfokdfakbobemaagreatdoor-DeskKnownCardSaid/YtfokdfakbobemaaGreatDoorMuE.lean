/- The evaluator in continuations: writing, calls, regions, functions. No condition. -/
import Derived.Test.YtfokdfakbobemaaGreatDoorMuD
set_option autoImplicit true
set_option relaxedAutoImplicit true
set_option linter.unusedVariables false
set_option linter.unusedSimpArgs false
namespace Go.Mu
variable {P : Program}

/-! Operations that make a block. -/
noncomputable def avS {β : Type} (v : AVal) (k : AVal → β) : β := match v with
  | .int i n => fi n fun n => k (.int i n)
  | .bool b => fb b fun b => k (.bool b)
  | .str l => nsS l fun l => k (.str l)
  | v => k v
theorem avS_eq {β : Type} (v : AVal) (k : AVal → β) : avS v k = k v := by cases v <;> simp only [avS, fi_eq, fb_eq, nsS_eq]
noncomputable def avsS {β : Type} (l : List AVal) : (List AVal → β) → β := @List.rec AVal (fun _ => (List AVal → β) → β) (fun k => k []) (fun x _ ih k => avS x fun x => ih fun l => k (x :: l)) l
theorem avsS_eq {β : Type} : ∀ (l : List AVal) (k : List AVal → β), avsS l k = k l
  | [], _ => rfl
  | x :: l, k => by
    show avS x (fun x => avsS l fun l => k (x :: l)) = _
    rw [avS_eq, avsS_eq l]

noncomputable def bAlloc (e : TypeId) (P : Program) : Bld :=
  match zeroS P e with
  | some z => .mk (avsS z fun z => ofK z fun c => ⟨fun _ _ nx k => k (.ptr nx 0) (.cells c e)⟩)
  | none => .lv
theorem bAlloc_ok (e : TypeId) : BldOK P (.alloc e) (bAlloc e P) := by
  unfold bAlloc
  simp only [zeroS_eq]
  split
  · rename_i z hz
    refine ⟨rfl, fun tm hp nx k h => ?_⟩
    rw [avsS_eq, ofK_eq] at h
    exact ⟨_, _, by simp only [lev, levW, hz, Option.bind_some], rfl, h⟩
  · exact rfl

noncomputable def bBox (e : TypeId) (x : Operand) (_ : Program) : Bld := .mk (@W.rec GtF (fun _ => W MkF) (fun g => ⟨fun tm _ nx k => g tm fun v => celE v fun l => ofK l fun c => k (.ptr nx 0) (.cells c e)⟩) (opK x))
theorem bBox_ok (e : TypeId) (x : Operand) : BldOK P (.box e x) (bBox e x P) := ⟨rfl, fun tm hp nx k h => by
  have hh := opK_inv h
  clear h
  obtain ⟨v, h1, h⟩ := hh
  rw [celE_eq, ofK_eq] at h
  exact ⟨_, _, by simp only [lev, levW, h1, Option.bind_some], rfl, h⟩⟩

noncomputable def bMakeMap (_ : TypeId) (r : Option Operand) (_ : Program) : Bld :=
  match r with
  | none => .mk ⟨fun _ _ nx k => k (.map nx) (.mapo [] 0)⟩
  | some _ => .lv
theorem bMakeMap_ok (t : TypeId) (r : Option Operand) : BldOK P (.makeMap t r) (bMakeMap t r P) := by
  cases r with
  | none => exact ⟨rfl, fun tm hp nx k h => ⟨_, _, rfl, rfl, h⟩⟩
  | some x => exact rfl

noncomputable def bMakeSlice (t : TypeId) (l c : Operand) (P : Program) : Bld :=
  match undS P t with
  | some (.slice e) => match bytesS P e, sizeS P e, zeroS P e with
    | some by_, some sz, some z => bif Nat.beq z.length sz then .mk (@W.rec GtF (fun _ => W MkF) (fun gl => @W.rec GtF (fun _ => W MkF) (fun gc => avsS z fun z => fnS by_ fun by_ =>
        ⟨fun tm _ nx k => gl tm fun l => gc tm fun c => natE l fun l => natE c fun c =>
          @Bool.rec (fun _ => A) false (@Bool.rec (fun _ => A) false (@Bool.rec (fun _ => A) false (repK c z fun cs => ofK cs fun cs => k (.slice nx 0 l c) (.cells cs e)) (Nat.ble c 1099511627776)) (Nat.ble (Nat.mul c by_) 1099511627776)) (Nat.ble l c)⟩) (opK c)) (opK l)) else .lv
    | _, _, _ => .lv
  | _ => .lv
theorem bMakeSlice_ok (t : TypeId) (l c : Operand) : BldOK P (.makeSlice t l c) (bMakeSlice t l c P) := by
  unfold bMakeSlice
  simp only [undS_eq, sizeS_eq, bytesS_eq, zeroS_eq]
  split
  · rename_i e hu
    split
    · rename_i by_ sz z hb hs hz
      cases hl : Nat.beq z.length sz with
      | false => exact rfl
      | true =>
        have hl := Nat.eq_of_beq_eq_true hl
        refine ⟨rfl, fun tm hp nx k h => ?_⟩
        simp only [W_rec, avsS_eq, fnS_eq] at h
        have hh := opK_inv h
        clear h
        obtain ⟨lv, h1, h⟩ := hh
        have hh := opK_inv h
        clear h
        obtain ⟨cv, h2, h⟩ := hh
        have hh := natE_inv h
        clear h
        obtain ⟨kl, ln, rfl, h⟩ := hh
        have hh := natE_inv h
        clear h
        obtain ⟨kc, cn, rfl, h⟩ := hh
        have hh := bool_inv h
        clear h
        obtain ⟨h3, h⟩ := hh
        have hh := bool_inv h
        clear h
        obtain ⟨h4, h⟩ := hh
        have hh := bool_inv h
        clear h
        obtain ⟨h5, h⟩ := hh
        rw [repK_eq, ofK_eq] at h
        have h3 : ln ≤ cn := Nat.le_of_ble_eq_true h3
        have h4 : cn * by_ ≤ 2 ^ 40 := Nat.le_of_ble_eq_true h4
        have h5 : cn ≤ 2 ^ 40 := Nat.le_of_ble_eq_true h5
        refine ⟨_, _, ?_, rfl, h⟩
        simp only [lev, levW, hu, h1, h2, Option.bind_some, natOf, hb, hs, hz]
        rw [if_pos ⟨h3, h4, h5, hl⟩]
    · exact rfl
  · exact rfl

/-! Operations that turn memory. -/
noncomputable def writeCK (c : CL) (o : Nat) (vs : List AVal) (k : CL → A) : A :=
  @List.rec AVal (fun _ => A) (listK c fun l => spliceK o vs l fun l => ofK l k)
    (fun v r _ => @List.rec AVal (fun _ => A) (@CL.rec (fun _ => A) (fun ss cs tl => setSK v tl cs ss o k) c) (fun _ _ _ => listK c fun l => spliceK o vs l fun l => ofK l k) r) vs
theorem writeCK_inv {c : CL} {o : Nat} {vs : List AVal} {k : CL → A} (h : writeCK c o vs k = true) : ∃ c', writeC c o vs = some c' ∧ k c' = true := by
  have gen : (listK c fun l => spliceK o vs l fun l => ofK l k) = true → ∃ l, splice o vs c.list = some l ∧ k (CL.of l) = true := by
    intro h
    rw [listK_eq, spliceK_eq] at h
    have hh := oK_inv h
    clear h
    obtain ⟨l, h1, h2⟩ := hh
    rw [ofK_eq] at h2
    exact ⟨l, h1, h2⟩
  match vs, h, gen with
  | [], h, gen =>
    obtain ⟨l, h1, h2⟩ := gen h
    exact ⟨_, by simp only [writeC, h1, Option.map_some], h2⟩
  | [v], h, gen =>
    cases c with
    | mk ss cs tl =>
      replace h : setSK v tl cs ss o k = true := h
      rw [setSK_eq] at h
      exact oK_inv h
  | v :: v' :: r, h, gen =>
    obtain ⟨l, h1, h2⟩ := gen h
    exact ⟨_, by simp only [writeC, h1, Option.map_some], h2⟩

noncomputable def wrK (hp : Heap) (b o : Nat) (vs : List AVal) (k : Heap → A) : A :=
  hgetK hp b fun blk => @ABlk.rec (fun _ => A) (fun c e => writeCK c o vs fun c => hsetK hp b (.cells c e) k)
    (fun l e sz sib => spliceK o vs l fun l => @Option.rec Nat (fun _ => A) (hsetK hp b (.grown l e sz none) k) (fun s => hdelK hp s fun hp => hsetK hp b (.grown l e sz none) k) sib)
    (fun _ _ => false) (fun _ _ => false) (fun _ _ _ _ => false) false (fun _ _ _ _ _ _ _ => false) blk
theorem wrK_inv {hp : Heap} {b o : Nat} {vs : List AVal} {k : Heap → A} (ha : allOne vs = true) (h : wrK hp b o vs k = true) : ∃ hp', writeCells hp b o vs = some hp' ∧ k hp' = true := by
  have hh := hgetK_inv h
  clear h
  obtain ⟨blk, h1, h⟩ := hh
  cases blk with
  | cells c e =>
    obtain ⟨c', h2, h3⟩ := writeCK_inv (k := fun c => hsetK hp b (.cells c e) k) h
    rw [hsetK_eq] at h3
    exact ⟨_, by simp only [writeCells, ha, h1, h2, Option.bind_some, T.fz_eq], h3⟩
  | grown l e sz sib =>
    replace h : spliceK o vs l (fun l => @Option.rec Nat (fun _ => A) (hsetK hp b (.grown l e sz none) k) (fun s => hdelK hp s fun hp => hsetK hp b (.grown l e sz none) k) sib) = true := h
    rw [spliceK_eq] at h
    have hh := oK_inv h
    clear h
    obtain ⟨l', h2, h3⟩ := hh
    refine ⟨(kill hp sib).set b (.grown l' e sz none), by simp only [writeCells, ha, h1, h2, Option.bind_some, T.fz_eq], ?_⟩
    cases sib with
    | none =>
      replace h3 : hsetK hp b (.grown l' e sz none) k = true := h3
      rw [hsetK_eq] at h3
      exact h3
    | some s =>
      replace h3 : hdelK hp s (fun hp => hsetK hp b (.grown l' e sz none) k) = true := h3
      rw [hdelK_eq, hsetK_eq] at h3
      exact h3
  | _ => cases h

/-- All of a list are single values. -/
noncomputable def allK (l : List AVal) (k : A) : A := @List.rec AVal (fun _ => A) k (fun x _ ih => oneE x ih false) l
theorem allK_inv : ∀ {l : List AVal} {k : A}, allK l k = true → allOne l = true ∧ k = true
  | [], _, h => ⟨rfl, h⟩
  | x :: l, k, h => by
    replace h : oneE x (allK l k) false = true := h
    rw [oneE_eq] at h
    cases hx : oneA x with
    | false => rw [hx] at h; cases h
    | true =>
      rw [hx] at h
      obtain ⟨h1, h2⟩ := allK_inv (l := l) h
      exact ⟨by simp only [allOne, hx]; exact h1, h2⟩

/-- What goes on with a value alone. -/
noncomputable def valO (k : KR) (r : Option OpRes) : A := @Option.rec OpRes (fun _ => A) false (fun r => @OpRes.rec (fun _ => A) k (fun _ => false) (fun _ _ _ => false) (fun _ _ => false) r) r
theorem valO_inv {k : KR} {r : Option OpRes} (h : valO k r = true) : ∃ v hp nx, r = some (.val v hp nx) ∧ k v hp nx = true := by
  cases r with
  | none => cases h
  | some r => cases r <;> first | exact ⟨_, _, _, rfl, h⟩ | cases h
noncomputable def plGen (P : Program) (o : Op) : W PlF := @W.rec HevF (fun _ => W PlF) (fun h => ⟨fun tm hp nx k => valO k (h dummyC (opnd tm) hp nx none)⟩) (hevW P o)
theorem plGen_ok {o : Op} (hh : heavy P o = true) (hc : ∀ C E hp nx md, hev P C E hp nx md o = hev P dummyC E hp nx none o) : PlOK P o (plGen P o) :=
  ⟨hh, fun C tm hp nx md k h => by
    have hh := valO_inv h
    clear h
    obtain ⟨v, hp', nx', h1, h2⟩ := hh
    exact ⟨v, hp', nx', by rw [hc]; exact h1, h2⟩⟩

noncomputable def bStore (t : TypeId) (a x : Operand) (P : Program) : Bld :=
  match sizeS P t with
  | some n => .pl (@W.rec GtF (fun _ => W PlF) (fun ga => @W.rec GtF (fun _ => W PlF) (fun gx => fnS n fun n =>
      ⟨fun tm hp nx k => ga tm fun a => gx tm fun v => ptrE a fun b o => celE v fun vs => lenK vs 0 fun m => @Bool.rec (fun _ => A) false (allK vs (wrK hp b o vs fun hp => k undefA hp nx)) (Nat.beq m n)⟩) (opK x)) (opK a))
  | none => .pl ⟨fun _ _ _ _ => false⟩
theorem bStore_ok (t : TypeId) (a x : Operand) : BldOK P (.store t a x) (bStore t a x P) := by
  unfold bStore
  simp only [sizeS_eq]
  split
  · rename_i n hn
    refine ⟨rfl, fun C tm hp nx md k h => ?_⟩
    simp only [W_rec, fnS_eq] at h
    have hh := opK_inv h
    clear h
    obtain ⟨av, h1, h⟩ := hh
    have hh := opK_inv h
    clear h
    obtain ⟨xv, h2, h⟩ := hh
    have hh := ptrE_inv h
    clear h
    obtain ⟨b, o, rfl, h⟩ := hh
    rw [celE_eq] at h
    have h := lenK_inv h
    have hh := bool_inv h
    clear h
    obtain ⟨h3, h⟩ := hh
    have hh := allK_inv h
    clear h
    obtain ⟨h4, h⟩ := hh
    have hh := wrK_inv h4 h
    clear h
    obtain ⟨hp', h5, h⟩ := hh
    have h3 := Nat.eq_of_beq_eq_true h3
    exact ⟨_, _, _, by simp only [hev, hevW, h1, h2, Option.bind_some, hn, h3, if_true, h5], h⟩
  · exact ⟨rfl, fun _ _ _ _ _ _ h => by cases h⟩

noncomputable def bInsert (t : TypeId) (m k x : Operand) (P : Program) : Bld := .pl (plGen P (.insert t m k x))
theorem bInsert_ok (t : TypeId) (m k x : Operand) : BldOK P (.insert t m k x) (bInsert t m k x P) := plGen_ok rfl fun _ _ _ _ _ => rfl
noncomputable def bMapUpdate (t : TypeId) (m k x : Operand) (P : Program) : Bld := .pl (plGen P (.mapUpdate t m k x))
theorem bMapUpdate_ok (t : TypeId) (m k x : Operand) : BldOK P (.mapUpdate t m k x) (bMapUpdate t m k x P) := plGen_ok rfl fun _ _ _ _ _ => rfl
noncomputable def bMapEntry (t : TypeId) (m k : Operand) (P : Program) : Bld := .pl (plGen P (.mapEntry t m k))
theorem bMapEntry_ok (t : TypeId) (m k : Operand) : BldOK P (.mapEntry t m k) (bMapEntry t m k P) := plGen_ok rfl fun _ _ _ _ _ => rfl
noncomputable def bEntryStore (t : TypeId) (m s x : Operand) (P : Program) : Bld := .pl (plGen P (.entryStore t m s x))
theorem bEntryStore_ok (t : TypeId) (m s x : Operand) : BldOK P (.entryStore t m s x) (bEntryStore t m s x P) := plGen_ok rfl fun _ _ _ _ _ => rfl
noncomputable def bNext (it : Operand) (s : Bool) (P : Program) : Bld := .pl (plGen P (.next it s))
theorem bNext_ok (it : Operand) (s : Bool) : BldOK P (.next it s) (bNext it s P) := plGen_ok rfl fun _ _ _ _ _ => rfl
noncomputable def bDefer (_ : Call) (_ : Program) : Bld := .rs
theorem bDefer_ok (c : Call) : BldOK P (.defer c) (bDefer c P) := ⟨rfl, fun _ _ _ _ _ => rfl⟩
noncomputable def bPanic (_ : Operand) (_ : Program) : Bld := .rs
theorem bPanic_ok (x : Operand) : BldOK P (.panic x) (bPanic x P) := ⟨rfl, fun _ _ _ _ _ => rfl⟩

/-! Turning one type into another. -/
noncomputable def bConvC (e : TypeId) (x : Operand) : W PlF := @W.rec GtF (fun _ => W PlF) (fun g => ⟨fun tm hp nx k => g tm fun v => strE v fun s => lenK s 0 fun n => charsK s fun cs => hsetK hp nx (.grown cs e 1 none) fun hp => fnS (Nat.succ nx) fun nx' => k (.oslice nx 0 n) hp nx'⟩) (opK x)
noncomputable def bConv (src dst : TypeId) (x : Operand) (P : Program) : Bld :=
  match undS P src, undS P dst with
  | some (.int _), some (.int kt) => bConvI kt x
  | some .string, some .string => bConvS x
  | some (.slice e), some .string => match undS P e with
    | some (.int .u8) => bConvB x
    | _ => .lv
  | some .string, some (.slice e) => match undS P e with
    | some (.int .u8) => .pl (bConvC e x)
    | _ => .pl (plGen P (.convert src dst x))
  | _, some (.slice _) => .pl (plGen P (.convert src dst x))
  | _, _ => .lv
theorem heavy_conv {src dst e : TypeId} {x : Operand} (h : P.underlying dst = some (.slice e)) : heavy P (.convert src dst x) = true := by simp only [heavy, h]
theorem bConv_ok (src dst : TypeId) (x : Operand) : BldOK P (.convert src dst x) (bConv src dst x P) := by
  unfold bConv
  simp only [undS_eq]
  split
  · rename_i h1 h2; exact bConvI_ok x h1 h2
  · rename_i h1 h2; exact bConvS_ok x h1 h2
  · rename_i h1 h2
    split
    · rename_i he; exact bConvB_ok x h1 h2 he
    · show heavy P _ = false; simp only [heavy, h2]
  · rename_i e h1 h2
    split
    · rename_i he
      refine ⟨heavy_conv h2, fun C tm hp nx md k h => ?_⟩
      have hh := opK_inv h
      clear h
      obtain ⟨v, h3, h⟩ := hh
      have hh := strE_inv h
      clear h
      obtain ⟨s, rfl, h⟩ := hh
      have h := lenK_inv h
      rw [charsK_eq, hsetK_eq, fnS_eq] at h
      exact ⟨_, _, _, by simp only [hev, hevW, h3, Option.bind_some, h1, h2, he]; rfl, h⟩
    · exact plGen_ok (heavy_conv h2) fun _ _ _ _ _ => rfl
  · exact plGen_ok (heavy_conv (by assumption)) fun _ _ _ _ _ => rfl
  · rename_i h5
    show heavy P _ = false
    simp only [heavy]

/-! Append, copy, clear. -/
noncomputable def lenS (x : AVal) (f : Nat → A) : A := @AVal.rec (fun _ => A) (fun _ => A) (fun _ => false) (fun _ _ => false) (fun _ _ => false) (fun l => lenK l 0 f) false (fun _ _ => false) (f 0) (fun b o l c => f l) (fun b k l => f l) (f 0) (f 0) false (fun _ => false) (fun _ _ _ _ _ => false) false (fun _ _ _ => false) false (fun _ _ => false) (fun _ _ => false) (fun _ => false) false (fun _ _ _ _ => false) x
theorem lenS_inv {x : AVal} {f : Nat → A} (h : lenS x f = true) : ∃ n, lenA x = some n ∧ f n = true := by
  cases x <;> first | exact Bool.noConfusion h | exact ⟨_, rfl, h⟩ | exact ⟨_, rfl, lenK_inv h⟩

noncomputable def newRowK (hp : Heap) (nx : Nat) (e : TypeId) (sz m : Nat) (cs : List AVal) (K : KR) : A :=
  @Bool.rec (fun _ => A) false (hsetK hp nx (.grown cs e sz none) fun hp => fnS (Nat.succ nx) fun nx' => K (.oslice nx 0 m) hp nx') (Nat.ble m 1073741824)
theorem newRowK_inv {hp : Heap} {nx : Nat} {e : TypeId} {sz m : Nat} {cs : List AVal} {K : KR} (h : newRowK hp nx e sz m cs K = true) : ∃ v hp' nx', newRowA hp nx e sz m cs = some (v, hp', nx') ∧ K v hp' nx' = true := by
  have hh := bool_inv h
  clear h
  obtain ⟨h1, h⟩ := hh
  rw [hsetK_eq, fnS_eq] at h
  have h1 : m ≤ 2 ^ 30 := Nat.le_of_ble_eq_true h1
  exact ⟨_, _, _, by simp only [newRowA, h1, if_true, T.fz_eq, fn_eq], h⟩

noncomputable def killK (hp : Heap) (s : Option Nat) (k : Heap → A) : A := @Option.rec Nat (fun _ => A) (k hp) (fun b => hdelK hp b k) s
theorem killK_eq (hp : Heap) (s : Option Nat) (k : Heap → A) : killK hp s k = k (kill hp s) := by
  cases s with
  | none => rfl
  | some s => exact hdelK_eq _ _ _

/-- Behind a slice of a known capacity. -/
noncomputable def app1K (sz : Nat) (e : TypeId) (hp : Heap) (nx b o len cap n : Nat) (new : List AVal) (K : KR) : A :=
  fnS (Nat.add len n) fun m => @Bool.rec (fun _ => A)
    (rowK hp b o (Nat.mul len sz) fun old => appK old new fun cs => newRowK hp nx e sz m cs K)
    (allK new (wrK hp b (Nat.add o (Nat.mul len sz)) new fun hp => K (.slice b o m cap) hp nx)) (Nat.ble m cap)
/-- Behind one of an unknown capacity. -/
noncomputable def app2K (sz : Nat) (e : TypeId) (hp : Heap) (nx b kk len n : Nat) (new : List AVal) (K : KR) : A :=
  hgetK hp b fun blk => @ABlk.rec (fun _ => A) (fun _ _ => false)
    (fun l e' sz' sib => @Bool.rec (fun _ => A) false (@Bool.rec (fun _ => A) false (@Bool.rec (fun _ => A)
      (lenK l 0 fun L => @Bool.rec (fun _ => A)
        (@Bool.rec (fun _ => A) false (@Bool.rec (fun _ => A) false (allK new (dropK (Nat.mul kk sz) l fun r => takeK (Nat.mul len sz) r fun old => appK old new fun cs =>
          fnS (Nat.add len n) fun m => killK hp sib fun hp => hsetK hp b (.grown l e' sz' (some nx)) fun hp => hsetK hp nx (.grown cs e sz (some b)) fun hp => fnS (Nat.succ nx) fun nx' => K (.oslice nx 0 m) hp nx'))
            (Nat.beq (Nat.mul (Nat.add kk len) sz) L)) (Nat.ble (Nat.add len n) 1073741824))
        (allK new (wrK hp b (Nat.mul (Nat.add kk len) sz) new fun hp => fnS (Nat.add len n) fun m => K (.oslice b kk m) hp nx))
        (Nat.ble (Nat.mul (Nat.add (Nat.add kk len) n) sz) L)) false (Nat.beq sz 0)) (Nat.beq sz' sz)) (Nat.beq e' e))
    (fun _ _ => false) (fun _ _ => false) (fun _ _ _ _ => false) false (fun _ _ _ _ _ _ _ => false) blk
noncomputable def app0K (sz : Nat) (e : TypeId) (hp : Heap) (nx n : Nat) (new : List AVal) (z : AVal) (K : KR) : A :=
  @Bool.rec (fun _ => A) (newRowK hp nx e sz n new K) (K z hp nx) (Nat.beq n 0)
noncomputable def appAll (sz : Nat) (e : TypeId) (hp : Heap) (nx : Nat) (s : AVal) (n : Nat) (new : List AVal) (K : KR) : A := @AVal.rec (fun _ => A) (fun _ => A) (fun _ => false) (fun _ _ => false) (fun _ _ => false) (fun _ => false) false (fun _ _ => false) (app0K sz e hp nx n new .nilslice K) (fun b o l c => app1K sz e hp nx b o l c n new K) (fun b k l => app2K sz e hp nx b k l n new K) (app0K sz e hp nx n new .emp0 K) false false (fun _ => false) (fun _ _ _ _ _ => false) false (fun _ _ _ => false) false (fun _ _ => false) (fun _ _ => false) (fun _ => false) false (fun _ _ _ _ => false) s

/-- What is appended to: the rest of 'appendA'. -/
def appRest (hp : Heap) (nx : Nat) (e : TypeId) (sz : Nat) (s : AVal) (n : Nat) (new : List AVal) : Option (AVal × Heap × Nat) :=
  match s with
      | .slice b o len cap =>
        if len + n ≤ cap then
          (writeCells hp b (o + len * sz) new).bind fun hp => fn (len + n) fun n => some (.slice b o n cap, hp, nx)
        else (readCells hp b o (len * sz)).bind fun old => fn (len + n) fun m => newRowA hp nx e sz m (appS old new)
      | .oslice b k len =>
        match hp.get b with
        | some (.grown l e' sz' sib) => if e' ≠ e ∨ sz' ≠ sz then none else
          if sz ≠ 0 ∧ (k + len + n) * sz ≤ l.length then (writeCells hp b ((k + len) * sz) new).bind fun hp => fn (len + n) fun m => some (.oslice b k m, hp, nx) else
          if len + n ≤ 2 ^ 30 ∧ allOne new = true ∧ (k + len) * sz = l.length then
            (dropS (k * sz) l).bind fun r => (takeS (len * sz) r).bind fun old => fn (len + n) fun m =>
              T.fz (((kill hp sib).set b (.grown l e' sz' (some nx))).set nx (.grown (appS old new) e sz (some b))) fun hp => fn (nx + 1) fun nx' => some (.oslice nx 0 m, hp, nx')
          else none
        | _ => none
      | .nilslice => if n = 0 then some (.nilslice, hp, nx) else newRowA hp nx e sz n new
      | .emp0 => if n = 0 then some (.emp0, hp, nx) else newRowA hp nx e sz n new
      | _ => none

theorem app0K_inv {sz : Nat} {e : TypeId} {hp : Heap} {nx n : Nat} {new : List AVal} {z : AVal} {K : KR} (h : app0K sz e hp nx n new z K = true) :
    ∃ v hp' nx', (if n = 0 then some (z, hp, nx) else newRowA hp nx e sz n new) = some (v, hp', nx') ∧ K v hp' nx' = true := by
  unfold app0K at h
  cases hb : Nat.beq n 0 with
  | true =>
    rw [hb] at h
    exact ⟨_, _, _, by rw [if_pos (Nat.eq_of_beq_eq_true hb)], h⟩
  | false =>
    rw [hb] at h
    have : n ≠ 0 := fun e => by subst e; simp at hb
    have hh := newRowK_inv h
    clear h
    obtain ⟨v, hp', nx', h1, h2⟩ := hh
    exact ⟨v, hp', nx', by rw [if_neg this]; exact h1, h2⟩

theorem appAll_inv {sz : Nat} {e : TypeId} {hp : Heap} {nx n : Nat} {s : AVal} {new : List AVal} {K : KR} (h : appAll sz e hp nx s n new K = true) :
    ∃ v hp' nx', appRest hp nx e sz s n new = some (v, hp', nx') ∧ K v hp' nx' = true := by
  cases s with
  | nilslice => exact app0K_inv h
  | emp0 => exact app0K_inv h
  | slice b o len cap =>
    replace h : app1K sz e hp nx b o len cap n new K = true := h
    unfold app1K at h
    rw [fnS_eq] at h
    cases hb : Nat.ble (Nat.add len n) cap with
    | true =>
      rw [hb] at h
      have hh := allK_inv h
      clear h
      obtain ⟨h1, h⟩ := hh
      have hh := wrK_inv h1 h
      clear h
      obtain ⟨hp', h2, h⟩ := hh
      have hle : len + n ≤ cap := Nat.le_of_ble_eq_true hb
      have h2' : writeCells hp b (o + len * sz) new = some hp' := h2
      exact ⟨_, _, _, by simp only [appRest, hle, if_true, h2', Option.bind_some, fn_eq]; rfl, h⟩
    | false =>
      rw [hb] at h
      have hh := rowK_inv h
      clear h
      obtain ⟨old, h1, h⟩ := hh
      rw [appK_eq] at h
      have hh := newRowK_inv h
      clear h
      obtain ⟨v, hp', nx', h2, h3⟩ := hh
      have hle : ¬ (len + n ≤ cap) := fun hh => by rw [show Nat.ble (Nat.add len n) cap = true from Nat.ble_eq_true_of_le hh] at hb; cases hb
      have h1' : readCells hp b o (len * sz) = some old := h1
      exact ⟨v, hp', nx', by simp only [appRest, hle, if_false, h1', Option.bind_some, fn_eq]; exact h2, h3⟩
  | oslice b kk len =>
    have hh := hgetK_inv h
    clear h
    obtain ⟨blk, h1, h⟩ := hh
    cases blk with
    | grown l e' sz' sib =>
      have hh := bool_inv h
      clear h
      obtain ⟨h2, h⟩ := hh
      have hh := bool_inv h
      clear h
      obtain ⟨h3, h⟩ := hh
      obtain ⟨h4, h⟩ := bool_inv' h
      have e1 : e' = e := Nat.eq_of_beq_eq_true h2
      have e2 : sz' = sz := Nat.eq_of_beq_eq_true h3
      subst e1 e2
      have hz : sz' ≠ 0 := fun e => by subst e; simp at h4
      have h := lenK_inv h
      have hne : ¬ (e' ≠ e' ∨ sz' ≠ sz') := by simp
      cases hb : Nat.ble (Nat.mul (Nat.add (Nat.add kk len) n) sz') l.length with
      | true =>
        rw [hb] at h
        have hh := allK_inv h
        clear h
        obtain ⟨h5, h⟩ := hh
        have hh := wrK_inv h5 h
        clear h
        obtain ⟨hp', h6, h⟩ := hh
        rw [fnS_eq] at h
        have hle : (kk + len + n) * sz' ≤ l.length := Nat.le_of_ble_eq_true hb
        have h6' : writeCells hp b ((kk + len) * sz') new = some hp' := h6
        refine ⟨_, _, _, ?_, h⟩
        simp only [appRest, h1, hne, if_false]
        rw [if_pos ⟨hz, hle⟩, h6']
        simp only [Option.bind_some, fn_eq]
        rfl
      | false =>
        rw [hb] at h
        have hh := bool_inv h
        clear h
        obtain ⟨h5, h⟩ := hh
        have hh := bool_inv h
        clear h
        obtain ⟨h6, h⟩ := hh
        have hh := allK_inv h
        clear h
        obtain ⟨h7, h⟩ := hh
        have hh := dropK_inv h
        clear h
        obtain ⟨r, h8, h⟩ := hh
        have hh := takeK_inv h
        clear h
        obtain ⟨old, h9, h⟩ := hh
        rw [appK_eq, fnS_eq, killK_eq, hsetK_eq, hsetK_eq, fnS_eq] at h
        have hle : ¬ ((kk + len + n) * sz' ≤ l.length) := fun hh => by rw [show Nat.ble (Nat.mul (Nat.add (Nat.add kk len) n) sz') l.length = true from Nat.ble_eq_true_of_le hh] at hb; cases hb
        have h5 : len + n ≤ 2 ^ 30 := Nat.le_of_ble_eq_true h5
        have h6 : (kk + len) * sz' = l.length := Nat.eq_of_beq_eq_true h6
        have h8' : dropS (kk * sz') l = some r := h8
        have h9' : takeS (len * sz') r = some old := h9
        refine ⟨_, _, _, ?_, h⟩
        simp only [appRest, h1, hne, if_false]
        rw [if_neg (by intro hh; exact hle hh.2), if_pos ⟨h5, h7, h6⟩, h8', Option.bind_some, h9', Option.bind_some, fn_eq, T.fz_eq, fn_eq]
        rfl
    | _ => cases h
  | _ => cases h

noncomputable def appSt (P : Program) (argTypes : Array TypeId) : Bool := match argTypes[1]? with
  | some t => (match undS P t with | some (.int _) => false | some _ => true | none => false)
  | none => true
noncomputable def appendK (P : Program) (argTypes : Array TypeId) (args : List Operand) : W PlF :=
  match argTypes[0]?, args with
  | some st, [s, x] => match undS P st with
    | some (.slice e) => match sizeS P e, bytesS P e, zeroS P e with
      | some sz, some by_, some z =>
        bif (Nat.beq z.length sz && Nat.ble by_ 65536 && appSt P argTypes) then
          @W.rec GtF (fun _ => W PlF) (fun gs => @W.rec GtF (fun _ => W PlF) (fun gx => fnS sz fun sz => fnS e fun e =>
            ⟨fun tm hp nx K => gs tm fun s => gx tm fun x => lenS x fun n => firstK hp sz x n fun new => appAll sz e hp nx s n new K⟩) (opK x)) (opK s)
        else ⟨fun _ _ _ _ => false⟩
      | _, _, _ => ⟨fun _ _ _ _ => false⟩
    | _ => ⟨fun _ _ _ _ => false⟩
  | _, _ => ⟨fun _ _ _ _ => false⟩

theorem appSt_src {argTypes : Array TypeId} (h : appSt P argTypes = true) {hp : Heap} {sz n : Nat} {x : AVal} {c : List AVal} (h1 : lenA x = some n) (h2 : firstA hp sz n x = some c) : appSrc P hp argTypes sz x = some (n, c) := by
  unfold appSt at h
  unfold appSrc
  simp only [undS_eq] at h
  split at h
  · rename_i t ht
    rw [ht]
    split at h
    · cases h
    · rename_i d hn hd
      simp only [hd]
      cases d <;> first | (exact absurd rfl (hn _)) | (simp only [h1, h2, Option.bind_some])
    · cases h
  · rename_i ht
    rw [ht]
    simp only [h1, h2, Option.bind_some]

theorem appendK_inv {argTypes : Array TypeId} {args : List Operand} {tm : Tm} {hp : Heap} {nx : Nat} {K : KR} (h : (appendK P argTypes args).run tm hp nx K = true) :
    ∃ s x v hp' nx', opnds (opnd tm) args = some [s, x] ∧ appendA P hp nx argTypes s x = some (v, hp', nx') ∧ K v hp' nx' = true := by
  unfold appendK at h
  simp only [undS_eq, sizeS_eq, bytesS_eq, zeroS_eq] at h
  split at h
  · rename_i st s x hst
    split at h
    · rename_i e hu
      split at h
      · rename_i sz by_ z hs hb hz
        cases hc : (Nat.beq z.length sz && Nat.ble by_ 65536 && appSt P argTypes) with
        | false => rw [hc] at h; cases h
        | true =>
          rw [hc] at h
          rw [Bool.and_eq_true, Bool.and_eq_true] at hc
          obtain ⟨⟨c1, c2⟩, c3⟩ := hc
          have c1 := Nat.eq_of_beq_eq_true c1
          have c2 : by_ ≤ 2 ^ 16 := Nat.le_of_ble_eq_true c2
          simp only [cond_true, W_rec, fnS_eq] at h
          have hh := opK_inv h
          clear h
          obtain ⟨sv, h1, h⟩ := hh
          have hh := opK_inv h
          clear h
          obtain ⟨xv, h2, h⟩ := hh
          have hh := lenS_inv h
          clear h
          obtain ⟨n, h3, h⟩ := hh
          have hh := firstK_inv h
          clear h
          obtain ⟨new, h4, h⟩ := hh
          have hh := appAll_inv h
          clear h
          obtain ⟨v, hp', nx', h5, h6⟩ := hh
          refine ⟨sv, xv, v, hp', nx', by simp only [opnds, h1, h2, Option.bind_some], ?_, h6⟩
          have hn : ¬ (z.length ≠ sz ∨ by_ > 2 ^ 16) := by rintro (hh | hh); exact hh c1; omega
          simp only [appendA, hst, hu, hs, hb, hz, Option.bind_some, hn, if_false, appSt_src c3 h3 h4]
          exact h5
      · cases h
    · cases h
  · cases h

noncomputable def cpyTo (hp : Heap) (sz : Nat) (d : AVal) (cs : List AVal) (k : Heap → A) : A := slE d
  (fun b o _ _ => allK cs (wrK hp b o cs k))
  (fun b kk _ => openK hp b sz fun _ => allK cs (wrK hp b (Nat.mul kk sz) cs k))
noncomputable def copyK (P : Program) (argTypes : Array TypeId) (args : List Operand) : W PlF :=
  match argTypes[0]?, args with
  | some st, [d, x] => match undS P st with
    | some (.slice e) => match sizeS P e with
      | some sz => @W.rec GtF (fun _ => W PlF) (fun gd => @W.rec GtF (fun _ => W PlF) (fun gx => fnS sz fun sz =>
            ⟨fun tm hp nx K => gd tm fun d => gx tm fun x => lenE d fun dl => lenS x fun sl =>
              fnS (@Bool.rec (fun _ => Nat) dl sl (Nat.ble sl dl)) fun n => firstK hp sz x n fun cs =>
                @Bool.rec (fun _ => A) (cpyTo hp sz d cs fun hp => K (.int .i64 (.ofNat n)) hp nx) (K (.int .i64 (.ofNat 0)) hp nx) (Nat.beq n 0)⟩) (opK x)) (opK d)
      | none => ⟨fun _ _ _ _ => false⟩
    | _ => ⟨fun _ _ _ _ => false⟩
  | _, _ => ⟨fun _ _ _ _ => false⟩
theorem rec_min (a b : Nat) : (@Bool.rec (fun _ => Nat) b a (Nat.ble a b)) = Nat.min a b := by
  cases h : Nat.ble a b with
  | true => exact (Nat.min_eq_left (Nat.le_of_ble_eq_true h)).symm
  | false =>
    have : b ≤ a := by
      have : ¬ (a ≤ b) := fun hh => by rw [Nat.ble_eq_true_of_le hh] at h; cases h
      omega
    exact (Nat.min_eq_right this).symm
theorem copyK_inv {argTypes : Array TypeId} {args : List Operand} {tm : Tm} {hp : Heap} {nx : Nat} {K : KR} (h : (copyK P argTypes args).run tm hp nx K = true) :
    ∃ s x v hp', opnds (opnd tm) args = some [s, x] ∧ copyA P hp argTypes s x = some (v, hp') ∧ K v hp' nx = true := by
  unfold copyK at h
  simp only [undS_eq, sizeS_eq] at h
  split at h
  · rename_i st d x hst
    split at h
    · rename_i e hu
      split at h
      · rename_i sz hs
        simp only [W_rec, fnS_eq, rec_min] at h
        have hh := opK_inv h
        clear h
        obtain ⟨dv, h1, h⟩ := hh
        have hh := opK_inv h
        clear h
        obtain ⟨xv, h2, h⟩ := hh
        have hh := lenE_inv h
        clear h
        obtain ⟨dl, h3, h3', h⟩ := hh
        have hh := lenS_inv h
        clear h
        obtain ⟨sl, h4, h⟩ := hh
        have hh := firstK_inv h
        clear h
        obtain ⟨cs, h5, h⟩ := hh
        refine ⟨dv, xv, .int .i64 (.ofNat (Nat.min sl dl)), ?_⟩
        cases hn : Nat.beq (Nat.min sl dl) 0 with
        | true =>
          rw [hn] at h
          have hn := Nat.eq_of_beq_eq_true hn
          rw [hn] at h5 ⊢
          refine ⟨hp, by simp only [opnds, h1, h2, Option.bind_some], ?_, h⟩
          cases dv <;> first | (exact absurd rfl (h3' _)) | (cases h3; done) | (simp only [copyA, hst, hu, hs, h3, h4, Option.bind_some, fn_eq, hn, h5, if_true])
        | false =>
          rw [hn] at h
          have hn0 : Nat.min sl dl ≠ 0 := fun e => by rw [e] at hn; simp at hn
          have hh := slE_inv h
          clear h
          rcases hh with ⟨b, o, l, c, rfl, h⟩ | ⟨b, kk, l, rfl, h⟩
          · have hh := allK_inv h
            clear h
            obtain ⟨h6, h⟩ := hh
            have hh := wrK_inv h6 h
            clear h
            obtain ⟨hp', h7, h⟩ := hh
            exact ⟨hp', by simp only [opnds, h1, h2, Option.bind_some], by simp only [copyA, hst, hu, hs, h3, h4, Option.bind_some, fn_eq, h5, hn0, if_false, h7], h⟩
          · have hh := openK_inv h
            clear h
            obtain ⟨l', e', s', g1, g2, g3, h⟩ := hh
            have hh := allK_inv h
            clear h
            obtain ⟨h6, h⟩ := hh
            have hh := wrK_inv h6 h
            clear h
            obtain ⟨hp', h7, h⟩ := hh
            have h7' : writeCells hp b (kk * sz) cs = some hp' := h7
            exact ⟨hp', by simp only [opnds, h1, h2, Option.bind_some], by simp only [copyA, hst, hu, hs, h3, h4, Option.bind_some, fn_eq, h5, hn0, if_false, g3, h7'], h⟩
      · cases h
    · cases h
  · cases h

noncomputable def clearK (P : Program) (argTypes : Array TypeId) (args : List Operand) : Option (W PlF) :=
  match argTypes[0]?, args with
  | some st, [x] => match undS P st with
    | some (.slice e) => match sizeS P e, zeroS P e with
      | some sz, some z => some (@W.rec GtF (fun _ => W PlF) (fun gx => fnS sz fun sz => avsS z fun z =>
            ⟨fun tm hp nx K => gx tm fun x => lenE x fun n => @Bool.rec (fun _ => A) (slE x
              (fun b o _ _ => repK n z fun cs => allK cs (wrK hp b o cs fun hp => K undefA hp nx))
              (fun b kk _ => openK hp b sz fun _ => repK n z fun cs => allK cs (wrK hp b (Nat.mul kk sz) cs fun hp => K undefA hp nx))) (K undefA hp nx) (Nat.beq n 0)⟩) (opK x))
      | _, _ => none
    | _ => none
  | _, _ => none
theorem clearK_inv {argTypes : Array TypeId} {args : List Operand} {w : W PlF} (hw : clearK P argTypes args = some w) {tm : Tm} {hp : Heap} {nx : Nat} {K : KR} (h : w.run tm hp nx K = true) :
    ∃ st x hp', argTypes[0]? = some st ∧ opnds (opnd tm) args = some [x] ∧ clearA P hp st x = some hp' ∧ K undefA hp' nx = true := by
  unfold clearK at hw
  simp only [undS_eq, sizeS_eq, zeroS_eq] at hw
  split at hw
  · rename_i st x hst
    split at hw
    · rename_i e hu
      split at hw
      · rename_i sz z hs hz
        cases hw
        simp only [W_rec, fnS_eq, avsS_eq] at h
        have hh := opK_inv h
        clear h
        obtain ⟨xv, h1, h⟩ := hh
        have hh := lenE_inv h
        clear h
        obtain ⟨n, h2, h2', h⟩ := hh
        refine ⟨st, xv, ?_⟩
        cases hn : Nat.beq n 0 with
        | true =>
          rw [hn] at h
          have hn := Nat.eq_of_beq_eq_true hn
          subst hn
          refine ⟨hp, hst, by simp only [opnds, h1, Option.bind_some], ?_, h⟩
          cases xv <;> first | (exact absurd rfl (h2' _)) | (cases h2; done) | (simp only [clearA, hu]; done) | (cases h2; simp only [clearA, hu, if_true])
        | false =>
          rw [hn] at h
          have hn0 : n ≠ 0 := fun e => by subst e; simp at hn
          have hh := slE_inv h
          clear h
          rcases hh with ⟨b, o, l, c, rfl, h⟩ | ⟨b, kk, l, rfl, h⟩
          · have e2 : l = n := by simpa [lenA] using h2
            subst e2
            rw [repK_eq] at h
            have hh := allK_inv h
            clear h
            obtain ⟨h6, h⟩ := hh
            have hh := wrK_inv h6 h
            clear h
            obtain ⟨hp', h7, h⟩ := hh
            exact ⟨hp', hst, by simp only [opnds, h1, Option.bind_some], by simp only [clearA, hu, hn0, if_false, hz, Option.bind_some, h7], h⟩
          · have e2 : l = n := by simpa [lenA] using h2
            subst e2
            have hh := openK_inv h
            clear h
            obtain ⟨l', e', s', g1, g2, g3, h⟩ := hh
            rw [repK_eq] at h
            have hh := allK_inv h
            clear h
            obtain ⟨h6, h⟩ := hh
            have hh := wrK_inv h6 h
            clear h
            obtain ⟨hp', h7, h⟩ := hh
            have h7' : writeCells hp b (kk * sz) (repS l z) = some hp' := h7
            exact ⟨hp', hst, by simp only [opnds, h1, Option.bind_some], by simp only [clearA, hu, hn0, if_false, hz, hs, g3, Option.bind_some, h7'], h⟩
      · cases hw
    · cases hw
  · cases hw

/-! Calls. -/
noncomputable def clFun (f : FuncId) (args : List Operand) : W ClF := @W.rec (Tm → (List AVal → A) → A) (fun _ => W ClF) (fun ga => ⟨fun C tm hp nx kr kp => ga tm fun args => C f args hp nx kr kp⟩) (opsK args)
noncomputable def clVal (P : Program) (f : Operand) (args : List Operand) : W ClF := @W.rec (Tm → (List AVal → A) → A) (fun _ => W ClF) (fun ga => @W.rec GtF (fun _ => W ClF) (fun gf =>
    ⟨fun C tm hp nx kr kp => ga tm fun args => gf tm fun f => funE f fun fn first cap => oK (targetA P fn cap (appS first args)) fun r => @Prod.rec FuncId (List AVal) (fun _ => A) (fun f args => C f args hp nx kr kp) r⟩) (opK f)) (opsK args)
noncomputable def clInv (P : Program) (r : Operand) (name : String) (args : List Operand) : W ClF := @W.rec (Tm → (List AVal → A) → A) (fun _ => W ClF) (fun ga => @W.rec GtF (fun _ => W ClF) (fun gr =>
    ⟨fun C tm hp nx kr kp => ga tm fun args => gr tm fun r => ifaceE r fun t v => oK (methodA P t v name) fun p => @Prod.rec FuncId AVal (fun _ => A) (fun f r => C f (r :: args) hp nx kr kp) p⟩) (opK r)) (opsK args)

noncomputable def bLen (c : Call) (P : Program) : Bld :=
  match c.argTypes[0]?, c.args.toList with
  | some t, [x] => match undS P t with
    | some (.slice _) => .rd (@W.rec GtF (fun _ => W RdF) (fun g => ⟨fun tm _ k => g tm fun v => lenE v fun n => k (.int .i64 (.ofNat n))⟩) (opK x))
    | some .string => .rd (@W.rec GtF (fun _ => W RdF) (fun g => ⟨fun tm _ k => g tm fun v => strE v fun l => lenK l 0 fun n => k (.int .i64 (.ofNat n))⟩) (opK x))
    | _ => .lv
  | _, _ => .lv
noncomputable def bBuiltin (c : Call) (b : Builtin) (P : Program) : Bld :=
  match b with
  | .len => bLen c P
  | .cap | .min | .max => .lv
  | .append => .pl (appendK P c.argTypes c.args.toList)
  | .copy => .pl (copyK P c.argTypes c.args.toList)
  | .clear => match clearK P c.argTypes c.args.toList with
    | some w => .pl w
    | none => .pl (plGen P (.call c))
  | .delete => .pl (plGen P (.call c))
  | .recover | .panic => .rs
  | _ => .pl ⟨fun _ _ _ _ => false⟩
noncomputable def bCall (c : Call) (P : Program) : Bld :=
  match c.callee with
  | .value (.func f) => .cl (clFun f c.args.toList)
  | .value f => .cl (clVal P f c.args.toList)
  | .invoke r name => .cl (clInv P r name c.args.toList)
  | .builtin b => bBuiltin c b P

theorem appS_nil {α : Type} : ∀ l : List α, appS l [] = l
  | [] => rfl
  | x :: l => by simp only [appS, fl_eq, appS_nil l]

theorem relCall {C : CallFn} {CK : CallK} (hC : CallRel C CK) {f : FuncId} {args : List AVal} {hp : Heap} {nx : Nat} {kr : KR} {kp : KP} (h : CK f args hp nx kr kp = true) : ∃ r, C f args hp nx = some r ∧ outK kr kp r = true := hC _ _ _ _ _ _ h

theorem bLen_ok (c : Call) (hc : c.callee = .builtin .len) : BldOK P (.call c) (bLen c P) := by
  have hv : heavy P (.call c) = false := by simp only [heavy, hc]
  unfold bLen
  simp only [undS_eq]
  split
  · rename_i t x ht hx
    split
    · rename_i e hu
      refine ⟨hv, fun tm hp nx k h => ?_⟩
      have hh := opK_inv h
      clear h
      obtain ⟨v, h1, h⟩ := hh
      have hh := lenE_inv h
      clear h
      obtain ⟨n, h2, h2', h⟩ := hh
      refine ⟨_, ?_, h⟩
      cases v <;> first | (exact absurd rfl (h2' _)) | (cases h2; done) | (cases h2; simp only [lev, levW, hc, hx, opnds, h1, Option.bind_some, ht, hu, noNew]; done) | (cases h2; simp only [lev, levW, hc, hx, opnds, h1, Option.bind_some, ht, hu, noNew]; rfl)
    · rename_i hu
      refine ⟨hv, fun tm hp nx k h => ?_⟩
      have hh := opK_inv h
      clear h
      obtain ⟨v, h1, h⟩ := hh
      have hh := strE_inv h
      clear h
      obtain ⟨s, rfl, h⟩ := hh
      have h := lenK_inv h
      exact ⟨_, by simp only [lev, levW, hc, hx, opnds, h1, Option.bind_some, ht, hu, fn_eq, noNew], h⟩
    · exact hv
  · exact hv

theorem bBuiltin_ok (c : Call) (b : Builtin) (hc : c.callee = .builtin b) : BldOK P (.call c) (bBuiltin c b P) := by
  cases b
  case len => exact bLen_ok c hc
  case cap => show heavy P _ = false; simp only [heavy, hc]
  case min => show heavy P _ = false; simp only [heavy, hc]
  case max => show heavy P _ = false; simp only [heavy, hc]
  case append =>
    refine ⟨by simp only [heavy, hc], fun C tm hp nx md k h => ?_⟩
    have hh := appendK_inv h
    clear h
    obtain ⟨s, x, v, hp', nx', h1, h2, h3⟩ := hh
    exact ⟨v, hp', nx', by simp only [hev, hevW, hc, h1, Option.bind_some, h2], h3⟩
  case copy =>
    refine ⟨by simp only [heavy, hc], fun C tm hp nx md k h => ?_⟩
    have hh := copyK_inv h
    clear h
    obtain ⟨s, x, v, hp', h1, h2, h3⟩ := hh
    exact ⟨v, hp', nx, by simp only [hev, hevW, hc, h1, Option.bind_some, h2], h3⟩
  case clear =>
    have hv : heavy P (.call c) = true := by simp only [heavy, hc]
    simp only [bBuiltin]
    split
    · rename_i w hw
      refine ⟨hv, fun C tm hp nx md k h => ?_⟩
      have hh := clearK_inv hw h
      clear h
      obtain ⟨st, x, hp', h0, h1, h2, h3⟩ := hh
      exact ⟨_, hp', nx, by simp only [hev, hevW, hc, h1, Option.bind_some, h0, h2], h3⟩
    · exact plGen_ok hv fun _ _ _ _ _ => by simp only [hev, hevW, hc]
  case delete => exact plGen_ok (by simp only [heavy, hc]) fun _ _ _ _ _ => by simp only [hev, hevW, hc]
  case recover => exact ⟨by simp only [heavy, hc], fun _ _ _ _ _ => by simp only [hev, hevW, hc]⟩
  case panic => exact ⟨by simp only [heavy, hc], fun _ _ _ _ _ => by simp only [hev, hevW, hc]⟩
  all_goals exact ⟨by simp only [heavy, hc], fun _ _ _ _ _ _ h => by cases h⟩

theorem bCall_ok (c : Call) : BldOK P (.call c) (bCall c P) := by
  unfold bCall
  split
  · rename_i f hc
    refine ⟨by simp only [heavy, hc], fun C CK hC tm hp nx md kr kp h => ?_⟩
    have hh := opsK_inv h
    clear h
    obtain ⟨args, h1, h⟩ := hh
    obtain ⟨r, h2, h3⟩ := relCall hC h
    refine ⟨r, by cases r <;> simp [callRes], ?_, h3⟩
    have ha : appS [] args = args := rfl
    simp only [hev, hevW, h1, Option.bind_some, hc, opnd, ha, targetA, appS_nil, h2]
  · rename_i f hn hc
    refine ⟨by simp only [heavy, hc], fun C CK hC tm hp nx md kr kp h => ?_⟩
    have hh := opsK_inv h
    clear h
    obtain ⟨args, h1, h⟩ := hh
    have hh := opK_inv h
    clear h
    obtain ⟨fv, h2, h⟩ := hh
    have hh := funE_inv h
    clear h
    obtain ⟨fn, first, cap, rfl, h⟩ := hh
    have hh := oK_inv h
    clear h
    obtain ⟨⟨f', args'⟩, h3, h⟩ := hh
    obtain ⟨r, h4, h5⟩ := relCall hC h
    exact ⟨r, by cases r <;> simp [callRes], by simp only [hev, hevW, h1, h2, Option.bind_some, hc, h3, h4], h5⟩
  · rename_i r name hc
    refine ⟨by simp only [heavy, hc], fun C CK hC tm hp nx md kr kp h => ?_⟩
    have hh := opsK_inv h
    clear h
    obtain ⟨args, h1, h⟩ := hh
    have hh := opK_inv h
    clear h
    obtain ⟨rv, h2, h⟩ := hh
    have hh := ifaceE_inv h
    clear h
    obtain ⟨t, v, rfl, h⟩ := hh
    have hh := oK_inv h
    clear h
    obtain ⟨⟨f', r'⟩, h3, h⟩ := hh
    obtain ⟨out, h4, h5⟩ := relCall hC h
    exact ⟨out, by cases out <;> simp [callRes], by simp only [hev, hevW, h1, h2, Option.bind_some, hc, h3, h4], h5⟩
  · rename_i b hc
    exact bBuiltin_ok c b hc

/-! All operations. -/
noncomputable def bld (o : Op) : Program → Bld := @Op.rec (fun _ => Program → Bld) bMove bMove bPick bAlloc bBox (fun _ _ _ => Bld.lv) (fun _ _ _ _ => Bld.lv) bInsert bLoad bStore (fun _ _ => Bld.lv) (fun _ _ => Bld.lv) bNil bBin bUn bConv (fun _ _ _ => Bld.lv) bMkI (fun _ _ _ _ => Bld.lv) bMakeMap (fun _ _ _ => Bld.lv) bMakeSlice bSlice bFA bField bIA bIdx (fun _ _ _ _ _ => Bld.lv) bMapUpdate bMapEntry bEntryStore (fun _ _ _ => Bld.lv) bNext (fun _ _ => Bld.lv) (fun _ _ _ _ _ => Bld.lv) bExt bCall (fun _ _ => Bld.lv) bDefer bPanic (fun _ _ _ => Bld.lv) (fun _ _ _ _ => Bld.lv) (fun _ _ _ => Bld.lv) o
theorem bld_ok (o : Op) : BldOK P o (bld o P) := by
  cases o with
  | move x => exact bMove_ok x
  | assign x => exact bAssign_ok x
  | pick c a b => exact bPick_ok c a b
  | alloc e => exact bAlloc_ok e
  | box e x => exact bBox_ok e x
  | build t ps => exact rfl
  | buildSlice t n ps => exact rfl
  | insert t m k x => exact bInsert_ok t m k x
  | load t a => exact bLoad_ok t a
  | store t a x => exact bStore_ok t a x
  | ready g => exact rfl
  | waits g => exact rfl
  | nilCheck x => exact bNil_ok x
  | binOp op t x y yt => exact bBin_ok op t x y yt
  | unOp op t x => exact bUn_ok op t x
  | convert src dst x => exact bConv_ok src dst x
  | sliceToArrayPointer t x => exact rfl
  | makeInterface t x => exact bMkI_ok t x
  | makeFunc f a c => exact rfl
  | makeMap t r => exact bMakeMap_ok t r
  | makeChan t x => exact rfl
  | makeSlice t l c => exact bMakeSlice_ok t l c
  | slice t x lo hi mx => exact bSlice_ok t x lo hi mx
  | fieldAddr s x f => exact bFA_ok s x f
  | field t x f => exact bField_ok t x f
  | indexAddr t x i => exact bIA_ok t x i
  | index t x i => exact bIdx_ok t x i
  | lookup t x k ok => exact rfl
  | mapUpdate t m k x => exact bMapUpdate_ok t m k x
  | mapEntry t m k => exact bMapEntry_ok t m k
  | entryStore t m s x => exact bEntryStore_ok t m s x
  | range t x => exact rfl
  | next it s => exact bNext_ok it s
  | entry x => exact rfl
  | typeAssert x t a ok => exact rfl
  | extract x i => exact bExt_ok x i
  | call c => exact bCall_ok c
  | go c => exact rfl
  | defer c => exact bDefer_ok c
  | panic x => exact bPanic_ok x
  | send c x => exact rfl
  | recv t c ok => exact rfl
  | select cs b => exact rfl
end Go.Mu

namespace Go.Mu
variable {P : Program}

/-! A region. -/
structure Z where
  df : List ADf
  md : Option AMode
abbrev KN := Tm → Heap → Nat → Z → A
abbrev KX := AExit → KN
structure E where
  C : CallK
  kx : KX

abbrev SK := E → KN → Tm → Heap → Nat → Z → A
noncomputable def callE (e : E) : CallK := @E.rec (fun _ => CallK) (fun C _ => C) e
noncomputable def extE (x : AExit) (e : E) (tm : Tm) (hp : Heap) (nx : Nat) (z : Z) : A := @E.rec (fun _ => A) (fun _ kx => kx x tm hp nx z) e
noncomputable def panE (e : E) (tm : Tm) (z : Z) (c : List (AVal × Bool)) (hp : Heap) (nx : Nat) : A := extE (.panic c) e tm hp nx z
def endE (_ : E) (kn : KN) (tm : Tm) (hp : Heap) (nx : Nat) (z : Z) : A := kn tm hp nx z

def outR (e : E) (kn : KN) : AExit × St → A
  | (.normal, st) => kn st.tm st.hp st.nx ⟨st.df, st.md⟩
  | (x, st) => e.kx x st.tm st.hp st.nx ⟨st.df, st.md⟩
def SKOK (C : CallFn) (sk : SK) (spec : St → Option (AExit × St)) : Prop :=
  ∀ e kn tm hp nx z, CallRel C e.C → sk e kn tm hp nx z = true → ∃ r, spec ⟨tm, hp, nx, z.df, z.md⟩ = some r ∧ outR e kn r = true

abbrev PtF := AVal → Tm → (Tm → A) → A
noncomputable def addK (hp : Heap) (nx : Nat) (b : ABlk) (k : Heap → Nat → A) : A := hsetK hp nx b fun hp => fnS (Nat.succ nx) fun nx => k hp nx
theorem addK_eq (hp : Heap) (nx : Nat) (b : ABlk) (k : Heap → Nat → A) : addK hp nx b k = k (hp.set nx b) (nx + 1) := by unfold addK; rw [hsetK_eq, fnS_eq]

noncomputable def restE (P : Program) (o : Op) (s : PtF) (K : SK) (e : E) (kn : KN) (tm : Tm) (hp : Heap) (nx : Nat) (z : Z) : A :=
  @Z.rec (fun _ => A) (fun df md => oK (hev P dummyC (opnd tm) hp nx md o) fun r => @OpRes.rec (fun _ => A)
    (fun v hp nx => s v tm fun tm => K e kn tm hp nx z)
    (fun d => s undefA tm fun tm => K e kn tm hp nx (Z.mk (d :: df) md))
    (fun c hp nx => extE (.panic c) e tm hp nx z)
    (fun v m => s v tm fun tm => K e kn tm hp nx (Z.mk df (some m))) r) z
noncomputable def lightE (s : PtF) (K : SK) (e : E) (kn : KN) (tm : Tm) (hp : Heap) (nx : Nat) (z : Z) (p : AVal × Option ABlk) : A :=
  @Prod.rec AVal (Option ABlk) (fun _ => A) (fun v b => @Option.rec ABlk (fun _ => A) (s v tm fun tm => K e kn tm hp nx z) (fun b => addK hp nx b fun hp nx => s v tm fun tm => K e kn tm hp nx z) b) p

noncomputable def oRd (s : PtF) (K : SK) (r : W RdF) : W SK := @W.rec RdF (fun _ => W SK) (fun r => ⟨fun e kn tm hp nx z => r tm hp fun v => s v tm fun tm => K e kn tm hp nx z⟩) r
noncomputable def oMk (s : PtF) (K : SK) (m : W MkF) : W SK := @W.rec MkF (fun _ => W SK) (fun m => ⟨fun e kn tm hp nx z => m tm hp nx fun v b => addK hp nx b fun hp nx => s v tm fun tm => K e kn tm hp nx z⟩) m
noncomputable def oLv (P : Program) (o : Op) (s : PtF) (K : SK) : W SK := @W.rec LevF (fun _ => W SK) (fun l => ⟨fun e kn tm hp nx z => oK (l (opnd tm) hp nx) (lightE s K e kn tm hp nx z)⟩) (levW P o)
noncomputable def oPl (s : PtF) (K : SK) (h : W PlF) : W SK := @W.rec PlF (fun _ => W SK) (fun h => ⟨fun e kn tm hp nx z => h tm hp nx fun v hp nx => s v tm fun tm => K e kn tm hp nx z⟩) h
noncomputable def oCl (s : PtF) (K : SK) (h : W ClF) : W SK := @W.rec ClF (fun _ => W SK) (fun h => ⟨fun e kn tm hp nx z => h (callE e) tm hp nx (fun v hp nx => s v tm fun tm => K e kn tm hp nx z) (panE e tm z)⟩) h
noncomputable def oprK0 (P : Program) (N : Nat) (o : Oper) (K : SK) : W SK :=
  @W.rec PtF (fun _ => W SK) (fun s => @Bld.rec (fun _ => W SK) (oRd s K) (oMk s K) (oLv P o.op s K) (oPl s K) (oCl s K) ⟨restE P o.op s K⟩ (bld o.op P)) (putK N o.dst)

/-- One operation, and what goes on behind it. -/
def contA (P : Program) (C : CallFn) (N : Nat) (o : Oper) (spec : St → Option (AExit × St)) (st : St) : Option (AExit × St) :=
  (evOp P C st o.op).bind fun r => match r with
    | .val v hp nx => (putD N st.tm o.dst v).bind fun tm => spec { st with tm, hp, nx }
    | .defer d => (putD N st.tm o.dst undefA).bind fun tm => spec { st with tm, df := d :: st.df }
    | .recov v md => (putD N st.tm o.dst v).bind fun tm => spec { st with tm, md := some md }
    | .pan c hp nx => some (.panic c, { st with hp, nx })

theorem putK_inv {N : Nat} {d : Option Tmp} {v : AVal} {tm : Tm} {k : Tm → A} (h : (putK N d).run v tm k = true) : ∃ tm', putD N tm d v = some tm' ∧ k tm' = true := by rw [putK_eq] at h; exact oK_inv h

theorem oprK0_ok {C : CallFn} {N : Nat} {o : Oper} {K : SK} {spec : St → Option (AExit × St)} (hK : SKOK C K spec) : SKOK C (oprK0 P N o K).run (contA P C N o spec) := by
  intro e kn tm hp nx z hC h
  unfold oprK0 at h
  have hb := bld_ok (P := P) o.op
  revert h hb
  simp only [W_rec]
  cases bld o.op P with
  | rd r =>
    intro h hb
    obtain ⟨hh, hb⟩ := hb
    obtain ⟨v, h1, h2⟩ := hb _ _ nx _ h
    obtain ⟨tm', h3, h4⟩ := putK_inv h2
    obtain ⟨r, h5, h6⟩ := hK e kn tm' hp nx z hC h4
    refine ⟨r, ?_, h6⟩
    simp only [contA, evOp, hh, Bool.false_eq_true, if_false, h1, Option.bind_some, addBlk, h3]
    exact h5
  | mk m =>
    intro h hb
    obtain ⟨hh, hb⟩ := hb
    obtain ⟨v, b, h1, _, h2⟩ := hb _ _ _ _ h
    rw [addK_eq] at h2
    obtain ⟨tm', h3, h4⟩ := putK_inv h2
    obtain ⟨r, h5, h6⟩ := hK e kn tm' _ _ z hC h4
    refine ⟨r, ?_, h6⟩
    simp only [contA, evOp, hh, Bool.false_eq_true, if_false, h1, Option.bind_some, addBlk, h3, T.fz_eq, fn_eq]
    exact h5
  | lv =>
    intro h hb
    replace hb : heavy P o.op = false := hb
    obtain ⟨⟨v, b⟩, h1, h2⟩ := oK_inv h
    have h1 : lev P (opnd tm) hp nx o.op = some (v, b) := h1
    cases b with
    | none =>
      obtain ⟨tm', h3, h4⟩ := putK_inv h2
      obtain ⟨r, h5, h6⟩ := hK e kn tm' hp nx z hC h4
      refine ⟨r, ?_, h6⟩
      simp only [contA, evOp, hb, Bool.false_eq_true, if_false, h1, Option.bind_some, addBlk, h3]
      exact h5
    | some b =>
      replace h2 : addK hp nx b (fun hp nx => (putK N o.dst).run v tm fun tm => K e kn tm hp nx z) = true := h2
      rw [addK_eq] at h2
      obtain ⟨tm', h3, h4⟩ := putK_inv h2
      obtain ⟨r, h5, h6⟩ := hK e kn tm' _ _ z hC h4
      refine ⟨r, ?_, h6⟩
      simp only [contA, evOp, hb, Bool.false_eq_true, if_false, h1, Option.bind_some, addBlk, h3, T.fz_eq, fn_eq]
      exact h5
  | pl p =>
    intro h hb
    obtain ⟨hh, hb⟩ := hb
    obtain ⟨v, hp', nx', h1, h2⟩ := hb C _ _ _ z.md _ h
    obtain ⟨tm', h3, h4⟩ := putK_inv h2
    obtain ⟨r, h5, h6⟩ := hK e kn tm' _ _ z hC h4
    refine ⟨r, ?_, h6⟩
    simp only [contA, evOp, hh, if_true, h1, Option.bind_some, h3]
    exact h5
  | cl c =>
    intro h hb
    obtain ⟨hh, hb⟩ := hb
    obtain ⟨out, _, h1, h2⟩ := hb C (callE e) hC _ _ _ z.md _ _ h
    cases out with
    | ret v hp' nx' =>
      obtain ⟨tm', h3, h4⟩ := putK_inv h2
      obtain ⟨r, h5, h6⟩ := hK e kn tm' _ _ z hC h4
      refine ⟨r, ?_, h6⟩
      simp only [contA, evOp, hh, if_true, h1, callRes, Option.bind_some, h3]
      exact h5
    | pan c hp' nx' =>
      refine ⟨(.panic c, ⟨tm, hp', nx', z.df, z.md⟩), ?_, h2⟩
      simp only [contA, evOp, hh, if_true, h1, callRes, Option.bind_some]
  | rs =>
    intro h hb
    obtain ⟨hh, hb⟩ := hb
    cases z with
    | mk df md =>
    have hh2 := oK_inv h
    clear h
    obtain ⟨r, h1, h⟩ := hh2
    have h1 : hev P C (opnd tm) hp nx md o.op = some r := by rw [hb]; exact h1
    cases r with
    | val v hp' nx' =>
      obtain ⟨tm', h3, h4⟩ := putK_inv h
      obtain ⟨r, h5, h6⟩ := hK e kn tm' _ _ ⟨df, md⟩ hC h4
      refine ⟨r, ?_, h6⟩
      simp only [contA, evOp, hh, if_true, h1, Option.bind_some, h3]
      exact h5
    | defer d =>
      obtain ⟨tm', h3, h4⟩ := putK_inv h
      obtain ⟨r, h5, h6⟩ := hK e kn tm' _ _ ⟨d :: df, md⟩ hC h4
      refine ⟨r, ?_, h6⟩
      simp only [contA, evOp, hh, if_true, h1, Option.bind_some, h3]
      exact h5
    | pan c hp' nx' =>
      refine ⟨(.panic c, ⟨tm, hp', nx', df, md⟩), ?_, h⟩
      simp only [contA, evOp, hh, if_true, h1, Option.bind_some]
    | recov v m =>
      obtain ⟨tm', h3, h4⟩ := putK_inv h
      obtain ⟨r, h5, h6⟩ := hK e kn tm' _ _ ⟨df, some m⟩ hC h4
      refine ⟨r, ?_, h6⟩
      simp only [contA, evOp, hh, if_true, h1, Option.bind_some, h3]
      exact h5

noncomputable def oprK (P : Program) (N : Nat) (ops : Array Oper) (o : Oper) (K : SK) : W SK :=
  match o.guard with
  | none => oprK0 P N o K
  | some _ => @W.rec SK (fun _ => W SK) (fun f => @W.rec PtF (fun _ => W SK) (fun s => ⟨fun e kn tm hp nx z => oK (wantA ops tm o) fun w => @Bool.rec (fun _ => A) (s undefA tm fun tm => K e kn tm hp nx z) (f e kn tm hp nx z) w⟩) (putK N o.dst)) (oprK0 P N o K)

theorem evOps_cons (C : CallFn) (N : Nat) (ops : Array Oper) (o : Oper) (l : List Oper) (st : St) : evOps P C N ops (o :: l) st = (wantA ops st.tm o).bind fun w => match w with
    | false => (putD N st.tm o.dst undefA).bind fun tm => evOps P C N ops l { st with tm }
    | true => contA P C N o (evOps P C N ops l) st := by
  simp only [evOps, stepA, contA]
  cases wantA ops st.tm o with
  | none => rfl
  | some w =>
    cases w with
    | false => simp only [Option.bind_some]; cases putD N st.tm o.dst undefA <;> rfl
    | true =>
      simp only [Option.bind_some]
      cases evOp P C st o.op with
      | none => rfl
      | some r =>
        cases r with
        | val v hp nx => simp only [Option.bind_some]; cases putD N st.tm o.dst v <;> rfl
        | defer d => simp only [Option.bind_some]; cases putD N st.tm o.dst undefA <;> rfl
        | pan c hp nx => rfl
        | recov v m => simp only [Option.bind_some]; cases putD N st.tm o.dst v <;> rfl

noncomputable def regK (P : Program) (N : Nat) (ops : Array Oper) : List Oper → W SK := @List.rec Oper (fun _ => W SK)
  ⟨endE⟩ (fun o _ ih => @W.rec SK (fun _ => W SK) (fun K => oprK P N ops o K) ih)
theorem regK_ok {C : CallFn} {N : Nat} {ops : Array Oper} : ∀ l : List Oper, SKOK C (regK P N ops l).run (evOps P C N ops l)
  | [] => fun e kn tm hp nx z _ h => ⟨(.normal, ⟨tm, hp, nx, z.df, z.md⟩), rfl, h⟩
  | o :: l => by
    intro e kn tm hp nx z hC h
    have ih := regK_ok (C := C) (N := N) (ops := ops) l
    have hs : (regK P N ops (o :: l)).run e kn tm hp nx z = (oprK P N ops o (regK P N ops l).run).run e kn tm hp nx z := rfl
    rw [hs] at h
    rw [evOps_cons]
    unfold oprK at h
    split at h
    · rename_i hg
      have hw : wantA ops tm o = some true := by unfold wantA; rw [hg]
      simp only [hw, Option.bind_some]
      exact oprK0_ok ih e kn tm hp nx z hC h
    · obtain ⟨w, h1, h2⟩ := oK_inv h
      simp only [h1, Option.bind_some]
      cases w with
      | false =>
        obtain ⟨tm', h3, h4⟩ := putK_inv h2
        obtain ⟨r, h5, h6⟩ := ih e kn tm' hp nx z hC h4
        exact ⟨r, by simp only [h3, Option.bind_some]; exact h5, h6⟩
      | true => exact oprK0_ok ih e kn tm hp nx z hC h2

/-! A region whose order is drawn. -/
noncomputable def readsR (o : Op) : Bool := @Op.rec (fun _ => Bool) (fun _ => false) (fun _ => false) (fun _ _ _ => false) (fun _ => false) (fun _ _ => false) (fun _ _ => false) (fun _ _ _ => false) (fun _ _ _ _ => false) (fun _ _ => true) (fun _ _ _ => false) (fun _ => false) (fun _ => false) (fun _ => false) (fun _ _ _ _ _ => false) (fun _ _ _ => false) (fun _ _ _ => true) (fun _ _ => false) (fun _ _ => false) (fun _ _ _ => false) (fun _ _ => false) (fun _ _ => false) (fun _ _ _ => false) (fun _ _ _ _ _ => true) (fun _ _ _ => false) (fun _ _ _ => false) (fun _ _ _ => true) (fun _ _ _ => false) (fun _ _ _ _ => true) (fun _ _ _ _ => false) (fun _ _ _ => false) (fun _ _ _ _ => false) (fun _ _ => true) (fun _ _ => false) (fun _ => true) (fun _ _ _ _ => false) (fun _ _ => false) (fun _ => true) (fun _ => false) (fun _ => false) (fun _ => false) (fun _ _ => false) (fun _ _ _ => false) (fun _ _ => false) o
theorem readsR_eq (o : Op) : readsR o = reads o := by cases o <;> rfl
noncomputable def mkrR (o : Op) : Bool := @Op.rec (fun _ => Bool) (fun _ => false) (fun _ => false) (fun _ _ _ => false) (fun _ => true) (fun _ _ => true) (fun _ _ => false) (fun _ _ _ => true) (fun _ _ _ _ => false) (fun _ _ => false) (fun _ _ _ => false) (fun _ => false) (fun _ => false) (fun _ => false) (fun _ _ _ _ _ => false) (fun _ _ _ => false) (fun _ _ _ => false) (fun _ _ => false) (fun _ _ => false) (fun _ _ _ => false) (fun _ _ => true) (fun _ _ => false) (fun _ _ _ => true) (fun _ _ _ _ _ => false) (fun _ _ _ => false) (fun _ _ _ => false) (fun _ _ _ => false) (fun _ _ _ => false) (fun _ _ _ _ => false) (fun _ _ _ _ => false) (fun _ _ _ => false) (fun _ _ _ _ => false) (fun _ _ => true) (fun _ _ => false) (fun _ => false) (fun _ _ _ _ => false) (fun _ _ => false) (fun _ => false) (fun _ => false) (fun _ => false) (fun _ => false) (fun _ _ => false) (fun _ _ _ => false) (fun _ _ => false) o
noncomputable def hvR (P : Program) (o : Op) : Bool := @Bld.rec (fun _ => Bool) (fun _ => false) (fun _ => false) false (fun _ => true) (fun _ => true) true (bld o P)
theorem hvR_eq (o : Op) : hvR P o = heavy P o := by
  have hb := bld_ok (P := P) o
  unfold hvR
  revert hb
  cases bld o P <;> intro hb <;> first | exact hb.1.symm | exact Eq.symm hb

theorem noNew_none {x : Option AVal} {v : AVal} {b : ABlk} (h : noNew x = some (v, some b)) : False := by cases x <;> simp [noNew] at h
theorem lev_mkr {E : Ev1} {hp : Heap} {nx : Nat} {v : AVal} {b : ABlk} : ∀ {o : Op}, lev P E hp nx o = some (v, some b) → mkrR o = true := by
  intro o h
  cases o <;> first | rfl | (exact (noNew_none h).elim) | (cases h; done) | skip
  case call c =>
    simp only [lev, levW] at h
    split at h <;> first | (exact (noNew_none h).elim) | (cases h)

/-- For each operation: what stands ahead of it, unordered, does not matter. -/
noncomputable def calmF (P : Program) : Nat → Nat → Nat → List Nat → List Oper → Bool
  | _, _, _, [], [] => true
  | i, H, X, m :: ms, o :: os =>
    (match hvR P o.op with
      | true => Nat.beq (Nat.land X m) X
      | false => !readsR o.op || Nat.beq (Nat.land H m) H) &&
    calmF P (i + 1) (bif hvR P o.op then Nat.lor H (Nat.pow 2 i) else H) (bif (hvR P o.op || readsR o.op || mkrR o.op) then Nat.lor X (Nat.pow 2 i) else X) ms os
  | _, _, _, _, _ => false

theorem land_test {H m j : Nat} (h : Nat.beq (Nat.land H m) H = true) (hj : H.testBit j = true) : m.testBit j = true := by
  have h := Nat.eq_of_beq_eq_true h
  have : (H &&& m).testBit j = H.testBit j := by rw [show H &&& m = H from h]
  rw [Nat.testBit_and, hj] at this
  simpa using this

def RecOK (P : Program) (o : Oper) : Rec → Prop
  | .skip => True
  | .light _ _ _ b => heavy P o.op = false ∧ (b = none ∨ mkrR o.op = true)
  | .heavy .. => heavy P o.op = true
def RecsOK (P : Program) : List Oper → List Rec → Prop
  | [], [] => True
  | o :: os, r :: rs => RecOK P o r ∧ RecsOK P os rs
  | _, _ => False
theorem RecsOK.at {os : List Oper} {rs : List Rec} (h : RecsOK P os rs) : ∀ {j : Nat} {o : Oper} {r : Rec}, os[j]? = some o → rs[j]? = some r → RecOK P o r := by
  induction os generalizing rs with
  | nil => intro j o r h1; simp at h1
  | cons o os ih =>
    cases rs with
    | nil => exact h.elim
    | cons r rs =>
      intro j
      cases j with
      | zero => intro o' r' h1 h2; simp at h1 h2; subst h1 h2; exact h.1
      | succ j => intro o' r' h1 h2; simp at h1 h2; exact ih h.2 h1 h2
theorem RecsOK.len {os : List Oper} {rs : List Rec} (h : RecsOK P os rs) : rs.length = os.length := by
  induction os generalizing rs with
  | nil => cases rs with
    | nil => rfl
    | cons => exact h.elim
  | cons o os ih => cases rs with
    | nil => exact h.elim
    | cons r rs => simp [ih h.2]

theorem runD_recs {C : CallFn} {N : Nat} {ops : Array Oper} : ∀ {l : List Oper} {tm : Tm} {V U : Heap} {nx : Nat} {rs : List Rec} {r : Tm × Heap × Nat}, runD P C N ops l tm V U nx = some (rs, r) → RecsOK P l rs
  | [], tm, V, U, nx, rs, r, h => by simp only [runD, Option.some.injEq, Prod.mk.injEq] at h; rw [← h.1]; trivial
  | o :: l, tm, V, U, nx, rs, r, h => by
    simp only [runD, Option.bind_eq_some_iff] at h
    obtain ⟨w, hw, h⟩ := h
    cases w with
    | false =>
      simp only [Option.bind_eq_some_iff] at h
      obtain ⟨tm', h1, ⟨rs', r'⟩, h2, h⟩ := h
      cases h
      exact ⟨trivial, runD_recs h2⟩
    | true =>
      simp only at h
      cases hh : heavy P o.op with
      | true =>
        rw [hh] at h
        simp only [Option.bind_eq_some_iff] at h
        obtain ⟨or, h1, h⟩ := h
        cases or with
        | val v V1 nx1 =>
          simp only at h
          split at h
          · simp only [Option.bind_eq_some_iff] at h
            obtain ⟨tm', h2, ⟨rs', r'⟩, h3, h⟩ := h
            cases h
            exact ⟨hh, runD_recs h3⟩
          · cases h
        | _ => cases h
      | false =>
        rw [hh] at h
        simp only [Option.bind_eq_some_iff] at h
        obtain ⟨⟨v, b⟩, h1, tm', h2, h⟩ := h
        cases b with
        | none =>
          simp only [Option.bind_eq_some_iff] at h
          obtain ⟨⟨rs', r'⟩, h3, h⟩ := h
          cases h
          exact ⟨⟨hh, .inl rfl⟩, runD_recs h3⟩
        | some b =>
          simp only at h
          split at h
          · simp only [T.fz_eq, fn_eq, Option.bind_eq_some_iff] at h
            obtain ⟨⟨rs', r'⟩, h3, h⟩ := h
            cases h
            exact ⟨⟨hh, .inr (lev_mkr h1)⟩, runD_recs h3⟩
          · cases h

theorem chk1_all {m : Nat} {o : Oper} {r : Rec} : ∀ (n j : Nat) (os : List Oper) (rs : List Rec), n ≤ os.length → rs.length = os.length → (∀ i oi ri, i < n → os[i]? = some oi → rs[i]? = some ri → against P m o r (j + i) oi ri = true) → chk1 P m o r j os rs n = true
  | 0, j, os, rs, _, _, _ => by unfold chk1; rfl
  | n + 1, j, os, rs, hle, hl, h => by
    cases os with
    | nil => simp at hle
    | cons o' os =>
      cases rs with
      | nil => simp at hl
      | cons r' rs =>
        simp only [chk1, Bool.and_eq_true]
        refine ⟨by simpa using h 0 o' r' (by omega) (by simp) (by simp), chk1_all n (j + 1) os rs (by simpa using hle) (by simpa using hl) fun i oi ri hi h1 h2 => ?_⟩
        have := h (i + 1) oi ri (by omega) (by simpa using h1) (by simpa using h2)
        rwa [show j + 1 + i = j + (i + 1) by omega]

/-- What the masks hold of the operations ahead. -/
def Held (P : Program) (os0 : List Oper) (i H X : Nat) : Prop :=
  ∀ j oj, j < i → os0[j]? = some oj → (heavy P oj.op = true → H.testBit j = true) ∧ ((heavy P oj.op = true ∨ reads oj.op = true ∨ mkrR oj.op = true) → X.testBit j = true)

theorem testBit_lor_pow (H i j : Nat) (h : H.testBit j = true ∨ j = i) : (Nat.lor H (Nat.pow 2 i)).testBit j = true := by
  show (H ||| 2 ^ i).testBit j = true
  rw [Nat.testBit_or]
  rcases h with h | rfl
  · simp [h]
  · simp [Nat.testBit_two_pow_self]

/-- One place: what stands ahead of it, unordered, does not matter. -/
theorem calm_at {os0 : List Oper} {rs0 : List Rec} (hR : RecsOK P os0 rs0) {i H X m : Nat} {o : Oper} {r : Rec} (hoi : os0[i]? = some o) (hri : rs0[i]? = some r) (hle : i ≤ os0.length) (hH : Held P os0 i H X)
    (h1 : (match hvR P o.op with | true => Nat.beq (Nat.land X m) X | false => !readsR o.op || Nat.beq (Nat.land H m) H) = true) : chk1 P m o r 0 os0 rs0 i = true := by
  have hro := hR.at hoi hri
  refine chk1_all i 0 os0 rs0 hle hR.len fun j oj rj hj h3 h4 => ?_
  rw [Nat.zero_add]
  have hrj := hR.at h3 h4
  obtain ⟨g1, g2⟩ := hH j oj hj h3
  rw [hvR_eq, readsR_eq] at h1
  cases r with
  | skip => cases rj <;> rfl
  | light tm nm v b =>
    obtain ⟨q1, q2⟩ := hro
    rw [q1] at h1
    simp only [Bool.or_eq_true, Bool.not_eq_true'] at h1
    cases rj with
    | heavy V0 tm' U nx' v' V1 nx1 =>
      simp only [against, Bool.or_eq_true]
      rcases h1 with h1 | h1
      · right; simp [sameL, h1]
      · left; exact land_test h1 (g1 hrj)
    | _ => rfl
  | heavy V0 tm' U nx' v' V1 nx1 =>
    have q1 : heavy P o.op = true := hro
    rw [q1] at h1
    simp only at h1
    cases rj with
    | skip => rfl
    | light tm nm v b =>
      obtain ⟨q2, q3⟩ := hrj
      simp only [against, Bool.or_eq_true, Bool.and_eq_true]
      by_cases hc : reads oj.op = true ∨ mkrR oj.op = true
      · left; exact land_test h1 (g2 (.inr hc))
      · right
        have n1 : reads oj.op = false := by
          cases hb : reads oj.op with
          | false => rfl
          | true => exact absurd (.inl hb) hc
        have n2 : ¬ (mkrR oj.op = true) := fun hb => hc (.inr hb)
        rcases q3 with rfl | q3
        · exact ⟨rfl, by simp [sameL, n1]⟩
        · exact absurd q3 n2
    | heavy _ _ _ _ _ _ _ =>
      simp only [against]
      exact land_test h1 (g2 (.inl hrj))

theorem Held.step {os0 : List Oper} {i H X : Nat} {o : Oper} (hH : Held P os0 i H X) (hoi : os0[i]? = some o) :
    Held P os0 (i + 1) (bif hvR P o.op then Nat.lor H (Nat.pow 2 i) else H) (bif (hvR P o.op || readsR o.op || mkrR o.op) then Nat.lor X (Nat.pow 2 i) else X) := by
  intro j oj hj h3
  rw [hvR_eq, readsR_eq]
  by_cases hji : j = i
  · subst hji
    rw [hoi] at h3
    cases h3
    constructor
    · intro hv; rw [hv]; exact testBit_lor_pow _ _ _ (.inr rfl)
    · intro hv
      have : (heavy P o.op || reads o.op || mkrR o.op) = true := by
        rcases hv with hv | hv | hv <;> simp [hv]
      rw [this]; exact testBit_lor_pow _ _ _ (.inr rfl)
  · obtain ⟨g1, g2⟩ := hH j oj (by omega) h3
    constructor
    · intro hv
      have := g1 hv
      cases heavy P o.op
      · exact this
      · exact testBit_lor_pow _ _ _ (.inl this)
    · intro hv
      have := g2 hv
      cases (heavy P o.op || reads o.op || mkrR o.op)
      · exact this
      · exact testBit_lor_pow _ _ _ (.inl this)

theorem calm_chk {os0 : List Oper} {rs0 : List Rec} (hR : RecsOK P os0 rs0) (ms : List Nat) : ∀ (i H X : Nat) (os : List Oper) (rs : List Rec), (∀ k : Nat, os[k]? = os0[i + k]?) → (∀ k : Nat, rs[k]? = rs0[i + k]?) → i + os.length = os0.length → rs.length = os.length →
    Held P os0 i H X → calmF P i H X ms os = true → chk P os0 rs0 i ms os rs = true := by
  induction ms with
  | nil =>
    intro i H X os rs _ _ _ hl _ h
    cases os with
    | nil =>
      have : rs = [] := List.eq_nil_of_length_eq_zero (by simpa using hl)
      subst this; rfl
    | cons o os => simp [calmF] at h
  | cons m ms ih =>
    intro i H X os rs ho hr hi hl hH h
    cases os with
    | nil => simp [calmF] at h
    | cons o os =>
      cases rs with
      | nil => simp at hl
      | cons r rs =>
        rw [calmF, Bool.and_eq_true] at h
        obtain ⟨h1, h2⟩ := h
        have hoi : os0[i]? = some o := by have := ho 0; simpa using this.symm
        have hri : rs0[i]? = some r := by have := hr 0; simpa using this.symm
        have hle : i ≤ os0.length := by omega
        have hp1 := calm_at hR hoi hri hle hH h1
        have hp2 := ih (i + 1) _ _ os rs (fun k => by have := ho (k + 1); rw [show i + 1 + k = i + (k + 1) by omega, ← this]; simp)
          (fun k => by have := hr (k + 1); rw [show i + 1 + k = i + (k + 1) by omega, ← this]; simp)
          (by simp only [List.length_cons] at hi; omega) (by simpa using hl) (hH.step hoi) h2
        rw [chk, hp1, hp2]
        rfl

abbrev KD := List Rec → Tm → Heap → Nat → A
abbrev DK := CallK → Tm → Heap → Heap → Nat → KD → A
def recK (r : Rec) (k : KD) (rs : List Rec) (tm : Tm) (hp : Heap) (nx : Nat) : A := k (r :: rs) tm hp nx
def noPan (_ : List (AVal × Bool)) (_ : Heap) (_ : Nat) : A := false


noncomputable def lvC (s : PtF) (K : DK) (C : CallK) (tm : Tm) (V U : Heap) (nx : Nat) (k : KD) (p : AVal × Option ABlk) : A :=
  @Prod.rec AVal (Option ABlk) (fun _ => A) (fun v b => s v tm fun tm' => @Option.rec ABlk (fun _ => A) (K C tm' V U nx k)
    (fun b => @Bool.rec (fun _ => A) false (addK U nx b fun U' nx' => K C tm' V U' nx' k) (noSib b)) b) p
noncomputable def drC0 (P : Program) (N : Nat) (o : Oper) (K : DK) : W DK :=
  @W.rec PtF (fun _ => W DK) (fun s => @Bld.rec (fun _ => W DK)
      (fun r => @W.rec RdF (fun _ => W DK) (fun r => ⟨fun C tm V U nx k => r tm V fun v => s v tm fun tm' => K C tm' V U nx k⟩) r)
      (fun m => @W.rec MkF (fun _ => W DK) (fun m => ⟨fun C tm V U nx k => m tm V nx fun v b => s v tm fun tm' => addK U nx b fun U' nx' => K C tm' V U' nx' k⟩) m)
      (@W.rec LevF (fun _ => W DK) (fun l => ⟨fun C tm V U nx k => oK (l (opnd tm) V nx) (lvC s K C tm V U nx k)⟩) (levW P o.op))
      (fun h => @W.rec PlF (fun _ => W DK) (fun h => ⟨fun C tm V U nx k => h tm U nx fun v V1 nx1 => @Bool.rec (fun _ => A) false (s v tm fun tm' => K C tm' V1 V1 nx1 k) (Nat.ble nx nx1)⟩) h)
      (fun h => @W.rec ClF (fun _ => W DK) (fun h => ⟨fun C tm V U nx k => h C tm U nx (fun v V1 nx1 => @Bool.rec (fun _ => A) false (s v tm fun tm' => K C tm' V1 V1 nx1 k) (Nat.ble nx nx1)) noPan⟩) h)
      ⟨fun _ _ _ _ _ _ => false⟩ (bld o.op P)) (putK N o.dst)
noncomputable def drC (P : Program) (N : Nat) (ops : Array Oper) (o : Oper) (K : DK) : W DK :=
  match o.guard with
  | none => drC0 P N o K
  | some _ => @W.rec DK (fun _ => W DK) (fun f => @W.rec PtF (fun _ => W DK) (fun s => ⟨fun C tm V U nx k => oK (wantA ops tm o) fun w => @Bool.rec (fun _ => A) (s undefA tm fun tm' => K C tm' V U nx k) (f C tm V U nx k) w⟩) (putK N o.dst)) (drC0 P N o K)
noncomputable def runC (P : Program) (N : Nat) (ops : Array Oper) : List Oper → W DK := @List.rec Oper (fun _ => W DK)
  ⟨fun _ tm _ U nx k => k [] tm U nx⟩ (fun o _ ih => @W.rec DK (fun _ => W DK) (fun K => drC P N ops o K) ih)

def DKC (P : Program) (C : CallFn) (N : Nat) (ops : Array Oper) (l : List Oper) (d : DK) : Prop := ∀ CK tm V U nx (k : KD), CallRel C CK → d CK tm V U nx k = true → ∃ rs tm2 U2 nx2, runD P C N ops l tm V U nx = some (rs, tm2, U2, nx2) ∧ k [] tm2 U2 nx2 = true
theorem runC_ok {C : CallFn} {N : Nat} {ops : Array Oper} : ∀ l : List Oper, DKC P C N ops l (runC P N ops l).run
  | [] => fun CK tm V U nx k _ h => ⟨[], tm, U, nx, rfl, h⟩
  | o :: l => by
    intro CK tm V U nx k hC h
    have ih := runC_ok (C := C) (N := N) (ops := ops) l
    have hs : (runC P N ops (o :: l)).run CK tm V U nx k = (drC P N ops o (runC P N ops l).run).run CK tm V U nx k := rfl
    rw [hs] at h
    clear hs
    have main : (drC0 P N o (runC P N ops l).run).run CK tm V U nx k = true → wantA ops tm o = some true → ∃ rs tm2 U2 nx2, runD P C N ops (o :: l) tm V U nx = some (rs, tm2, U2, nx2) ∧ k [] tm2 U2 nx2 = true := by
      intro h hw
      unfold drC0 at h
      have hb := bld_ok (P := P) o.op
      revert h hb
      simp only [W_rec]
      cases bld o.op P with
      | rd r =>
        intro h hb
        obtain ⟨hh, hb⟩ := hb
        obtain ⟨v, h1, h2⟩ := hb _ _ nx _ h
        obtain ⟨tm', h3, h4⟩ := putK_inv h2
        obtain ⟨rs, tm2, U2, nx2, h5, h6⟩ := ih _ _ _ _ _ _ hC h4
        exact ⟨_, tm2, U2, nx2, by simp only [runD, hw, Option.bind_some, hh, h1, h3, h5] <;> rfl, h6⟩
      | mk m =>
        intro h hb
        obtain ⟨hh, hb⟩ := hb
        obtain ⟨v, b, h1, h1', h2⟩ := hb _ _ _ _ h
        obtain ⟨tm', h3, h4⟩ := putK_inv h2
        rw [addK_eq] at h4
        obtain ⟨rs, tm2, U2, nx2, h5, h6⟩ := ih _ _ _ _ _ _ hC h4
        exact ⟨_, tm2, U2, nx2, by simp only [runD, hw, Option.bind_some, hh, h1, h3, h1', T.fz_eq, fn_eq, h5] <;> rfl, h6⟩
      | lv =>
        intro h hb
        replace hb : heavy P o.op = false := hb
        obtain ⟨⟨v, b⟩, h1, h2⟩ := oK_inv h
        have h1 : lev P (opnd tm) V nx o.op = some (v, b) := h1
        obtain ⟨tm', h3, h4⟩ := putK_inv h2
        cases b with
        | none =>
          obtain ⟨rs, tm2, U2, nx2, h5, h6⟩ := ih _ _ _ _ _ _ hC h4
          exact ⟨_, tm2, U2, nx2, by simp only [runD, hw, Option.bind_some, hb, h1, h3, h5] <;> rfl, h6⟩
        | some b =>
          obtain ⟨h7, h4⟩ := bool_inv h4
          rw [addK_eq] at h4
          obtain ⟨rs, tm2, U2, nx2, h5, h6⟩ := ih _ _ _ _ _ _ hC h4
          exact ⟨_, tm2, U2, nx2, by simp only [runD, hw, Option.bind_some, hb, h1, h3, h7, T.fz_eq, fn_eq, h5] <;> rfl, h6⟩
      | pl p =>
        intro h hb
        obtain ⟨hh, hb⟩ := hb
        obtain ⟨v, hp', nx', h1, h2⟩ := hb C _ _ _ none _ h
        obtain ⟨h7, h2⟩ := bool_inv h2
        obtain ⟨tm', h3, h4⟩ := putK_inv h2
        obtain ⟨rs, tm2, U2, nx2, h5, h6⟩ := ih _ _ _ _ _ _ hC h4
        exact ⟨_, tm2, U2, nx2, by simp only [runD, hw, Option.bind_some, hh, h1, h7, h3, h5] <;> rfl, h6⟩
      | cl c =>
        intro h hb
        obtain ⟨hh, hb⟩ := hb
        obtain ⟨out, _, h1, h2⟩ := hb C CK hC _ _ _ none _ _ h
        cases out with
        | ret v hp' nx' =>
          obtain ⟨h7, h2⟩ := bool_inv h2
          obtain ⟨tm', h3, h4⟩ := putK_inv h2
          obtain ⟨rs, tm2, U2, nx2, h5, h6⟩ := ih _ _ _ _ _ _ hC h4
          exact ⟨_, tm2, U2, nx2, by simp only [runD, hw, Option.bind_some, hh, h1, callRes, h7, h3, h5] <;> rfl, h6⟩
        | pan c hp' nx' => cases h2
      | rs => intro h; cases h
    unfold drC at h
    split at h
    · rename_i hg
      exact main h (by unfold wantA; rw [hg])
    · obtain ⟨w, h1, h2⟩ := oK_inv h
      cases w with
      | false =>
        obtain ⟨tm', h3, h4⟩ := putK_inv h2
        obtain ⟨rs, tm2, U2, nx2, h5, h6⟩ := ih _ _ _ _ _ _ hC h4
        exact ⟨_, tm2, U2, nx2, by simp only [runD, h1, Option.bind_some, h3, h5] <;> rfl, h6⟩
      | true => exact main h2 h1


noncomputable def lvW (s : PtF) (K : DK) (C : CallK) (tm : Tm) (V U : Heap) (nx : Nat) (k : KD) (p : AVal × Option ABlk) : A :=
  @Prod.rec AVal (Option ABlk) (fun _ => A) (fun v b => s v tm fun tm' => @Option.rec ABlk (fun _ => A) (K C tm' V U nx (recK (.light tm nx v none) k))
    (fun b => @Bool.rec (fun _ => A) false (addK U nx b fun U' nx' => K C tm' V U' nx' (recK (.light tm nx v (some b)) k)) (noSib b)) b) p
noncomputable def drW0 (P : Program) (N : Nat) (o : Oper) (K : DK) : W DK :=
  @W.rec PtF (fun _ => W DK) (fun s => @Bld.rec (fun _ => W DK)
      (fun r => @W.rec RdF (fun _ => W DK) (fun r => ⟨fun C tm V U nx k => r tm V fun v => s v tm fun tm' => K C tm' V U nx (recK (.light tm nx v none) k)⟩) r)
      (fun m => @W.rec MkF (fun _ => W DK) (fun m => ⟨fun C tm V U nx k => m tm V nx fun v b => s v tm fun tm' => addK U nx b fun U' nx' => K C tm' V U' nx' (recK (.light tm nx v (some b)) k)⟩) m)
      (@W.rec LevF (fun _ => W DK) (fun l => ⟨fun C tm V U nx k => oK (l (opnd tm) V nx) (lvW s K C tm V U nx k)⟩) (levW P o.op))
      (fun h => @W.rec PlF (fun _ => W DK) (fun h => ⟨fun C tm V U nx k => h tm U nx fun v V1 nx1 => @Bool.rec (fun _ => A) false (s v tm fun tm' => K C tm' V1 V1 nx1 (recK (.heavy V tm U nx v V1 nx1) k)) (Nat.ble nx nx1)⟩) h)
      (fun h => @W.rec ClF (fun _ => W DK) (fun h => ⟨fun C tm V U nx k => h C tm U nx (fun v V1 nx1 => @Bool.rec (fun _ => A) false (s v tm fun tm' => K C tm' V1 V1 nx1 (recK (.heavy V tm U nx v V1 nx1) k)) (Nat.ble nx nx1)) noPan⟩) h)
      ⟨fun _ _ _ _ _ _ => false⟩ (bld o.op P)) (putK N o.dst)
noncomputable def drW (P : Program) (N : Nat) (ops : Array Oper) (o : Oper) (K : DK) : W DK :=
  match o.guard with
  | none => drW0 P N o K
  | some _ => @W.rec DK (fun _ => W DK) (fun f => @W.rec PtF (fun _ => W DK) (fun s => ⟨fun C tm V U nx k => oK (wantA ops tm o) fun w => @Bool.rec (fun _ => A) (s undefA tm fun tm' => K C tm' V U nx (recK (.skip) k)) (f C tm V U nx k) w⟩) (putK N o.dst)) (drW0 P N o K)
noncomputable def runW (P : Program) (N : Nat) (ops : Array Oper) : List Oper → W DK := @List.rec Oper (fun _ => W DK)
  ⟨fun _ tm _ U nx k => k [] tm U nx⟩ (fun o _ ih => @W.rec DK (fun _ => W DK) (fun K => drW P N ops o K) ih)

def DKW (P : Program) (C : CallFn) (N : Nat) (ops : Array Oper) (l : List Oper) (d : DK) : Prop := ∀ CK tm V U nx (k : KD), CallRel C CK → d CK tm V U nx k = true → ∃ rs tm2 U2 nx2, runD P C N ops l tm V U nx = some (rs, tm2, U2, nx2) ∧ k rs tm2 U2 nx2 = true
theorem runW_ok {C : CallFn} {N : Nat} {ops : Array Oper} : ∀ l : List Oper, DKW P C N ops l (runW P N ops l).run
  | [] => fun CK tm V U nx k _ h => ⟨[], tm, U, nx, rfl, h⟩
  | o :: l => by
    intro CK tm V U nx k hC h
    have ih := runW_ok (C := C) (N := N) (ops := ops) l
    have hs : (runW P N ops (o :: l)).run CK tm V U nx k = (drW P N ops o (runW P N ops l).run).run CK tm V U nx k := rfl
    rw [hs] at h
    clear hs
    have main : (drW0 P N o (runW P N ops l).run).run CK tm V U nx k = true → wantA ops tm o = some true → ∃ rs tm2 U2 nx2, runD P C N ops (o :: l) tm V U nx = some (rs, tm2, U2, nx2) ∧ k rs tm2 U2 nx2 = true := by
      intro h hw
      unfold drW0 at h
      have hb := bld_ok (P := P) o.op
      revert h hb
      simp only [W_rec]
      cases bld o.op P with
      | rd r =>
        intro h hb
        obtain ⟨hh, hb⟩ := hb
        obtain ⟨v, h1, h2⟩ := hb _ _ nx _ h
        obtain ⟨tm', h3, h4⟩ := putK_inv h2
        obtain ⟨rs, tm2, U2, nx2, h5, h6⟩ := ih _ _ _ _ _ _ hC h4
        exact ⟨_, tm2, U2, nx2, by simp only [runD, hw, Option.bind_some, hh, h1, h3, h5] <;> rfl, h6⟩
      | mk m =>
        intro h hb
        obtain ⟨hh, hb⟩ := hb
        obtain ⟨v, b, h1, h1', h2⟩ := hb _ _ _ _ h
        obtain ⟨tm', h3, h4⟩ := putK_inv h2
        rw [addK_eq] at h4
        obtain ⟨rs, tm2, U2, nx2, h5, h6⟩ := ih _ _ _ _ _ _ hC h4
        exact ⟨_, tm2, U2, nx2, by simp only [runD, hw, Option.bind_some, hh, h1, h3, h1', T.fz_eq, fn_eq, h5] <;> rfl, h6⟩
      | lv =>
        intro h hb
        replace hb : heavy P o.op = false := hb
        obtain ⟨⟨v, b⟩, h1, h2⟩ := oK_inv h
        have h1 : lev P (opnd tm) V nx o.op = some (v, b) := h1
        obtain ⟨tm', h3, h4⟩ := putK_inv h2
        cases b with
        | none =>
          obtain ⟨rs, tm2, U2, nx2, h5, h6⟩ := ih _ _ _ _ _ _ hC h4
          exact ⟨_, tm2, U2, nx2, by simp only [runD, hw, Option.bind_some, hb, h1, h3, h5] <;> rfl, h6⟩
        | some b =>
          obtain ⟨h7, h4⟩ := bool_inv h4
          rw [addK_eq] at h4
          obtain ⟨rs, tm2, U2, nx2, h5, h6⟩ := ih _ _ _ _ _ _ hC h4
          exact ⟨_, tm2, U2, nx2, by simp only [runD, hw, Option.bind_some, hb, h1, h3, h7, T.fz_eq, fn_eq, h5] <;> rfl, h6⟩
      | pl p =>
        intro h hb
        obtain ⟨hh, hb⟩ := hb
        obtain ⟨v, hp', nx', h1, h2⟩ := hb C _ _ _ none _ h
        obtain ⟨h7, h2⟩ := bool_inv h2
        obtain ⟨tm', h3, h4⟩ := putK_inv h2
        obtain ⟨rs, tm2, U2, nx2, h5, h6⟩ := ih _ _ _ _ _ _ hC h4
        exact ⟨_, tm2, U2, nx2, by simp only [runD, hw, Option.bind_some, hh, h1, h7, h3, h5] <;> rfl, h6⟩
      | cl c =>
        intro h hb
        obtain ⟨hh, hb⟩ := hb
        obtain ⟨out, _, h1, h2⟩ := hb C CK hC _ _ _ none _ _ h
        cases out with
        | ret v hp' nx' =>
          obtain ⟨h7, h2⟩ := bool_inv h2
          obtain ⟨tm', h3, h4⟩ := putK_inv h2
          obtain ⟨rs, tm2, U2, nx2, h5, h6⟩ := ih _ _ _ _ _ _ hC h4
          exact ⟨_, tm2, U2, nx2, by simp only [runD, hw, Option.bind_some, hh, h1, callRes, h7, h3, h5] <;> rfl, h6⟩
        | pan c hp' nx' => cases h2
      | rs => intro h; cases h
    unfold drW at h
    split at h
    · rename_i hg
      exact main h (by unfold wantA; rw [hg])
    · obtain ⟨w, h1, h2⟩ := oK_inv h
      cases w with
      | false =>
        obtain ⟨tm', h3, h4⟩ := putK_inv h2
        obtain ⟨rs, tm2, U2, nx2, h5, h6⟩ := ih _ _ _ _ _ _ hC h4
        exact ⟨_, tm2, U2, nx2, by simp only [runD, h1, Option.bind_some, h3, h5] <;> rfl, h6⟩
      | true => exact main h2 h1


noncomputable def calmOps (P : Program) (ops : Array Oper) : Bool := calmF P 0 0 0 (masksFrom [] ops.toList) ops.toList

/-! What stands ahead, unordered, and may matter: looked at once more. -/
noncomputable def eqK (a b : AVal) (k : A) : A := intE a (fun ka m => intE b (fun kb n => @Bool.rec (fun _ => A) false (@Bool.rec (fun _ => A) false k (Nat.beq m n)) (ka == kb)) (@Bool.rec (fun _ => A) false k (eqA a b))) (@Bool.rec (fun _ => A) false k (eqA a b))
noncomputable def eqG (a b : AVal) (k : A) : A := ptrS a (fun x y => ptrS b (fun x' y' => @Bool.rec (fun _ => A) false (@Bool.rec (fun _ => A) false k (Nat.beq y y')) (Nat.beq x x')) false) (@Bool.rec (fun _ => A) false k (eqA a b))
noncomputable def isIntB (a : AVal) : Bool := intE a (fun _ _ => true) false
noncomputable def sameV (a b : AVal) (k : A) : A := @Bool.rec (fun _ => A) (eqG a b k) (eqK a b k) (isIntB a)
theorem eqG_inv {a b : AVal} {k : A} (h : eqG a b k = true) : eqA a b = true ∧ k = true := by
  unfold eqG at h
  rw [ptrS_eq] at h
  split at h
  · rename_i x y
    rw [ptrS_eq] at h
    split at h
    · obtain ⟨h1, h⟩ := bool_inv h
      obtain ⟨h2, h⟩ := bool_inv h
      exact ⟨by simp only [eqA, h1, h2, Bool.and_self], h⟩
    · cases h
  · exact bool_inv h
theorem eqK_inv {a b : AVal} {k : A} (ha : isIntB a = true) (h : eqK a b k = true) : eqA a b = true ∧ k = true := by
  unfold isIntB at ha
  obtain ⟨ka, ⟨m, rfl, _⟩ | ⟨m, rfl, h0⟩⟩ := intE_inv ha
  · unfold eqK at h
    replace h : intE b (fun kb n => @Bool.rec (fun _ => A) false (@Bool.rec (fun _ => A) false k (Nat.beq m n)) (ka == kb)) (@Bool.rec (fun _ => A) false k (eqA (.int ka (.ofNat m)) b)) = true := h
    obtain ⟨kb, ⟨n, rfl, h⟩ | ⟨n, rfl, h⟩⟩ := intE_inv h
    · obtain ⟨h1, h3⟩ := bool_inv h
      obtain ⟨h2, h4⟩ := bool_inv h3
      have e := Nat.eq_of_beq_eq_true h2
      exact ⟨by simp only [eqA, h1, Bool.true_and, e]; simp, h4⟩
    · exact bool_inv h
  · cases h0
theorem sameV_inv {a b : AVal} {k : A} (h : sameV a b k = true) : eqA a b = true ∧ k = true := by
  unfold sameV at h
  cases hb : isIntB a with
  | true => rw [hb] at h; exact eqK_inv hb h
  | false => rw [hb] at h; exact eqG_inv h

abbrev SmF := Tm → Heap → Nat → AVal → Option ABlk → A → A
noncomputable def sameK (P : Program) (o : Op) : W SmF := @Bool.rec (fun _ => W SmF) ⟨fun _ _ _ _ _ k => k⟩
  (@Bld.rec (fun _ => W SmF)
    (fun r => @W.rec RdF (fun _ => W SmF) (fun r => ⟨fun tm V _ v b k => r tm V fun v' => @Option.rec ABlk (fun _ => A) (sameV v v' k) (fun _ => false) b⟩) r)
    (fun m => @W.rec MkF (fun _ => W SmF) (fun m => ⟨fun tm V nm v b k => m tm V nm fun v' b' => @Bool.rec (fun _ => A) false k (eqA v v' && eqB b (some b'))⟩) m)
    (@W.rec LevF (fun _ => W SmF) (fun l => ⟨fun tm V nm v b k => oK (l (opnd tm) V nm) fun p => @Bool.rec (fun _ => A) false k (eqA v p.1 && eqB b p.2)⟩) (levW P o))
    (fun _ => ⟨fun _ _ _ _ _ _ => false⟩) (fun _ => ⟨fun _ _ _ _ _ _ => false⟩) ⟨fun _ _ _ _ _ _ => false⟩ (bld o P)) (readsR o)
theorem sameK_inv {o : Op} {tm : Tm} {V : Heap} {nm : Nat} {v : AVal} {b : Option ABlk} {k : A} (h : (sameK P o).run tm V nm v b k = true) : sameL P tm V nm o v b = true ∧ k = true := by
  unfold sameK at h
  rw [readsR_eq] at h
  unfold sameL
  cases hr : reads o with
  | false => rw [hr] at h; exact ⟨rfl, h⟩
  | true =>
    rw [hr] at h
    simp only [Bool.not_true, Bool.false_or]
    have hb := bld_ok (P := P) o
    revert h hb
    cases bld o P with
    | rd r =>
      intro h hb
      obtain ⟨hh, hb⟩ := hb
      obtain ⟨v', h1, h2⟩ := hb _ _ nm _ h
      cases b with
      | some b => cases h2
      | none =>
        obtain ⟨h3, h4⟩ := sameV_inv h2
        exact ⟨by rw [h1]; simp only [h3, eqB, Bool.and_self], h4⟩
    | mk m =>
      intro h hb
      obtain ⟨hh, hb⟩ := hb
      obtain ⟨v', b', h1, h1', h2⟩ := hb _ _ _ _ h
      obtain ⟨h3, h4⟩ := bool_inv h2
      exact ⟨by rw [h1]; exact h3, h4⟩
    | lv =>
      intro h hb
      obtain ⟨⟨v', b'⟩, h1, h2⟩ := oK_inv h
      have h1 : lev P (opnd tm) V nm o = some (v', b') := h1
      obtain ⟨h3, h4⟩ := bool_inv h2
      exact ⟨by rw [h1]; exact h3, h4⟩
    | pl p => intro h; cases h
    | cl c => intro h; cases h
    | rs => intro h; cases h

abbrev AgK := Rec → Rec → A → A
noncomputable def agK (P : Program) (oi oj : Op) : W AgK := @W.rec SmF (fun _ => W AgK) (fun si => @W.rec SmF (fun _ => W AgK) (fun sj =>
  ⟨fun ri rj k => @Rec.rec (fun _ => A) k
    (fun tm nm v b => @Rec.rec (fun _ => A) k (fun _ _ _ _ => k) (fun V0 _ _ _ _ _ _ => si tm V0 nm v b k) rj)
    (fun _ _ _ _ _ V1 _ => @Rec.rec (fun _ => A) k (fun tm nm v b => @Option.rec ABlk (fun _ => A) (sj tm V1 nm v b k) (fun _ => false) b) (fun _ _ _ _ _ _ _ => false) rj) ri⟩) (sameK P oj)) (sameK P oi)
theorem agK_inv {m j : Nat} {oi oj : Oper} {ri rj : Rec} {k : A} (h : (agK P oi.op oj.op).run ri rj k = true) : against P m oi ri j oj rj = true ∧ k = true := by
  cases ri with
  | skip => cases rj <;> exact ⟨rfl, h⟩
  | light tm nm v b =>
    cases rj with
    | skip => exact ⟨rfl, h⟩
    | light => exact ⟨rfl, h⟩
    | heavy V0 tm' U nx' v' V1 nx1 =>
      obtain ⟨h1, h2⟩ := sameK_inv h
      exact ⟨by simp only [against, h1, Bool.or_true], h2⟩
  | heavy V0 tm' U nx' v' V1 nx1 =>
    cases rj with
    | skip => exact ⟨rfl, h⟩
    | light tm nm v b =>
      cases b with
      | some b => cases h
      | none =>
        obtain ⟨h1, h2⟩ := sameK_inv h
        exact ⟨by simp only [against, h1, Option.isNone_none, Bool.true_and, Bool.or_true], h2⟩
    | heavy => cases h

noncomputable def danger (P : Program) (m j : Nat) (oi oj : Op) : Bool := @Bool.rec (fun _ => Bool)
  (@Bool.rec (fun _ => Bool) (@Bool.rec (fun _ => Bool) false (readsR oi) (hvR P oj)) (@Bool.rec (fun _ => Bool) (readsR oj || mkrR oj) true (hvR P oj)) (hvR P oi)) false (Nat.testBit m j)
theorem danger_not {os0 : List Oper} {rs0 : List Rec} (hR : RecsOK P os0 rs0) {m j i : Nat} {oi oj : Oper} {ri rj : Rec} (hoi : os0[i]? = some oi) (hri : rs0[i]? = some ri) (hoj : os0[j]? = some oj) (hrj : rs0[j]? = some rj)
    (hd : danger P m j oi.op oj.op = false) : against P m oi ri j oj rj = true := by
  have hr1 := hR.at hoi hri
  have hr2 := hR.at hoj hrj
  unfold danger at hd
  rw [hvR_eq, hvR_eq, readsR_eq, readsR_eq] at hd
  cases hb : Nat.testBit m j with
  | true =>
    cases ri <;> cases rj <;> simp [against, hb]
  | false =>
    rw [hb] at hd
    cases ri with
    | skip => cases rj <;> rfl
    | light tm nm v b =>
      cases rj with
      | skip => rfl
      | light => rfl
      | heavy V0 tm' U nx' v' V1 nx1 =>
        obtain ⟨q1, q2⟩ := hr1
        have q3 : heavy P oj.op = true := hr2
        rw [q1, q3] at hd
        have hd : reads oi.op = false := hd
        simp [against, sameL, hd]
    | heavy V0 tm' U nx' v' V1 nx1 =>
      have q1 : heavy P oi.op = true := hr1
      cases rj with
      | skip => rfl
      | light tm nm v b =>
        obtain ⟨q2, q3⟩ := hr2
        rw [q1, q2] at hd
        have hd : (reads oj.op || mkrR oj.op) = false := hd
        simp only [Bool.or_eq_false_iff] at hd
        rcases q3 with rfl | q3
        · simp [against, sameL, hd.1]
        · rw [hd.2] at q3; cases q3
      | heavy _ _ _ _ _ _ _ =>
        have q2 : heavy P oj.op = true := hr2
        rw [q1, q2] at hd
        cases hd

abbrev RwF := Rec → List Rec → A → A
noncomputable def pairW (P : Program) (oi oj : Op) (j : Nat) (rest : W RwF) : W RwF := @W.rec RwF (fun _ => W RwF) (fun f => @W.rec AgK (fun _ => W RwF) (fun g => ⟨fun ri rs k => nthK rs j fun rj => g ri rj (f ri rs k)⟩) (agK P oi oj)) rest
noncomputable def rowW (P : Program) (m : Nat) (oi : Oper) : Nat → Nat → List Oper → W RwF
  | 0, _, _ => ⟨fun _ _ k => k⟩
  | n + 1, j, oj :: os => @Bool.rec (fun _ => W RwF) (rowW P m oi n (j + 1) os) (pairW P oi.op oj.op j (rowW P m oi n (j + 1) os)) (danger P m j oi.op oj.op)
  | _ + 1, _, [] => ⟨fun _ _ _ => false⟩
theorem rowW_inv {os0 : List Oper} {rs0 : List Rec} (hR : RecsOK P os0 rs0) {m i : Nat} {oi : Oper} {ri : Rec} (hoi : os0[i]? = some oi) (hri : rs0[i]? = some ri) : ∀ (n j : Nat) (os : List Oper) (k : A), (∀ q : Nat, os[q]? = os0[j + q]?) → (rowW P m oi n j os).run ri rs0 k = true →
    (∀ q oq rq, q < n → os[q]? = some oq → rs0[j + q]? = some rq → against P m oi ri (j + q) oq rq = true) ∧ k = true
  | 0, j, os, k, _, h => ⟨fun q _ _ hq => by omega, h⟩
  | n + 1, j, [], k, _, h => by cases h
  | n + 1, j, oj :: os, k, ho, h => by
    have hoj : os0[j]? = some oj := by have := ho 0; simpa using this.symm
    have ho' : ∀ q : Nat, os[q]? = os0[j + 1 + q]? := fun q => by have := ho (q + 1); rw [show j + 1 + q = j + (q + 1) by omega, ← this]; simp
    unfold rowW at h
    have fin : (∀ rq, rs0[j]? = some rq → against P m oi ri j oj rq = true) → (∀ q oq rq, q < n → os[q]? = some oq → rs0[j + 1 + q]? = some rq → against P m oi ri (j + 1 + q) oq rq = true) →
        ∀ q oq rq, q < n + 1 → (oj :: os)[q]? = some oq → rs0[j + q]? = some rq → against P m oi ri (j + q) oq rq = true := by
      intro h1 h2 q oq rq hq hoq hrq
      cases q with
      | zero => simp at hoq; subst hoq; exact h1 rq hrq
      | succ q =>
        have := h2 q oq rq (by omega) (by simpa using hoq) (by rw [show j + 1 + q = j + (q + 1) by omega]; exact hrq)
        rwa [show j + 1 + q = j + (q + 1) by omega] at this
    cases hd : danger P m j oi.op oj.op with
    | false =>
      rw [hd] at h
      obtain ⟨h1, h2⟩ := rowW_inv hR hoi hri n (j + 1) os k ho' h
      exact ⟨fin (fun rq hrq => danger_not hR hoi hri hoj hrq hd) h1, h2⟩
    | true =>
      rw [hd] at h
      obtain ⟨rj, h1, h⟩ := nthK_inv h
      obtain ⟨h2, h⟩ := agK_inv (m := m) (j := j) (oi := oi) (oj := oj) h
      obtain ⟨h3, h4⟩ := rowW_inv hR hoi hri n (j + 1) os k ho' h
      refine ⟨fin (fun rq hrq => ?_) h3, h4⟩
      rw [nth_eq] at h1
      rw [hrq] at h1
      cases h1
      exact h2
abbrev AlF := List Rec → A → A
noncomputable def allW (P : Program) (os0 : List Oper) : Nat → List Nat → List Oper → W AlF
  | _, [], [] => ⟨fun _ k => k⟩
  | i, m :: ms, o :: os => @W.rec RwF (fun _ => W AlF) (fun f => @W.rec AlF (fun _ => W AlF) (fun g => ⟨fun rs k => nthK rs i fun ri => f ri rs (g rs k)⟩) (allW P os0 (i + 1) ms os)) (rowW P m o i 0 os0)
  | _, _, _ => ⟨fun _ _ => false⟩
theorem allW_inv {os0 : List Oper} {rs0 : List Rec} (hR : RecsOK P os0 rs0) {k : A} (ms : List Nat) : ∀ (i : Nat) (os : List Oper) (rs : List Rec), (∀ q : Nat, os[q]? = os0[i + q]?) → (∀ q : Nat, rs[q]? = rs0[i + q]?) → i + os.length = os0.length → rs.length = os.length →
    (allW P os0 i ms os).run rs0 k = true → chk P os0 rs0 i ms os rs = true ∧ k = true := by
  induction ms with
  | nil =>
    intro i os rs _ _ _ hl h
    cases os with
    | nil =>
      have : rs = [] := List.eq_nil_of_length_eq_zero (by simpa using hl)
      subst this
      exact ⟨rfl, h⟩
    | cons o os => cases h
  | cons m ms ih =>
    intro i os rs ho hr hi hl h
    cases os with
    | nil => cases h
    | cons o os =>
      cases rs with
      | nil => simp at hl
      | cons r rs =>
        have hoi : os0[i]? = some o := by have := ho 0; simpa using this.symm
        have hri : rs0[i]? = some r := by have := hr 0; simpa using this.symm
        obtain ⟨ri, h1, h⟩ := nthK_inv h
        rw [nth_eq, hri] at h1
        cases h1
        obtain ⟨h2, h⟩ := rowW_inv hR hoi hri i 0 os0 _ (fun q => by rw [Nat.zero_add]) h
        obtain ⟨h3, h4⟩ := ih (i + 1) os rs (fun k => by have := ho (k + 1); rw [show i + 1 + k = i + (k + 1) by omega, ← this]; simp)
          (fun k => by have := hr (k + 1); rw [show i + 1 + k = i + (k + 1) by omega, ← this]; simp)
          (by simp only [List.length_cons] at hi; omega) (by simpa using hl) h
        have hp1 : chk1 P m o r 0 os0 rs0 i = true := chk1_all i 0 os0 rs0 (by omega) hR.len fun q oq rq hq h5 h6 => h2 q oq rq hq h5 (by rw [Nat.zero_add]; exact h6)
        exact ⟨by rw [chk, hp1, h3]; rfl, h4⟩

noncomputable def drawnK (P : Program) (N : Nat) (ops : Array Oper) : W SK :=
  @Bool.rec (fun _ => W SK)
      (@W.rec AlF (fun _ => W SK) (fun g => @W.rec DK (fun _ => W SK) (fun f => ⟨fun e kn tm hp nx z => f (callE e) tm hp hp nx fun rs tm hp nx => g rs (kn tm hp nx z)⟩) (runW P N ops ops.toList)) (allW P ops.toList 0 (masksFrom [] ops.toList) ops.toList))
      (@W.rec DK (fun _ => W SK) (fun f => ⟨fun e kn tm hp nx z => f (callE e) tm hp hp nx fun _ tm hp nx => kn tm hp nx z⟩) (runC P N ops ops.toList))
      (calmOps P ops)
theorem drawnK_ok {C : CallFn} {N : Nat} {ops : Array Oper} (hok : okR ops = true) : SKOK C (drawnK P N ops).run (drawnA P C N ops) := by
  intro e kn tm hp nx z hC h
  unfold drawnK at h
  cases hc : calmOps P ops with
  | false =>
    rw [hc] at h
    obtain ⟨rs, tm2, U2, nx2, h1, h2⟩ := runW_ok (P := P) (C := C) (N := N) (ops := ops) ops.toList _ _ _ _ _ _ hC h
    have hR := runD_recs h1
    obtain ⟨h3, h4⟩ := allW_inv hR _ 0 _ _ (fun k => by simp) (fun k => by simp) (by simp) hR.len h2
    refine ⟨(.normal, ⟨tm2, U2, nx2, z.df, z.md⟩), ?_, h4⟩
    simp only [drawnA, hok, h1, Option.bind_some, h3]
  | true =>
    rw [hc] at h
    obtain ⟨rs, tm2, U2, nx2, h1, h2⟩ := runC_ok (P := P) (C := C) (N := N) (ops := ops) ops.toList _ _ _ _ _ _ hC h
    have hR := runD_recs h1
    have h3 : chk P ops.toList rs 0 (masksFrom [] ops.toList) ops.toList rs = true :=
      calm_chk hR _ 0 0 0 _ _ (fun k => by simp) (fun k => by simp) (by simp) hR.len (fun j oj hj => by omega) hc
    refine ⟨(.normal, ⟨tm2, U2, nx2, z.df, z.md⟩), ?_, h2⟩
    simp only [drawnA, hok, h1, Option.bind_some, h3]
end Go.Mu

namespace Go.Mu
variable {P : Program}

/-! Code. -/
noncomputable def blkX (id : Nat) (kn : KN) (kx : KX) (x : AExit) : KN := @AExit.rec (fun _ => KN) kn (fun i => @Bool.rec (fun _ => KN) (kx (.exit i)) kn (Nat.beq i id)) (fun l => kx (.goto l)) (kx .ret) (fun c => kx (.panic c)) x
noncomputable def scpX (kx : KX) (x : AExit) : KN := @AExit.rec (fun _ => KN) (fun _ _ _ _ => false) (fun i => kx (.exit i)) (fun _ _ _ _ _ => false) (kx .ret) (fun c => kx (.panic c)) x
noncomputable def loopK (rb : SK) (e : E) (f : Nat) : KN := @Nat.rec (fun _ => KN) (fun _ _ _ _ => false) (fun _ ih tm hp nx z => rb e ih tm hp nx z) f
noncomputable def loopE (rb : SK) (LF : Nat) (e : E) (_ : KN) : KN := loopK rb e LF
noncomputable def runWd (w : W SK) (e : E) (kn : KN) (tm : Tm) (hp : Heap) (nx : Nat) (z : Z) : A := @W.rec SK (fun _ => A) (fun f => f e kn tm hp nx z) w
noncomputable def extX (x : AExit) (e : E) (_ : KN) (tm : Tm) (hp : Heap) (nx : Nat) (z : Z) : A := extE x e tm hp nx z

abbrev CdF := Program → Nat → Nat → W SK
noncomputable def cEnd : CdF := fun _ _ _ => ⟨endE⟩
noncomputable def cNo : CdF := fun _ _ _ => ⟨fun _ _ _ _ _ _ => false⟩
noncomputable def cReg (_ : Nat) (ops : Array Oper) (dr : Bool) : CdF := fun P N _ => @Bool.rec (fun _ => W SK) (regK P N ops ops.toList) (drawnK P N ops) dr
noncomputable def cSeq (_ _ : Code) (a b : CdF) : CdF := fun P N LF => @W.rec SK (fun _ => W SK) (fun ra => @W.rec SK (fun _ => W SK) (fun rb => ⟨fun e kn => ra e (rb e kn)⟩) (b P N LF)) (a P N LF)
noncomputable def cCond (c : Operand) (_ _ : Code) (a b : CdF) : CdF := fun P N LF => @W.rec GtF (fun _ => W SK) (fun g => ⟨fun e kn tm hp nx z => g tm fun v => condE v (runWd (a P N LF) e kn tm hp nx z) (runWd (b P N LF) e kn tm hp nx z)⟩) (opK c)
noncomputable def cBlk (id : Nat) (_ : Code) (b : CdF) : CdF := fun P N LF => @W.rec SK (fun _ => W SK) (fun rb => ⟨fun e kn tm hp nx z => @E.rec (fun _ => A) (fun C kx => rb (E.mk C (blkX id kn kx)) kn tm hp nx z) e⟩) (b P N LF)
noncomputable def cLoop (_ : Code) (b : CdF) : CdF := fun P N LF => @W.rec SK (fun _ => W SK) (fun rb => ⟨loopE rb LF⟩) (b P N LF)
/-! A range over a function. -/
noncomputable def loopBE (b : ABlk) (f : Option Code → A) : A := @ABlk.rec (fun _ => A) (fun _ _ => false) (fun _ _ _ _ => false) (fun _ _ => false) (fun _ _ => false) (fun _ _ _ _ => false) false (fun _ p _ _ _ _ _ => f p) b
theorem loopBE_inv {b : ABlk} {f : Option Code → A} (h : loopBE b f = true) : ∃ d p tm N ps x y, b = .loop d p tm N ps x y ∧ f p = true := by
  cases b <;> first | exact Bool.noConfusion h | exact ⟨_, _, _, _, _, _, _, rfl, h⟩
noncomputable def dblkE (b : ABlk) (x : A) : A := @ABlk.rec (fun _ => A) (fun _ _ => false) (fun _ _ _ _ => false) (fun _ _ => false) (fun _ _ => false) (fun _ _ _ _ => false) x (fun _ _ _ _ _ _ _ => false) b
theorem dblkE_inv {b : ABlk} {x : A} (h : dblkE b x = true) : b = .dblk ∧ x = true := by
  cases b <;> first | exact Bool.noConfusion h | exact ⟨rfl, h⟩
noncomputable def jumpK (kn : KN) (kx : KX) (p : Option Code) : KN := @Option.rec Code (fun _ => KN) kn (fun c => fun tm hp nx z => oK (jumpE (some c)) fun x => kx x tm hp nx z) p
noncomputable def rangeK (P : Program) (N : Nat) (gv : GtF) (ps : Array Tmp) (x y : Code) (C : CallK) (kn : KN) (kx : KX) (df : List ADf) (tm : Tm) (hp : Heap) (nx : Nat) : A :=
  gv tm fun v => funE v fun fn first cap => fnS (Nat.succ nx) fun n1 => oK (targetA P fn cap (appS first [.yld n1])) fun p =>
    @Bool.rec (fun _ => A) false (hsetK hp nx .dblk fun hp => hsetK hp n1 (.loop false none tm N ps.toList x y) fun hp => fnS (Nat.succ n1) fun n2 =>
      C p.1 p.2 hp n2 (fun _ hp nx' => hgetK hp n1 fun k => loopBE k fun pend => hdelK hp n1 fun hp => jumpK kn kx pend tm hp nx' (Z.mk (ADf.mk (.func 0) [] [] (some nx) :: df) none))
        (fun _ _ _ => false)) (hasBody P p.1)
noncomputable def cRange (g : Operand) (ps : Array Tmp) (x y : Code) (_ _ : CdF) : CdF := fun P N _ => @W.rec GtF (fun _ => W SK) (fun gv =>
  ⟨fun e kn tm hp nx z => @E.rec (fun _ => A) (fun C kx => @Z.rec (fun _ => A) (fun df md => @Option.rec AMode (fun _ => A) (rangeK P N gv ps x y C kn kx df tm hp nx) (fun _ => false) md) z) e⟩) (opK g)
noncomputable def cExit (id : Nat) : CdF := fun _ _ _ => ⟨extX (.exit id)⟩
noncomputable def cScp (_ : Code) (b : CdF) : CdF := fun P N LF => @W.rec SK (fun _ => W SK) (fun rb => ⟨fun e kn tm hp nx z => @E.rec (fun _ => A) (fun C kx => rb (E.mk C (scpX kx)) kn tm hp nx z) e⟩) (b P N LF)
noncomputable def cLab (_ : Nat) : CdF := cEnd
noncomputable def cGoto (l : Nat) : CdF := fun _ _ _ => ⟨extX (.goto l)⟩
noncomputable def cRet : CdF := fun _ _ _ => ⟨extX .ret⟩
noncomputable def cRefuse (_ : String) : CdF := cNo
noncomputable def codeR (c : Code) : CdF := @Code.rec (fun _ => CdF) cEnd cReg cSeq cCond cBlk cLoop cRange cExit cScp cLab cGoto cRet cRefuse c
noncomputable def codeK (P : Program) (N LF : Nat) (c : Code) : W SK := codeR c P N LF

/-- All regions whose order is drawn are fit. -/
def okC : Code → Bool
  | .region _ ops true => okR ops
  | .seq a b => okC a && okC b
  | .cond _ a b => okC a && okC b
  | .block _ b => okC b
  | .loop b => okC b
  | .scope b => okC b
  | _ => true

theorem loopK_ok {C : CallFn} {rb : SK} {spec : St → Option (AExit × St)} (hb : SKOK C rb spec) {e : E} (hC : CallRel C e.C) {kn : KN} : ∀ (f : Nat) (tm : Tm) (hp : Heap) (nx : Nat) (z : Z), loopK rb e f tm hp nx z = true →
    ∃ r, loopA spec f ⟨tm, hp, nx, z.df, z.md⟩ = some r ∧ outR e kn r = true
  | 0, _, _, _, _, h => by cases h
  | f + 1, tm, hp, nx, z, h => by
    replace h : rb e (loopK rb e f) tm hp nx z = true := h
    obtain ⟨⟨x, st⟩, h1, h2⟩ := hb _ _ _ _ _ _ hC h
    simp only [loopA, h1]
    cases x with
    | normal => exact loopK_ok hb hC (kn := kn) f _ _ _ _ h2
    | _ => exact ⟨_, rfl, h2⟩

theorem codeK_ok {C : CallFn} {N LF : Nat} : ∀ c : Code, okC c = true → SKOK C (codeK P N LF c).run (evC P C N (drawnA P C N) LF c) := by
  intro c
  induction c with
  | region id ops dr =>
    intro hok
    cases dr with
    | false =>
      intro e kn tm hp nx z hC h
      have := regK_ok (P := P) (C := C) (N := N) (ops := ops) ops.toList e kn tm hp nx z hC h
      simpa only [evC] using this
    | true =>
      intro e kn tm hp nx z hC h
      have := drawnK_ok (P := P) (C := C) (N := N) (ops := ops) hok e kn tm hp nx z hC h
      simpa only [evC] using this
  | seq a b iha ihb =>
    intro hok e kn tm hp nx z hC h
    simp only [okC, Bool.and_eq_true] at hok
    obtain ⟨⟨x, st⟩, h1, h2⟩ := iha hok.1 e ((codeK P N LF b).run e kn) tm hp nx z hC h
    simp only [evC, h1]
    cases x with
    | normal => exact ihb hok.2 e kn st.tm st.hp st.nx ⟨st.df, st.md⟩ hC h2
    | _ => exact ⟨_, rfl, h2⟩
  | cond c a b iha ihb =>
    intro hok e kn tm hp nx z hC h
    simp only [okC, Bool.and_eq_true] at hok
    have hh := opK_inv h
    clear h
    obtain ⟨v, h1, h⟩ := hh
    have hh := condE_inv h
    clear h
    obtain ⟨t, rfl, h⟩ := hh
    simp only [evC, h1]
    cases t with
    | true => exact iha hok.1 e kn tm hp nx z hC h
    | false => exact ihb hok.2 e kn tm hp nx z hC h
  | block id b ih =>
    intro hok e kn tm hp nx z hC h
    cases e with
    | mk EC kx =>
    obtain ⟨⟨x, st⟩, h1, h2⟩ := ih hok (E.mk EC (blkX id kn kx)) kn tm hp nx z hC h
    simp only [evC, h1]
    cases x with
    | exit i =>
      replace h2 : (@Bool.rec (fun _ => KN) (kx (.exit i)) kn (Nat.beq i id)) st.tm st.hp st.nx ⟨st.df, st.md⟩ = true := h2
      by_cases hi : i = id
      · subst hi
        have hb : Nat.beq i i = true := by simp
        rw [hb] at h2
        exact ⟨(.normal, st), by simp only [if_true], h2⟩
      · have hb : Nat.beq i id = false := by cases hb : Nat.beq i id with | false => rfl | true => exact absurd (Nat.eq_of_beq_eq_true hb) hi
        rw [hb] at h2
        exact ⟨(.exit i, st), by simp only [hi, if_false], h2⟩
    | _ => exact ⟨_, rfl, h2⟩
  | loop b ih =>
    intro hok e kn tm hp nx z hC h
    simp only [evC]
    exact loopK_ok (ih hok) hC (kn := kn) LF tm hp nx z h
  | scope b ih =>
    intro hok e kn tm hp nx z hC h
    cases e with
    | mk EC kx =>
    obtain ⟨⟨x, st⟩, h1, h2⟩ := ih hok (E.mk EC (scpX kx)) kn tm hp nx z hC h
    simp only [evC, h1]
    cases x with
    | goto l => cases h2
    | _ => exact ⟨_, rfl, h2⟩
  | skip => intro _ e kn tm hp nx z hC h; exact ⟨_, rfl, h⟩
  | label l => intro _ e kn tm hp nx z hC h; exact ⟨_, rfl, h⟩
  | exit i => intro _ e kn tm hp nx z hC h; exact ⟨_, rfl, h⟩
  | goto l => intro _ e kn tm hp nx z hC h; exact ⟨_, rfl, h⟩
  | ret => intro _ e kn tm hp nx z hC h; exact ⟨_, rfl, h⟩
  | rangeFunc g ps x y _ _ =>
    intro _ e kn tm hp nx z hC h
    cases e with
    | mk EC kx =>
    cases z with
    | mk df md =>
    cases md with
    | some m => cases h
    | none =>
    replace h : rangeK P N (opK g).run ps x y EC kn kx df tm hp nx = true := h
    unfold rangeK at h
    have hh := opK_inv h
    clear h
    obtain ⟨v, h1, h⟩ := hh
    have hh := funE_inv h
    clear h
    obtain ⟨fn, first, cap, rfl, h⟩ := hh
    rw [fnS_eq] at h
    have hh := oK_inv h
    clear h
    obtain ⟨⟨f, args⟩, h2, h⟩ := hh
    have h2 : targetA P fn cap (appS first [.yld (nx + 1)]) = some (f, args) := h2
    have hh := bool_inv h
    clear h
    obtain ⟨h3, h⟩ := hh
    have h3 : hasBody P f = true := h3
    rw [hsetK_eq, hsetK_eq, fnS_eq] at h
    have hh := hC _ _ _ _ _ _ h
    clear h
    obtain ⟨o, h4, h⟩ := hh
    simp only [evC, rangeA, h1, Option.bind_some, h2, h3, if_true]
    have h4 : C f args (rangeHp ⟨tm, hp, nx, df, none⟩ N ps x y) (nx + 2) = some o := h4
    simp only [h4, Option.bind_some]
    cases o with
    | pan c hp' nx' => cases h
    | ret v' hp' nx' =>
      have hh := hgetK_inv h
      clear h
      obtain ⟨k, h5, h⟩ := hh
      have hh := loopBE_inv h
      clear h
      obtain ⟨d, pend, tm1, N1, ps1, x1, y1, rfl, h⟩ := hh
      have h5 : hp'.get (nx + 1) = some _ := h5
      simp only [h5, Option.bind_some]
      rw [hdelK_eq] at h
      cases pend with
      | none => exact ⟨_, rfl, h⟩
      | some c =>
        have hh := oK_inv h
        clear h
        obtain ⟨e1, h6, h⟩ := hh
        refine ⟨(e1, rangeEnd ⟨tm, hp, nx, df, none⟩ hp' nx'), by simp only [h6, Option.bind_some], ?_⟩
        cases e1 with
        | normal => cases c <;> simp [jumpE] at h6
        | _ => exact h
  | refuse => intro _ e kn tm hp nx z hC h; cases h

/-! Functions and calls. -/
abbrev ReF := Tm → Heap → (AVal → A) → A
noncomputable def res1K (P : Program) (r : ResultVar) : W ReF :=
  match r with
  | .tmp t => @W.rec GtF (fun _ => W ReF) (fun g => ⟨fun tm _ k => g tm k⟩) (getK t)
  | .cell a t => @W.rec GtF (fun _ => W ReF) (fun g => ⟨fun tm hp k => g tm fun v => ptrE v fun b o => oK (loadT P hp t b o) k⟩) (getK a)
def res1A (P : Program) (tm : Tm) (hp : Heap) (r : ResultVar) : Option AVal := match r with
  | .tmp t => tm.get t
  | .cell a t => match tm.get a with
    | some (.ptr b o) => loadT P hp t b o
    | _ => none
theorem resultsA_cons (tm : Tm) (hp : Heap) (r : ResultVar) (l : List ResultVar) : resultsA P tm hp (r :: l) = (res1A P tm hp r).bind fun v => (resultsA P tm hp l).bind fun r => some (v :: r) := by cases r <;> rfl
theorem getK_inv {t : Nat} {tm : Tm} {k : AVal → A} (h : (getK t).run tm k = true) : ∃ v, tm.get t = some v ∧ k v = true := by rw [getK_eq] at h; exact oK_inv h
theorem res1K_inv {r : ResultVar} {tm : Tm} {hp : Heap} {k : AVal → A} (h : (res1K P r).run tm hp k = true) : ∃ v, res1A P tm hp r = some v ∧ k v = true := by
  cases r with
  | tmp t => exact getK_inv h
  | cell a t =>
    obtain ⟨v, h1, h2⟩ := getK_inv h
    have hh := ptrE_inv h2
    clear h2
    obtain ⟨b, o, rfl, h2⟩ := hh
    obtain ⟨v, h3, h4⟩ := oK_inv h2
    exact ⟨v, by simp only [res1A, h1, h3], h4⟩
noncomputable def resK (P : Program) (l : List ResultVar) : W (Tm → Heap → (List AVal → A) → A) := @List.rec ResultVar (fun _ => W (Tm → Heap → (List AVal → A) → A))
  ⟨fun _ _ k => k []⟩ (fun r _ ih => @W.rec ReF (fun _ => W (Tm → Heap → (List AVal → A) → A)) (fun f => @W.rec _ (fun _ => W (Tm → Heap → (List AVal → A) → A)) (fun g => ⟨fun tm hp k => f tm hp fun v => g tm hp fun l => k (v :: l)⟩) ih) (res1K P r)) l
theorem resK_inv : ∀ {l : List ResultVar} {tm : Tm} {hp : Heap} {k : List AVal → A}, (resK P l).run tm hp k = true → ∃ vs, resultsA P tm hp l = some vs ∧ k vs = true
  | [], tm, hp, k, h => ⟨[], rfl, h⟩
  | r :: l, tm, hp, k, h => by
    replace h : (res1K P r).run tm hp (fun v => (resK P l).run tm hp fun l => k (v :: l)) = true := h
    obtain ⟨v, h1, h2⟩ := res1K_inv h
    obtain ⟨vs, h3, h4⟩ := resK_inv h2
    exact ⟨v :: vs, by rw [resultsA_cons, h1, Option.bind_some, h3]; rfl, h4⟩
noncomputable def resW (P : Program) (l : List ResultVar) : W ReF :=
  match l with
  | [r] => res1K P r
  | l => @W.rec _ (fun _ => W ReF) (fun f => ⟨fun tm hp k => f tm hp fun l => @List.rec AVal (fun _ => A) (k (.tup [])) (fun v r _ => @List.rec AVal (fun _ => A) (k v) (fun _ _ _ => k (.tup l)) r) l⟩) (resK P l)
def ResOK (P : Program) (l : List ResultVar) (res : ReF) : Prop := ∀ tm hp k, res tm hp k = true → ∃ vs, resultsA P tm hp l = some vs ∧ k (tupleA vs) = true
theorem resW_ok (l : List ResultVar) : ResOK P l (resW P l).run := by
  intro tm hp k h
  unfold resW at h
  split at h
  · rename_i r
    obtain ⟨v, h1, h2⟩ := res1K_inv h
    exact ⟨[v], by rw [resultsA_cons, h1]; rfl, h2⟩
  · obtain ⟨vs, h1, h2⟩ := resK_inv h
    refine ⟨vs, h1, ?_⟩
    match vs, h2 with
    | [], h2 => exact h2
    | [v], h2 => exact h2
    | _ :: _ :: _, h2 => exact h2

abbrev DCallK := FuncId → List AVal → AMode → Heap → Nat → (Out → AMode → A) → A
def DCallRel (D : DCallFn) (DK : DCallK) : Prop := ∀ f args u hp nx k, DK f args u hp nx k = true → ∃ o u', D f args u hp nx = some (o, u') ∧ k o u' = true

noncomputable def leaveK (P : Program) (D : DCallK) (res : ReF) (tm : Tm) (kr : KR) (kp : KP) : List ADf → AMode → Heap → Nat → A := @List.rec ADf (fun _ => AMode → Heap → Nat → A)
  (fun u hp nx => @AMode.rec (fun _ => A) (res tm hp fun v => kr v hp nx) (fun c => kp c hp nx) u)
  (fun d _ ih u hp nx => @Option.rec Nat (fun _ => A) (oK (targetA P d.fn d.cap d.args) fun p => D p.1 p.2 u hp nx fun o u => @Out.rec (fun _ => A) (fun _ hp nx => oK (settleA u) fun u => ih u hp nx) (fun c hp nx => ih (raisedA u c) hp nx) o)
    (fun b => hgetK hp b fun k => dblkE k (hdelK hp b fun hp => ih u hp nx)) d.mark)
theorem leaveK_inv {D : DCallFn} {DK : DCallK} (hD : DCallRel D DK) {fn : Func} {res : ReF} (hres : ResOK P fn.results.toList res) {tm : Tm} {kr : KR} {kp : KP} : ∀ {l : List ADf} {u : AMode} {hp : Heap} {nx : Nat}, leaveK P DK res tm kr kp l u hp nx = true →
    ∃ o, leaveA P D fn tm l u hp nx = some o ∧ outK kr kp o = true
  | [], u, hp, nx, h => by
    cases u with
    | returning =>
      obtain ⟨vs, h1, h2⟩ := hres _ _ _ h
      exact ⟨.ret (tupleA vs) hp nx, by simp only [leaveA, h1, Option.bind_some], h2⟩
    | panicking c => exact ⟨.pan c hp nx, rfl, h⟩
  | ⟨dfn, dcap, dargs, some b⟩ :: l, u, hp, nx, h => by
    have hh := hgetK_inv h
    clear h
    obtain ⟨k, h1, h⟩ := hh
    obtain ⟨rfl, h2⟩ := dblkE_inv h
    rw [hdelK_eq] at h2
    obtain ⟨o, h7, h8⟩ := leaveK_inv hD hres (l := l) h2
    exact ⟨o, by simp only [leaveA, h1, Option.bind_some]; exact h7, h8⟩
  | ⟨dfn, dcap, dargs, none⟩ :: l, u, hp, nx, h => by
    obtain ⟨⟨f, args⟩, h1, h2⟩ := oK_inv h
    obtain ⟨o, u', h3, h4⟩ := hD _ _ _ _ _ _ h2
    have h3 : D f args u hp nx = some (o, u') := h3
    cases o with
    | ret v hp' nx' =>
      obtain ⟨u2, h5, h6⟩ := oK_inv h4
      obtain ⟨o, h7, h8⟩ := leaveK_inv hD hres h6
      exact ⟨o, by simp only [leaveA, h1, Option.bind_some, h3, h5]; exact h7, h8⟩
    | pan c hp' nx' =>
      obtain ⟨o, h7, h8⟩ := leaveK_inv hD hres (l := l) h4
      exact ⟨o, by simp only [leaveA, h1, Option.bind_some, h3]; exact h7, h8⟩

abbrev AgF := List AVal → Tm → (Tm → A) → A
noncomputable def argsK (fuel : Nat) : Nat → W AgF := @Nat.rec (fun _ => Nat → W AgF)
  (fun _ => ⟨fun l tm k => @List.rec AVal (fun _ => A) (k tm) (fun _ _ _ => false) l⟩)
  (fun _ ih i => @W.rec PtF (fun _ => W AgF) (fun s => @W.rec AgF (fun _ => W AgF) (fun r => ⟨fun l tm k => @List.rec AVal (fun _ => A) (k tm) (fun v l _ => s v tm fun tm => r l tm k) l⟩) (ih (Nat.succ i))) (setK i)) fuel
theorem argsK_inv : ∀ {fuel i : Nat} {l : List AVal} {tm : Tm} {k : Tm → A}, (argsK fuel i).run l tm k = true → l.length ≤ fuel ∧ k (argsTm i l tm) = true
  | 0, i, [], tm, k, h => ⟨by simp, h⟩
  | 0, i, _ :: _, tm, k, h => by cases h
  | f + 1, i, [], tm, k, h => ⟨by simp, h⟩
  | f + 1, i, v :: l, tm, k, h => by
    replace h : (setK i).run v tm (fun tm => (argsK f (Nat.succ i)).run l tm k) = true := h
    rw [setK_eq] at h
    obtain ⟨h1, h2⟩ := argsK_inv h
    exact ⟨by simpa using h1, by simp only [argsTm, fn_eq]; exact h2⟩

abbrev FnF := CallK → DCallK → List AVal → Heap → Nat → KR → KP → A
noncomputable def funX (kn : KN) (lp : List (AVal × Bool) → KN) (x : AExit) : KN := @AExit.rec (fun _ => KN) (fun _ _ _ _ => false) (fun _ _ _ _ _ => false) (fun _ _ _ _ _ => false) kn lp x
noncomputable def enterF (P : Program) (rc : SK) (res : ReF) (C : CallK) (D : DCallK) (hp : Heap) (nx : Nat) (kr : KR) (kp : KP) (tm : Tm) : A :=
  (fun (kn : KN) => rc (E.mk C (funX kn fun c tm hp nx z => @Z.rec (fun _ => A) (fun df _ => leaveK P D res tm kr kp df (.panicking c) hp nx) z)) kn tm hp nx (Z.mk [] none))
    (fun tm hp nx z => @Z.rec (fun _ => A) (fun df _ => leaveK P D res tm kr kp df .returning hp nx) z)
noncomputable def funF (P : Program) (LF : Nat) (fn : Func) : W FnF := @Option.rec Code (fun _ => W FnF) ⟨fun _ _ _ _ _ _ _ => false⟩
    (fun c => @Bool.rec (fun _ => W FnF) ⟨fun _ _ _ _ _ _ _ => false⟩
        (@W.rec SK (fun _ => W FnF) (fun rc => @W.rec ReF (fun _ => W FnF) (fun res => @W.rec AgF (fun _ => W FnF) (fun ag =>
          ⟨fun C D args hp nx kr kp => ag args .e (enterF P rc res C D hp nx kr kp)⟩) (argsK (fn.params.size + fn.nfree) 0)) (resW P fn.results.toList)) (codeK P fn.ntmps LF c)) (Nat.ble (fn.params.size + fn.nfree) fn.ntmps)) fn.body
noncomputable def funcsW (P : Program) : W (Tree Func) := treeW P.funcs.toList
noncomputable def funK (P : Program) (LF : Nat) (f : FuncId) : W FnF := lookW (funcsW P) f ⟨fun _ _ _ _ _ _ _ => false⟩ (funF P LF)

/-- A deferred call: it hands on the mode too. -/
abbrev FdF := CallK → DCallK → List AVal → AMode → Heap → Nat → (Out → AMode → A) → A
noncomputable def enterDF (P : Program) (rc : SK) (res : ReF) (C : CallK) (D : DCallK) (u : AMode) (hp : Heap) (nx : Nat) (k : Out → AMode → A) (tm : Tm) : A :=
  (fun (kn : KN) => rc (E.mk C (funX kn fun c _ hp nx z => @Z.rec (fun _ => A) (fun df md => @List.rec ADf (fun _ => A) (oK md fun u => k (.pan c hp nx) u) (fun _ _ _ => false) df) z)) kn tm hp nx (Z.mk [] (some u)))
    (fun tm hp nx z => @Z.rec (fun _ => A) (fun df md => @List.rec ADf (fun _ => A) (leaveK P D res tm (fun v hp nx => oK md fun u => k (.ret v hp nx) u) (fun c hp nx => oK md fun u => k (.pan c hp nx) u) [] .returning hp nx) (fun _ _ _ => false) df) z)
noncomputable def funDF (P : Program) (LF : Nat) (fn : Func) : W FdF := @Option.rec Code (fun _ => W FdF) ⟨fun _ _ _ _ _ _ _ => false⟩
    (fun c => @Bool.rec (fun _ => W FdF) ⟨fun _ _ _ _ _ _ _ => false⟩
        (@W.rec SK (fun _ => W FdF) (fun rc => @W.rec ReF (fun _ => W FdF) (fun res => @W.rec AgF (fun _ => W FdF) (fun ag =>
          ⟨fun C D args u hp nx k => ag args .e (enterDF P rc res C D u hp nx k)⟩) (argsK (fn.params.size + fn.nfree) 0)) (resW P fn.results.toList)) (codeK P fn.ntmps LF c)) (Nat.ble (fn.params.size + fn.nfree) fn.ntmps)) fn.body
noncomputable def funDK (P : Program) (LF : Nat) (f : FuncId) : W FdF := lookW (funcsW P) f ⟨fun _ _ _ _ _ _ _ => false⟩ (funDF P LF)

/-- Hooks in continuations. -/
abbrev HkF := List AVal → Heap → Nat → KR → KP → A
abbrev HookK := FuncId → Option (W HkF)
def HookRel (H : Hook) (HK : HookK) : Prop := ∀ f, match HK f with
  | none => H f = none
  | some w => ∃ h, H f = some h ∧ ∀ args hp nx kr kp, w.run args hp nx kr kp = true → ∃ o, h args hp nx = some o ∧ outK kr kp o = true

structure CD where
  c : CallK
  d : DCallK
noncomputable def cdC (x : CD) : CallK := @CD.rec (fun _ => CallK) (fun c _ => c) x
noncomputable def cdD (x : CD) : DCallK := @CD.rec (fun _ => DCallK) (fun _ d => d) x

noncomputable def enter (P : Program) (HK : HookK) (LF : Nat) (ih : CD) (f : FuncId) (args : List AVal) (hp : Heap) (nx : Nat) (kr : KR) (kp : KP) : A :=
  @Option.rec (W HkF) (fun _ => A) (@W.rec FnF (fun _ => A) (fun g => g (cdC ih) (cdD ih) args hp nx kr kp) (funK P LF f))
    (fun h => @W.rec HkF (fun _ => A) (fun g => g args hp nx kr kp) h) (HK f)
noncomputable def enterD (P : Program) (LF : Nat) (ih : CD) (f : FuncId) (args : List AVal) (u : AMode) (hp : Heap) (nx : Nat) (k : Out → AMode → A) : A :=
  @W.rec FdF (fun _ => A) (fun g => g (cdC ih) (cdD ih) args u hp nx k) (funDK P LF f)

noncomputable def callsK (P : Program) (HK : HookK) (LF : Nat) : Nat → CD := @Nat.rec (fun _ => CD)
  (CD.mk (fun _ _ _ _ _ _ => false) (fun _ _ _ _ _ _ => false))
  (fun _ ih => CD.mk (enter P HK LF ih) (enterD P LF ih))

def OkP (P : Program) : Prop := ∀ (f : FuncId) (fn : Func) (c : Code), P.funcs[f]? = some fn → fn.body = some c → okC c = true

theorem funK_ok (hP : OkP P) {C : CallFn} {D : DCallFn} {CK : CallK} {DK : DCallK} (hC : CallRel C CK) (hD : DCallRel D DK) {LF : Nat} {f : FuncId} {args : List AVal} {hp : Heap} {nx : Nat} {kr : KR} {kp : KP}
    (h : (funK P LF f).run CK DK args hp nx kr kp = true) :
    ∃ fn c o, P.funcs[f]? = some fn ∧ fn.body = some c ∧ args.length ≤ fn.ntmps ∧ (match evC P C fn.ntmps (drawnA P C fn.ntmps) LF c { tm := argsTm 0 args .e, hp, nx, df := [], md := none } with
              | some (.normal, st) | some (.ret, st) => leaveA P D fn st.tm st.df .returning st.hp st.nx
              | some (.panic c, st) => leaveA P D fn st.tm st.df (.panicking c) st.hp st.nx
              | _ => none) = some o ∧ outK kr kp o = true := by
  unfold funK funcsW at h
  rw [lookW_eq] at h
  have e1 : P.funcs.toList[f]? = P.funcs[f]? := by simp
  rw [e1] at h
  cases hf : P.funcs[f]? with
  | none => rw [hf] at h; cases h
  | some fn =>
    rw [hf] at h
    simp only [funF] at h
    cases hb : fn.body with
    | none => rw [hb] at h; cases h
    | some c =>
      rw [hb] at h
      simp only at h
      cases hn : Nat.ble (fn.params.size + fn.nfree) fn.ntmps with
      | false => rw [hn] at h; cases h
      | true =>
        rw [hn] at h
        have hn := Nat.le_of_ble_eq_true hn
        simp only [W_rec] at h
        obtain ⟨h1, h2⟩ := argsK_inv h
        obtain ⟨⟨x, st⟩, h3, h4⟩ := codeK_ok (P := P) (C := C) (N := fn.ntmps) (LF := LF) c (hP f fn c hf hb) _ _ _ _ _ _ hC h2
        have h3 : evC P C fn.ntmps (drawnA P C fn.ntmps) LF c { tm := argsTm 0 args .e, hp, nx, df := [], md := none } = some (x, st) := h3
        have hlen : args.length ≤ fn.ntmps := by omega
        cases x with
        | normal =>
          obtain ⟨o, h5, h6⟩ := leaveK_inv hD (fn := fn) (resW_ok fn.results.toList) h4
          exact ⟨fn, c, o, rfl, hb, hlen, by rw [h3]; exact h5, h6⟩
        | ret =>
          obtain ⟨o, h5, h6⟩ := leaveK_inv hD (fn := fn) (resW_ok fn.results.toList) h4
          exact ⟨fn, c, o, rfl, hb, hlen, by rw [h3]; exact h5, h6⟩
        | panic ch =>
          obtain ⟨o, h5, h6⟩ := leaveK_inv hD (fn := fn) (resW_ok fn.results.toList) h4
          exact ⟨fn, c, o, rfl, hb, hlen, by rw [h3]; exact h5, h6⟩
        | exit i => cases h4
        | goto l => cases h4

theorem funDK_ok (hP : OkP P) {C : CallFn} {D : DCallFn} {CK : CallK} {DK : DCallK} (hC : CallRel C CK) (hD : DCallRel D DK) {LF : Nat} {f : FuncId} {args : List AVal} {u : AMode} {hp : Heap} {nx : Nat} {k : Out → AMode → A}
    (h : (funDK P LF f).run CK DK args u hp nx k = true) :
    ∃ fn c o u', P.funcs[f]? = some fn ∧ fn.body = some c ∧ args.length ≤ fn.ntmps ∧ (match evC P C fn.ntmps (drawnA P C fn.ntmps) LF c { tm := argsTm 0 args .e, hp, nx, df := [], md := some u } with
              | some (.normal, st) | some (.ret, st) => if st.df.isEmpty then (leaveA P D fn st.tm [] .returning st.hp st.nx).bind fun o => st.md.bind fun u => some (o, u) else none
              | some (.panic c, st) => if st.df.isEmpty then st.md.bind fun u => some (.pan c st.hp st.nx, u) else none
              | _ => none) = some (o, u') ∧ k o u' = true := by
  unfold funDK funcsW at h
  rw [lookW_eq] at h
  have e1 : P.funcs.toList[f]? = P.funcs[f]? := by simp
  rw [e1] at h
  cases hf : P.funcs[f]? with
  | none => rw [hf] at h; cases h
  | some fn =>
    rw [hf] at h
    simp only [funDF] at h
    cases hb : fn.body with
    | none => rw [hb] at h; cases h
    | some c =>
      rw [hb] at h
      simp only at h
      cases hn : Nat.ble (fn.params.size + fn.nfree) fn.ntmps with
      | false => rw [hn] at h; cases h
      | true =>
        rw [hn] at h
        have hn := Nat.le_of_ble_eq_true hn
        simp only [W_rec] at h
        obtain ⟨h1, h2⟩ := argsK_inv h
        obtain ⟨⟨x, st⟩, h3, h4⟩ := codeK_ok (P := P) (C := C) (N := fn.ntmps) (LF := LF) c (hP f fn c hf hb) _ _ _ _ _ _ hC h2
        have h3 : evC P C fn.ntmps (drawnA P C fn.ntmps) LF c { tm := argsTm 0 args .e, hp, nx, df := [], md := some u } = some (x, st) := h3
        have hlen : args.length ≤ fn.ntmps := by omega
        have rets : (@List.rec ADf (fun _ => A) (leaveK P DK (resW P fn.results.toList).run st.tm (fun v hp nx => oK st.md fun u => k (.ret v hp nx) u) (fun c hp nx => oK st.md fun u => k (.pan c hp nx) u) [] .returning st.hp st.nx) (fun _ _ _ => false) st.df) = true →
            ∃ o u', (if st.df.isEmpty then (leaveA P D fn st.tm [] .returning st.hp st.nx).bind fun o => st.md.bind fun u => some (o, u) else none) = some (o, u') ∧ k o u' = true := by
          intro h4
          cases hdf : st.df with
          | nil =>
            rw [hdf] at h4
            obtain ⟨o, h5, h6⟩ := leaveK_inv hD (fn := fn) (resW_ok fn.results.toList) h4
            cases o with
            | ret v hp' nx' =>
              obtain ⟨u2, h7, h8⟩ := oK_inv h6
              exact ⟨_, u2, by simp only [List.isEmpty_nil, if_true, h5, Option.bind_some, h7], h8⟩
            | pan c hp' nx' =>
              obtain ⟨u2, h7, h8⟩ := oK_inv h6
              exact ⟨_, u2, by simp only [List.isEmpty_nil, if_true, h5, Option.bind_some, h7], h8⟩
          | cons d l => rw [hdf] at h4; cases h4
        cases x with
        | normal =>
          obtain ⟨o, u', h5, h6⟩ := rets h4
          exact ⟨fn, c, o, u', rfl, hb, hlen, by rw [h3]; exact h5, h6⟩
        | ret =>
          obtain ⟨o, u', h5, h6⟩ := rets h4
          exact ⟨fn, c, o, u', rfl, hb, hlen, by rw [h3]; exact h5, h6⟩
        | panic ch =>
          replace h4 : (@List.rec ADf (fun _ => A) (oK st.md fun u => k (.pan ch st.hp st.nx) u) (fun _ _ _ => false) st.df) = true := h4
          cases hdf : st.df with
          | nil =>
            rw [hdf] at h4
            obtain ⟨u2, h7, h8⟩ := oK_inv h4
            exact ⟨fn, c, _, u2, rfl, hb, hlen, by rw [h3]; simp only [hdf, List.isEmpty_nil, if_true, h7, Option.bind_some], h8⟩
          | cons d l => rw [hdf] at h4; cases h4
        | exit i => cases h4
        | goto l => cases h4

theorem callsK_ok (hP : OkP P) {H : Hook} {HK : HookK} (hH : HookRel H HK) {LF : Nat} : ∀ n, CallRel (calls P H (drawnA P) LF n).1 (cdC (callsK P HK LF n)) ∧ DCallRel (calls P H (drawnA P) LF n).2 (cdD (callsK P HK LF n))
  | 0 => by
    constructor
    · intro f args hp nx kr kp h; cases h
    · intro f args u hp nx k h; cases h
  | n + 1 => by
    obtain ⟨ih1, ih2⟩ := callsK_ok hP hH (LF := LF) n
    constructor
    · intro f args hp nx kr kp h
      replace h : enter P HK LF (callsK P HK LF n) f args hp nx kr kp = true := h
      unfold enter at h
      have hf := hH f
      cases hk : HK f with
      | none =>
        rw [hk] at h hf
        replace hf : H f = none := hf
        obtain ⟨fn, c, o, h1, h2, h3, h4, h5⟩ := funK_ok hP ih1 ih2 h
        refine ⟨o, ?_, h5⟩
        simp only [calls, hf, h1, h2, h3, if_true]
        exact h4
      | some w =>
        rw [hk] at h hf
        obtain ⟨hh, h1, h2⟩ := hf
        obtain ⟨o, h3, h4⟩ := h2 _ _ _ _ _ h
        exact ⟨o, by simp only [calls, h1]; exact h3, h4⟩
    · intro f args u hp nx k h
      replace h : enterD P LF (callsK P HK LF n) f args u hp nx k = true := h
      obtain ⟨fn, c, o, u', h1, h2, h3, h4, h5⟩ := funDK_ok hP ih1 ih2 h
      refine ⟨o, u', ?_, h5⟩
      simp only [calls, h1, h2, h3, if_true]
      exact h4
end Go.Mu
