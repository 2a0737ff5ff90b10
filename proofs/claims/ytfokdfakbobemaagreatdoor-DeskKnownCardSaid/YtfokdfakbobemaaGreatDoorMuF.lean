/- What some leaf functions come to: comparing, float bits, sorted keys of maps. No condition. -/
import Derived.Laws.Externs
import Derived.Lib.BytesEntry
import Derived.Shelf.SlIterI.Nil
import Derived.Shelf.SlIterI.Sorted
import Derived.Shelf.SlIter.Nil
import Derived.Test.YtfokdfakbobemaaGreatDoorMuE
set_option autoImplicit true
set_option relaxedAutoImplicit true
set_option linter.unusedVariables false
set_option linter.unusedSimpArgs false
namespace Go.Mu
variable {P : Program} {ρ : Rho} {hp : Heap} {nx base : Nat} {w : World}

/-- An extern that turns nothing. -/
theorem does_extern {f : FuncId} {fn : Func} {e : Array Value → Sem Value} (hf : P.funcs[f]? = some fn) (hname : (fn.name == "runtime.NumGoroutine") = false) (hb : fn.body.isNone = true) (hn : Extern.findNext fn = none) (he : Extern.find fn = some e)
    {args : Array Value} {c : Value} (h : (e args).run P w = .ok c w) {R : Ending → World → Prop} (hR : R (.returned c) w) : Does P f args w R := by
  unfold Does
  rw [run_callFunc_extern hf hname hb hn he]
  rw [h]
  exact hR

theorem good_self {R : Rho → Prop} (hr : R ρ) (hR : HR ρ hp w base) (hF : Fresh ρ nx) : Good ρ hp nx base w hp nx R w := ⟨ρ, hr, hR, hF, Ev.refl ..⟩

def fbitsH (args : List AVal) (hp : Heap) (nx : Nat) : Option Out := match args with
  | [.float .f64 b] => some (.ret (.int .u64 (.ofNat b)) hp nx)
  | _ => none
def ffromH (args : List AVal) (hp : Heap) (nx : Nat) : Option Out := match args with
  | [.int .u64 (.ofNat b)] => some (.ret (.float .f64 b) hp nx)
  | _ => none

theorem fbits_hook {f : FuncId} {fn : Func} (hf : P.funcs[f]? = some fn) (hname : (fn.name == "runtime.NumGoroutine") = false) (hb : fn.body.isNone = true) (hn : Extern.findNext fn = none) (he : Extern.find fn = some Extern.MathFloatBits.float64bits)
    {args : List AVal} {o : Out} (h : fbitsH args hp nx = some o) : ∀ ρ cargs w, VRs ρ args cargs → HR ρ hp w base → Fresh ρ nx → base ≤ w.heap.size → Does P f cargs.toArray w (OutR ρ hp nx base w o) := by
  intro ρ cargs w hv hR hF _
  unfold fbitsH at h
  split at h
  · cases h
    obtain ⟨y, ys, rfl, h1, h2⟩ := hv.cons_inv
    have := h2.nil_inv
    subst this
    simp only [VR] at h1
    subst h1
    refine does_extern hf hname hb hn he (c := .int .u64 _) rfl ?_
    exact good_self (by simp only [VR]; rfl) hR hF
  · cases h
theorem ffrom_hook {f : FuncId} {fn : Func} (hf : P.funcs[f]? = some fn) (hname : (fn.name == "runtime.NumGoroutine") = false) (hb : fn.body.isNone = true) (hn : Extern.findNext fn = none) (he : Extern.find fn = some Extern.MathFloatBits.float64frombits)
    {args : List AVal} {o : Out} (h : ffromH args hp nx = some o) : ∀ ρ cargs w, VRs ρ args cargs → HR ρ hp w base → Fresh ρ nx → base ≤ w.heap.size → Does P f cargs.toArray w (OutR ρ hp nx base w o) := by
  intro ρ cargs w hv hR hF _
  unfold ffromH at h
  split at h
  · cases h
    obtain ⟨y, ys, rfl, h1, h2⟩ := hv.cons_inv
    have := h2.nil_inv
    subst this
    simp only [VR] at h1
    subst h1
    refine does_extern hf hname hb hn he (c := .float .f64 _) rfl ?_
    exact good_self (by simp only [VR]; rfl) hR hF
  · cases h

/-! Bytes held against bytes. -/
def cmpL (x y : List Nat) : Int := bif ltL x y then -1 else bif ltL y x then 1 else 0
def at0 (l : List Nat) (i : Nat) : Nat := (l[i]?).getD 0
def cmpI (x y : List Nat) : Int :=
  match (List.range (min x.length y.length)).find? fun i => decide (at0 x i ≠ at0 y i) with
  | some i => if at0 x i < at0 y i then -1 else 1
  | none => if x.length < y.length then -1 else if x.length > y.length then 1 else 0
theorem at0_succ (a : Nat) (l : List Nat) (i : Nat) : at0 (a :: l) (i+1) = at0 l i := by simp [at0]
theorem cmpI_eq : ∀ x y : List Nat, cmpI x y = cmpL x y
  | [], [] => rfl
  | [], _ :: _ => by simp [cmpI, cmpL, ltL]
  | _ :: _, [] => by simp [cmpI, cmpL, ltL]
  | a :: x, b :: y => by
    have ih := cmpI_eq x y
    have hm : min (a :: x).length (b :: y).length = min x.length y.length + 1 := by simp only [List.length_cons]; omega
    unfold cmpI
    rw [hm, List.range_succ_eq_map, List.find?_cons]
    by_cases hab : a = b
    · subst hab
      have h0 : decide (at0 (a :: x) 0 ≠ at0 (a :: y) 0) = false := by simp [at0]
      rw [h0]
      simp only [List.find?_map]
      have hf : ((fun i => decide (at0 (a :: x) i ≠ at0 (a :: y) i)) ∘ Nat.succ) = fun i => decide (at0 x i ≠ at0 y i) := by funext i; show decide (at0 (a :: x) (i+1) ≠ at0 (a :: y) (i+1)) = _; rw [at0_succ, at0_succ]
      rw [hf]
      have nb : Nat.blt a a = false := by cases hb : Nat.blt a a with | false => rfl | true => rw [Nat.blt_eq] at hb; omega
      have hc : cmpL (a :: x) (a :: y) = cmpL x y := by simp [cmpL, ltL, nb]
      rw [hc, ← ih]
      unfold cmpI
      cases (List.range (min x.length y.length)).find? fun i => decide (at0 x i ≠ at0 y i) with
      | none => simp
      | some i =>
        show (if at0 (a :: x) (i+1) < at0 (a :: y) (i+1) then (-1 : Int) else 1) = _
        rw [at0_succ, at0_succ]
    · have h0 : decide (at0 (a :: x) 0 ≠ at0 (b :: y) 0) = true := by simpa [at0] using hab
      rw [h0]
      simp only [at0, List.getElem?_cons_zero, Option.getD_some]
      have hba : ¬ b = a := fun e => hab e.symm
      have n1 : Nat.beq a b = false := by cases hb : Nat.beq a b with | false => rfl | true => exact absurd (Nat.eq_of_beq_eq_true hb) hab
      have n2 : Nat.beq b a = false := by cases hb : Nat.beq b a with | false => rfl | true => exact absurd (Nat.eq_of_beq_eq_true hb) hba
      by_cases hlt : a < b
      · have e1 : Nat.blt a b = true := by rw [Nat.blt_eq]; exact hlt
        simp [cmpL, ltL, e1, hlt]
      · have e1 : Nat.blt a b = false := by cases hb : Nat.blt a b with | false => rfl | true => rw [Nat.blt_eq] at hb; exact absurd hb hlt
        have e2 : Nat.blt b a = true := by rw [Nat.blt_eq]; omega
        simp [cmpL, ltL, e1, e2, n1, hlt]

theorem bytesOf_at (l : List Nat) (i : Nat) (hi : i < l.length) : (bytesOf l)[i]! = UInt8.ofNat (at0 l i) := by
  have h : i < (bytesOf l).size := by rw [bytesOf_size]; exact hi
  rw [getElem!_pos (bytesOf l) i h]
  simp [bytesOf, at0, ByteArray.getElem_eq_getElem_data, hi]
theorem u8_eq {a b : Nat} (ha : a < 256) (hb : b < 256) : (UInt8.ofNat a = UInt8.ofNat b) ↔ a = b := by
  constructor
  · intro h
    have := congrArg UInt8.toNat h
    simpa [UInt8.toNat_ofNat, Nat.mod_eq_of_lt ha, Nat.mod_eq_of_lt hb] using this
  · intro h; rw [h]
theorem u8_lt {a b : Nat} (ha : a < 256) (hb : b < 256) : (UInt8.ofNat a < UInt8.ofNat b) ↔ a < b := by
  rw [UInt8.lt_iff_toNat_lt]
  simp [UInt8.toNat_ofNat, Nat.mod_eq_of_lt ha, Nat.mod_eq_of_lt hb]
theorem at0_lt {l : List Nat} (h : ∀ x ∈ l, x < 256) (i : Nat) : at0 l i < 256 := by
  unfold at0
  cases hi : l[i]? with
  | none => simp
  | some v => exact h v (List.mem_of_getElem? hi)
theorem find_congr {α : Type} {p q : α → Bool} : ∀ {l : List α}, (∀ i ∈ l, p i = q i) → l.find? p = l.find? q
  | [], _ => rfl
  | a :: l, h => by
    rw [List.find?_cons, List.find?_cons, h a (by simp), find_congr (l := l) fun i hi => h i (by simp [hi])]

theorem cmp_bytes {x y : List Nat} (hx : ∀ n ∈ x, n < 256) (hy : ∀ n ∈ y, n < 256) : Extern.BytealgCompare.cmp (bytesOf x) (bytesOf y) = cmpI x y := by
  unfold Extern.BytealgCompare.cmp cmpI
  rw [bytesOf_size, bytesOf_size]
  have hf : (List.range (min x.length y.length)).find? (fun i => (bytesOf x)[i]! != (bytesOf y)[i]!) = (List.range (min x.length y.length)).find? (fun i => decide (at0 x i ≠ at0 y i)) := by
    refine find_congr fun i hi => ?_
    have hi : i < min x.length y.length := by simpa using hi
    rw [bytesOf_at x i (by omega), bytesOf_at y i (by omega)]
    rw [Bool.eq_iff_iff]
    simp [u8_eq (at0_lt hx i) (at0_lt hy i)]
  rw [hf]
  cases hc : (List.range (min x.length y.length)).find? (fun i => decide (at0 x i ≠ at0 y i)) with
  | none => rfl
  | some i =>
    have hi := List.mem_of_find?_eq_some hc
    have hi : i < min x.length y.length := by simpa using hi
    simp only
    rw [bytesOf_at x i (by omega), bytesOf_at y i (by omega)]
    by_cases hlt : at0 x i < at0 y i
    · rw [if_pos ((u8_lt (at0_lt hx i) (at0_lt hy i)).2 hlt), if_pos hlt]
    · rw [if_neg (fun h => hlt ((u8_lt (at0_lt hx i) (at0_lt hy i)).1 h)), if_neg hlt]
end Go.Mu

namespace Go.Mu
variable {P : Program} {ρ : Rho} {hp : Heap} {nx base : Nat} {w : World}

def bytesA (hp : Heap) (a : AVal) : Option (List Nat) := (lenA a).bind fun n => (firstA hp 1 n a).bind bytesOfCells

theorem lib_bytesOf (l : List Nat) : (⟨(Lib.bytesOf (l.map Int.ofNat)).toArray⟩ : ByteArray) = bytesOf l := by
  unfold Lib.bytesOf bytesOf
  congr 2
  rw [List.map_map]
  rfl

theorem bytesV_sound (hR : HR ρ hp w base) {x : AVal} {c : Value} {l : List Nat} (hx : VR ρ x c) (h : bytesA hp x = some l) :
    (Extern.Bytes.bytesOf c).run P w = .ok (bytesOf l) w ∧ ∀ x ∈ l, x < 256 := by
  simp only [bytesA, Option.bind_eq_some_iff] at h
  obtain ⟨n, h1, cs, h2, h3⟩ := h
  obtain ⟨cs', g1, g2, g3⟩ := firstA_sound hR hx h2
  obtain ⟨rfl, hlt⟩ := bytesOfCells_sound g1 h3
  refine ⟨?_, hlt⟩
  simp only [List.length_map, Nat.mul_one] at g2
  rcases g3 with ⟨rfl, rfl⟩ | ⟨ad, k, cp, rfl, hc⟩ | ⟨s, rfl, hs⟩
  · have : l = [] := List.eq_nil_of_length_eq_zero g2
    subst this
    rfl
  · have hk : k = n := by
      rcases lenA_sound hx h1 with ⟨_, _, e⟩ | ⟨_, e, _⟩
      · injection e
      · cases e
    subst hk
    have hl := Lib.run_loadBytesX (P := P) w (l.map Int.ofNat) ad .empty (fun j y hy => by
      rw [List.getElem?_map, Option.map_eq_some_iff] at hy
      obtain ⟨m, hm, rfl⟩ := hy
      exact hc j _ (by rw [List.getElem?_map, hm]; rfl))
    rw [List.length_map, g2] at hl
    have he : (⟨ByteArray.empty.data ++ (Lib.bytesOf (l.map Int.ofNat)).toArray⟩ : ByteArray) = bytesOf l := by
      rw [← lib_bytesOf]
      apply ByteArray.ext
      show (#[] : Array UInt8) ++ (Lib.bytesOf (l.map Int.ofNat)).toArray = _
      simp
    rw [he] at hl
    exact hl
  · have hn : s.size = n := by
      rcases lenA_sound hx h1 with ⟨_, _, e⟩ | ⟨_, e, h⟩
      · cases e
      · injection e with e; subst e; exact h
    subst hn
    have e1 : s.extract 0 s.size = s := ByteArray.extract_zero_size
    rw [e1] at hs
    have e2 : bytesOf l = s := by
      have : s.data.toList.map (fun b => b.toNat) = l := by
        have hh := congrArg (List.map fun v => match v with | Value.int _ n => n.toNat | _ => 0) hs
        simp only [List.map_map] at hh
        have e3 : ((fun v => match v with | Value.int _ n => n.toNat | _ => 0) ∘ fun n => Value.int .u8 (Int.ofNat n)) = id := by funext n; rfl
        have e4 : ((fun v => match v with | Value.int _ n => n.toNat | _ => 0) ∘ fun b : UInt8 => Value.int .u8 (b.toNat : Int)) = fun b => b.toNat := by funext b; rfl
        rw [e3, e4, List.map_id] at hh
        exact hh.symm
      subst this
      unfold bytesOf
      rw [List.map_map]
      have e5 : (UInt8.ofNat ∘ fun b : UInt8 => b.toNat) = id := by funext b; simp
      rw [e5, List.map_id]
    rw [e2]
    rfl

def cmpA (args : List AVal) (hp : Heap) (nx : Nat) : Option Out := match args with
  | [a, b] => (bytesA hp a).bind fun x => (bytesA hp b).bind fun y => some (.ret (.int .i64 (cmpL x y)) hp nx)
  | _ => none

theorem cmp_hook {f : FuncId} {fn : Func} (hf : P.funcs[f]? = some fn) (hname : (fn.name == "runtime.NumGoroutine") = false) (hb : fn.body.isNone = true) (hn : Extern.findNext fn = none) (he : Extern.find fn = some Extern.BytealgCompare.compare)
    {args : List AVal} {o : Out} (h : cmpA args hp nx = some o) : ∀ ρ cargs w, VRs ρ args cargs → HR ρ hp w base → Fresh ρ nx → base ≤ w.heap.size → Does P f cargs.toArray w (OutR ρ hp nx base w o) := by
  intro ρ cargs w hv hR hF _
  unfold cmpA at h
  split at h
  · simp only [Option.bind_eq_some_iff] at h
    obtain ⟨x, hx, y, hy, h⟩ := h
    cases h
    obtain ⟨c, cs, rfl, h1, h2⟩ := hv.cons_inv
    obtain ⟨d, ds, rfl, h3, h4⟩ := h2.cons_inv
    have := h4.nil_inv
    subst this
    obtain ⟨g1, g2⟩ := bytesV_sound (P := P) hR h1 hx
    obtain ⟨g3, g4⟩ := bytesV_sound (P := P) hR h3 hy
    refine does_extern hf hname hb hn he (c := .int .i64 (cmpL x y)) ?_ ?_
    · show Sem.run P (do
        let x ← Extern.Bytes.bytesOf c
        let y ← Extern.Bytes.bytesOf d
        pure (goInt (Extern.BytealgCompare.cmp x y))) w = _
      simp only [Sem.run_bind, Sem.run_pure, g1, g3, Result.andThen]
      rw [cmp_bytes g2 g4, cmpI_eq]
      rfl
    · exact good_self (by simp only [VR]) hR hF
  · cases h
end Go.Mu

namespace Go.Mu

noncomputable def bytesE (hp : Heap) (x : AVal) (k : List Nat → A) : A := lenS x fun n => firstK hp 1 x n fun cs => bytesK cs k
theorem bytesE_inv {hp : Heap} {x : AVal} {k : List Nat → A} (h : bytesE hp x k = true) : ∃ l, bytesA hp x = some l ∧ k l = true := by
  have hh := lenS_inv h
  clear h
  obtain ⟨n, h1, h⟩ := hh
  have hh := firstK_inv h
  clear h
  obtain ⟨cs, h2, h⟩ := hh
  obtain ⟨l, h3, h⟩ := bytesK_inv h
  exact ⟨l, by simp only [bytesA, h1, h2, h3, Option.bind_some], h⟩

noncomputable def cmpK2 : HkF := fun args hp nx kr _ => @List.rec AVal (fun _ => A) false (fun a r _ => @List.rec AVal (fun _ => A) false (fun b r _ => @List.rec AVal (fun _ => A)
  (bytesE hp a fun x => bytesE hp b fun y => @Bool.rec (fun _ => A) (@Bool.rec (fun _ => A) (kr (.int .i64 (.ofNat 0)) hp nx) (kr (.int .i64 (.ofNat 1)) hp nx) (ltL y x)) (kr (.int .i64 (.negSucc 0)) hp nx) (ltL x y)) (fun _ _ _ => false) r) r) args
theorem cmpK2_inv {args : List AVal} {hp : Heap} {nx : Nat} {kr : KR} {kp : KP} (h : cmpK2 args hp nx kr kp = true) : ∃ o, cmpA args hp nx = some o ∧ outK kr kp o = true := by
  match args, h with
  | [a, b], h =>
    replace h : bytesE hp a (fun x => bytesE hp b fun y => @Bool.rec (fun _ => A) (@Bool.rec (fun _ => A) (kr (.int .i64 (.ofNat 0)) hp nx) (kr (.int .i64 (.ofNat 1)) hp nx) (ltL y x)) (kr (.int .i64 (.negSucc 0)) hp nx) (ltL x y)) = true := h
    have hh := bytesE_inv h
    clear h
    obtain ⟨x, h1, h⟩ := hh
    have hh := bytesE_inv h
    clear h
    obtain ⟨y, h2, h⟩ := hh
    refine ⟨.ret (.int .i64 (cmpL x y)) hp nx, by simp only [cmpA, h1, h2, Option.bind_some], ?_⟩
    cases e1 : ltL x y with
    | true =>
      rw [e1] at h
      have : cmpL x y = .negSucc 0 := by simp only [cmpL, e1, cond_true]; rfl
      rw [this]; exact h
    | false =>
      rw [e1] at h
      cases e2 : ltL y x with
      | true =>
        rw [e2] at h
        have : cmpL x y = .ofNat 1 := by simp only [cmpL, e1, e2, cond_false, cond_true]; rfl
        rw [this]; exact h
      | false =>
        rw [e2] at h
        have : cmpL x y = .ofNat 0 := by simp only [cmpL, e1, e2, cond_false]; rfl
        rw [this]; exact h
  | [], h => cases h
  | [_], h => cases h
  | _ :: _ :: _ :: _, h => cases h

noncomputable def wkF64 (x : A) (k : FloatKind) : A := @FloatKind.rec (fun _ => A) false x k
noncomputable def fltE (v : AVal) (f : FloatKind → Nat → A) : A := @AVal.rec (fun _ => A) (fun _ => A) (fun _ => false) (fun _ _ => false) (fun k n => f k n) (fun l => false) false (fun _ _ => false) false (fun b o l c => false) (fun b k l => false) false false false (fun _ => false) (fun _ _ _ _ _ => false) false (fun _ _ _ => false) false (fun _ _ => false) (fun _ _ => false) (fun _ => false) false (fun _ _ _ _ => false) v
theorem fltE_inv {v : AVal} {f : FloatKind → Nat → A} (h : fltE v f = true) : ∃ k n, v = .float k n ∧ f k n = true := by
  cases v <;> first | exact Bool.noConfusion h | exact ⟨_, _, rfl, h⟩
theorem wkF64_inv {x : A} {k : FloatKind} (h : wkF64 x k = true) : k = .f64 ∧ x = true := by
  cases k <;> first | exact ⟨rfl, h⟩ | exact Bool.noConfusion h
noncomputable def wk64 (x : A) (k : IntKind) : A := @IntKind.rec (fun _ => A) false false false false false false false x k
theorem wk64_inv {x : A} {k : IntKind} (h : wk64 x k = true) : k = .u64 ∧ x = true := by
  cases k <;> first | exact ⟨rfl, h⟩ | exact Bool.noConfusion h

noncomputable def fbitsK2 : HkF := fun args hp nx kr _ => @List.rec AVal (fun _ => A) false (fun a r _ => @List.rec AVal (fun _ => A) (fltE a fun k n => wkF64 (kr (.int .u64 (.ofNat n)) hp nx) k) (fun _ _ _ => false) r) args
theorem fbitsK2_inv {args : List AVal} {hp : Heap} {nx : Nat} {kr : KR} {kp : KP} (h : fbitsK2 args hp nx kr kp = true) : ∃ o, fbitsH args hp nx = some o ∧ outK kr kp o = true := by
  match args, h with
  | [a], h =>
    replace h : fltE a (fun k n => wkF64 (kr (.int .u64 (.ofNat n)) hp nx) k) = true := h
    have hh := fltE_inv h
    clear h
    obtain ⟨k, n, rfl, h⟩ := hh
    obtain ⟨rfl, h⟩ := wkF64_inv h
    exact ⟨_, rfl, h⟩
  | [], h => cases h
  | _ :: _ :: _, h => cases h
noncomputable def ffromK2 : HkF := fun args hp nx kr _ => @List.rec AVal (fun _ => A) false (fun a r _ => @List.rec AVal (fun _ => A) (intE a (fun k n => wk64 (kr (.float .f64 n) hp nx) k) false) (fun _ _ _ => false) r) args
theorem ffromK2_inv {args : List AVal} {hp : Heap} {nx : Nat} {kr : KR} {kp : KP} (h : ffromK2 args hp nx kr kp = true) : ∃ o, ffromH args hp nx = some o ∧ outK kr kp o = true := by
  match args, h with
  | [a], h =>
    replace h : intE a (fun k n => wk64 (kr (.float .f64 n) hp nx) k) false = true := h
    have hh := intE_inv h
    clear h
    obtain ⟨k, ⟨n, rfl, h⟩ | ⟨n, _, h⟩⟩ := hh
    · obtain ⟨rfl, h⟩ := wk64_inv h
      exact ⟨_, rfl, h⟩
    · cases h
  | [], h => cases h
  | _ :: _ :: _, h => cases h
end Go.Mu

namespace Go.Mu
open Go.Proofs Go.RowKit Go.Maps Go.Shelf
variable {P : Program} {ρ : Rho} {hp : Heap} {nx base : Nat} {w w' : World}

/-- A block that a contract has made: nothing that lay before has turned. -/
theorem fresh_ev (hR : HR ρ hp w base) (hF : Fresh ρ nx) (hb : base ≤ w.heap.size) (hB : Below w.heap.size w w') {k : ABlk} {ob : Obj} {c : CB} (hcb : w.heap.size ≤ c.blk) (hob : w'.heap[c.blk]? = some ob)
    (hbr : ∀ ρ', Ext ρ ρ' → ρ' nx = some c → BR ρ' c k ob) :
    ∃ ρ', ρ' nx = some c ∧ Ext ρ ρ' ∧ HR ρ' (hp.set nx k) w' base ∧ Fresh ρ' (nx + 1) ∧ Ev ρ hp nx w ρ' (hp.set nx k) (nx + 1) w' := by
  let ρ' : Rho := fun b => if b = nx then some c else ρ b
  have hnx : ρ' nx = some c := by simp [ρ']
  have hnone : ρ nx = none := hF nx (Nat.le_refl _)
  have hext : Ext ρ ρ' := by
    intro b x hx
    have : b ≠ nx := fun e => by rw [e, hnone] at hx; cases hx
    simp [ρ', this, hx]
  refine ⟨ρ', hnx, hext, ⟨fun b kk hk => ?_, fun b b' k1 k2 c1 c2 hk1 hk2 hc1 hc2 he hne => ?_⟩, fun b hb' => ?_, ⟨hext, by omega, fun b kk hk hlt => ?_, hB.os, hB.tape, hB.output, hB.size, fun i hi _ => ?_, fun b c' h1 h2 => ?_⟩⟩
  · rw [T.get_set] at hk
    split at hk
    · cases hk
      rename_i e; subst e
      exact ⟨c, ob, hnx, by omega, hob, hbr ρ' hext hnx⟩
    · obtain ⟨c0, ob0, h1, h2, h3, h4⟩ := hR.blk b kk hk
      exact ⟨c0, ob0, hext _ _ h1, h2, by rw [hB.block _ (Array.getElem?_eq_some_iff.1 h3).1]; exact h3, h4.mono hext⟩
  · have lt : ∀ b k c, hp.get b = some k → ρ' b = some c → b ≠ nx → ρ b = some c ∧ c.blk < w.heap.size := by
      intro b k c hk hc hn
      have h1 : ρ b = some c := by simpa [ρ', hn] using hc
      exact ⟨h1, hR.lt hk h1⟩
    rw [T.get_set] at hk1 hk2
    split at hk1
    · rename_i e1
      split at hk2
      · rename_i e2; exact absurd (e1.trans e2.symm) hne
      · rename_i e2
        obtain ⟨_, hl⟩ := lt b' k2 c2 hk2 hc2 e2
        rw [e1, hnx] at hc1; cases hc1; omega
    · rename_i e1
      split at hk2
      · rename_i e2
        obtain ⟨_, hl⟩ := lt b k1 c1 hk1 hc1 e1
        rw [e2, hnx] at hc2; cases hc2; omega
      · rename_i e2
        exact hR.inj b b' k1 k2 c1 c2 hk1 hk2 (lt b k1 c1 hk1 hc1 e1).1 (lt b' k2 c2 hk2 hc2 e2).1 he hne
  · have : b ≠ nx := by omega
    simp only [ρ', this, if_false]
    exact hF b (by omega)
  · rw [T.get_set] at hk
    split at hk
    · omega
    · exact ⟨kk, hk⟩
  · exact hB.block i hi
  · simp only [ρ'] at h2
    split at h2
    · cases h2; exact .inl hcb
    · rw [h1] at h2; cases h2

/-- .. or none. -/
theorem below_ev (hR : HR ρ hp w base) (hF : Fresh ρ nx) (hB : Below w.heap.size w w') : HR ρ hp w' base ∧ Ev ρ hp nx w ρ hp nx w' :=
  ⟨⟨fun b k hk => by
      obtain ⟨c0, ob0, h1, h2, h3, h4⟩ := hR.blk b k hk
      exact ⟨c0, ob0, h1, h2, by rw [hB.block _ (Array.getElem?_eq_some_iff.1 h3).1]; exact h3, h4⟩, hR.inj⟩,
    ⟨fun _ _ h => h, Nat.le_refl _, fun b k hk _ => ⟨k, hk⟩, hB.os, hB.tape, hB.output, hB.size, fun i hi _ => hB.block i hi, fun b c h1 h2 => by rw [h1] at h2; cases h2⟩⟩

/-! Keys that are ints, put in order. -/
def insN (x : Nat) : List Nat → List Nat
  | [] => [x]
  | y :: l => bif Nat.ble x y then x :: y :: l else y :: insN x l
def sortN : List Nat → List Nat
  | [] => []
  | x :: l => insN x (sortN l)
theorem insN_perm (x : Nat) : ∀ l, (insN x l).Perm (x :: l)
  | [] => .refl _
  | y :: l => by
    unfold insN
    cases Nat.ble x y with
    | true => exact .refl _
    | false => exact ((insN_perm x l).cons y).trans (.swap ..)
theorem sortN_perm : ∀ l, (sortN l).Perm l
  | [] => .refl _
  | x :: l => (insN_perm x _).trans ((sortN_perm l).cons x)
theorem insN_sorted (x : Nat) : ∀ l, l.Pairwise (· ≤ ·) → (insN x l).Pairwise (· ≤ ·)
  | [], _ => by simp [insN]
  | y :: l, h => by
    unfold insN
    rw [List.pairwise_cons] at h
    cases hb : Nat.ble x y with
    | true =>
      have hb := Nat.le_of_ble_eq_true hb
      simp only [cond_true, List.pairwise_cons]
      refine ⟨fun a ha => ?_, h⟩
      rcases List.mem_cons.1 ha with rfl | ha
      · exact hb
      · exact Nat.le_trans hb (h.1 a ha)
    | false =>
      have hb : ¬ x ≤ y := fun hle => by rw [Nat.ble_eq_true_of_le hle] at hb; cases hb
      simp only [cond_false, List.pairwise_cons]
      refine ⟨fun a ha => ?_, insN_sorted x l h.2⟩
      rcases List.mem_cons.1 ((insN_perm x l).mem_iff.1 ha) with rfl | ha
      · omega
      · exact h.1 a ha
theorem sortN_sorted : ∀ l, (sortN l).Pairwise (· ≤ ·)
  | [] => .nil
  | x :: l => insN_sorted x _ (sortN_sorted l)

theorem sortN_merge {l : List Nat} {ss : List Int} (h : ss.Perm (l.map Int.ofNat)) : ss.mergeSort (fun x y => decide (x ≤ y)) = (sortN l).map Int.ofNat := by
  have tr : ∀ a b c : Int, (decide (a ≤ b)) = true → decide (b ≤ c) = true → decide (a ≤ c) = true := fun a b c h1 h2 => by simp only [decide_eq_true_eq] at *; exact Int.le_trans h1 h2
  have to : ∀ a b : Int, (decide (a ≤ b) || decide (b ≤ a)) = true := fun a b => by simp only [Bool.or_eq_true, decide_eq_true_eq]; exact Int.le_total a b
  refine List.Perm.eq_of_pairwise (le := fun a b => decide (a ≤ b) = true) (fun a b _ _ h1 h2 => ?_) (List.pairwise_mergeSort tr to ss) ?_ (((List.mergeSort_perm ss _).trans h).trans ((sortN_perm l).map _).symm)
  · simp only [decide_eq_true_eq] at h1 h2
    exact Int.le_antisymm h1 h2
  · rw [List.pairwise_map]
    exact (sortN_sorted l).imp fun hab => by simpa using hab

def keyN : AVal → Option Nat
  | .int .i64 (.ofNat n) => if n < 9223372036854775808 then some n else none
  | _ => none
def keysN : List (AVal × AVal × Nat) → Option (List Nat)
  | [] => some []
  | e :: es => match keyN e.1 with
    | some n => (keysN es).map (n :: ·)
    | none => none
/-- Births under the clock, one after the other; no key twice. -/
def risesN (n : Nat) : List Nat → Bool
  | [] => true
  | x :: l => Nat.ble n x && risesN (x + 1) l
theorem risesN_lt : ∀ {l : List Nat} {n : Nat}, risesN n l = true → l.Pairwise (· < ·) ∧ ∀ x ∈ l, n ≤ x
  | [], _, _ => ⟨.nil, fun x h => by cases h⟩
  | x :: l, n, h => by
    simp only [risesN, Bool.and_eq_true, Nat.ble_eq] at h
    obtain ⟨h1, h2⟩ := risesN_lt h.2
    refine ⟨List.pairwise_cons.2 ⟨fun a ha => h2 a ha, h1⟩, fun a ha => ?_⟩
    rcases List.mem_cons.1 ha with rfl | ha
    · exact h.1
    · have := h2 a ha; omega

def okMap (es : List (AVal × AVal × Nat)) (clock : Nat) : Bool := risesN 0 (es.map (·.2.2)) && (es.map (·.2.2)).all (fun x => Nat.blt x clock) && Nat.blt es.length 1048576
def mapKeys (hp : Heap) : AVal → Option (List Nat)
  | .nilmap => some []
  | .map mb => match hp.get mb with
    | some (.mapo es clock) => if okMap es clock then (keysN es).bind fun ks => if risesN 0 (sortN ks) then some (sortN ks) else none else none
    | _ => none
  | _ => none
def isCells (hp : Heap) (b : Nat) : Bool := match hp.get b with
  | some (.cells ..) => true
  | _ => false
def outI (t : TypeId) (hp : Heap) (nx : Nat) : List Nat → Out
  | [] => .ret .nilslice hp nx
  | x :: l => .ret (.oslice nx 0 (x :: l).length) (hp.set nx (.grown ((x :: l).map fun n => .int .i64 (.ofNat n)) t 1 none)) (nx + 1)
def sortedHI (gs : FuncId → Bool) (t : TypeId) (args : List AVal) (hp : Heap) (nx : Nat) : Option Out := match args with
  | [.func (.func g) [] [.ptr b 0]] => if gs g && isCells hp b then (readCell hp b 0).bind fun m => (mapKeys hp m).map (outI t hp nx) else none
  | _ => none

def litN (n : Nat) : Lit := .int .i64 (.ofNat n)
abbrev RNil : Value → Option (DataW Unit × List MemPlace) := fun _ => some (.nil, [])

theorem keys_read {k : TypeId} (hk : P.underlying k = some (.int .i64)) : ∀ {es : List (AVal × AVal × Nat)} {ms : List MapEntry} {ks : List Nat}, ERs ρ es ms → keysN es = some ks →
    ms.map (·.key) = ks.map (fun n => Value.int .i64 (Int.ofNat n)) ∧ ms.map (·.born) = es.map (·.2.2) ∧ (∀ x ∈ ms, ∃ y, Go.WideElems.rd P k RNil x = some y) ∧ ms.map (Go.WideElems.rg P k RNil) = ks.map (fun n => (litN n, DataW.nil))
  | [], ms, ks, hm, h => by
    simp only [ERs] at hm
    subst hm
    simp only [keysN] at h
    cases h
    exact ⟨rfl, rfl, fun x hx => (by cases hx), rfl⟩
  | e :: es, _, ks, ⟨m, ms, h0, h1, h2⟩, h => by
    subst h0
    simp only [keysN] at h
    split at h
    · rename_i n hn
      simp only [Option.map_eq_some_iff] at h
      obtain ⟨r, hr, rfl⟩ := h
      obtain ⟨g1, g2, g3, g4⟩ := keys_read hk h2 hr
      obtain ⟨k1, k2, k3⟩ := h1
      unfold keyN at hn
      split at hn
      · rename_i q hq
        split at hn
        · rename_i hlt
          cases hn
          rw [hq] at k1
          simp only [VR] at k1
          have hw : (Lit.int .i64 (Int.ofNat n)).wf = true := by
            simp only [Lit.wf, IntKind.min, IntKind.max, IntKind.bits, IntKind.signed]
            simp
            omega
          have hrd : Go.WideElems.rd P k RNil m = some (litN n, .nil) := by
            simp only [Go.WideElems.rd, k1, keyOf_int_mk hk hw, Option.bind_some, Option.map_some, litN]
          refine ⟨by simp [k1, g1], by simp [k3, g2], fun x hx => ?_, ?_⟩
          · rcases List.mem_cons.1 hx with rfl | hx
            · exact ⟨_, hrd⟩
            · exact g3 x hx
          · rw [List.map_cons, g4, List.map_cons]
            congr 1
            simp only [Go.WideElems.rg, hrd, Option.getD_some]
        · cases hn
      · cases hn
    · cases h
end Go.Mu

namespace Go.Mu
open Go.Proofs Go.RowKit Go.Maps Go.Shelf
variable {P : Program} {ρ : Rho} {hp : Heap} {nx base : Nat} {w : World}

theorem nodup_of_rises {l : List Nat} {n : Nat} (h : risesN n l = true) : l.Nodup := (risesN_lt h).1.imp fun hab => by omega

theorem ints_VR (ρ : Rho) : ∀ l : List Nat, VRs ρ (l.map fun n => AVal.int .i64 (.ofNat n)) (l.map fun n => Value.int .i64 (.ofNat n))
  | [] => VRs.nil
  | n :: l => VRs.cons (by simp only [VR]) (ints_VR ρ l)

/-- What slices.Sorted over a map's keys comes to, at keys that are ints. -/
theorem sortedI_hook {r : Ren} (L : SlLaysZI.n6 P r) (hs : ∀ m, AnyZI.SortsIn P r Fence.wide m) (e6 : ∀ args w, (callFunc (r.f 6) args).run P w = .ok (.enter (r.f 6) args) w) (e9 : ∀ args w, (callFunc (r.f 9) args).run P w = .ok (.enter (r.f 9) args) w)
    {gs : FuncId → Bool} (hgs : ∀ g, gs g = true → ∃ rk, SlLaysZI.n10 P rk ∧ rk.f 10 = g ∧ P.underlying (rk.t 26) = some (.int .i64) ∧ ∀ args w, (callFunc g args).run P w = .ok (.enter g args) w)
    {args : List AVal} {o : Out} (h : sortedHI gs (r.t 26) args hp nx = some o) :
    ∀ ρ cargs w, VRs ρ args cargs → HR ρ hp w base → Fresh ρ nx → base ≤ w.heap.size → Does P (r.f 6) cargs.toArray w (OutR ρ hp nx base w o) := by
  intro ρ cargs w hv hR hF hb
  unfold sortedHI at h
  split at h
  · rename_i g b
    split at h
    · rename_i hg
      rw [Bool.and_eq_true] at hg
      obtain ⟨hg, hcb⟩ := hg
      simp only [Option.bind_eq_some_iff, Option.map_eq_some_iff] at h
      obtain ⟨m, hm, ks, hks, rfl⟩ := h
      obtain ⟨rk, Lk, rfl, hk26, eg⟩ := hgs g hg
      obtain ⟨c, cs, rfl, h1, h2⟩ := hv.cons_inv
      have := h2.nil_inv
      subst this
      simp only [VR] at h1
      obtain ⟨f', c', rfl, h3, h4⟩ := h1
      have h3 := h3.nil_inv
      obtain ⟨pc, pcs, h5, h6, h7⟩ := h4.cons_inv
      have := h7.nil_inv
      subst this
      simp only [VR] at h6
      obtain ⟨cb, hcb1, rfl⟩ := h6
      have hf' : f' = #[] := Array.ext' (by simpa using h3)
      subst hf'
      have hc' : c' = #[.pointer (some ⟨cb.blk, 0 + cb.sh, none⟩)] := Array.ext' (by simpa using h5)
      subst hc'
      -- the box
      obtain ⟨c2, mv, hc2, hmv, hcell⟩ := readCell_sound hR hm
      rw [hcb1] at hc2
      cases hc2
      have hsh : cb.sh = 0 ∧ cb.blk < w.heap.size := by
        unfold isCells at hcb
        split at hcb
        · rename_i q e hq
          obtain ⟨ob, h8, l', fr, _, _, h9, _⟩ := hR.at hq hcb1
          exact ⟨h9, hR.lt hq hcb1⟩
        · cases hcb
      obtain ⟨hsh, hblt⟩ := hsh
      rw [hsh] at hcell ⊢
      simp only [Nat.add_zero] at hcell ⊢
      -- the keys come
      have key : ∃ (S : List Int → Prop) (N : Nat), N ≤ maxLen ∧ N * 8 ≤ 140737488355328 ∧ SeqGives Fence.wide 2 P (rk.f 10) #[.pointer (some ⟨cb.blk, 0, none⟩)] encZ S N w ∧ ∀ ss, S ss → ss.mergeSort (fun x y => decide (x ≤ y)) = ks.map Int.ofNat := by
        unfold mapKeys at hks
        split at hks
        · cases hks
          simp only [VR] at hmv
          subst hmv
          exact ⟨fun ss => ss = [], 0, Nat.zero_le _, by omega, AnyZI.keys_gives_nil Lk Fence.wide 2 trivial rfl cb.blk w hblt hcell, fun ss h => by subst h; simp⟩
        · rename_i mb
          simp only [VR] at hmv
          obtain ⟨cm, hcm, rfl⟩ := hmv
          split at hks
          · rename_i es clock hes
            split at hks
            · rename_i hok
              simp only [Option.bind_eq_some_iff] at hks
              obtain ⟨k0, hk0, hks⟩ := hks
              split at hks
              · rename_i hrise
                cases hks
                obtain ⟨ob, hob, es', rfl, hers, _⟩ := hR.at hes hcm
                obtain ⟨g1, g2, g3, g4⟩ := keys_read hk26 hers hk0
                simp only [okMap, Bool.and_eq_true] at hok
                obtain ⟨⟨ho1, ho2⟩, ho3⟩ := hok
                have hlen : es'.size < 1048576 := by
                  have h1 := hers.length
                  have h2 : es.length < 1048576 := by rw [← Nat.blt_eq]; exact ho3
                  have h3 : es'.toList.length = es'.size := Array.length_toList
                  omega
                have hml : es'.size ≤ maxLen := by unfold maxLen; omega
                have hsz : k0.length = es'.size := by
                  have := congrArg List.length g1
                  simpa using this.symm
                have hnd : k0.Nodup := (sortN_perm k0).nodup_iff.1 (nodup_of_rises hrise)
                have hown : w.ownsMap P (rk.t 26) RNil cm.blk es'.size (.map ((es'.toList.map (Go.WideElems.rg P (rk.t 26) RNil)).foldr DataW.insert [])) := by
                  refine ⟨es', clock, hob, ⟨hml, ⟨fun x hx => ?_, ?_, ?_⟩, g3⟩, Nat.le_refl _, rfl⟩
                  · have hx' : x.born ∈ es.map (·.2.2) := by rw [← g2]; exact List.mem_map_of_mem hx
                    have := List.all_eq_true.1 ho2 _ hx'
                    rw [← Nat.blt_eq]; exact this
                  · rw [g2]; exact nodup_of_rises ho1
                  · rw [g1]
                    exact List.Pairwise.map _ (fun a b hab e => hab (by injection e with _ e; exact Int.ofNat.inj e)) hnd
                have hsize : Maps.size (H := Unit) (.map ((es'.toList.map (Go.WideElems.rg P (rk.t 26) RNil)).foldr DataW.insert [])) = es'.size := by
                  rw [Maps.size_eq, (Go.WideShapes.sorted_perm _).length_eq]
                  simp
                refine ⟨_, _, ?_, ?_, AnyZI.keys_gives Lk Fence.wide 2 trivial rfl (by omega) cb.blk cm.blk es'.size _ w hblt hcell hown, fun ss hss => ?_⟩
                · rw [hsize]; exact hml
                · rw [hsize]; omega
                · refine sortN_merge (hss.trans ?_)
                  show (((es'.toList.map (Go.WideElems.rg P (rk.t 26) RNil)).foldr DataW.insert []).map fun p => intOf p.1).Perm _
                  refine ((Go.WideShapes.sorted_perm _).map _).trans ?_
                  rw [g4, List.map_map]
                  exact .of_eq rfl
              · cases hks
            · cases hks
          · cases hks
        · cases hks
      obtain ⟨S, N, hN1, hN2, hseq, hmerge⟩ := key
      have hC := callsIn_wide.1 (AnyZI.sorted_in L Fence.wide 5 trivial trivial trivial trivial rfl (by omega) (hs _) e9 (rk.f 10) #[.pointer (some ⟨cb.blk, 0, none⟩)] trivial eg S N hN1 hN2 w hseq)
      unfold Does
      rw [e6]
      refine hC.mono ?_
      rintro e w' ⟨v, ss, rfl, hS, hrow, hnil, hB⟩
      have hm := hmerge ss hS
      rw [hm] at hrow
      have hlen : ks.length = ss.length := by
        have := congrArg List.length hm
        simpa using this.symm
      cases ks with
      | nil =>
        have hss : ss = [] := List.eq_nil_of_length_eq_zero hlen.symm
        have := hnil.2 hss
        subst this
        obtain ⟨g1, g2⟩ := below_ev (nx := nx) hR hF hB
        exact ⟨ρ, by simp only [VR], g1, hF, g2⟩
      | cons x l =>
        rcases hrow.2 with ⟨rfl, hz⟩ | ⟨gb, cap, cur, rfl, hbase, hgb, r1, r2, r3, r4⟩
        · rw [hz] at hlen; cases hlen
        · have hcur : cur.toList.take (x :: l).length = ((x :: l).map Int.ofNat).map encZ := by rw [hlen]; simpa using r4
          obtain ⟨ρ', h1, h2, h3, h4, h5⟩ := fresh_ev (k := .grown ((x :: l).map fun n => .int .i64 (.ofNat n)) (r.t 26) 1 none) (ob := .cells cur (r.t 26) (0, 0)) (c := ⟨gb, 0, cap, 1⟩) hR hF hb hB hbase hgb
            (fun ρ' hx hn => ⟨cur, (0, 0), rfl, rfl, by simp [r3], by simp only [List.length_map]; omega, by
              have e : (cur.toList.drop 0).take (List.map (fun n => AVal.int .i64 (.ofNat n)) (x :: l)).length = (x :: l).map fun n => Value.int .i64 (.ofNat n) := by
                rw [List.drop_zero, List.length_map, hcur, List.map_map]
                rfl
              show VRs ρ' _ ((cur.toList.drop 0).take _)
              rw [e]
              exact ints_VR ρ' (x :: l), .inl rfl⟩)
          refine ⟨ρ', ?_, h3, h4, h5⟩
          simp only [VR]
          exact ⟨_, h1, by simp only [hlen]; omega, by simp [hlen]⟩
    · cases h
  · cases h
end Go.Mu

namespace Go.Mu
variable {P : Program}

def sortedL (gs : FuncId → Bool) (args : List AVal) (hp : Heap) : Option (List Nat) := match args with
  | [.func (.func g) [] [.ptr b 0]] => if gs g && isCells hp b then (readCell hp b 0).bind (mapKeys hp) else none
  | _ => none
theorem sortedHI_eq (gs : FuncId → Bool) (t : TypeId) (args : List AVal) (hp : Heap) (nx : Nat) : sortedHI gs t args hp nx = (sortedL gs args hp).map (outI t hp nx) := by
  unfold sortedHI
  split
  · rename_i g b
    show _ = Option.map (outI t hp nx) (if gs g && isCells hp b then (readCell hp b 0).bind (mapKeys hp) else none)
    split
    · simp only [Option.map_bind]
      rfl
    · rfl
  · rename_i hx
    unfold sortedL
    split
    · exact (hx _ _ rfl).elim
    · rfl

noncomputable def intsK (l : List Nat) : (List AVal → A) → A := @List.rec Nat (fun _ => (List AVal → A) → A) (fun k => k []) (fun n _ ih k => fnS n fun n => ih fun r => k (.int .i64 (.ofNat n) :: r)) l
theorem intsK_eq : ∀ (l : List Nat) (k : List AVal → A), intsK l k = k (l.map fun n => .int .i64 (.ofNat n))
  | [], k => rfl
  | n :: l, k => by
    show fnS n (fun n => intsK l fun r => k (.int .i64 (.ofNat n) :: r)) = _
    rw [fnS_eq, intsK_eq l]
    rfl

noncomputable def sortedKI (gs : FuncId → Bool) (t : TypeId) : HkF := fun args hp nx kr _ => oK (sortedL gs args hp) fun ks => intsK ks fun cs =>
  @List.rec AVal (fun _ => A) (kr .nilslice hp nx) (fun x l _ => lenK (x :: l) 0 fun n => hsetK hp nx (.grown (x :: l) t 1 none) fun hp => fnS (Nat.succ nx) fun nx' => kr (.oslice nx 0 n) hp nx') cs
theorem sortedKI_inv {gs : FuncId → Bool} {t : TypeId} {args : List AVal} {hp : Heap} {nx : Nat} {kr : KR} {kp : KP} (h : sortedKI gs t args hp nx kr kp = true) : ∃ o, sortedHI gs t args hp nx = some o ∧ outK kr kp o = true := by
  obtain ⟨ks, h1, h⟩ := oK_inv h
  rw [intsK_eq] at h
  refine ⟨outI t hp nx ks, by rw [sortedHI_eq, h1]; rfl, ?_⟩
  cases ks with
  | nil => exact h
  | cons x l =>
    have h := lenK_inv h
    rw [hsetK_eq, fnS_eq] at h
    have e : (List.map (fun n => AVal.int .i64 (.ofNat n)) (x :: l)).length = (x :: l).length := List.length_map ..
    rw [show (AVal.int .i64 (.ofNat x) :: List.map (fun n => AVal.int .i64 (.ofNat n)) l) = List.map (fun n => AVal.int .i64 (.ofNat n)) (x :: l) from rfl, e] at h
    exact h
end Go.Mu

namespace Go.Mu
open Go.Proofs Go.RowKit Go.Maps Go.Shelf
variable {P : Program} {ρ : Rho} {hp : Heap} {nx base : Nat} {w : World}

/-! Keys that are strings, put in order. -/
def bu (l : List Nat) : List UInt8 := l.map UInt8.ofNat
def leL (x y : List Nat) : Bool := !(ltL y x)
theorem ltL_irrefl : ∀ x, ltL x x = false
  | [] => rfl
  | a :: x => by
    unfold ltL
    have h1 : Nat.blt a a = false := by cases hb : Nat.blt a a with | false => rfl | true => rw [Nat.blt_eq] at hb; omega
    rw [h1, Nat.beq_refl, ltL_irrefl x]
    rfl
theorem ltL_bu : ∀ {x y : List Nat}, (∀ a ∈ x, a < 256) → (∀ a ∈ y, a < 256) → ((ltL x y = true) ↔ bu x < bu y)
  | [], [], _, _ => by simp [ltL, bu]
  | [], b :: y, _, _ => by simp [ltL, bu]
  | a :: x, [], _, _ => by simp [ltL, bu]
  | a :: x, b :: y, hx, hy => by
    have ih := ltL_bu (x := x) (y := y) (fun c hc => hx c (by simp [hc])) (fun c hc => hy c (by simp [hc]))
    have ha := hx a (by simp)
    have hb := hy b (by simp)
    show _ ↔ UInt8.ofNat a :: bu x < UInt8.ofNat b :: bu y
    rw [List.cons_lt_cons_iff, u8_lt ha hb, u8_eq ha hb, ← ih]
    show (bif Nat.blt a b then true else bif Nat.beq a b then ltL x y else false) = true ↔ _
    cases h1 : Nat.blt a b with
    | true =>
      rw [Nat.blt_eq] at h1
      simp [h1]
    | false =>
      have h1 : ¬ a < b := fun h => by rw [← Nat.blt_eq] at h; rw [h] at h1; cases h1
      cases h2 : Nat.beq a b with
      | true =>
        have := Nat.eq_of_beq_eq_true h2
        subst this
        simp
      | false =>
        have h2 : ¬ a = b := fun h => by subst h; rw [Nat.beq_refl] at h2; cases h2
        simp [h1, h2]
theorem leL_bu {x y : List Nat} (hx : ∀ a ∈ x, a < 256) (hy : ∀ a ∈ y, a < 256) : (leL x y = true) ↔ bu x ≤ bu y := by
  unfold leL
  rw [← List.not_lt, ← ltL_bu hy hx]
  simp

def insL (x : List Nat) : List (List Nat) → List (List Nat)
  | [] => [x]
  | y :: l => bif leL x y then x :: y :: l else y :: insL x l
def sortL : List (List Nat) → List (List Nat)
  | [] => []
  | x :: l => insL x (sortL l)
theorem insL_perm (x : List Nat) : ∀ l, (insL x l).Perm (x :: l)
  | [] => .refl _
  | y :: l => by
    unfold insL
    cases leL x y with
    | true => exact .refl _
    | false => exact ((insL_perm x l).cons y).trans (.swap ..)
theorem sortL_perm : ∀ l, (sortL l).Perm l
  | [] => .refl _
  | x :: l => (insL_perm x _).trans ((sortL_perm l).cons x)
theorem insL_sorted (x : List Nat) (hx : ∀ a ∈ x, a < 256) : ∀ l, (∀ y ∈ l, ∀ a ∈ y, a < 256) → l.Pairwise (fun x y => bu x ≤ bu y) → (insL x l).Pairwise (fun x y => bu x ≤ bu y)
  | [], _, _ => by simp [insL]
  | y :: l, hb, h => by
    unfold insL
    rw [List.pairwise_cons] at h
    have hy := hb y (by simp)
    cases hle : leL x y with
    | true =>
      rw [leL_bu hx hy] at hle
      simp only [cond_true, List.pairwise_cons]
      refine ⟨fun a ha => ?_, h⟩
      rcases List.mem_cons.1 ha with rfl | ha
      · exact hle
      · exact List.le_trans hle (h.1 a ha)
    | false =>
      have hle : ¬ bu x ≤ bu y := fun h => by rw [← leL_bu hx hy] at h; rw [h] at hle; cases hle
      simp only [cond_false, List.pairwise_cons]
      refine ⟨fun a ha => ?_, insL_sorted x hx l (fun z hz => hb z (by simp [hz])) h.2⟩
      rcases List.mem_cons.1 ((insL_perm x l).mem_iff.1 ha) with rfl | ha
      · exact (List.le_total (bu y) (bu a)).resolve_right hle
      · exact h.1 a ha
theorem sortL_sorted : ∀ l, (∀ y ∈ l, ∀ a ∈ y, a < 256) → (sortL l).Pairwise (fun x y => bu x ≤ bu y)
  | [], _ => .nil
  | x :: l, h => insL_sorted x (h x (by simp)) _ (fun y hy => h y (by simp [(sortL_perm l).mem_iff.1 hy])) (sortL_sorted l fun y hy => h y (by simp [hy]))
theorem sortL_merge {l : List (List Nat)} (hb : ∀ y ∈ l, ∀ a ∈ y, a < 256) {ss : List (List UInt8)} (h : ss.Perm (l.map bu)) : ss.mergeSort (fun x y => decide (x ≤ y)) = (sortL l).map bu := by
  have tr : ∀ a b c : List UInt8, (decide (a ≤ b)) = true → decide (b ≤ c) = true → decide (a ≤ c) = true := fun a b c h1 h2 => by simp only [decide_eq_true_eq] at *; exact List.le_trans h1 h2
  have to : ∀ a b : List UInt8, (decide (a ≤ b) || decide (b ≤ a)) = true := fun a b => by simp only [Bool.or_eq_true, decide_eq_true_eq]; exact List.le_total a b
  refine List.Perm.eq_of_pairwise (le := fun a b => decide (a ≤ b) = true) (fun a b _ _ h1 h2 => ?_) (List.pairwise_mergeSort tr to ss) ?_ (((List.mergeSort_perm ss _).trans h).trans ((sortL_perm l).map _).symm)
  · simp only [decide_eq_true_eq] at h1 h2
    exact List.le_antisymm h1 h2
  · rw [List.pairwise_map]
    exact (sortL_sorted l hb).imp fun hab => by simpa using hab
def nodupL : List (List Nat) → Bool
  | [] => true
  | x :: l => l.all (fun y => ltL x y || ltL y x) && nodupL l
theorem nodupL_nodup : ∀ {l : List (List Nat)}, nodupL l = true → l.Nodup
  | [], _ => .nil
  | x :: l, h => by
    simp only [nodupL, Bool.and_eq_true] at h
    refine List.nodup_cons.2 ⟨fun hx => ?_, nodupL_nodup h.2⟩
    have := List.all_eq_true.1 h.1 x hx
    rw [ltL_irrefl] at this
    cases this

def keyS : AVal → Option (List Nat)
  | .str l => if l.length < 1048576 then some l else none
  | _ => none
def keysS : List (AVal × AVal × Nat) → Option (List (List Nat))
  | [] => some []
  | e :: es => match keyS e.1 with
    | some n => (keysS es).map (n :: ·)
    | none => none
theorem encStr_bu (l : List Nat) : encStr (bu l) = .string (bytesOf l) := rfl
theorem keysS_read {k : TypeId} (hk : P.underlying k = some .string) : ∀ {es : List (AVal × AVal × Nat)} {ms : List MapEntry} {ks : List (List Nat)}, ERs ρ es ms → keysS es = some ks →
    ms.map (·.key) = ks.map (fun n => Value.string (bytesOf n)) ∧ ms.map (·.born) = es.map (·.2.2) ∧ (∀ x ∈ ms, ∃ y, Go.WideElems.rd P k RNil x = some y) ∧ ms.map (Go.WideElems.rg P k RNil) = ks.map (fun n => (Lit.string (bu n), DataW.nil)) ∧ ∀ y ∈ ks, ∀ a ∈ y, a < 256
  | [], ms, ks, hm, h => by
    simp only [ERs] at hm
    subst hm
    simp only [keysS] at h
    cases h
    exact ⟨rfl, rfl, fun x hx => (by cases hx), rfl, fun x hx => (by cases hx)⟩
  | e :: es, _, ks, ⟨m, ms, h0, h1, h2⟩, h => by
    subst h0
    simp only [keysS] at h
    split at h
    · rename_i n hn
      simp only [Option.map_eq_some_iff] at h
      obtain ⟨r, hr, rfl⟩ := h
      obtain ⟨g1, g2, g3, g4, g5⟩ := keysS_read hk h2 hr
      obtain ⟨k1, k2, k3⟩ := h1
      unfold keyS at hn
      split at hn
      · rename_i q hq
        split at hn
        · rename_i hlt
          cases hn
          rw [hq] at k1
          simp only [VR] at k1
          obtain ⟨k1, k4⟩ := k1
          have hsz : (bytesOf n).size ≤ maxLen := by rw [size_bytesOf]; unfold maxLen; omega
          have hrd : Go.WideElems.rd P k RNil m = some (.string (bu n), .nil) := by
            simp only [Go.WideElems.rd, k1, Go.WideMaps.keyOf_string_mk hk hsz, Option.bind_some, Option.map_some]
            simp [bytesOf, bu]
          refine ⟨by simp [k1, g1], by simp [k3, g2], fun x hx => ?_, ?_, fun y hy => ?_⟩
          · rcases List.mem_cons.1 hx with rfl | hx
            · exact ⟨_, hrd⟩
            · exact g3 x hx
          · rw [List.map_cons, g4, List.map_cons]
            congr 1
            simp only [Go.WideElems.rg, hrd, Option.getD_some]
          · rcases List.mem_cons.1 hy with rfl | hy
            · exact k4
            · exact g5 y hy
        · cases hn
      · cases hn
    · cases h
end Go.Mu

namespace Go.Mu
open Go.Proofs Go.RowKit Go.Maps Go.Shelf
variable {P : Program} {ρ : Rho} {hp : Heap} {nx base : Nat} {w : World}

theorem bu_inj {x y : List Nat} (hx : ∀ a ∈ x, a < 256) (hy : ∀ a ∈ y, a < 256) (h : bytesOf x = bytesOf y) : x = y := by
  have h : x.map UInt8.ofNat = y.map UInt8.ofNat := by
    have := congrArg (fun b : ByteArray => b.data.toList) h
    simpa [bytesOf] using this
  have back : ∀ l : List Nat, (∀ a ∈ l, a < 256) → (l.map UInt8.ofNat).map UInt8.toNat = l := fun l hl => by
    rw [List.map_map]
    refine (List.map_congr_left fun a ha => ?_).trans (List.map_id _)
    simp [Nat.mod_eq_of_lt (hl a ha)]
  rw [← back x hx, ← back y hy, h]
theorem nodup_strs : ∀ {l : List (List Nat)}, (∀ y ∈ l, ∀ a ∈ y, a < 256) → l.Nodup → (l.map fun n => Value.string (bytesOf n)).Nodup
  | [], _, _ => .nil
  | x :: l, hb, h => by
    rw [List.nodup_cons] at h
    rw [List.map_cons, List.nodup_cons]
    refine ⟨fun hx => ?_, nodup_strs (fun y hy => hb y (by simp [hy])) h.2⟩
    obtain ⟨y, hy, e⟩ := List.mem_map.1 hx
    injection e with e
    exact h.1 (bu_inj (hb y (by simp [hy])) (hb x (by simp)) e ▸ hy)
theorem strs_VR (ρ : Rho) : ∀ l : List (List Nat), (∀ y ∈ l, ∀ a ∈ y, a < 256) → VRs ρ (l.map AVal.str) (l.map fun n => Value.string (bytesOf n))
  | [], _ => VRs.nil
  | n :: l, h => VRs.cons (by simp only [VR]; exact ⟨trivial, h n (by simp)⟩) (strs_VR ρ l fun y hy => h y (by simp [hy]))

def mapKeysS (hp : Heap) : AVal → Option (List (List Nat))
  | .nilmap => some []
  | .map mb => match hp.get mb with
    | some (.mapo es clock) => if okMap es clock then (keysS es).bind fun ks => if nodupL ks then some (sortL ks) else none else none
    | _ => none
  | _ => none
def outS (t : TypeId) (hp : Heap) (nx : Nat) : List (List Nat) → Out
  | [] => .ret .nilslice hp nx
  | x :: l => .ret (.oslice nx 0 (x :: l).length) (hp.set nx (.grown ((x :: l).map AVal.str) t 1 none)) (nx + 1)
def sortedHS (gs : FuncId → Bool) (t : TypeId) (args : List AVal) (hp : Heap) (nx : Nat) : Option Out := match args with
  | [.func (.func g) [] [.ptr b 0]] => if gs g && isCells hp b then (readCell hp b 0).bind fun m => (mapKeysS hp m).map (outS t hp nx) else none
  | _ => none

/-- What slices.Sorted over a map's keys comes to, at keys that are strings. -/
theorem sortedS_hook {r : Ren} (L : SlLaysZ.n6 P r) (hs : ∀ m, AnyZ.SortsIn P r Fence.wide m) (e6 : ∀ args w, (callFunc (r.f 6) args).run P w = .ok (.enter (r.f 6) args) w) (e9 : ∀ args w, (callFunc (r.f 9) args).run P w = .ok (.enter (r.f 9) args) w)
    {gs : FuncId → Bool} (hgs : ∀ g, gs g = true → ∃ rk, SlLaysZ.n10 P rk ∧ rk.f 10 = g ∧ P.underlying (rk.t 26) = some .string ∧ ∀ args w, (callFunc g args).run P w = .ok (.enter g args) w)
    {args : List AVal} {o : Out} (h : sortedHS gs (r.t 26) args hp nx = some o) :
    ∀ ρ cargs w, VRs ρ args cargs → HR ρ hp w base → Fresh ρ nx → base ≤ w.heap.size → Does P (r.f 6) cargs.toArray w (OutR ρ hp nx base w o) := by
  intro ρ cargs w hv hR hF hb
  unfold sortedHS at h
  split at h
  · rename_i g b
    split at h
    · rename_i hg
      rw [Bool.and_eq_true] at hg
      obtain ⟨hg, hcb⟩ := hg
      simp only [Option.bind_eq_some_iff, Option.map_eq_some_iff] at h
      obtain ⟨m, hm, ks, hks, rfl⟩ := h
      obtain ⟨rk, Lk, rfl, hk26, eg⟩ := hgs g hg
      obtain ⟨c, cs, rfl, h1, h2⟩ := hv.cons_inv
      have := h2.nil_inv
      subst this
      simp only [VR] at h1
      obtain ⟨f', c', rfl, h3, h4⟩ := h1
      have h3 := h3.nil_inv
      obtain ⟨pc, pcs, h5, h6, h7⟩ := h4.cons_inv
      have := h7.nil_inv
      subst this
      simp only [VR] at h6
      obtain ⟨cb, hcb1, rfl⟩ := h6
      have hf' : f' = #[] := Array.ext' (by simpa using h3)
      subst hf'
      have hc' : c' = #[.pointer (some ⟨cb.blk, 0 + cb.sh, none⟩)] := Array.ext' (by simpa using h5)
      subst hc'
      -- the box
      obtain ⟨c2, mv, hc2, hmv, hcell⟩ := readCell_sound hR hm
      rw [hcb1] at hc2
      cases hc2
      have hsh : cb.sh = 0 ∧ cb.blk < w.heap.size := by
        unfold isCells at hcb
        split at hcb
        · rename_i q e hq
          obtain ⟨ob, h8, l', fr, _, _, h9, _⟩ := hR.at hq hcb1
          exact ⟨h9, hR.lt hq hcb1⟩
        · cases hcb
      obtain ⟨hsh, hblt⟩ := hsh
      rw [hsh] at hcell ⊢
      simp only [Nat.add_zero] at hcell ⊢
      -- the keys come
      have key : ∃ (S : List (List UInt8) → Prop) (N : Nat), N ≤ maxLen ∧ N * 16 ≤ 140737488355328 ∧ SeqGives Fence.wide 2 P (rk.f 10) #[.pointer (some ⟨cb.blk, 0, none⟩)] encStr S N w ∧ (∀ ss, S ss → ss.mergeSort (fun x y => decide (x ≤ y)) = ks.map bu) ∧ ∀ y ∈ ks, ∀ a ∈ y, a < 256 := by
        unfold mapKeysS at hks
        split at hks
        · cases hks
          simp only [VR] at hmv
          subst hmv
          exact ⟨fun ss => ss = [], 0, Nat.zero_le _, by omega, AnyZ.keys_gives_nil Lk Fence.wide 2 trivial rfl cb.blk w hblt hcell, fun ss h => (by subst h; simp), fun y hy => (by cases hy)⟩
        · rename_i mb
          simp only [VR] at hmv
          obtain ⟨cm, hcm, rfl⟩ := hmv
          split at hks
          · rename_i es clock hes
            split at hks
            · rename_i hok
              simp only [Option.bind_eq_some_iff] at hks
              obtain ⟨k0, hk0, hks⟩ := hks
              split at hks
              · rename_i hrise
                cases hks
                obtain ⟨ob, hob, es', rfl, hers, _⟩ := hR.at hes hcm
                obtain ⟨g1, g2, g3, g4, g5⟩ := keysS_read hk26 hers hk0
                simp only [okMap, Bool.and_eq_true] at hok
                obtain ⟨⟨ho1, ho2⟩, ho3⟩ := hok
                have hlen : es'.size < 1048576 := by
                  have h1 := hers.length
                  have h2 : es.length < 1048576 := by rw [← Nat.blt_eq]; exact ho3
                  have h3 : es'.toList.length = es'.size := Array.length_toList
                  omega
                have hml : es'.size ≤ maxLen := by unfold maxLen; omega
                have hsz : k0.length = es'.size := by
                  have := congrArg List.length g1
                  simpa using this.symm
                have hnd : k0.Nodup := nodupL_nodup hrise
                have hown : w.ownsMap P (rk.t 26) RNil cm.blk es'.size (.map ((es'.toList.map (Go.WideElems.rg P (rk.t 26) RNil)).foldr DataW.insert [])) := by
                  refine ⟨es', clock, hob, ⟨hml, ⟨fun x hx => ?_, ?_, ?_⟩, g3⟩, Nat.le_refl _, rfl⟩
                  · have hx' : x.born ∈ es.map (·.2.2) := by rw [← g2]; exact List.mem_map_of_mem hx
                    have := List.all_eq_true.1 ho2 _ hx'
                    rw [← Nat.blt_eq]; exact this
                  · rw [g2]; exact nodup_of_rises ho1
                  · rw [g1]
                    exact nodup_strs g5 hnd
                have hsize : Maps.size (H := Unit) (.map ((es'.toList.map (Go.WideElems.rg P (rk.t 26) RNil)).foldr DataW.insert [])) = es'.size := by
                  rw [Maps.size_eq, (Go.WideShapes.sorted_perm _).length_eq]
                  simp
                refine ⟨_, _, ?_, ?_, AnyZ.keys_gives Lk Fence.wide 2 trivial rfl (by omega) cb.blk cm.blk es'.size _ w hblt hcell hown, fun ss hss => ?_, fun y hy => g5 y ((sortL_perm k0).mem_iff.1 hy)⟩
                · rw [hsize]; exact hml
                · rw [hsize]; omega
                · refine sortL_merge g5 (hss.trans ?_)
                  show (((es'.toList.map (Go.WideElems.rg P (rk.t 26) RNil)).foldr DataW.insert []).map fun p => strOf p.1).Perm _
                  refine ((Go.WideShapes.sorted_perm _).map _).trans ?_
                  rw [g4, List.map_map]
                  exact .of_eq rfl
              · cases hks
            · cases hks
          · cases hks
        · cases hks
      obtain ⟨S, N, hN1, hN2, hseq, hmerge, hbytes⟩ := key
      have hC := callsIn_wide.1 (AnyZ.sorted_in L Fence.wide 5 trivial trivial trivial trivial rfl (by omega) (hs _) e9 (rk.f 10) #[.pointer (some ⟨cb.blk, 0, none⟩)] trivial eg S N hN1 hN2 w hseq)
      unfold Does
      rw [e6]
      refine hC.mono ?_
      rintro e w' ⟨v, ss, rfl, hS, hrow, hnil, hB⟩
      have hm := hmerge ss hS
      rw [hm] at hrow
      have hlen : ks.length = ss.length := by
        have := congrArg List.length hm
        simpa using this.symm
      cases ks with
      | nil =>
        have hss : ss = [] := List.eq_nil_of_length_eq_zero hlen.symm
        have := hnil.2 hss
        subst this
        obtain ⟨g1, g2⟩ := below_ev (nx := nx) hR hF hB
        exact ⟨ρ, by simp only [VR], g1, hF, g2⟩
      | cons x l =>
        rcases hrow.2 with ⟨rfl, hz⟩ | ⟨gb, cap, cur, rfl, hbase, hgb, r1, r2, r3, r4⟩
        · rw [hz] at hlen; cases hlen
        · have hcur : cur.toList.take (x :: l).length = ((x :: l).map bu).map encStr := by rw [hlen]; simpa using r4
          obtain ⟨ρ', h1, h2, h3, h4, h5⟩ := fresh_ev (k := .grown ((x :: l).map AVal.str) (r.t 26) 1 none) (ob := .cells cur (r.t 26) (0, 0)) (c := ⟨gb, 0, cap, 1⟩) hR hF hb hB hbase hgb
            (fun ρ' hx hn => ⟨cur, (0, 0), rfl, rfl, by simp [r3], by simp only [List.length_map]; omega, by
              have e : (cur.toList.drop 0).take (List.map AVal.str (x :: l)).length = (x :: l).map fun n => Value.string (bytesOf n) := by
                rw [List.drop_zero, List.length_map, hcur, List.map_map]
                rfl
              show VRs ρ' _ ((cur.toList.drop 0).take _)
              rw [e]
              exact strs_VR ρ' (x :: l) (fun y hy => hbytes y (by simpa using hy)), .inl rfl⟩)
          refine ⟨ρ', ?_, h3, h4, h5⟩
          simp only [VR]
          exact ⟨_, h1, by simp only [hlen]; omega, by simp [hlen]⟩
    · cases h
  · cases h
end Go.Mu

namespace Go.Mu
variable {P : Program}

def sortedLS (gs : FuncId → Bool) (args : List AVal) (hp : Heap) : Option (List (List Nat)) := match args with
  | [.func (.func g) [] [.ptr b 0]] => if gs g && isCells hp b then (readCell hp b 0).bind (mapKeysS hp) else none
  | _ => none
theorem sortedHS_eq (gs : FuncId → Bool) (t : TypeId) (args : List AVal) (hp : Heap) (nx : Nat) : sortedHS gs t args hp nx = (sortedLS gs args hp).map (outS t hp nx) := by
  unfold sortedHS
  split
  · rename_i g b
    show _ = Option.map (outS t hp nx) (if gs g && isCells hp b then (readCell hp b 0).bind (mapKeysS hp) else none)
    split
    · simp only [Option.map_bind]
      rfl
    · rfl
  · rename_i hx
    unfold sortedLS
    split
    · exact (hx _ _ rfl).elim
    · rfl

noncomputable def byteK1 (l : List Nat) : (List Nat → A) → A := @List.rec Nat (fun _ => (List Nat → A) → A) (fun k => k []) (fun n _ ih k => fnS n fun n => ih fun r => k (n :: r)) l
theorem byteK1_eq : ∀ (l : List Nat) (k : List Nat → A), byteK1 l k = k l
  | [], k => rfl
  | n :: l, k => by
    show fnS n (fun n => byteK1 l fun r => k (n :: r)) = _
    rw [fnS_eq, byteK1_eq l]
noncomputable def strsK (l : List (List Nat)) : (List AVal → A) → A := @List.rec (List Nat) (fun _ => (List AVal → A) → A) (fun k => k []) (fun n _ ih k => byteK1 n fun n => ih fun r => k (.str n :: r)) l
theorem strsK_eq : ∀ (l : List (List Nat)) (k : List AVal → A), strsK l k = k (l.map AVal.str)
  | [], k => rfl
  | n :: l, k => by
    show byteK1 n (fun n => strsK l fun r => k (.str n :: r)) = _
    rw [byteK1_eq, strsK_eq l]
    rfl

noncomputable def sortedKS (gs : FuncId → Bool) (t : TypeId) : HkF := fun args hp nx kr _ => oK (sortedLS gs args hp) fun ks => strsK ks fun cs =>
  @List.rec AVal (fun _ => A) (kr .nilslice hp nx) (fun x l _ => lenK (x :: l) 0 fun n => hsetK hp nx (.grown (x :: l) t 1 none) fun hp => fnS (Nat.succ nx) fun nx' => kr (.oslice nx 0 n) hp nx') cs
theorem sortedKS_inv {gs : FuncId → Bool} {t : TypeId} {args : List AVal} {hp : Heap} {nx : Nat} {kr : KR} {kp : KP} (h : sortedKS gs t args hp nx kr kp = true) : ∃ o, sortedHS gs t args hp nx = some o ∧ outK kr kp o = true := by
  obtain ⟨ks, h1, h⟩ := oK_inv h
  rw [strsK_eq] at h
  refine ⟨outS t hp nx ks, by rw [sortedHS_eq, h1]; rfl, ?_⟩
  cases ks with
  | nil => exact h
  | cons x l =>
    have h := lenK_inv h
    rw [hsetK_eq, fnS_eq] at h
    have e : (List.map AVal.str (x :: l)).length = (x :: l).length := List.length_map ..
    rw [show (AVal.str x :: List.map AVal.str l) = List.map AVal.str (x :: l) from rfl, e] at h
    exact h
end Go.Mu
