/- What sum.More comes to: a checksum, bit by bit. No condition. -/
import Derived.KernelRfl
import Derived.Test.YtfokdfakbobemaaGreatDoorMuF
import Derived.Test.YtfokdfakbobemaaGreatDoorProg
set_option autoImplicit true
set_option relaxedAutoImplicit true
set_option linter.unusedVariables false
set_option linter.unusedSimpArgs false
namespace Go.Mu
open Go.Proofs

/-! Code looked into. -/
def loops : Code → List Code
  | .loop b => b :: loops b
  | .seq a b => loops a ++ loops b
  | .cond _ a b => loops a ++ loops b
  | .block _ b => loops b
  | .scope b => loops b
  | _ => []
def bodyOf (f : Func) : Code := f.body.getD .skip
def loopOf (f : Func) (i : Nat) : Code := ((loops (bodyOf f))[i]?).getD .skip

/-- A code, its inner loops' bodies another one. -/
def fillLoop (I : Code) : Code → Code
  | .loop _ => .loop I
  | .seq a b => .seq (fillLoop I a) (fillLoop I b)
  | .cond c a b => .cond c (fillLoop I a) (fillLoop I b)
  | .block i b => .block i (fillLoop I b)
  | .scope b => .scope (fillLoop I b)
  | c => c

/-- One light operation, without a guard. -/
theorem ev_light {P : Program} {C : CallFn} {N : Nat} {ops : Array Oper} {o : Oper} {l : List Oper} {tm : Tm} {hp : Heap} {nx : Nat} {df : List ADf} {md : Option AMode} {d : Nat} {v : AVal}
    (hg : o.guard = none) (hd : o.dst = some d) (hN : Nat.blt d N = true) (hh : heavy P o.op = false) (hl : lev P (opnd tm) hp nx o.op = some (v, none)) :
    evOps P C N ops (o :: l) ⟨tm, hp, nx, df, md⟩ = evOps P C N ops l ⟨tm.set d v, hp, nx, df, md⟩ := by
  rw [evOps_cons]
  have hw : wantA ops tm o = some true := by unfold wantA; rw [hg]
  simp only [hw, Option.bind_some, contA, evOp, hh, Bool.false_eq_true, if_false, hl, addBlk, putD, hd, hN, cond_true]

theorem evOps_nil {P : Program} {C : CallFn} {N : Nat} {ops : Array Oper} {st : St} : evOps P C N ops [] st = some (.normal, st) := rfl

def bitN (r : Nat) : Nat := Nat.xor (r / 2) ((r % 2) * 3988292384)
def bitsN : Nat → Nat → Nat
  | 0, r => r
  | n + 1, r => bitsN n (bitN r)
theorem bitN_lt {r : Nat} (h : r < 2 ^ 32) : bitN r < 2 ^ 32 := by
  unfold bitN
  apply Nat.xor_lt_two_pow
  · omega
  · have : r % 2 < 2 := Nat.mod_lt _ (by omega)
    have : r % 2 * 3988292384 ≤ 1 * 3988292384 := Nat.mul_le_mul_right _ (by omega)
    omega

theorem fit_u32 {r : Nat} (h : r < 2 ^ 32) : wrapI .u32 (.ofNat r) = .ofNat r := wrapI_fit (Nat.ble_eq_true_of_le (by simp only [fastMax]; omega))
theorem lev_bin {P : Program} {tm : Tm} {hp : Heap} {nx : Nat} {op : BinOp} {t yt : TypeId} {x y : Operand} {a b v : AVal} (hx : opnd tm x = some a) (hy : opnd tm y = some b) (hv : binA P op t x y a b = some v) :
    lev P (opnd tm) hp nx (.binOp op t x y yt) = some (v, none) := by simp only [lev, levW, hx, hy, hv, Option.bind_some, noNew]
theorem lev_move {P : Program} {tm : Tm} {hp : Heap} {nx : Nat} {x : Operand} {a : AVal} (hx : opnd tm x = some a) : lev P (opnd tm) hp nx (.move x) = some (a, none) := by simp only [lev, levW, hx, noNew]
theorem lev_assign {P : Program} {tm : Tm} {hp : Heap} {nx : Nat} {x : Operand} {a : AVal} (hx : opnd tm x = some a) : lev P (opnd tm) hp nx (.assign x) = some (a, none) := by simp only [lev, levW, hx, noNew]

theorem bin_xor {P : Program} {t : TypeId} {x y : Operand} {m n : Nat} (hm : m < 2 ^ 32) (hn : n < 2 ^ 32) : binA P .xor t x y (.int .u32 (.ofNat m)) (.int .u32 (.ofNat n)) = some (.int .u32 (.ofNat (Nat.xor m n))) := by
  simp only [binA, ne_eq, not_true_eq_false, if_false, intOp, mkInt_eq]
  have h : Nat.xor m n < 2 ^ 32 := Nat.xor_lt_two_pow hm hn
  rw [fit_u32 h]
theorem bin_and1 {P : Program} {t : TypeId} {x y : Operand} {m : Nat} : binA P .and t x y (.int .u32 (.ofNat m)) (.int .u32 (.ofNat 1)) = some (.int .u32 (.ofNat (m % 2))) := by
  simp only [binA, ne_eq, not_true_eq_false, if_false, intOp, mkInt_eq]
  have e : Nat.land m 1 = m % 2 := Nat.and_one_is_mod m
  rw [e, fit_u32 (by have := Nat.mod_lt m (show 2 > 0 by omega); omega)]
theorem bin_shr1 {P : Program} {t : TypeId} {x y : Operand} {m : Nat} : binA P .shr t x y (.int .u32 (.ofNat m)) (.int .u64 (.ofNat 1)) = some (.int .u32 (.ofNat (m / 2))) := by
  have hz : ¬ ((Int.ofNat 1) < 0) := by simp
  simp only [binA, hz, if_false, mkInt_eq]
  have : min (Int.ofNat 1).toNat IntKind.u32.bits = 1 := rfl
  rw [this]
  congr 2
  cases m <;> rfl
theorem bin_eql {P : Program} {t : TypeId} {x y : Operand} {k : IntKind} {m n : Nat} : binA P .eql t x y (.int k (.ofNat m)) (.int k (.ofNat n)) = some (.bool (decide (m = n))) := by
  simp only [binA, ne_eq, not_true_eq_false, if_false, intOp, mkBool_eq]
  congr 2
  by_cases e : m = n
  · subst e; simp
  · simp [e]; omega
theorem bin_lss {P : Program} {t : TypeId} {x y : Operand} {k : IntKind} {m n : Nat} : binA P .lss t x y (.int k (.ofNat m)) (.int k (.ofNat n)) = some (.bool (decide (m < n))) := by
  simp only [binA, ne_eq, not_true_eq_false, if_false, intOp, mkBool_eq]
  congr 2
  simp
theorem bin_inc {P : Program} {t : TypeId} {x y : Operand} {m : Nat} (hm : m < 2 ^ 62) : binA P .add t x y (.int .i64 (.ofNat m)) (.int .i64 (.ofNat 1)) = some (.int .i64 (.ofNat (m + 1))) := by
  simp only [binA, ne_eq, not_true_eq_false, if_false, intOp, mkInt_eq]
  have e : (Int.ofNat m + Int.ofNat 1) = Int.ofNat (m + 1) := rfl
  rw [e, wrapI_fit (Nat.ble_eq_true_of_le (by simp only [fastMax]; omega))]

section
variable {P : Program} {C : CallFn} {LF : Nat} {dr : Array Oper → St → Option (AExit × St)}
/-- One bit. -/
theorem more_bit {tm : Tm} {hp : Heap} {nx : Nat} {df : List ADf} {md : Option AMode} {r i : Nat} (hr : r < 2 ^ 32) (hi : i < 8) (h5 : tm.get 5 = some (.int .u32 (.ofNat r))) (h20 : tm.get 20 = some (.int .i64 (.ofNat i))) :
    ∃ tm', evC P C 34 dr LF (loopOf Tryz.f305 1) ⟨tm, hp, nx, df, md⟩ = some (.normal, ⟨tm', hp, nx, df, md⟩) ∧ tm'.get 5 = some (.int .u32 (.ofNat (bitN r))) ∧ tm'.get 20 = some (.int .i64 (.ofNat (i + 1))) ∧
      tm'.get 10 = tm.get 10 ∧ tm'.get 11 = tm.get 11 ∧ tm'.get 12 = tm.get 12 := by
  simp only [loopOf, bodyOf, Tryz.f305, Option.getD_some, loops, List.append_nil, List.nil_append, List.cons_append, List.getElem?_cons_succ, List.getElem?_cons_zero]
  simp only [evC]
  rw [ev_light rfl rfl rfl rfl (lev_bin (a := .int .i64 (.ofNat i)) (b := .int .i64 (.ofNat 8)) (by simp only [opnd, h20]) rfl bin_lss)]
  have hd : decide (i < 8) = true := by simpa using hi
  simp only [evOps_nil, opnd, Tm.get_set, if_true, hd]
  rw [ev_light rfl rfl rfl rfl (lev_move (a := .int .u32 (.ofNat r)) (by simp [opnd, Tm.get_set, h5])),
    ev_light rfl rfl rfl rfl (lev_bin (a := .int .u32 (.ofNat r)) (b := .int .u32 (.ofNat 1)) (by simp [opnd, Tm.get_set]) rfl bin_and1),
    ev_light rfl rfl rfl rfl (lev_bin (a := .int .u32 (.ofNat (r % 2))) (b := .int .u32 (.ofNat 1)) (by simp [opnd, Tm.get_set]) rfl bin_eql)]
  simp only [evOps_nil, Tm.get_set, if_true]
  have h2 : r % 2 = 0 ∨ r % 2 = 1 := by omega
  have hr2 : r / 2 < 2 ^ 32 := by omega
  rcases h2 with h2 | h2
  · have hb : bitN r = r / 2 := by simp [bitN, h2]
    simp only [h2, show decide ((0 : Nat) = 1) = false from rfl]
    rw [ev_light rfl rfl rfl rfl (lev_move (a := .int .u32 (.ofNat r)) (by simp [opnd, Tm.get_set, h5])),
      ev_light rfl rfl rfl rfl (lev_bin (a := .int .u32 (.ofNat r)) (b := .int .u64 (.ofNat 1)) (by simp [opnd, Tm.get_set]) rfl bin_shr1),
      ev_light rfl rfl rfl rfl (lev_assign (a := .int .u32 (.ofNat (r / 2))) (by simp [opnd, Tm.get_set]))]
    simp only [evOps_nil]
    rw [ev_light rfl rfl rfl rfl (lev_bin (a := .int .i64 (.ofNat i)) (b := .int .i64 (.ofNat 1)) (by simp [opnd, Tm.get_set, h20]) rfl (bin_inc (by omega))),
      ev_light rfl rfl rfl rfl (lev_move (a := .int .i64 (.ofNat (i + 1))) (by simp [opnd, Tm.get_set]))]
    exact ⟨_, rfl, by simp [Tm.get_set, hb], by simp [Tm.get_set], by simp [Tm.get_set], by simp [Tm.get_set], by simp [Tm.get_set]⟩
  · have hb : bitN r = Nat.xor (r / 2) 3988292384 := by simp [bitN, h2]
    simp only [h2, decide_true]
    rw [ev_light rfl rfl rfl rfl (lev_move (a := .int .u32 (.ofNat r)) (by simp [opnd, Tm.get_set, h5])),
      ev_light rfl rfl rfl rfl (lev_bin (a := .int .u32 (.ofNat r)) (b := .int .u64 (.ofNat 1)) (by simp [opnd, Tm.get_set]) rfl bin_shr1),
      ev_light rfl rfl rfl rfl (lev_bin (a := .int .u32 (.ofNat (r / 2))) (b := .int .u32 (.ofNat 3988292384)) (by simp [opnd, Tm.get_set]) rfl (bin_xor hr2 (by omega))),
      ev_light rfl rfl rfl rfl (lev_assign (a := .int .u32 (.ofNat (Nat.xor (r / 2) 3988292384))) (by simp [opnd, Tm.get_set]))]
    simp only [evOps_nil]
    rw [ev_light rfl rfl rfl rfl (lev_bin (a := .int .i64 (.ofNat i)) (b := .int .i64 (.ofNat 1)) (by simp [opnd, Tm.get_set, h20]) rfl (bin_inc (by omega))),
      ev_light rfl rfl rfl rfl (lev_move (a := .int .i64 (.ofNat (i + 1))) (by simp [opnd, Tm.get_set]))]
    exact ⟨_, rfl, by simp [Tm.get_set, hb], by simp [Tm.get_set], by simp [Tm.get_set], by simp [Tm.get_set], by simp [Tm.get_set]⟩
/-- Behind the last bit. -/
theorem more_stop {tm : Tm} {hp : Heap} {nx : Nat} {df : List ADf} {md : Option AMode} (h20 : tm.get 20 = some (.int .i64 (.ofNat 8))) :
    evC P C 34 dr LF (loopOf Tryz.f305 1) ⟨tm, hp, nx, df, md⟩ = some (.exit 2, ⟨tm.set 21 (.bool false), hp, nx, df, md⟩) := by
  simp only [loopOf, bodyOf, Tryz.f305, Option.getD_some, loops, List.append_nil, List.nil_append, List.getElem?_cons_succ, List.getElem?_cons_zero]
  simp only [evC]
  rw [ev_light rfl rfl rfl rfl (lev_bin (a := .int .i64 (.ofNat 8)) (b := .int .i64 (.ofNat 8)) (by simp only [opnd, h20]) rfl bin_lss)]
  simp only [evOps_nil, opnd, Tm.get_set, if_true]
  rfl

theorem more_bits {hp : Heap} {nx : Nat} {df : List ADf} {md : Option AMode} (n : Nat) : ∀ (i r f : Nat) (tm : Tm), i + n = 8 → n < f → r < 2 ^ 32 → tm.get 5 = some (.int .u32 (.ofNat r)) → tm.get 20 = some (.int .i64 (.ofNat i)) →
    ∃ tm', loopA (evC P C 34 dr LF (loopOf Tryz.f305 1)) f ⟨tm, hp, nx, df, md⟩ = some (.exit 2, ⟨tm', hp, nx, df, md⟩) ∧ tm'.get 5 = some (.int .u32 (.ofNat (bitsN n r))) ∧
      tm'.get 10 = tm.get 10 ∧ tm'.get 11 = tm.get 11 ∧ tm'.get 12 = tm.get 12 := by
  induction n with
  | zero =>
    intro i r f tm hi hf hr h5 h20
    obtain ⟨f, rfl⟩ : ∃ g, f = g + 1 := ⟨f - 1, by omega⟩
    have : i = 8 := by omega
    subst this
    rw [loopA, more_stop h20]
    exact ⟨_, rfl, by simp [Tm.get_set, h5, bitsN], by simp [Tm.get_set], by simp [Tm.get_set], by simp [Tm.get_set]⟩
  | succ n ih =>
    intro i r f tm hi hf hr h5 h20
    obtain ⟨f, rfl⟩ : ∃ g, f = g + 1 := ⟨f - 1, by omega⟩
    obtain ⟨tm1, h1, h2, h3, h4, h6, h7⟩ := more_bit (P := P) (C := C) (LF := LF) (dr := dr) (hp := hp) (nx := nx) (df := df) (md := md) hr (by omega) h5 h20
    obtain ⟨tm2, g1, g2, g3, g4, g5⟩ := ih (i + 1) (bitN r) f tm1 (by omega) (by omega) (bitN_lt hr) h2 h3
    rw [loopA, h1]
    exact ⟨tm2, g1, g2, g3.trans h4, g4.trans h6, g5.trans h7⟩

/-- What is asked of the types. -/
structure MoreTy (P : Program) : Prop where
  u5 : P.underlying 5 = some (.int .u8)
  u169 : P.underlying 169 = some (.int .u32)
  u28 : P.underlying 28 = some (.slice 5)
  z5 : sizeT P 5 = some 1

theorem lev_load5 (hT : MoreTy P) {tm : Tm} {hp : Heap} {nx b q : Nat} {x : Operand} {v : AVal} (hx : opnd tm x = some (.ptr b q)) (hr : readCell hp b q = some v) : lev P (opnd tm) hp nx (.load 5 x) = some (v, none) := by
  have a5 : isAggT P 5 = some false := by unfold isAggT; rw [hT.u5]
  simp only [lev, levW, hx, Option.bind_some, loadT, a5, hr, noNew]
theorem lev_conv (hT : MoreTy P) {tm : Tm} {hp : Heap} {nx n : Nat} {k : IntKind} {x : Operand} (hx : opnd tm x = some (.int k (.ofNat n))) (hn : n < 256) : lev P (opnd tm) hp nx (.convert 5 169 x) = some (.int .u32 (.ofNat n), none) := by
  simp only [lev, levW, hx, Option.bind_some, hT.u5, hT.u169, mkInt_eq, noNew]
  rw [fit_u32 (by omega)]

/-- Where an element lies. -/
def Lies (P : Program) (hp : Heap) (v : AVal) (i : Nat) (x : AVal) : Prop := ∃ b q, readCell hp b q = some x ∧ ∀ (tm : Tm) (nx : Nat), tm.get 10 = some v → tm.get 12 = some (.int .i64 (.ofNat i)) → lev P (opnd tm) hp nx (.indexAddr 28 (.tmp 10) (.tmp 12)) = some (.ptr b q, none)

theorem bitsN_lt : ∀ (n r : Nat), r < 2 ^ 32 → bitsN n r < 2 ^ 32
  | 0, _, h => h
  | n + 1, r, h => bitsN_lt n _ (bitN_lt h)

theorem more_outer : loopOf Tryz.f305 0 = fillLoop (loopOf Tryz.f305 1) (loopOf Tryz.f305 0) := rfl

/-- One byte. -/
theorem more_byte (hT : MoreTy P) (hLF : 8 < LF) {tm : Tm} {hp : Heap} {nx : Nat} {df : List ADf} {md : Option AMode} {r i len x : Nat} {k : IntKind} {v : AVal} (hr : r < 2 ^ 32) (hi : i < len) (hlen : len < 2 ^ 62) (hx : x < 256) (hL : Lies P hp v i (.int k (.ofNat x)))
    (h5 : tm.get 5 = some (.int .u32 (.ofNat r))) (h10 : tm.get 10 = some v) (h11 : tm.get 11 = some (.int .i64 (.ofNat len))) (h12 : tm.get 12 = some (.int .i64 (.ofNat i))) :
    ∃ tm', evC P C 34 dr LF (loopOf Tryz.f305 0) ⟨tm, hp, nx, df, md⟩ = some (.normal, ⟨tm', hp, nx, df, md⟩) ∧ tm'.get 5 = some (.int .u32 (.ofNat (bitsN 8 (Nat.xor r x)))) ∧
      tm'.get 10 = some v ∧ tm'.get 11 = some (.int .i64 (.ofNat len)) ∧ tm'.get 12 = some (.int .i64 (.ofNat (i + 1))) := by
  obtain ⟨b, q, hrd, hia⟩ := hL
  have hxr : Nat.xor r x < 2 ^ 32 := Nat.xor_lt_two_pow hr (by omega)
  have hbits := fun tm => more_bits (P := P) (C := C) (LF := LF) (dr := dr) (hp := hp) (nx := nx) (df := df) (md := md) 8 0 (Nat.xor r x) LF tm rfl hLF hxr
  rw [more_outer]
  generalize loopOf Tryz.f305 1 = I at hbits ⊢
  simp only [loopOf, bodyOf, Tryz.f305, Option.getD_some, loops, List.append_nil, List.nil_append, List.cons_append, List.getElem?_cons_zero, fillLoop]
  simp only [evC]
  rw [ev_light rfl rfl rfl rfl (lev_bin (a := .int .i64 (.ofNat i)) (b := .int .i64 (.ofNat len)) (by simp only [opnd, h12]) (by simp only [opnd, h11]) bin_lss)]
  have hd : decide (i < len) = true := by simpa using hi
  simp only [evOps_nil, opnd, Tm.get_set, if_true, hd]
  rw [ev_light rfl rfl rfl rfl (hia _ _ (by simp [Tm.get_set, h10]) (by simp [Tm.get_set, h12])),
    ev_light rfl rfl rfl rfl (lev_load5 hT (b := b) (q := q) (by simp [opnd, Tm.get_set]) hrd),
    ev_light rfl rfl rfl rfl (lev_assign (a := .int k (.ofNat x)) (by simp [opnd, Tm.get_set]))]
  simp only [evOps_nil]
  rw [ev_light rfl rfl rfl rfl (lev_move (a := .int .u32 (.ofNat r)) (by simp [opnd, Tm.get_set, h5])),
    ev_light rfl rfl rfl rfl (lev_move (a := .int k (.ofNat x)) (by simp [opnd, Tm.get_set])),
    ev_light rfl rfl rfl (by simp only [heavy, hT.u169]) (lev_conv hT (k := k) (n := x) (by simp [opnd, Tm.get_set]) hx),
    ev_light rfl rfl rfl rfl (lev_bin (a := .int .u32 (.ofNat r)) (b := .int .u32 (.ofNat x)) (by simp [opnd, Tm.get_set]) (by simp [opnd, Tm.get_set]) (bin_xor hr (by omega))),
    ev_light rfl rfl rfl rfl (lev_assign (a := .int .u32 (.ofNat (Nat.xor r x))) (by simp [opnd, Tm.get_set]))]
  simp only [evOps_nil]
  rw [ev_light rfl rfl rfl rfl (lev_move (a := .int .i64 (.ofNat 0)) rfl)]
  simp only [evOps_nil]
  obtain ⟨tm1, h1, g5, g10, g11, g12⟩ := hbits
    ((((((((((tm.set 13 (.bool true)).set 14 (.ptr b q)).set 15 (.int k (.ofNat x))).set 7 (.int k (.ofNat x))).set 16 (.int .u32 (.ofNat r))).set 17 (.int k (.ofNat x))).set 18 (.int .u32 (.ofNat x))).set 19 (.int .u32 (.ofNat (Nat.xor r x)))).set 5 (.int .u32 (.ofNat (Nat.xor r x)))).set 20 (.int .i64 (.ofNat 0)))
    (by simp [Tm.get_set]) (by simp [Tm.get_set])
  rw [h1]
  simp only [if_true]
  rw [ev_light rfl rfl rfl rfl (lev_bin (a := .int .i64 (.ofNat i)) (b := .int .i64 (.ofNat 1)) (by simp [opnd, g12, Tm.get_set, h12]) rfl (bin_inc (by omega))),
    ev_light rfl rfl rfl rfl (lev_move (a := .int .i64 (.ofNat (i + 1))) (by simp [opnd, Tm.get_set]))]
  exact ⟨_, rfl, by simp [Tm.get_set, g5], by simp [Tm.get_set, g10, h10], by simp [Tm.get_set, g11, h11], by simp [Tm.get_set]⟩

def crcL : List AVal → Nat → Option Nat
  | [], r => some r
  | .int _ (.ofNat x) :: l, r => if x < 256 then crcL l (bitsN 8 (Nat.xor r x)) else none
  | _ :: _, _ => none
theorem crcL_lt : ∀ {l : List AVal} {r r' : Nat}, crcL l r = some r' → r < 2 ^ 32 → r' < 2 ^ 32
  | [], r, r', h, hr => by cases h; exact hr
  | x :: l, r, r', h, hr => by
    cases x with
    | int k n =>
      cases n with
      | ofNat n =>
        simp only [crcL] at h
        split at h
        · rename_i hn
          exact crcL_lt h (bitsN_lt _ _ (Nat.xor_lt_two_pow hr (by omega)))
        · cases h
      | negSucc n => cases h
    | _ => cases h

/-- Behind the last byte. -/
theorem more_end {tm : Tm} {hp : Heap} {nx : Nat} {df : List ADf} {md : Option AMode} {len : Nat} (h11 : tm.get 11 = some (.int .i64 (.ofNat len))) (h12 : tm.get 12 = some (.int .i64 (.ofNat len))) :
    evC P C 34 dr LF (loopOf Tryz.f305 0) ⟨tm, hp, nx, df, md⟩ = some (.exit 0, ⟨tm.set 13 (.bool false), hp, nx, df, md⟩) := by
  rw [more_outer]
  generalize loopOf Tryz.f305 1 = I
  simp only [loopOf, bodyOf, Tryz.f305, Option.getD_some, loops, List.append_nil, List.nil_append, List.cons_append, List.getElem?_cons_zero, fillLoop]
  simp only [evC]
  rw [ev_light rfl rfl rfl rfl (lev_bin (a := .int .i64 (.ofNat len)) (b := .int .i64 (.ofNat len)) (by simp only [opnd, h12]) (by simp only [opnd, h11]) bin_lss)]
  have hd : decide (len < len) = false := by simp
  simp only [evOps_nil, opnd, Tm.get_set, if_true, hd]

theorem more_bytes (hT : MoreTy P) (hLF : 8 < LF) {hp : Heap} {nx : Nat} {df : List ADf} {md : Option AMode} {len : Nat} {v : AVal} (hlen : len < 2 ^ 62) (l : List AVal) : ∀ (i r r' f : Nat) (tm : Tm), i + l.length = len → l.length < f → r < 2 ^ 32 → crcL l r = some r' → (∀ j x, l[j]? = some x → Lies P hp v (i + j) x) →
    tm.get 5 = some (.int .u32 (.ofNat r)) → tm.get 10 = some v → tm.get 11 = some (.int .i64 (.ofNat len)) → tm.get 12 = some (.int .i64 (.ofNat i)) →
    ∃ tm', loopA (evC P C 34 dr LF (loopOf Tryz.f305 0)) f ⟨tm, hp, nx, df, md⟩ = some (.exit 0, ⟨tm', hp, nx, df, md⟩) ∧ tm'.get 5 = some (.int .u32 (.ofNat r')) := by
  induction l with
  | nil =>
    intro i r r' f tm hi hf hr hc hL h5 h10 h11 h12
    obtain ⟨f, rfl⟩ : ∃ g, f = g + 1 := ⟨f - 1, by simp at hf; omega⟩
    have : i = len := by simpa using hi
    subst this
    cases hc
    rw [loopA, more_end h11 h12]
    exact ⟨_, rfl, by simp [Tm.get_set, h5]⟩
  | cons x l ih =>
    intro i r r' f tm hi hf hr hc hL h5 h10 h11 h12
    obtain ⟨f, rfl⟩ : ∃ g, f = g + 1 := ⟨f - 1, by simp at hf; omega⟩
    cases x with
    | int k n =>
      cases n with
      | ofNat n =>
        simp only [crcL] at hc
        split at hc
        · rename_i hn
          have hL0 := hL 0 (.int k (.ofNat n)) rfl
          rw [Nat.add_zero] at hL0
          obtain ⟨tm1, g1, g5, g10, g11, g12⟩ := more_byte (P := P) (C := C) (LF := LF) (dr := dr) hT hLF (nx := nx) (df := df) (md := md) hr (by simp at hi; omega) hlen hn hL0 h5 h10 h11 h12
          obtain ⟨tm2, e1, e2⟩ := ih (i + 1) _ r' f tm1 (by simp at hi; omega) (by simpa using hf) (bitsN_lt _ _ (Nat.xor_lt_two_pow hr (by omega))) hc (fun j x hx => by
            have := hL (j + 1) x (by simpa using hx)
            rwa [show i + (j + 1) = i + 1 + j by omega] at this) g5 g10 g11 g12
          rw [loopA, g1]
          exact ⟨tm2, e1, e2⟩
        · cases hc
      | negSucc n => cases hc
    | _ => cases hc

theorem more_all : bodyOf Tryz.f305 = fillLoop (loopOf Tryz.f305 0) (bodyOf Tryz.f305) := rfl

theorem lev_len {tm : Tm} {hp : Heap} {nx n : Nat} {v : AVal} (hT : MoreTy P) (hv : tm.get 10 = some v) (hl : lenA v = some n) (hs : ∀ l, v ≠ .str l) :
    lev P (opnd tm) hp nx (.call { callee := .builtin .len, args := #[.tmp 10], argTypes := #[28] }) = some (.int .i64 (.ofNat n), none) := by
  have h28 : (#[28] : Array TypeId)[0]? = some 28 := rfl
  cases v <;> first | (exact absurd rfl (hs _)) | (cases hl; done) | (cases hl; simp only [lev, levW, opnds, opnd, hv, Option.bind_some, h28, hT.u28, noNew]; done)

theorem more_body (hT : MoreTy P) {hp : Heap} {nx : Nat} {l : List AVal} {s r' : Nat} {v : AVal} (hLF : l.length + 8 < LF) (hlen : l.length < 2 ^ 62) (hs : s < 2 ^ 32) (hc : crcL l (Nat.xor s 4294967295) = some r') (hL : ∀ j x, l[j]? = some x → Lies P hp v j x)
    (hv : lenA v = some l.length) (hstr : ∀ l, v ≠ .str l) :
    ∃ tm', evC P C 34 dr LF (bodyOf Tryz.f305) ⟨argsTm 0 [.int .u32 (.ofNat s), v] .e, hp, nx, [], none⟩ = some (.ret, ⟨tm', hp, nx, [], none⟩) ∧ tm'.get 4 = some (.int .u32 (.ofNat (Nat.xor r' 4294967295))) := by
  have h0 : Nat.xor s 4294967295 < 2 ^ 32 := Nat.xor_lt_two_pow hs (by omega)
  have hr' := crcL_lt hc h0
  have hbytes := fun tm => more_bytes (P := P) (C := C) (LF := LF) (dr := dr) hT (by omega) (hp := hp) (nx := nx) (df := []) (md := none) (v := v) hlen l 0 _ r' LF tm (by omega) (by omega) h0 hc (fun j x hx => by rw [Nat.zero_add]; exact hL j x hx)
  rw [more_all]
  generalize loopOf Tryz.f305 0 = I at hbytes ⊢
  simp only [bodyOf, Tryz.f305, Option.getD_some, fillLoop]
  simp only [evC, argsTm, fn_eq]
  rw [ev_light rfl rfl rfl rfl (lev_assign (a := .int .u32 (.ofNat 0)) rfl)]
  simp only [evOps_nil]
  rw [ev_light rfl rfl rfl rfl (lev_move (a := .int .u32 (.ofNat s)) (by simp [opnd, Tm.get_set])),
    ev_light rfl rfl rfl rfl (lev_bin (a := .int .u32 (.ofNat s)) (b := .int .u32 (.ofNat 4294967295)) (by simp [opnd, Tm.get_set]) rfl (bin_xor hs (by omega))),
    ev_light rfl rfl rfl rfl (lev_assign (a := .int .u32 (.ofNat (Nat.xor s 4294967295))) (by simp [opnd, Tm.get_set]))]
  simp only [evOps_nil]
  rw [ev_light rfl rfl rfl rfl (lev_move (a := v) (by simp [opnd, Tm.get_set])),
    ev_light rfl rfl rfl rfl (lev_len hT (v := v) (n := l.length) (by simp [Tm.get_set]) hv hstr),
    ev_light rfl rfl rfl rfl (lev_move (a := .int .i64 (.ofNat 0)) rfl)]
  simp only [evOps_nil]
  obtain ⟨tm1, h1, g5⟩ := hbytes
    (((((((((Tm.e.set 0 (.int .u32 (.ofNat s))).set 1 v).set 4 (.int .u32 (.ofNat 0))).set 8 (.int .u32 (.ofNat s))).set 9 (.int .u32 (.ofNat (Nat.xor s 4294967295)))).set 5 (.int .u32 (.ofNat (Nat.xor s 4294967295)))).set 10 v).set 11 (.int .i64 (.ofNat l.length))).set 12 (.int .i64 (.ofNat 0)))
    (by simp [Tm.get_set]) (by simp [Tm.get_set]) (by simp [Tm.get_set]) (by simp [Tm.get_set])
  rw [h1]
  simp only [if_true]
  rw [ev_light rfl rfl rfl rfl (lev_move (a := .int .u32 (.ofNat r')) (by simp [opnd, g5])),
    ev_light rfl rfl rfl rfl (lev_bin (a := .int .u32 (.ofNat r')) (b := .int .u32 (.ofNat 4294967295)) (by simp [opnd, Tm.get_set]) rfl (bin_xor hr' (by omega))),
    ev_light rfl rfl rfl rfl (lev_assign (a := .int .u32 (.ofNat (Nat.xor r' 4294967295))) (by simp [opnd, Tm.get_set]))]
  exact ⟨_, rfl, by simp [Tm.get_set]⟩
end
end Go.Mu

namespace Go.Mu
open Go.Proofs
variable {P : Program}

def rowOf (hp : Heap) : AVal → Option (List AVal)
  | .slice b o len _ => readCells hp b o len
  | .oslice b k len => (openElems hp b 1).bind fun _ => readCells hp b k len
  | _ => none

def moreH (args : List AVal) (hp : Heap) (nx : Nat) : Option Out :=
  match args with
  | [.int .u32 (.ofNat s), v] => if s < 2 ^ 32 then (rowOf hp v).bind fun l => if l.length < 2 ^ 62 then (crcL l (Nat.xor s 4294967295)).map fun r => .ret (.int .u32 (.ofNat (Nat.xor r 4294967295))) hp nx else none else none
  | _ => none

theorem readCells_at {hp : Heap} {b o n : Nat} {l : List AVal} (h : readCells hp b o n = some l) : l.length = n ∧ ∀ j x, l[j]? = some x → readCell hp b (o + j) = some x := by
  simp only [readCells, Option.bind_eq_some_iff] at h
  obtain ⟨k, h1, m, h2, d, h3, h4⟩ := h
  obtain ⟨hd, rfl⟩ := dropS_some _ _ _ h3
  obtain ⟨ht, rfl⟩ := takeS_some _ _ _ h4
  refine ⟨by simp at ht ⊢; omega, fun j x hx => ?_⟩
  have hj : m[o + j]? = some x := by
    rw [List.getElem?_take] at hx
    split at hx
    · rwa [List.getElem?_drop] at hx
    · cases hx
  simp only [readCell, h1, h2, Option.bind_some, nth_eq, hj]

theorem rowOf_lies (hT : MoreTy P) {hp : Heap} {v : AVal} {l : List AVal} (h : rowOf hp v = some l) : lenA v = some l.length ∧ (∀ s, v ≠ .str s) ∧ ∀ j x, l[j]? = some x → Lies P hp v j x := by
  cases v with
  | slice b o len cap =>
    obtain ⟨h1, h2⟩ := readCells_at h
    refine ⟨by rw [h1]; rfl, fun _ => nofun, fun j x hx => ⟨b, o + j * 1, by rw [Nat.mul_one]; exact h2 j x hx, fun tm nx h10 h12 => ?_⟩⟩
    have hj : j < len := by
      have : j < l.length := by
        cases hlt : decide (j < l.length) with
        | true => simpa using hlt
        | false =>
          have : l.length ≤ j := by simpa using hlt
          rw [List.getElem?_eq_none this] at hx
          cases hx
      omega
    simp only [lev, levW, opnd, h10, h12, Option.bind_some, natOf, hT.u28, hj, if_true, hT.z5, fn_eq, noNew]
  | oslice b k len =>
    simp only [rowOf, Option.bind_eq_some_iff] at h
    obtain ⟨m, hm, h⟩ := h
    obtain ⟨h1, h2⟩ := readCells_at h
    refine ⟨by rw [h1]; rfl, fun _ => nofun, fun j x hx => ⟨b, (k + j) * 1, by rw [Nat.mul_one]; exact h2 j x hx, fun tm nx h10 h12 => ?_⟩⟩
    have hj : j < len := by
      have : j < l.length := by
        cases hlt : decide (j < l.length) with
        | true => simpa using hlt
        | false =>
          have : l.length ≤ j := by simpa using hlt
          rw [List.getElem?_eq_none this] at hx
          cases hx
      omega
    simp only [lev, levW, opnd, h10, h12, Option.bind_some, natOf, hT.u28, hj, if_true, hT.z5, hm, fn_eq, noNew]
  | _ => cases h

theorem more_calls (hT : MoreTy P) {f : FuncId} (hF : P.funcs[f]? = some Tryz.f305) {dr : Drawn} {args : List AVal} {hp : Heap} {nx : Nat} {o : Out} (h : moreH args hp nx = some o) :
    ∃ LF, (calls P (fun _ => none) dr LF 1).1 f args hp nx = some o := by
  unfold moreH at h
  split at h
  · rename_i s v
    split at h
    · rename_i hs
      simp only [Option.bind_eq_some_iff] at h
      obtain ⟨l, hl, h⟩ := h
      split at h
      · rename_i hlen
        simp only [Option.map_eq_some_iff] at h
        obtain ⟨r, hr, rfl⟩ := h
        obtain ⟨h1, h2, h3⟩ := rowOf_lies hT hl
        refine ⟨l.length + 9, ?_⟩
        obtain ⟨tm', e1, e2⟩ := more_body (P := P) (C := fun _ _ _ _ => none) (LF := l.length + 9) (dr := dr (fun _ _ _ _ => none) 34) hT (hp := hp) (nx := nx) (by omega) hlen hs hr h3 h1 h2
        have hb : Tryz.f305.body = some (bodyOf Tryz.f305) := rfl
        have hn : Tryz.f305.ntmps = 34 := rfl
        have hres : Tryz.f305.results.toList = [.tmp 4] := rfl
        have ha : ([.int .u32 (.ofNat s), v] : List AVal).length ≤ 34 := by simp
        generalize hB : bodyOf Tryz.f305 = B at e1 hb
        simp only [calls, hF, hb, hn, ha, if_true, e1, leaveA, hres, resultsA, e2, Option.bind_some, tupleA]
      · cases h
    · cases h
  · cases h

theorem more_hook {base : Nat} (hN : NamesOK P) (hm : P.follows .mixedOrders = true) (hT : MoreTy P) {f : FuncId} (hF : P.funcs[f]? = some Tryz.f305) {args : List AVal} {hp : Heap} {nx : Nat} {o : Out} (h : moreH args hp nx = some o) :
    ∀ ρ cargs w, VRs ρ args cargs → HR ρ hp w base → Fresh ρ nx → base ≤ w.heap.size → Does P f cargs.toArray w (OutR ρ hp nx base w o) := by
  intro ρ cargs w hv hR hFr hb
  obtain ⟨LF, hc⟩ := more_calls hT hF (dr := drawnA P) h
  exact (calls_sound (LF := LF) hN (base := base) (H := fun _ => none) (fun _ _ h => by cases h) (drawnA_sound hm) 1).1 f args hp nx o hc ρ cargs w hv hR hFr hb

/-! The hook in continuations. -/
noncomputable def bitK (r : Nat) (k : Nat → A) : A := fnS (Nat.xor (Nat.div r 2) (Nat.mul (Nat.mod r 2) 3988292384)) k
noncomputable def byteK (r x : Nat) (k : Nat → A) : A := fnS (Nat.xor r x) fun r => bitK r fun r => bitK r fun r => bitK r fun r => bitK r fun r => bitK r fun r => bitK r fun r => bitK r fun r => bitK r k
theorem byteK_eq (r x : Nat) (k : Nat → A) : byteK r x k = k (bitsN 8 (Nat.xor r x)) := rfl
def goCr (f : Nat → (Nat → A) → A) (k : Nat → A) (r : Nat) : A := f r k
noncomputable def crcK (l : List AVal) : Nat → (Nat → A) → A := @List.rec AVal (fun _ => Nat → (Nat → A) → A) (fun r k => k r) (fun v _ ih r k => natE v fun x => @Bool.rec (fun _ => A) false (byteK r x (goCr ih k)) (Nat.blt x 256)) l
theorem crcK_inv : ∀ {l : List AVal} {r : Nat} {k : Nat → A}, crcK l r k = true → ∃ r', crcL l r = some r' ∧ k r' = true
  | [], r, k, h => ⟨r, rfl, h⟩
  | v :: l, r, k, h => by
    replace h : natE v (fun x => @Bool.rec (fun _ => A) false (byteK r x (goCr (crcK l) k)) (Nat.blt x 256)) = true := h
    have hh := natE_inv h
    clear h
    obtain ⟨ki, n, rfl, h⟩ := hh
    obtain ⟨h1, h2⟩ := bool_inv h
    have hn : n < 256 := by rw [← Nat.blt_eq]; exact h1
    rw [byteK_eq] at h2
    obtain ⟨r', h3, h4⟩ := crcK_inv (l := l) h2
    exact ⟨r', by simp only [crcL, hn, if_true]; exact h3, h4⟩

noncomputable def cellsK (hp : Heap) (v : AVal) (k : List AVal → A) : A := slE v
  (fun b o len _ => @Bool.rec (fun _ => A) false (rowK hp b o len k) (Nat.blt len 4611686018427387904))
  (fun b o len => @Bool.rec (fun _ => A) false (openK hp b 1 fun _ => rowK hp b o len k) (Nat.blt len 4611686018427387904))
theorem cellsK_inv {hp : Heap} {v : AVal} {k : List AVal → A} (h : cellsK hp v k = true) : ∃ l, rowOf hp v = some l ∧ l.length < 2 ^ 62 ∧ k l = true := by
  have hh := slE_inv h
  clear h
  rcases hh with ⟨b, o, len, c, rfl, h⟩ | ⟨b, o, len, rfl, h⟩
  · obtain ⟨h1, h⟩ := bool_inv h
    have hlt : len < 2 ^ 62 := by rw [← Nat.blt_eq]; exact h1
    obtain ⟨l, h2, h3⟩ := rowK_inv h
    exact ⟨l, h2, by rw [(readCells_at h2).1]; exact hlt, h3⟩
  · obtain ⟨h1, h⟩ := bool_inv h
    have hlt : len < 2 ^ 62 := by rw [← Nat.blt_eq]; exact h1
    obtain ⟨cs, e, s, g1, g2, g3, h⟩ := openK_inv h
    obtain ⟨l, h2, h3⟩ := rowK_inv h
    exact ⟨l, by simp only [rowOf, g3, Option.bind_some, h2], by rw [(readCells_at h2).1]; exact hlt, h3⟩

noncomputable def wk32 (x : A) (k : IntKind) : A := @IntKind.rec (fun _ => A) false false false false false false x false k
theorem wk32_inv {x : A} {k : IntKind} (h : wk32 x k = true) : k = .u32 ∧ x = true := by
  cases k <;> first | exact ⟨rfl, h⟩ | exact Bool.noConfusion h
noncomputable def moreK : HkF := fun args hp nx kr _ => @List.rec AVal (fun _ => A) false (fun a r _ => @List.rec AVal (fun _ => A) false (fun s r _ => @List.rec AVal (fun _ => A)
  (intE a (fun ka s0 => wk32 (@Bool.rec (fun _ => A) false (cellsK hp s fun l => fnS (Nat.xor s0 4294967295) fun r => crcK l r fun r => fnS (Nat.xor r 4294967295) fun r => kr (.int .u32 (.ofNat r)) hp nx) (Nat.blt s0 4294967296)) ka) false) (fun _ _ _ => false) r) r) args
theorem moreK_inv {args : List AVal} {hp : Heap} {nx : Nat} {kr : KR} {kp : KP} (h : moreK args hp nx kr kp = true) : ∃ o, moreH args hp nx = some o ∧ outK kr kp o = true := by
  match args, h with
  | [a, s], h =>
    replace h : intE a (fun ka s0 => wk32 (@Bool.rec (fun _ => A) false (cellsK hp s fun l => fnS (Nat.xor s0 4294967295) fun r => crcK l r fun r => fnS (Nat.xor r 4294967295) fun r => kr (.int .u32 (.ofNat r)) hp nx) (Nat.blt s0 4294967296)) ka) false = true := h
    have hh := intE_inv h
    clear h
    obtain ⟨ka, ⟨n, rfl, h⟩ | ⟨n, _, h⟩⟩ := hh
    · obtain ⟨rfl, h⟩ := wk32_inv h
      obtain ⟨h1, h⟩ := bool_inv h
      have hn : n < 2 ^ 32 := by rw [← Nat.blt_eq]; exact h1
      obtain ⟨l, h2, h3, h⟩ := cellsK_inv h
      rw [fnS_eq] at h
      obtain ⟨r, h4, h⟩ := crcK_inv h
      rw [fnS_eq] at h
      exact ⟨.ret (.int .u32 (.ofNat (Nat.xor r 4294967295))) hp nx, by simp only [moreH, hn, if_true, h2, Option.bind_some, h3, h4, Option.map_some], h⟩
    · cases h
end Go.Mu

