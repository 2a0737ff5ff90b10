/- The operations that write, make blocks, append, iterate. No condition. -/
import Derived.Laws.BytesString
import Derived.Laws.BytesArg
import Derived.Laws.IdiomStrings
import Derived.Laws.AppendOwn
import Derived.Laws.NewFold
import Derived.Laws.RangeString
import Derived.Lib.ConvBytes
import Derived.Test.YtfokdfakbobemaaGreatDoorMuA
set_option autoImplicit true
set_option relaxedAutoImplicit true
set_option linter.unusedVariables false
set_option linter.unusedSimpArgs false
namespace Go.Mu
variable {P : Program} {ρ : Rho} {hp : Heap} {nx base : Nat} {w : World} {tm : Tm} {a : Act}

/-! Filling parts in. -/
theorem cellsA_sound {v : AVal} {c : Value} (h : VR ρ v c) : VRs ρ v.cells c.cells.toList := by
  by_cases hv : ∃ l, v = .agg l
  · obtain ⟨l, rfl⟩ := hv
    simp only [VR] at h
    obtain ⟨l', rfl, hl⟩ := h
    exact hl
  · have hc : ∀ l, c ≠ .agg l := fun l e => by subst e; obtain ⟨l', rfl, _⟩ := h.agg_inv; exact hv ⟨_, rfl⟩
    have h1 : v.cells = [v] := by cases v <;> first | rfl | exact absurd ⟨_, rfl⟩ hv
    have h2 : c.cells.toList = [c] := by cases c <;> first | rfl | exact absurd rfl (hc _)
    rw [h1, h2]
    exact VRs.cons h VRs.nil

theorem foldl_set_eq (off : Nat) : ∀ (vs : List Value) (j : Nat) (cs : Array Value), off + j + vs.length ≤ cs.size →
    ((vs.zipIdx j).foldl (fun (cs : Array Value) (p : Value × Nat) => cs.setIfInBounds (off + p.2) p.1) cs).toList = cs.toList.take (off + j) ++ vs ++ cs.toList.drop (off + j + vs.length)
  | [], j, cs, _ => by simp
  | v :: vs, j, cs, h => by
    simp only [List.zipIdx_cons, List.foldl_cons]
    rw [foldl_set_eq off vs (j + 1) _ (by simp at h ⊢; omega)]
    have := list_seg_step cs.toList (off + j) v vs (by simp at h ⊢; omega)
    simpa [Array.toList_setIfInBounds, Nat.add_assoc] using this

theorem zipIdx_foldl (off : Nat) (vs cs : Array Value) (h : off + vs.size ≤ cs.size) :
    (vs.zipIdx.foldl (fun (cs : Array Value) (p : Value × Nat) => cs.setIfInBounds (off + p.2) p.1) cs).toList = cs.toList.take off ++ vs.toList ++ cs.toList.drop (off + vs.size) := by
  have := foldl_set_eq off vs.toList 0 cs (by simpa using h)
  rw [← Array.foldl_toList]
  simpa [Array.toList_zipIdx] using this

theorem fillA_sound {place place' : Nat → Option (Nat × Nat)} (hpl : ∀ i, place i = place' i) : ∀ {ps : List (Nat × AVal)} {ps' : List (Nat × Value)} {c r : List AVal} {c' : Array Value}, VRs ρ c c'.toList →
    (ps.map (·.1) = ps'.map (·.1) ∧ VRs ρ (ps.map (·.2)) (ps'.map (·.2))) → fillA place c ps = some r → ∃ r', Instr.fill place' c' ps' = some r' ∧ VRs ρ r r'.toList
  | [], ps', c, r, c', hc, hp, h => by
    simp only [fillA] at h; cases h
    have : ps' = [] := by cases ps' <;> simp at hp ⊢
    subst this
    exact ⟨c', rfl, hc⟩
  | (i, v) :: ps, ps', c, r, c', hc, hp, h => by
    cases ps' with
    | nil => simp at hp
    | cons q ps' =>
      obtain ⟨i', cv⟩ := q
      obtain ⟨h1, h2⟩ := hp
      simp only [List.map_cons, List.cons.injEq] at h1
      obtain ⟨rfl, h1⟩ := h1
      obtain ⟨y, ys, e, hv, h2⟩ := VRs.cons_inv (by simpa only [List.map_cons] using h2)
      simp only [List.map_cons, List.cons.injEq] at e
      obtain ⟨rfl, rfl⟩ := e
      simp only [fillA] at h
      simp only [Instr.fill, ← hpl]
      cases hpi : place i with
      | none => rw [hpi] at h; cases h
      | some os =>
        obtain ⟨off, size⟩ := os
        rw [hpi] at h
        simp only at h ⊢
        split at h
        · cases h
        · rename_i hsz
          have hsz' : v.cells.length = size := Classical.not_not.1 hsz
          simp only [Option.bind_eq_some_iff] at h
          obtain ⟨c1, hc1, h⟩ := h
          obtain ⟨hle, rfl⟩ := splice_some _ _ _ _ hc1
          have hcs := cellsA_sound hv
          have hl1 : cv.cells.size = v.cells.length := by have := hcs.length; simpa using this
          have hl2 : c'.size = c.length := by have := hc.length; simpa using this
          have hcond : (decide (cv.cells.size ≠ size) || decide (off + cv.cells.size > c'.size)) = false := by simp; omega
          have hcond' : ¬ (cv.cells.size ≠ size ∨ off + cv.cells.size > c'.size) := by omega
          rw [if_neg (by simpa using hcond')]
          refine fillA_sound hpl ?_ ⟨h1, h2⟩ h
          rw [zipIdx_foldl off cv.cells c' (by omega)]
          rw [← hl1]
          exact ((hc.take off).append hcs).append (hc.drop _)

theorem parts_sound (hT : TR ρ tm a.tmps) : ∀ {l : List (Nat × Operand)} {v : List (Nat × AVal)}, parts (opnd tm) l = some v →
    v.map (·.1) = (l.map fun x => (x.1, a.eval x.2)).map (·.1) ∧ VRs ρ (v.map (·.2)) ((l.map fun x => (x.1, a.eval x.2)).map (·.2))
  | [], v, h => by simp [parts] at h; subst h; exact ⟨rfl, VRs.nil⟩
  | (i, x) :: l, v, h => by
    simp only [parts, Option.bind_eq_some_iff] at h
    obtain ⟨y, hy, r, hr, h⟩ := h
    cases h
    obtain ⟨h1, h2⟩ := parts_sound hT hr
    exact ⟨by simp [h1], by simpa using VRs.cons (opnd_sound hT hy) h2⟩

theorem sizesT_run : ∀ {l : List Field} {r : List (Nat × Nat)}, sizesT P l = some r → ∀ w, (l.mapM fun f => (do pure (f.offset, ← sizeOf f.type) : Sem (Nat × Nat))).run P w = .ok r w
  | [], r, h, w => by simp [sizesT] at h; subst h; simp
  | f :: l, r, h, w => by
    simp only [sizesT, Option.bind_eq_some_iff] at h
    obtain ⟨n, hn, r', hr, h⟩ := h
    cases h
    simp only [List.mapM_cons, Sem.run_bind, run_sizeOf' hn, Result.andThen_ok, Sem.run_pure, sizesT_run hr]

theorem buildA_sound {t : TypeId} {ps : List (Nat × AVal)} {ps' : Array (Nat × Value)} {v : AVal} (hps : ps.map (·.1) = ps'.toList.map (·.1) ∧ VRs ρ (ps.map (·.2)) (ps'.toList.map (·.2))) (h : buildA P t ps = some v) (w : World) :
    ∃ c, (Instr.build t ps').run P w = .ok c w ∧ VR ρ v c := by
  unfold buildA at h
  simp only [Option.bind_eq_some_iff] at h
  obtain ⟨z, hz, h⟩ := h
  obtain ⟨cz, hcz, hvz⟩ := zeroCells_sound (ρ := ρ) hz
  split at h
  · rename_i fs hu
    simp only [Option.bind_eq_some_iff, Option.map_eq_some_iff] at h
    obtain ⟨pl, hpl, l, hl, rfl⟩ := h
    unfold structPlaces at hpl
    rw [hu] at hpl
    simp only at hpl
    have hm := sizesT_run hpl w
    obtain ⟨r', hr', hv⟩ := fillA_sound (place' := fun i => pl.toArray[i]?) (fun i => by simp [nth_eq]) hvz hps hl
    refine ⟨.agg r', ?_, by simp only [VR]; exact ⟨_, rfl, hv⟩⟩
    have hm' : (fs.mapM fun f => (do pure (f.offset, ← sizeOf f.type) : Sem (Nat × Nat))).run P w = .ok pl.toArray w := by
      rw [Array.mapM_eq_mapM_toList]
      simp only [Sem.run_map, hm, Result.andThen_ok]
    simp only [Instr.build, Sem.run_bind, hcz, Result.andThen_ok, run_underlying' hu, hm', hr', Sem.run_pure]
  · rename_i n e hu
    simp only [Option.bind_eq_some_iff, Option.map_eq_some_iff] at h
    obtain ⟨sz, hsz, l, hl, rfl⟩ := h
    obtain ⟨r', hr', hv⟩ := fillA_sound (place' := fun i => some (i * sz, sz)) (fun i => rfl) hvz hps hl
    refine ⟨.agg r', ?_, by simp only [VR]; exact ⟨_, rfl, hv⟩⟩
    simp only [Instr.build, Sem.run_bind, hcz, Result.andThen_ok, run_underlying' hu, run_sizeOf' hsz, hr', Sem.run_pure]
  · cases h

/-! A row of zero values. -/
theorem repS_get {α : Type} (z : List α) (n j : Nat) (h : j < n * z.length) : (repS n z)[j]? = z[j % z.length]? := by
  induction n generalizing j with
  | zero => simp at h
  | succ n ih =>
    simp only [repS, fl_eq, appS_eq]
    have hz : 0 < z.length := by rcases Nat.eq_zero_or_pos z.length with e | e; · rw [e] at h; simp at h
                                 · exact e
    by_cases hj : j < z.length
    · rw [List.getElem?_append_left hj, Nat.mod_eq_of_lt hj]
    · rw [List.getElem?_append_right (by omega), ih (j - z.length) (by rw [Nat.add_mul] at h; omega)]
      rw [Nat.mod_eq_sub_mod (by omega : j ≥ z.length)]

theorem repS_row (z : Array Value) (n : Nat) : (repS n z.toList).toArray = (Array.range (n * z.size)).map fun i => z[i % z.size]! := by
  apply Array.ext'
  apply List.ext_getElem?
  intro j
  by_cases hj : j < n * z.size
  · rw [repS_get _ _ _ (by simpa using hj)]
    have hz : 0 < z.size := by rcases Nat.eq_zero_or_pos z.size with e | e; · rw [e] at hj; simp at hj
                               · exact e
    have hm : j % z.size < z.size := Nat.mod_lt _ hz
    simp [hj, hm, Array.getElem?_eq_getElem]
  · have h1 : (repS n z.toList).length ≤ j := by rw [repS_len]; simpa using hj
    rw [List.getElem?_eq_none h1]
    symm
    simp
    omega

theorem repS_VRs {z : List AVal} {z' : List Value} (h : VRs ρ z z') : ∀ n, VRs ρ (repS n z) (repS n z')
  | 0 => VRs.nil
  | n + 1 => by simp only [repS, fl_eq, appS_eq]; exact h.append (repS_VRs h n)

end Go.Mu

namespace Go.Mu
variable {P : Program} {ρ : Rho} {hp : Heap} {nx base : Nat} {w : World} {tm : Tm} {a : Act}

/-- What a reading or making operation comes to. -/
def LevOK (P : Program) (ρ : Rho) (w : World) (nx : Nat) (s : Sem Next) (v : AVal) : Option ABlk → Prop
  | none => ∃ c, s.run P w = .ok (.value c) w ∧ VR ρ v c
  | some k => ∃ ob c, s.run P w = .ok (.value c) (w.alloc ob) ∧ ∀ ρ', Ext ρ ρ' → ρ' nx = some ⟨w.heap.size, 0, 0, 0⟩ → VR ρ' v c ∧ BR ρ' ⟨w.heap.size, 0, 0, 0⟩ k ob

theorem LevOK.read {s : Sem Value} {v : Option AVal} {r : AVal} {b : Option ABlk} (h : noNew v = some (r, b)) (hs : ∀ x, v = some x → ∃ c, s.run P w = .ok c w ∧ VR ρ x c) :
    LevOK P ρ w nx (do pure (.value (← s))) r b := by
  unfold noNew at h
  split at h
  · cases h
    obtain ⟨c, h1, h2⟩ := hs _ rfl
    exact ⟨c, by simp [h1], h2⟩
  · cases h

theorem LevOK.value {c : Value} {v : Option AVal} {r : AVal} {b : Option ABlk} (h : noNew v = some (r, b)) (hs : ∀ x, v = some x → VR ρ x c) : LevOK P ρ w nx (pure (.value c)) r b := by
  unfold noNew at h
  split at h
  · cases h
    exact ⟨c, rfl, hs _ rfl⟩
  · cases h

/-- A new row of cells. -/
theorem LevOK.row {s : Sem Value} {v : AVal} {l : List AVal} {e : TypeId} {c : Value} {l' : Array Value} (hrun : s.run P w = .ok c (w.alloc (.cells l' e)))
    (hv : ∀ ρ' : Rho, ρ' nx = some ⟨w.heap.size, 0, 0, 0⟩ → VR ρ' v c) (hl : VRs ρ l l'.toList) : LevOK P ρ w nx (do pure (.value (← s))) v (some (.cells (CL.of l) e)) :=
  ⟨.cells l' e, c, by simp [hrun], fun ρ' hx hn => ⟨hv ρ' hn, l', (0, 0), rfl, by rw [CL.list_of]; exact VRs.mono hx _ _ hl, rfl, .inl rfl⟩⟩

theorem find_born {ρ : Rho} : ∀ {es : List (AVal × AVal × Nat)} {es' : List MapEntry}, ERs ρ es es' → ∀ (st : Nat) (e : AVal × AVal × Nat), es.find? (fun e => e.2.2 == st) = some e → ∃ m, es'.find? (fun e => e.born == st) = some m ∧ ER ρ e m
  | [], _, _, _, _, h => by simp at h
  | x :: es, _, ⟨m, ms, rfl, hm, hms⟩, st, e, h => by
    rw [List.find?_cons] at h ⊢
    rw [hm.2.2]
    split at h
    · cases h; exact ⟨m, rfl, hm⟩
    · exact find_born hms st e h

theorem lenA_sound {x : AVal} {c : Value} {n : Nat} (hx : VR ρ x c) (h : lenA x = some n) : (∃ ad cap, c = .slice ad n cap) ∨ ∃ s, c = .string s ∧ s.size = n := by
  cases x <;> simp only [lenA] at h <;> first | (cases h; done) | skip
  · cases h
    obtain ⟨e, _⟩ := hx.str_inv
    exact .inr ⟨_, e, size_bytesOf _⟩
  · cases h; simp only [VR] at hx; exact .inl ⟨_, _, hx⟩
  · cases h; simp only [VR] at hx; obtain ⟨_, _, e⟩ := hx; exact .inl ⟨_, _, e⟩
  · cases h; simp only [VR] at hx; obtain ⟨_, _, _, e⟩ := hx; exact .inl ⟨_, _, e⟩
  · cases h; simp only [VR] at hx; obtain ⟨_, e⟩ := hx; exact .inl ⟨_, _, e⟩
  · cases h; simp only [VR] at hx; obtain ⟨_, _, e⟩ := hx; exact .inl ⟨_, _, e⟩

theorem firstA_sound (hR : HR ρ hp w base) {x : AVal} {c : Value} {sz n : Nat} {cs : List AVal} (hx : VR ρ x c) (h : firstA hp sz n x = some cs) :
    ∃ cs', VRs ρ cs cs' ∧ cs'.length = n * sz ∧ ((c = .slice none 0 0 ∧ n = 0) ∨ (∃ ad l k, c = .slice (some ad) l k ∧ ∀ j v, cs'[j]? = some v → w.cell? (ad.add j) = some v) ∨
      ∃ s, c = .string s ∧ cs' = (s.extract 0 n).data.toList.map fun b => .int .u8 b.toNat) := by
  cases x <;> simp only [firstA] at h <;> first | (cases h; done) | skip
  · -- string: bytes are counted one by one, whatever the size
    rename_i l
    obtain ⟨e, hs⟩ := hx.str_inv
    split at h
    · rename_i h1; subst h1
      simp only [Option.map_eq_some_iff] at h
      obtain ⟨r, hr, rfl⟩ := h
      obtain ⟨hle, rfl⟩ := takeS_some _ _ _ hr
      have key : ∀ (q : List Nat), (∀ i ∈ q, i < 256) → VRs ρ (q.map fun c => AVal.int .u8 (.ofNat c)) ((q.map UInt8.ofNat).map fun b => Value.int .u8 b.toNat) := by
        intro q
        induction q with
        | nil => intro _; exact VRs.nil
        | cons c q ih =>
          intro hq
          refine VRs.cons ?_ (ih fun i hi => hq i (by simp [hi]))
          have := hq c (by simp)
          simp only [VR]
          congr 1
          simp [UInt8.toNat_ofNat']
          omega
      refine ⟨((l.take n).map UInt8.ofNat).map fun b => Value.int .u8 b.toNat, key _ (fun i hi => hs i (List.mem_of_mem_take hi)), by simp; omega, .inr (.inr ⟨_, e, ?_⟩)⟩
      rw [bytesOf_extract]
      simp [bytesOf]
    · cases h
  · split at h
    · rename_i h0; cases h; subst h0; simp only [VR] at hx; exact ⟨[], VRs.nil, by simp, .inl ⟨hx, rfl⟩⟩
    · cases h
  · simp only [VR] at hx
    obtain ⟨c0, hc0, e⟩ := hx
    obtain ⟨c1, l', hc1, hv, hl, hcell⟩ := readCells_sound hR h
    rw [hc0] at hc1; cases hc1
    exact ⟨l', hv, hl, .inr (.inl ⟨_, _, _, e, hcell⟩)⟩
  · simp only [VR] at hx
    obtain ⟨c0, hc0, _, e⟩ := hx
    simp only [Option.bind_eq_some_iff] at h
    obtain ⟨m, hm, h⟩ := h
    obtain ⟨ls, e', s, hg, _, _⟩ := openElems_some hm
    obtain ⟨hcs, _⟩ := hR.grown hg hc0
    obtain ⟨c1, l', hc1, hv, hl, hcell⟩ := readCells_sound hR h
    rw [hc0] at hc1; cases hc1
    rw [← hcs] at hcell
    exact ⟨l', hv, hl, .inr (.inl ⟨_, _, _, e, hcell⟩)⟩
  · split at h
    · rename_i h0; cases h; subst h0; simp only [VR] at hx
      obtain ⟨ad, e⟩ := hx
      exact ⟨[], VRs.nil, by simp, .inr (.inl ⟨_, _, _, e, fun j v hj => by simp at hj⟩)⟩
    · cases h
  · split at h
    · rename_i h0; cases h; subst h0; simp only [VR] at hx
      obtain ⟨ad, k, e⟩ := hx
      exact ⟨[], VRs.nil, by simp, .inr (.inl ⟨_, _, _, e, fun j v hj => by simp at hj⟩)⟩
    · cases h

theorem bytesOfCells_sound : ∀ {cs : List AVal} {bs : List Nat} {cs' : List Value}, VRs ρ cs cs' → bytesOfCells cs = some bs → cs' = bs.map (fun n => Value.int .u8 (Int.ofNat n)) ∧ ∀ x ∈ bs, x < 256
  | [], bs, cs', hv, h => by simp [bytesOfCells] at h; subst h; exact ⟨hv.nil_inv, fun x hx => by cases hx⟩
  | x :: cs, bs, cs', hv, h => by
    obtain ⟨y, ys, rfl, h1, h2⟩ := hv.cons_inv
    unfold bytesOfCells at h
    split at h
    · rename_i heq; cases heq
    · rename_i n l heq
      cases heq
      split at h
      · rename_i hlt
        simp only [Option.map_eq_some_iff] at h
        obtain ⟨r, hr, rfl⟩ := h
        obtain ⟨h3, h4⟩ := bytesOfCells_sound h2 hr
        simp only [VR] at h1
        exact ⟨by simp [h1, h3], fun x hx => by rcases List.mem_cons.1 hx with e | e; · rw [e]; exact hlt
                                                · exact h4 x e⟩
      · cases h
    · cases h

theorem minL_sound {k : IntKind} : ∀ {l : List AVal} {ys : List Value} {m : Int} {v : AVal}, VRs ρ l ys → minL k m l = some v →
    ∃ c, (ys.foldlM Builtin.min2 (.int k m)).run P w = .ok c w ∧ VR ρ v c
  | [], _, m, _, hv, h => by
    have := hv.nil_inv
    subst this
    cases h
    exact ⟨.int k m, rfl, by simp only [VR]⟩
  | x :: l, _, m, v, hv, h => by
    obtain ⟨y, ys, e, hx, hv1⟩ := hv.cons_inv
    subst e
    cases x with
    | int k' n =>
      simp only [minL] at h
      split at h
      · rename_i hk
        subst hk
        simp only [VR] at hx
        subst hx
        obtain ⟨c, h1, h2⟩ := minL_sound hv1 h
        refine ⟨c, ?_, h2⟩
        simp only [List.foldlM_cons, Builtin.min2, Sem.run_bind, Sem.run_pure, Result.andThen_ok]
        exact h1
      · cases h
    | _ => cases h

theorem maxL_sound {k : IntKind} : ∀ {l : List AVal} {ys : List Value} {m : Int} {v : AVal}, VRs ρ l ys → maxL k m l = some v →
    ∃ c, (ys.foldlM Builtin.max2 (.int k m)).run P w = .ok c w ∧ VR ρ v c
  | [], _, m, _, hv, h => by
    have := hv.nil_inv
    subst this
    cases h
    exact ⟨.int k m, rfl, by simp only [VR]⟩
  | x :: l, _, m, v, hv, h => by
    obtain ⟨y, ys, e, hx, hv1⟩ := hv.cons_inv
    subst e
    cases x with
    | int k' n =>
      simp only [maxL] at h
      split at h
      · rename_i hk
        subst hk
        simp only [VR] at hx
        subst hx
        obtain ⟨c, h1, h2⟩ := maxL_sound hv1 h
        refine ⟨c, ?_, h2⟩
        simp only [List.foldlM_cons, Builtin.max2, Sem.run_bind, Sem.run_pure, Result.andThen_ok]
        exact h1
      · cases h
    | _ => cases h

section
variable {d : Option Tmp} {ty : TypeId} {pos : String} {af : Array Edge} {gd : Option (Nat × Bool)}

theorem lev_sound1 (hR : HR ρ hp w base) (hT : TR ρ tm a.tmps) {op : Op} {v : AVal} {b : Option ABlk} (h : lev P (opnd tm) hp nx op = some (v, b)) :
    LevOK P ρ w nx (execOp a.eval ⟨d, op, ty, pos, af, gd⟩) v b := by
  cases op with
  | move x => exact LevOK.value h fun y hy => opnd_sound hT hy
  | assign x => exact LevOK.value h fun y hy => opnd_sound hT hy
  | pick c x y =>
    simp only [lev, levW, levW] at h
    simp only [execOp]
    unfold noNew at h
    split at h
    · rename_i r hr
      cases h
      simp only [Option.bind_eq_some_iff] at hr
      obtain ⟨cv, hc, hr⟩ := hr
      have hcv := opnd_sound hT hc
      split at hr
      · simp only [VR] at hcv
        exact ⟨_, by simp [hcv, asBool], opnd_sound hT hr⟩
      · simp only [VR] at hcv
        exact ⟨_, by simp [hcv, asBool], opnd_sound hT hr⟩
      · cases hr
    · cases h
  | alloc e =>
    simp only [lev, levW, Option.bind_eq_some_iff] at h
    obtain ⟨z, hz, h⟩ := h
    cases h
    obtain ⟨cz, hcz, hvz⟩ := zeroCells_sound (ρ := ρ) hz
    refine LevOK.row (c := .pointer (some ⟨w.heap.size, 0, none⟩)) (l' := cz.cells) ?_ (fun ρ' hn => ?_) hvz
    · simp [Instr.alloc, hcz, newVar, newRow]
    · simp only [VR]; exact ⟨_, hn, rfl⟩
  | box e x =>
    simp only [lev, levW, Option.bind_eq_some_iff] at h
    obtain ⟨y, hy, h⟩ := h
    cases h
    refine LevOK.row (c := .pointer (some ⟨w.heap.size, 0, none⟩)) (l' := (a.eval x).cells) ?_ (fun ρ' hn => ?_) (cellsA_sound (opnd_sound hT hy))
    · simp [Instr.box, newVar, newRow]
    · simp only [VR]; exact ⟨_, hn, rfl⟩
  | build t ps =>
    refine LevOK.read h fun y hy => ?_
    simp only [Option.bind_eq_some_iff] at hy
    obtain ⟨qs, hqs, hy⟩ := hy
    refine buildA_sound ?_ hy w
    simpa using parts_sound hT hqs
  | buildSlice t len ps =>
    simp only [lev, levW, levW] at h
    split at h
    · rename_i e hu
      simp only [Option.bind_eq_some_iff] at h
      obtain ⟨sz, hsz, h⟩ := h
      split at h
      · cases h
      rename_i hbig
      simp only [Option.bind_eq_some_iff] at h
      obtain ⟨z, hz, qs, hqs, h⟩ := h
      split at h
      · rename_i hzl
        simp only [Option.bind_eq_some_iff] at h
        obtain ⟨c, hc, h⟩ := h
        cases h
        obtain ⟨cz, hcz, hvz⟩ := zeroCells_sound (ρ := ρ) hz
        have hcl : cz.cells.size = sz := by have := hvz.length; simpa [hzl] using this
        obtain ⟨r', hr', hv⟩ := fillA_sound (place' := fun i => some (i * sz, sz)) (fun i => rfl) (c' := (repS len cz.cells.toList).toArray) (by simpa using repS_VRs hvz len) (parts_sound hT hqs) hc
        refine LevOK.row (c := .slice (some ⟨w.heap.size, 0, none⟩) len len) (l' := r') ?_ (fun ρ' hn => ?_) hv
        · simp only [Instr.buildSlice, Sem.run_bind, run_underlying' hu, Result.andThen_ok, run_sizeOf' hsz, Sem.run_ite, hbig, if_false]
          by_cases h0 : len * sz = 0
          · have e : (repS len cz.cells.toList).toArray = (Array.range (len * sz)).map fun i => (#[] : Array Value)[i % (#[] : Array Value).size]! := by
              rw [h0]; apply Array.ext'; simp
              apply List.eq_nil_of_length_eq_zero
              rw [repS_len]; simpa [hcl] using h0
            rw [e] at hr'
            have hm0 : ∀ f : Nat → Value, (Array.range 0).map f = #[] := fun f => by apply Array.eq_empty_of_size_eq_zero; simp
            have hr'' : Instr.fill (fun i => some (i * sz, sz)) #[] (List.map (fun x => (x.fst, a.eval x.snd)) ps.toList) = some r' := by
              rw [h0, hm0] at hr'; exact hr'
            simp only [h0, if_true, Sem.run_pure, Result.andThen_ok, hm0]
            simp [hr'', newRow]
          · have e : (repS len cz.cells.toList).toArray = (Array.range (len * sz)).map fun i => cz.cells[i % cz.cells.size]! := by rw [repS_row, hcl]
            rw [e] at hr'
            simp [h0, hcz, hr', newRow]
        · simp only [VR]; exact ⟨_, hn, by simp⟩
      · cases h
    · cases h
  | load t x =>
    refine LevOK.read h fun y hy => ?_
    simp only [Option.bind_eq_some_iff] at hy
    obtain ⟨p, hp', hy⟩ := hy
    split at hy
    · have hv := opnd_sound hT hp'
      simp only [VR] at hv
      obtain ⟨c, hc, he⟩ := hv
      obtain ⟨c', v', hc', hv', hl⟩ := loadT_sound (P := P) hR hy
      rw [hc] at hc'; cases hc'
      exact ⟨v', by simp [Instr.loadAt, he, Instr.sureAddr, hl], hv'⟩
    · cases hy
  | nilCheck x =>
    simp only [lev, levW, levW] at h
    unfold noNew at h
    split at h
    · rename_i r hr
      cases h
      simp only [Option.bind_eq_some_iff] at hr
      obtain ⟨y, hy, hr⟩ := hr
      have hv := opnd_sound hT hy
      simp only [execOp]
      refine ⟨a.eval x, ?_, ?_⟩
      · cases y with
        | func fn f c =>
          simp only [VR] at hv
          obtain ⟨f', c', e, _⟩ := hv
          rw [e]
          cases fn <;> first | rfl | cases hr
        | _ =>
          simp only [VR] at hv
          first
          | (rw [hv]; rfl)
          | (obtain ⟨_, _, e⟩ := hv; rw [e]; rfl)
          | (obtain ⟨_, _, _, e⟩ := hv; rw [e]; rfl)
          | (obtain ⟨_, e, _⟩ := hv; rw [e]; rfl)
          | (obtain ⟨_, e⟩ := hv; rw [e]; rfl)
          | (rw [hv.1]; rfl)
          | (cases hr)
      · cases y with
        | func fn f c => cases fn <;> first | (cases hr; exact hv) | cases hr
        | _ => first | (cases hr; exact hv) | cases hr
    · cases h
  | binOp op t x y yt =>
    simp only [lev, levW, levW] at h
    simp only [execOp]
    refine LevOK.read h fun z hz => ?_
    simp only [Option.bind_eq_some_iff] at hz
    obtain ⟨u, hu, v', hv', hz⟩ := hz
    exact binA_sound (opnd_sound hT hu) (opnd_sound hT hv') hz w
  | unOp op t x =>
    refine LevOK.read h fun z hz => ?_
    simp only [Option.bind_eq_some_iff] at hz
    obtain ⟨u, hu, hz⟩ := hz
    exact unA_sound (opnd_sound hT hu) hz w
  | fieldAddr s x f =>
    refine LevOK.read h fun z hz => ?_
    simp only [Option.bind_eq_some_iff] at hz
    obtain ⟨u, hu, hz⟩ := hz
    have hv := opnd_sound hT hu
    split at hz
    · rename_i bb o
      simp only [Option.bind_eq_some_iff, fn_eq] at hz
      obtain ⟨dd, hd, hz⟩ := hz
      cases hz
      simp only [VR] at hv
      obtain ⟨c, hc, he⟩ := hv
      unfold fieldOff fieldInfo at hd
      simp only [Option.bind_eq_some_iff] at hd
      obtain ⟨fd, hf, n, hn, hd⟩ := hd
      split at hd
      · cases hd
      rename_i hn0
      cases hd
      split at hf
      · rename_i fs hfs
        refine ⟨.pointer (some (Addr.add ⟨c.blk, o + c.sh, none⟩ fd.offset)), by simp only [Instr.fieldAt, Sem.run_bind, run_underlying' hfs, Result.andThen_ok, hf, he, Instr.sureAddr, Sem.run_pure, fieldPlace, run_sizeOf' hn, hn0, Sem.run_ite, if_false], ?_⟩
        simp only [VR, add_off]
        refine ⟨c, hc, ?_⟩
        congr 3
        omega
      · cases hf
    · cases hz
  | field t x f =>
    refine LevOK.read h fun z hz => ?_
    simp only [Option.bind_eq_some_iff] at hz
    obtain ⟨u, hu, hz⟩ := hz
    have hv := opnd_sound hT hu
    split at hz
    · simp only [Option.bind_eq_some_iff] at hz
      obtain ⟨fd, hf, hz⟩ := hz
      unfold fieldInfo at hf
      simp only [VR] at hv
      obtain ⟨l', he, hl⟩ := hv
      split at hf
      · rename_i fs hfs
        obtain ⟨c, hc, hvc⟩ := partA_sound hl hz
        exact ⟨c, by simp only [Instr.field, Sem.run_bind, run_underlying' hfs, Result.andThen_ok, hf, he, asAgg, Sem.run_pure, hc], hvc⟩
      · cases hf
    · cases hz
  | makeInterface t x =>
    refine LevOK.read h fun z hz => ?_
    simp only [Option.bind_eq_some_iff] at hz
    obtain ⟨u, hu, hz⟩ := hz
    have hv := opnd_sound hT hu
    split at hz
    · cases hz
    · rename_i dd hno hd
      cases hz
      refine ⟨.iface t (a.eval x), ?_, by simp only [VR]; exact ⟨_, rfl, hv⟩⟩
      simp only [Instr.makeInterface, Sem.run_bind, run_underlying' hd, Result.andThen_ok]
      cases dd <;> first | rfl | exact (hno _ hd).elim
    · cases hz
  | makeFunc f first cap =>
    refine LevOK.read h fun z hz => ?_
    simp only [Option.bind_eq_some_iff] at hz
    obtain ⟨u, hu, u', hu', hz⟩ := hz
    cases hz
    refine ⟨_, rfl, ?_⟩
    simp only [VR]
    exact ⟨_, _, rfl, by simpa using opnds_sound hT hu, by simpa using opnds_sound hT hu'⟩
  | makeMap t r =>
    have hmk : ∀ (s : Sem Value), s.run P w = .ok (.map (some w.heap.size)) (w.alloc (.map #[] 0)) → LevOK P ρ w nx (do pure (.value (← s))) (.map nx) (some (.mapo [] 0)) := fun s hs =>
      ⟨.map #[] 0, .map (some w.heap.size), by simp [hs], fun ρ' hx hn => ⟨by simp only [VR]; exact ⟨_, hn, rfl⟩, #[], rfl, rfl, rfl⟩⟩
    simp only [lev, levW, levW] at h
    split at h
    · cases h
      exact hmk _ (by simp [Instr.makeMap])
    · simp only [Option.bind_eq_some_iff] at h
      obtain ⟨u, hu, h⟩ := h
      have hv := opnd_sound hT hu
      split at h
      · rename_i hun
        cases h
        simp only [VR] at hv
        refine hmk _ ?_
        simp [Instr.makeMap, hv, run_underlying' hun, asInt, asIntOf]
      · cases h
  | extract x i =>
    refine LevOK.read h fun z hz => ?_
    simp only [Option.bind_eq_some_iff] at hz
    obtain ⟨u, hu, hz⟩ := hz
    have hv := opnd_sound hT hu
    split at hz
    · simp only [VR] at hv
      obtain ⟨l', he, hl⟩ := hv
      rw [nth_eq] at hz
      obtain ⟨y, hy, hvy⟩ := hl.get i hz
      have : l'[i]? = some y := by simpa using hy
      exact ⟨y, by simp [Instr.extract, he, this], hvy⟩
    · cases hz
  | lookup t x k ok =>
    refine LevOK.read h fun z hz => ?_
    simp only [Option.bind_eq_some_iff] at hz
    obtain ⟨u, hu, k', hk', hz⟩ := hz
    exact lookupA_sound hR (opnd_sound hT hu) (opnd_sound hT hk') hz
  | slice t x lo hi mx =>
    refine LevOK.read h fun z hz => ?_
    simp only [Option.bind_eq_some_iff] at hz
    obtain ⟨u, hu, l, hl, hh, hhh, m, hm, hz⟩ := hz
    exact sliceA_sound hR (opnd_sound hT hu) (optO_sound hT hl) (optO_sound hT hhh) (optO_sound hT hm) hz
  | sliceToArrayPointer t x =>
    refine LevOK.read h fun z hz => ?_
    simp only [Option.bind_eq_some_iff] at hz
    obtain ⟨u, hu, hz⟩ := hz
    have hv := opnd_sound hT hu
    split at hz
    · rename_i n e b o len cap hun
      split at hz
      · cases hz
      · rename_i hlt
        cases hz
        simp only [VR] at hv
        obtain ⟨c, hc, he⟩ := hv
        refine ⟨_, by simp only [Instr.arrayAt, Sem.run_bind, run_underlying' hun, Result.andThen_ok, he, Sem.run_ite, hlt, if_false, Sem.run_pure]; rfl, ?_⟩
        simp only [VR]
        exact ⟨c, hc, rfl⟩
    · cases hz
  | makeSlice t l c =>
    simp only [lev, levW, levW] at h
    split at h
    · rename_i e hun
      simp only [Option.bind_eq_some_iff] at h
      obtain ⟨lv, hl, cv, hc, ln, hln, cn, hcn, byt, hby, sz, hsz, z, hz, h⟩ := h
      split at h
      · rename_i hcond
        obtain ⟨h1, h2, h3, h4⟩ := hcond
        cases h
        obtain ⟨kl, rfl⟩ := natOf_some hln
        obtain ⟨kc, rfl⟩ := natOf_some hcn
        have hlv := opnd_sound hT hl
        have hcv := opnd_sound hT hc
        simp only [VR] at hlv hcv
        obtain ⟨cz, hcz, hvz⟩ := zeroCells_sound (ρ := ρ) hz
        have hcl : cz.cells.size = sz := by have := hvz.length; simpa [h4] using this
        obtain ⟨i1, hi1, hb1⟩ := bytesT_info hby
        have h40 : (2 : Nat) ^ 40 = 1099511627776 := rfl
        rw [h40] at h2 h3
        have w1 : IntKind.i64.wrap (ln : Int) = ln := by rw [← wrapI_eq]; simp only [wrapI]; have : Nat.ble ln (fastMax .i64) = true := Nat.ble_eq_true_of_le (by simp only [fastMax]; omega); simp only [this, cond_true]; rfl
        have w2 : IntKind.i64.wrap (cn : Int) = cn := by rw [← wrapI_eq]; simp only [wrapI]; have : Nat.ble cn (fastMax .i64) = true := Nat.ble_eq_true_of_le (by simp only [fastMax]; omega); simp only [this, cond_true]; rfl
        have hlarge : (decide ((cn : Int) < 0) || decide ((i1.bytes : Int) * (cn : Int) > 2 ^ 48)) = false := by
          rw [Nat.mul_comm, ← hb1] at h2
          have : ((i1.bytes : Int) * (cn : Int)) = ((i1.bytes * cn : Nat) : Int) := by push_cast; rfl
          rw [this]
          simp
          omega
        refine LevOK.row (c := .slice (some ⟨w.heap.size, 0, none⟩) ln cn) (l' := (repS cn cz.cells.toList).toArray) ?_ (fun ρ' hn => ?_) (by simpa using repS_VRs hvz cn)
        · have n1 : ¬ ((ln : Int) < 0) := by omega
          have n2 : ¬ ((ln : Int) > (cn : Int)) := by omega
          have n3 : ¬ ((cn : Int) < 0) := by omega
          have n4 : ¬ ((i1.bytes : Int) * (cn : Int) > 2 ^ 48) := by
            intro hh; simp at hlarge; have h48 : (2 : Int) ^ 48 = 281474976710656 := rfl; omega
          have hrow : ∀ (zz : Array Value), (if cn * sz = 0 then zz = #[] else zz = cz.cells) → (Array.range (cn * sz)).map (fun i => zz[i % zz.size]!) = (repS cn cz.cells.toList).toArray := by
            intro zz hzz
            split at hzz
            · rename_i h0
              subst hzz
              rw [h0]
              have e1 : (repS cn cz.cells.toList) = [] := List.eq_nil_of_length_eq_zero (by rw [repS_len]; simpa [hcl] using h0)
              rw [e1]
              apply Array.eq_empty_of_size_eq_zero; simp
            · subst hzz; rw [repS_row, hcl]
          simp only [Instr.makeSlice, Sem.run_bind, run_underlying' hun, Result.andThen_ok, hlv, hcv, asInt, asIntOf, Sem.run_pure, typeInfo, run_program, hi1, Int.ofNat_eq_natCast, w1, w2, n1, n2, n3, n4, decide_false, Bool.or_self, Bool.false_eq_true, if_false, Int.toNat_natCast, run_askRoom, run_sizeOf' hsz, newRow, Sem.run_ite]
          by_cases h0 : cn * sz = 0
          · have := hrow #[] (by rw [if_pos h0])
            simp only [h0, if_true, Result.andThen_ok] at this ⊢
            simp only [this, run_newObj, World.alloc_eq, Result.andThen_ok]
          · have := hrow cz.cells (by rw [if_neg h0])
            simp only [h0, if_false, hcz, Result.andThen_ok] at this ⊢
            simp only [this, run_newObj, World.alloc_eq, Result.andThen_ok]
        · simp only [VR]; exact ⟨_, hn, by simp⟩
      · cases h
    · cases h
  | indexAddr t x i =>
    refine LevOK.read h fun z hz => ?_
    simp only [Option.bind_eq_some_iff] at hz
    obtain ⟨u, hu, iv, hiv, n, hn, hz⟩ := hz
    obtain ⟨ki, rfl⟩ := natOf_some hn
    have hi := opnd_sound hT hiv
    simp only [VR] at hi
    have hv := opnd_sound hT hu
    split at hz
    · rename_i len e b o hun
      split at hz
      · rename_i hlt
        simp only [Option.bind_eq_some_iff, fn_eq] at hz
        obtain ⟨sz, hsz, hz⟩ := hz
        cases hz
        simp only [VR] at hv
        obtain ⟨c, hc, he⟩ := hv
        refine ⟨.pointer (some (Addr.add ⟨c.blk, o + c.sh, none⟩ (n * sz))), by simp [Instr.indexAt, hi, asIntOf, run_underlying' hun, he, Instr.sureAddr, hlt, run_sizeOf' hsz], ?_⟩
        simp only [VR, add_off]
        refine ⟨c, hc, ?_⟩
        congr 3
        omega
      · cases hz
    · rename_i e b o len cap hun
      split at hz
      · rename_i hlt
        simp only [Option.bind_eq_some_iff, fn_eq] at hz
        obtain ⟨sz, hsz, hz⟩ := hz
        cases hz
        simp only [VR] at hv
        obtain ⟨c, hc, he⟩ := hv
        refine ⟨.pointer (some (Addr.add ⟨c.blk, o + c.sh, none⟩ (n * sz))), by simp [Instr.indexAt, hi, asIntOf, run_underlying' hun, he, hlt, run_sizeOf' hsz], ?_⟩
        simp only [VR, add_off]
        refine ⟨c, hc, ?_⟩
        congr 3
        omega
      · cases hz
    · rename_i e b k len hun
      split at hz
      · rename_i hlt
        simp only [Option.bind_eq_some_iff, fn_eq] at hz
        obtain ⟨sz, hsz, m, hm, hz⟩ := hz
        cases hz
        obtain ⟨ls, e', s, hg, _, _⟩ := openElems_some hm
        simp only [VR] at hv
        obtain ⟨c, hc, _, he⟩ := hv
        obtain ⟨hcs, _⟩ := hR.grown hg hc
        refine ⟨.pointer (some (Addr.add ⟨c.blk, k * c.sz + c.sh, none⟩ (n * sz))), by simp [Instr.indexAt, hi, asIntOf, run_underlying' hun, he, hlt, run_sizeOf' hsz], ?_⟩
        simp only [VR, add_off]
        refine ⟨c, hc, ?_⟩
        congr 3
        rw [hcs, Nat.add_mul]; omega
      · cases hz
    · cases hz
  | index t x i =>
    refine LevOK.read h fun z hz => ?_
    simp only [Option.bind_eq_some_iff] at hz
    obtain ⟨u, hu, iv, hiv, n, hn, hz⟩ := hz
    obtain ⟨ki, rfl⟩ := natOf_some hn
    have hi := opnd_sound hT hiv
    simp only [VR] at hi
    have hv := opnd_sound hT hu
    split at hz
    · rename_i len e cs hun
      split at hz
      · rename_i hlt
        simp only [Option.bind_eq_some_iff] at hz
        obtain ⟨sz, hsz, hz⟩ := hz
        simp only [VR] at hv
        obtain ⟨l', he, hl⟩ := hv
        obtain ⟨c, hc, hvc⟩ := partA_sound hl hz
        exact ⟨c, by simp [Instr.index, hi, asIntOf, run_underlying' hun, he, hlt, run_sizeOf' hsz, hc], hvc⟩
      · cases hz
    · rename_i s hun
      simp only [Option.bind_eq_some_iff] at hz
      obtain ⟨cc, hcc, hz⟩ := hz
      cases hz
      obtain ⟨he, hs⟩ := hv.str_inv
      rw [nth_eq] at hcc
      have hlt : n < s.length := (List.getElem?_eq_some_iff.1 hcc).1
      have hb : (bytesOf s)[n]? = some (UInt8.ofNat cc) := by
        have h1 : n < (bytesOf s).size := by rw [size_bytesOf]; exact hlt
        rw [getElem?_pos (bytesOf s) n h1]
        congr 1
        have h2 : s[n] = cc := by have := hcc; rw [List.getElem?_eq_getElem hlt] at this; exact Option.some.inj this
        show (bytesOf s).data[n] = _
        simp [bytesOf, h2]
      have hlt2 : cc < 256 := hs cc (List.mem_of_getElem? hcc)
      refine ⟨.int .u8 (UInt8.ofNat cc).toNat, by simp [Instr.index, hi, asIntOf, run_underlying' hun, he, hb], ?_⟩
      simp only [VR]
      congr 1
      simp [UInt8.toNat_ofNat']
      omega
    · cases hz
  | typeAssert x xt as ok =>
    refine LevOK.read h fun z hz => ?_
    simp only [Option.bind_eq_some_iff] at hz
    obtain ⟨u, hu, hz⟩ := hz
    have hv := opnd_sound hT hu
    have hfail : ∀ (s m : Option TypeId) (q : String) (z : AVal), ok = true → zeroV P as = some z → ∃ c, ((do let v ← zeroValue as; pure (.tuple #[v, .bool false])) : Sem Value).run P w = .ok c w ∧ VR ρ (.tup [z, .bool false]) c := by
      intro _ _ _ z _ hz
      obtain ⟨cz, hcz, hvz⟩ := zeroV_sound (ρ := ρ) hz
      exact ⟨_, by simp only [Sem.run_bind, hcz, Result.andThen_ok, Sem.run_pure]; rfl, by simp only [VR]; exact ⟨_, rfl, VRs.cons hvz (VRs.cons (by simp only [VR]) VRs.nil)⟩⟩
    have hhold : ∀ (x : AVal) (c : Value), VR ρ x c → VR ρ (tupOk ok x true) (if ok then .tuple #[c, .bool true] else c) := by
      intro x c hx
      cases ok
      · exact hx
      · simp only [tupOk, VR, if_true]; exact ⟨_, rfl, VRs.cons hx (VRs.cons (by simp only [VR]) VRs.nil)⟩
    unfold assertA at hz
    split at hz
    · rename_i want t1 v1 hun
      split at hz
      · rename_i i hi
        have hvv := hv
        simp only [VR] at hv
        obtain ⟨y, he, hvy⟩ := hv
        split at hz
        · rename_i hmm
          cases hz
          refine ⟨_, ?_, hhold _ _ hvv⟩
          simp only [Instr.typeAssert, Sem.run_bind, run_underlying' hun, Result.andThen_ok, he, typeInfo, run_program, hi, Sem.run_pure, hmm]
        · rename_i m hmm
          split at hz
          · rename_i hok
            simp only [Option.map_eq_some_iff] at hz
            obtain ⟨zz, hzz, rfl⟩ := hz
            obtain ⟨c, hc, hvc⟩ := hfail none (some t1) m zz hok hzz
            refine ⟨c, ?_, hvc⟩
            simp only [Instr.typeAssert, Sem.run_bind, run_underlying' hun, Result.andThen_ok, he, typeInfo, run_program, hi, Sem.run_pure, hmm, hok, if_true]
            simp only [Sem.run_bind, Sem.run_pure] at hc ⊢
            exact hc
          · cases hz
      · cases hz
    · rename_i dd hun
      split at hz
      · rename_i hok
        simp only [Option.map_eq_some_iff] at hz
        obtain ⟨zz, hzz, rfl⟩ := hz
        obtain ⟨c, hc, hvc⟩ := hfail none none "" zz hok hzz
        simp only [VR] at hv
        refine ⟨c, ?_, hvc⟩
        simp only [Sem.run_bind, Sem.run_pure] at hc
        simp only [Instr.typeAssert, Sem.run_bind, run_underlying' hun, Result.andThen_ok, hv, hok, if_true]
        cases dd <;> (simp only [Sem.run_bind, Sem.run_pure]; exact hc)
      · cases hz
    · cases hz
    · rename_i dd t1 v1 hno hun
      simp only [VR] at hv
      obtain ⟨y, he, hvy⟩ := hv
      have hne : ∀ want, dd ≠ .interface want := fun want e => by subst e; exact hno _ (by first | exact hun | rfl)
      split at hz
      · rename_i ht
        cases hz
        refine ⟨_, ?_, hhold _ _ hvy⟩
        simp only [Instr.typeAssert, Sem.run_bind, run_underlying' hun, Result.andThen_ok, he]
        cases dd <;> first | (exact absurd rfl (hne _)) | simp [ht]
      · rename_i ht
        split at hz
        · rename_i hok
          simp only [Option.map_eq_some_iff] at hz
          obtain ⟨zz, hzz, rfl⟩ := hz
          obtain ⟨c, hc, hvc⟩ := hfail (some xt) (some t1) "" zz hok hzz
          refine ⟨c, ?_, hvc⟩
          simp only [Sem.run_bind, Sem.run_pure] at hc
          simp only [Instr.typeAssert, Sem.run_bind, run_underlying' hun, Result.andThen_ok, he]
          cases dd <;> first | (exact absurd rfl (hne _)) | (simp only [ht, if_false, hok, if_true, Sem.run_bind, Sem.run_pure]; exact hc)
        · cases hz
    · cases hz
  | range t x =>
    simp only [lev, levW, Option.bind_eq_some_iff] at h
    obtain ⟨u, hu, h⟩ := h
    have hv := opnd_sound hT hu
    have hmk : ∀ (s : Sem Value) (k : ABlk) (ob : Obj), s.run P w = .ok (.pointer (some ⟨w.heap.size, 0, none⟩)) (w.alloc ob) → (∀ ρ', Ext ρ ρ' → BR ρ' ⟨w.heap.size, 0, 0, 0⟩ k ob) → LevOK P ρ w nx (do pure (.value (← s))) (.ptr nx 0) (some k) :=
      fun s k ob hs hb => ⟨ob, .pointer (some ⟨w.heap.size, 0, none⟩), by simp [hs], fun ρ' hx hn => ⟨by simp only [VR]; exact ⟨_, hn, rfl⟩, hb ρ' hx⟩⟩
    split at h
    · rename_i s hun
      cases h
      obtain ⟨he, hs⟩ := hv.str_inv
      exact hmk _ _ (.stringIter (bytesOf s) 0) (by simp [Instr.range, run_underlying' hun, he]) (fun ρ' _ => ⟨rfl, hs, rfl⟩)
    · rename_i hun
      cases h
      simp only [VR] at hv
      exact hmk _ _ (.mapIter none 0 #[] 0) (by simp [Instr.range, run_underlying' hun, hv]) (fun ρ' _ => ⟨rfl, rfl⟩)
    · rename_i m hun
      split at h
      · rename_i clock hg
        cases h
        obtain ⟨c, es', hc, hob, hes, _⟩ := hR.map hg
        simp only [VR] at hv
        obtain ⟨c', hc', he⟩ := hv
        rw [hc] at hc'; cases hc'
        exact hmk _ _ (.mapIter (some c.blk) clock #[] clock) (by simp [Instr.range, run_underlying' hun, he, getObj_run hob (by simp)]) (fun ρ' hx => ⟨⟨c, hx _ _ hc, rfl⟩, rfl⟩)
      · cases h
    · cases h
  | entry x =>
    refine LevOK.read h fun z hz => ?_
    simp only [Option.bind_eq_some_iff] at hz
    obtain ⟨u, hu, hz⟩ := hz
    have hv := opnd_sound hT hu
    split at hz
    · rename_i r
      split at hz
      · rename_i m since seen stepped hg
        split at hz
        · rename_i st es clock hlast hgm
          split at hz
          · rename_i hck
            simp only [Option.map_eq_some_iff] at hz
            obtain ⟨e, hfind, rfl⟩ := hz
            simp only [VR] at hv
            obtain ⟨c, hc, he⟩ := hv
            obtain ⟨ob, hob, hbr⟩ := hR.at hg hc
            obtain ⟨⟨cm, hcm, rfl⟩, hsh⟩ := hbr
            obtain ⟨cm', es', hcm', hobm, hes, _⟩ := hR.map hgm
            rw [hcm] at hcm'; cases hcm'
            have hback : seen.toArray.back? = some st := by rw [List.back?_toArray]; exact hlast
            obtain ⟨m0, hm0, hER⟩ := find_born hes st e hfind
            have hm0' : es'.find? (fun e => e.born == st) = some m0 := by rw [← Array.find?_toList]; exact hm0
            refine ⟨.tuple #[m0.key, m0.val], ?_, ?_⟩
            · have e1 : (⟨c.blk, 0 + c.sh, none⟩ : Addr) = ⟨c.blk, 0, none⟩ := by rw [hsh]
              simp [Instr.entry, he, e1, hsh, getObj_run hob (by simp), hback, getObj_run hobm (by simp), hck, hm0']
            · simp only [VR]
              exact ⟨_, rfl, VRs.cons hER.1 (VRs.cons hER.2.1 VRs.nil)⟩
          · cases hz
        · cases hz
      · cases hz
    · cases hz
  | convert src dst x =>
    refine LevOK.read h fun z hz => ?_
    simp only [Option.bind_eq_some_iff] at hz
    obtain ⟨u, hu, hz⟩ := hz
    have hv := opnd_sound hT hu
    split at hz
    · rename_i ds k k0 n h1 h2
      cases mkInt_some hz
      simp only [VR] at hv
      refine ⟨.int k (k.wrap n), by simp [Go.convert, run_underlying' h1, run_underlying' h2, hv, Conv.intToInt], by simp only [VR, wrapI_eq]⟩
    · rename_i ds k k0 n h1 h2
      simp only [fn_eq] at hz; cases hz
      simp only [VR] at hv
      exact ⟨.float k (k.nearest n), by simp [Go.convert, run_underlying' h1, run_underlying' h2, hv, Conv.intToFloat], by simp only [VR]⟩
    · rename_i ds k s0 b0 h1 h2
      split at hz
      · rename_i n hn
        split at hz
        · rename_i hr
          cases mkInt_some hz
          simp only [VR] at hv
          exact ⟨.int k n, by simp [Go.convert, run_underlying' h1, run_underlying' h2, hv, Conv.floatToInt, hn, hr], by simp only [VR]⟩
        · cases hz
      · cases hz
    · rename_i ds s0 h1 h2
      cases hz
      obtain ⟨he, hs⟩ := hv.str_inv
      refine ⟨.string (bytesOf s0), ?_, by simp only [VR]; exact ⟨trivial, hs⟩⟩
      simp [Go.convert, run_underlying' h1, run_underlying' h2, he]
    · rename_i v0 q1 q2 q3 e h1 h2 hno
      split at hz
      · rename_i hue
        simp only [Option.bind_eq_some_iff] at hz
        obtain ⟨n, hn, hz⟩ := hz
        simp only [Option.map_eq_some_iff] at hz
        obtain ⟨cs, hcs, bs, hbs, rfl⟩ := hz
        obtain ⟨cs', hvs, hl, hcase⟩ := firstA_sound hR hv hcs
        obtain ⟨hb1, hb2⟩ := bytesOfCells_sound hvs hbs
        have hlen := lenA_sound hv hn
        rcases hcase with ⟨e1, e2⟩ | ⟨ad, l, c, e1, hcell⟩ | ⟨s0, e1, _⟩
        · subst e2
          have : bs = [] := by
            have hcs0 : cs = [] := List.eq_nil_of_length_eq_zero (by have := hvs.length; omega)
            subst hcs0; simp [bytesOfCells] at hbs; exact hbs
          subst this
          refine ⟨.string ByteArray.empty, ?_, by simp only [VR]; exact ⟨rfl, fun x hx => by cases hx⟩⟩
          rw [e1]
          simp [Go.convert, run_underlying' h1, run_underlying' h2, run_underlying' hue, Conv.bytesToString]
        · have hl2 : l = n := by rw [e1] at hlen; rcases hlen with ⟨_, _, hh⟩ | ⟨_, hh⟩ <;> simp at hh; exact hh.2.1
          subst hl2
          have hload := run_loadCells_list (P := P) w ad cs' hcell
          rw [hl, Nat.mul_one] at hload
          have hcs2 : cs'.toArray = ((bs.map Int.ofNat).map (Value.int .u8)).toArray := by rw [hb1]; simp [Function.comp_def]
          rw [hcs2] at hload
          refine ⟨_, by rw [e1, run_convert_bytes_string w src dst e (some ad) l c h1 hue h2, run_bytesToString w ad l c _ hload], ?_⟩
          simp only [VR]
          refine ⟨?_, hb2⟩
          congr 1
          rw [foldl_push_bytes]
          unfold bytesOf
          congr 1
          simp [Function.comp_def]
        · exfalso
          rw [e1] at hv
          obtain ⟨l, hl⟩ := hv.string_inv
          exact hno l hl
      · cases hz
    · cases hz
  | call c =>
    obtain ⟨callee, args, argTypes⟩ := c
    simp only [lev, levW, levW] at h
    have hb : ∀ (bt : Builtin) (s : Sem Value), (∀ cs as, builtin bt argTypes ty cs as = (do pure (.value (← s)) : Sem Next) → True) → True := fun _ _ _ => trivial
    split at h
    · -- len
      show LevOK P ρ w nx (do pure (.value (← Builtin.len_ argTypes ty (args.map a.eval)))) v b
      refine LevOK.read h fun z hz => ?_
      simp only [Option.bind_eq_some_iff] at hz
      obtain ⟨vs, hvs, hz⟩ := hz
      split at hz
      · rename_i t0 x0 rest ht0
        have hv := opnds_sound hT hvs
        obtain ⟨y0, ys0, e0, hx0, _⟩ := hv.cons_inv
        have ha0 : (args.map a.eval)[0]? = some y0 := by
          have : (args.toList.map a.eval)[0]? = some y0 := by rw [e0]; rfl
          simpa using this
        split at hz <;> first | (cases hz; done) | skip
        · rename_i s0 hun
          simp only [fn_eq] at hz; cases hz
          obtain ⟨e1, _⟩ := hx0.str_inv
          refine ⟨goInt (bytesOf s0).size, by simp [Builtin.len_, ht0, ha0, run_underlying' hun, e1], by simp only [VR, size_bytesOf]; rfl⟩
        · rename_i n0 e1 hun
          cases hz
          exact ⟨goInt n0, by simp [Builtin.len_, ht0, ha0, run_underlying' hun], by simp only [VR]; rfl⟩
        · rename_i a1 hun
          split at hz
          · rename_i n0 e1 hun1
            cases hz
            exact ⟨goInt n0, by simp [Builtin.len_, ht0, ha0, run_underlying' hun, run_underlying' hun1], by simp only [VR]; rfl⟩
          · cases hz
        · rename_i e1 hun
          cases hz; simp only [VR] at hx0
          exact ⟨goInt 0, by simp [Builtin.len_, ht0, ha0, run_underlying' hun, hx0], by simp only [VR]; rfl⟩
        · rename_i e1 b1 o1 n1 c1 hun
          cases hz; simp only [VR] at hx0; obtain ⟨_, _, e2⟩ := hx0
          exact ⟨goInt n1, by simp [Builtin.len_, ht0, ha0, run_underlying' hun, e2], by simp only [VR]; rfl⟩
        · rename_i e1 b1 o1 n1 hun
          cases hz; simp only [VR] at hx0; obtain ⟨_, _, _, e2⟩ := hx0
          exact ⟨goInt n1, by simp [Builtin.len_, ht0, ha0, run_underlying' hun, e2], by simp only [VR]; rfl⟩
        · rename_i e1 hun
          cases hz; simp only [VR] at hx0; obtain ⟨_, e2⟩ := hx0
          exact ⟨goInt 0, by simp [Builtin.len_, ht0, ha0, run_underlying' hun, e2], by simp only [VR]; rfl⟩
        · rename_i e1 hun
          cases hz; simp only [VR] at hx0; obtain ⟨_, _, e2⟩ := hx0
          exact ⟨goInt 0, by simp [Builtin.len_, ht0, ha0, run_underlying' hun, e2], by simp only [VR]; rfl⟩
        · rename_i k1 e1 hun
          cases hz; simp only [VR] at hx0
          exact ⟨goInt 0, by simp [Builtin.len_, ht0, ha0, run_underlying' hun, hx0], by simp only [VR]; rfl⟩
        · rename_i k1 e1 m1 hun
          split at hz
          · rename_i es1 cl1 hg
            simp only [fn_eq] at hz; cases hz
            obtain ⟨c1, es', hc1, hob, hes, _⟩ := hR.map hg
            simp only [VR] at hx0; obtain ⟨c2, hc2, e2⟩ := hx0
            rw [hc1] at hc2; cases hc2
            refine ⟨goInt es'.size, by simp [Builtin.len_, ht0, ha0, run_underlying' hun, e2, getObj_run hob (by simp)], ?_⟩
            have := hes.length
            simp at this
            simp only [VR, this]; rfl
          · cases hz
      · cases hz
    · -- cap
      show LevOK P ρ w nx (do pure (.value (← Builtin.cap_ argTypes ty (args.map a.eval)))) v b
      refine LevOK.read h fun z hz => ?_
      simp only [Option.bind_eq_some_iff] at hz
      obtain ⟨vs, hvs, hz⟩ := hz
      split at hz
      · rename_i t0 x0 rest ht0
        have hv := opnds_sound hT hvs
        obtain ⟨y0, ys0, e0, hx0, _⟩ := hv.cons_inv
        have ha0 : (args.map a.eval)[0]? = some y0 := by
          have : (args.toList.map a.eval)[0]? = some y0 := by rw [e0]; rfl
          simpa using this
        split at hz <;> first | (cases hz; done) | skip
        · rename_i n0 e1 hun
          cases hz
          exact ⟨goInt n0, by simp [Builtin.cap_, ht0, ha0, run_underlying' hun], by simp only [VR]; rfl⟩
        · rename_i e1 hun
          cases hz; simp only [VR] at hx0
          exact ⟨goInt 0, by simp [Builtin.cap_, ht0, ha0, run_underlying' hun, hx0], by simp only [VR]; rfl⟩
        · rename_i e1 b1 o1 n1 c1 hun
          cases hz; simp only [VR] at hx0; obtain ⟨_, _, e2⟩ := hx0
          exact ⟨goInt c1, by simp [Builtin.cap_, ht0, ha0, run_underlying' hun, e2], by simp only [VR]; rfl⟩
      · cases hz
    · -- min
      show LevOK P ρ w nx (do pure (.value (← Builtin.min_ argTypes ty (args.map a.eval)))) v b
      refine LevOK.read h fun z hz => ?_
      simp only [Option.bind_eq_some_iff] at hz
      obtain ⟨vs, hvs, hz⟩ := hz
      split at hz
      · have hv := opnds_sound hT hvs
        obtain ⟨y0, ys0, e0, hx0, hv1⟩ := hv.cons_inv
        simp only [VR] at hx0
        subst hx0
        obtain ⟨c, h1, h2⟩ := minL_sound (P := P) (w := w) hv1 hz
        refine ⟨c, ?_, h2⟩
        simp only [Builtin.min_, Array.toList_map, e0]
        exact h1
      · cases hz
    · -- max
      show LevOK P ρ w nx (do pure (.value (← Builtin.max_ argTypes ty (args.map a.eval)))) v b
      refine LevOK.read h fun z hz => ?_
      simp only [Option.bind_eq_some_iff] at hz
      obtain ⟨vs, hvs, hz⟩ := hz
      split at hz
      · have hv := opnds_sound hT hvs
        obtain ⟨y0, ys0, e0, hx0, hv1⟩ := hv.cons_inv
        simp only [VR] at hx0
        subst hx0
        obtain ⟨c, h1, h2⟩ := maxL_sound (P := P) (w := w) hv1 hz
        refine ⟨c, ?_, h2⟩
        simp only [Builtin.max_, Array.toList_map, e0]
        exact h1
      · cases hz
    · cases h
  | _ => simp only [lev, levW, levW] at h; cases h
end
end Go.Mu

namespace Go.Mu
variable {P : Program} {ρ : Rho} {hp : Heap} {nx base : Nat} {w : World} {tm : Tm} {a : Act}

theorem oneA_sound {x : AVal} {y : Value} (h : VR ρ x y) (ho : oneA x = true) : y.oneCell' = true := by
  cases y <;> first
    | rfl
    | (obtain ⟨l, rfl, _⟩ := h.agg_inv; cases ho)
    | skip
  cases x <;> simp [VR] at h
  cases ho

theorem allOne_sound : ∀ {l : List AVal} {l' : List Value}, VRs ρ l l' → allOne l = true → ∀ v ∈ l', v.oneCell' = true
  | [], _, h, _, v, hv => by rw [h.nil_inv] at hv; cases hv
  | x :: l, _, h, ho, v, hv => by
    obtain ⟨y, ys, rfl, h1, h2⟩ := h.cons_inv
    simp only [allOne] at ho
    split at ho
    · rename_i hx
      rcases List.mem_cons.1 hv with e | e
      · rw [e]; exact oneA_sound h1 hx
      · exact allOne_sound h2 ho v e
    · cases ho

theorem run_storeCells_un (g o : Nat) (t : TypeId) (fr : Nat × Nat) : ∀ (vs : List Value) (i : Nat) (cur : Array Value) (w : World), w.heap[g]? = some (.cells cur t fr) → unfrozen fr cur.size → o + i + vs.length ≤ cur.size → (∀ v ∈ vs, v.oneCell' = true) →
    (storeCells ⟨g, o, none⟩ vs i).run P w = .ok () (w.setRow g (cur.toList.take (o + i) ++ vs ++ cur.toList.drop (o + i + vs.length)).toArray)
  | [], i, cur, w, hg, _, _, _ => by
    simp only [storeCells, List.append_nil, List.length_nil, Nat.add_zero, List.take_append_drop, Array.toArray_toList]
    rw [setRow_self w g cur t fr hg]
    rfl
  | v :: rest, i, cur, w, hg, hu, hl, h1 => by
    have hi : o + i < cur.size := by simp at hl; omega
    have hadd : (⟨g, o, none⟩ : Addr).add i = ⟨g, o + i, none⟩ := add_off g o i
    have hcell : w.cell? ⟨g, o + i, none⟩ = some cur[o + i] := by simp [World.cell?, hg, hi]
    have hfro : w.frozen? ⟨g, o + i, none⟩ = false := by
      simp only [World.frozen?, hg]
      have := hu.not (o + i) hi
      simp only [Bool.and_eq_false_iff, decide_eq_false_iff_not]
      by_cases h : fr.1 ≤ o + i
      · right; intro h2; exact this ⟨h, h2⟩
      · left; exact h
    have hst : (store ((⟨g, o, none⟩ : Addr).add i) v).run P w = .ok () (w.setRow g (cur.setIfInBounds (o + i) v)) := by
      rw [hadd, run_store P w _ v _ (h1 v (by simp)), hcell]
      simp [hfro, setCell_eq_setRow w g (o + i) cur t fr v hg]
    have ih := run_storeCells_un g o t fr rest (i + 1) (cur.setIfInBounds (o + i) v) (w.setRow g (cur.setIfInBounds (o + i) v)) (setRow_heap w g cur _ t _ hg) (by simpa using hu) (by simp at hl ⊢; omega) (fun x hx => h1 x (by simp [hx]))
    simp only [storeCells, Sem.run_bind, hst, Result.andThen_ok, ih, setRow_setRow]
    congr 3
    have e := list_seg_step cur.toList (o + i) v rest (by simp at hl ⊢; omega)
    simpa [Array.toList_setIfInBounds, Nat.add_assoc] using e

/-- One block of an abstract heap turned, in place. -/
theorem turn_ev (hR : HR ρ hp w base) (hF : Fresh ρ nx) {b : Nat} {k k' : ABlk} {c : CB} (hk : hp.get b = some k) (hc : ρ b = some c) {w' : World} {ob : Obj} {hp' : Heap}
    (hat : w'.heap[c.blk]? = some ob) (hbr : BR ρ c k' ob) (hoth : ∀ i, i ≠ c.blk → w'.heap[i]? = w.heap[i]?) (hsz : w'.heap.size = w.heap.size) (hos : w'.os = w.os) (htape : w'.tape = w.tape) (hout : w'.output = w.output)
    (hp1 : hp'.get b = some k') (hp2 : ∀ b', b' ≠ b → ∀ q, hp'.get b' = some q → hp.get b' = some q ∧ ¬ sibs k b') :
    HR ρ hp' w' base ∧ Fresh ρ nx ∧ Ev ρ hp nx w ρ hp' nx w' := by
  have nosib : ∀ b' q c', hp'.get b' = some q → ρ b' = some c' → b' ≠ b → c'.blk ≠ c.blk := by
    intro b' q c' hq hc' hne e
    obtain ⟨h1, h2⟩ := hp2 b' hne q hq
    exact h2 (hR.inj b b' k q c c' hk h1 hc hc' e.symm (Ne.symm hne))
  refine ⟨⟨fun b' q hq => ?_, fun b1 b2 k1 k2 c1 c2 hk1 hk2 hc1 hc2 he hne => ?_⟩, hF, ⟨.refl ρ, Nat.le_refl _, fun b' q hq _ => ?_, hos, htape, hout, by omega, fun i hi hno => ?_, fun b' c' h1 h2 => by rw [h1] at h2; cases h2⟩⟩
  · by_cases hbb : b' = b
    · subst hbb
      rw [hp1] at hq; cases hq
      obtain ⟨c0, ob0, h1, h2, _⟩ := hR.blk b' k hk
      rw [hc] at h1; cases h1
      exact ⟨c, ob, hc, h2, hat, hbr⟩
    · obtain ⟨h1, _⟩ := hp2 b' hbb q hq
      obtain ⟨c0, ob0, h3, h4, h5, h6⟩ := hR.blk b' q h1
      exact ⟨c0, ob0, h3, h4, by rw [hoth _ (nosib b' q c0 hq h3 hbb)]; exact h5, h6⟩
  · by_cases e1 : b1 = b
    · subst e1
      rw [hc] at hc1; cases hc1
      exact absurd he.symm (nosib b2 k2 c2 hk2 hc2 (Ne.symm hne))
    · by_cases e2 : b2 = b
      · subst e2
        rw [hc] at hc2; cases hc2
        exact absurd he (nosib b1 k1 c1 hk1 hc1 e1)
      · exact hR.inj b1 b2 k1 k2 c1 c2 (hp2 b1 e1 k1 hk1).1 (hp2 b2 e2 k2 hk2).1 hc1 hc2 he hne
  · by_cases hbb : b' = b
    · subst hbb; exact ⟨k, hk⟩
    · exact ⟨q, (hp2 b' hbb q hq).1⟩
  · exact hoth i (fun e => hno b k c hk hc e.symm)

theorem get_kill (hp : Heap) (s : Option Nat) (b : Nat) : (kill hp s).get b = if s = some b then none else hp.get b := by
  cases s with
  | none => simp [kill]
  | some i =>
    simp only [kill, T.get_del]
    by_cases e : b = i
    · subst e; simp
    · have : ¬ some i = some b := fun h => e (Option.some.inj h).symm
      simp [e, this]

theorem writeCells_sound (hR : HR ρ hp w base) (hF : Fresh ρ nx) {b o : Nat} {vs : List AVal} {cvs : List Value} {hp' : Heap} (hv : VRs ρ vs cvs) (h : writeCells hp b o vs = some hp') :
    ∃ c w', ρ b = some c ∧ (∀ P : Program, (storeCells ⟨c.blk, o + c.sh, none⟩ cvs).run P w = .ok () w') ∧ HR ρ hp' w' base ∧ Fresh ρ nx ∧ Ev ρ hp nx w ρ hp' nx w' := by
  unfold writeCells at h
  split at h
  · cases h
  rename_i hone
  have h1 := allOne_sound hv hone
  have hlen := hv.length
  split at h
  · rename_i l e hg
    simp only [Option.bind_eq_some_iff, T.fz_eq] at h
    obtain ⟨l1, hl1, h⟩ := h
    cases h
    obtain ⟨hle, hl1e⟩ := splice_some _ _ _ _ (writeC_list hl1)
    obtain ⟨c, ob, hc, _, hob, hbr⟩ := hR.blk b _ hg
    obtain ⟨l', fr, rfl, h2, h3, h4⟩ := hbr
    have hl' : l'.size = l.list.length := by have := h2.length; simpa using this
    refine ⟨c, w.setRow c.blk (l'.toList.take (o + c.sh + 0) ++ cvs ++ l'.toList.drop (o + c.sh + 0 + cvs.length)).toArray, hc, fun P => ?_, ?_⟩
    · have := run_storeCells_un (P := P) c.blk (o + c.sh) e fr cvs 0 l' w hob h4 (by rw [h3]; omega) h1
      exact this
    · refine turn_ev (k' := .cells l1 e) hR hF hg hc (setRow_heap w c.blk l' _ e fr hob) ⟨_, fr, rfl, ?_, h3, ?_⟩ (fun i hi => setRow_other w c.blk i _ hi) (size_setRow _ _ _) rfl rfl rfl (by rw [T.get_set]; simp) (fun b' hne q hq => ?_)
      · rw [h3, hl1e]
        simp only [Nat.add_zero, hlen]
        exact ((h2.take o).append hv).append (h2.drop _)
      · have : (l'.toList.take (o + c.sh + 0) ++ cvs ++ l'.toList.drop (o + c.sh + 0 + cvs.length)).toArray.size = l'.size := by
          simp only [List.size_toArray, List.length_append, List.length_take, List.length_drop, Array.length_toList]; rw [h3]; omega
        rw [this]; exact h4
      · rw [T.get_set] at hq
        rw [if_neg hne] at hq
        exact ⟨hq, fun h => h⟩
  · rename_i l e sz sib hg
    simp only [Option.bind_eq_some_iff, T.fz_eq] at h
    obtain ⟨l1, hl1, h⟩ := h
    cases h
    obtain ⟨hle, rfl⟩ := splice_some _ _ _ _ hl1
    obtain ⟨c, ob, hc, _, hob, hbr⟩ := hR.blk b _ hg
    obtain ⟨l', fr, rfl, h2, h3, h4, h5, h6⟩ := hbr
    have hl' : (l'.toList.drop c.sh).length = l'.size - c.sh := by simp
    refine ⟨c, w.setRow c.blk (l'.toList.take (o + c.sh + 0) ++ cvs ++ l'.toList.drop (o + c.sh + 0 + cvs.length)).toArray, hc, fun P => ?_, ?_⟩
    · have := run_storeCells_un (P := P) c.blk (o + c.sh) e fr cvs 0 l' w hob h6 (by omega) h1
      exact this
    · refine turn_ev (k' := .grown (l.take o ++ vs ++ l.drop (o + vs.length)) e sz none) hR hF hg hc (setRow_heap w c.blk l' _ e fr hob) ⟨_, fr, rfl, h2, ?_, ?_, ?_, ?_⟩ (fun i hi => setRow_other w c.blk i _ hi) (size_setRow _ _ _) rfl rfl rfl (by rw [T.get_set]; simp) (fun b' hne q hq => ?_)
      · simp only [List.size_toArray, List.length_append, List.length_take, List.length_drop, Array.length_toList]; omega
      · simp only [List.length_append, List.length_take, List.length_drop]; omega
      · have e1 : (l.take o ++ vs ++ l.drop (o + vs.length)).length = l.length := by simp only [List.length_append, List.length_take, List.length_drop]; omega
        rw [e1]
        have e2 : ((l'.toList.take (o + c.sh + 0) ++ cvs ++ l'.toList.drop (o + c.sh + 0 + cvs.length)).drop c.sh).take l.length =
            ((l'.toList.drop c.sh).take l.length).take o ++ cvs ++ ((l'.toList.drop c.sh).take l.length).drop (o + cvs.length) := by
          apply List.ext_getElem?
          intro j
          simp only [List.getElem?_take, List.getElem?_drop, List.getElem?_append, List.length_append, List.length_take, List.length_drop, Array.length_toList, Nat.add_zero]
          have hm1 : min (o + c.sh) l'.size = o + c.sh := by omega
          have hm2 : min l.length (l'.size - c.sh) = l.length := by omega
          have hm3 : min o l.length = o := by omega
          simp only [hm1, hm2, hm3]
          by_cases hj : j < l.length
          · simp only [hj, if_true]
            by_cases hjo : j < o
            · have c1 : c.sh + j < o + c.sh + cvs.length := by omega
              have c2 : c.sh + j < o + c.sh := by omega
              have c3 : j < o + cvs.length := by omega
              simp [c1, c2, c3, hjo, hj]
            · by_cases hjv : j < o + cvs.length
              · have c1 : c.sh + j < o + c.sh + cvs.length := by omega
                have c2 : ¬ c.sh + j < o + c.sh := by omega
                have c3 : c.sh + j - (o + c.sh) = j - o := by omega
                simp [c1, c2, hjo, hjv, c3]
              · have c1 : ¬ c.sh + j < o + c.sh + cvs.length := by omega
                have c2 : o + cvs.length + (j - (o + cvs.length)) = j := by omega
                have c3 : o + c.sh + cvs.length + (c.sh + j - (o + c.sh + cvs.length)) = c.sh + j := by omega
                simp [c1, hjv, c2, c3, hj]
          · simp only [hj, if_false]
            have c1 : ¬ j < o + cvs.length := by omega
            have c2 : ¬ (o + cvs.length + (j - (o + cvs.length)) < l.length) := by omega
            simp [c1, c2]
        rw [e2, ← hlen]
        exact ((h5.take o).append hv).append (h5.drop _)
      · have : (l'.toList.take (o + c.sh + 0) ++ cvs ++ l'.toList.drop (o + c.sh + 0 + cvs.length)).toArray.size = l'.size := by
          simp only [List.size_toArray, List.length_append, List.length_take, List.length_drop, Array.length_toList]; omega
        rw [this]; exact h6
      · rw [T.get_set, if_neg hne, get_kill] at hq
        split at hq
        · cases hq
        · rename_i hs
          exact ⟨hq, fun h => hs h⟩
  · cases h
end Go.Mu

namespace Go.Mu
variable {P : Program} {w : World}

/-! append. -/
/-- The second argument's kind: whole zero elements, or elements. -/
def isZeros (P : Program) (argTypes : Array TypeId) : Option Bool :=
  match argTypes[1]? with
  | some t => match P.underlying t with
    | some (.int _) => some true
    | some _ => some false
    | none => none
  | none => some false

def roomRun (P : Program) (ad : Option Addr) (sLen sCap sz n : Nat) (cnew : List Value) (w : World) : Result Value :=
  match ad with
  | some a => ((storeCells (a.add (sLen * sz)) cnew).run P w).andThen fun _ w' => .ok (.slice (some a) (sLen + n) sCap) w'
  | none => .ok (.slice none (sLen + n) sCap) w

section
variable {argTypes : Array TypeId} {ty st e : TypeId} {sz n : Nat} {cx : Value} {ad : Option Addr} {sLen sCap : Nat} {i1 : TypeInfo} {cnew old : List Value} {cz : Value}

set_option maxHeartbeats 4000000 in
theorem append_room (h0 : argTypes[0]? = some st) (hu : P.underlying st = some (.slice e)) (hi1 : P.info? e = some i1) (hs1 : i1.size = sz) (hz : isZeros P argTypes = some false)
    (hln : (Builtin.lenOf cx).run P w = .ok n w) (hfc : (Builtin.firstCells sz n cx).run P w = .ok cnew.toArray w) (hroom : sLen + n ≤ sCap) :
    (Builtin.append_ argTypes ty #[.slice ad sLen sCap, cx]).run P w = roomRun P ad sLen sCap sz n cnew w := by
  subst hs1
  unfold isZeros at hz
  cases ht1 : argTypes[1]? with
  | none =>
    cases ad <;> simp [Builtin.append_, h0, ht1, run_underlying hu, sizeOf, typeInfo, hi1, hln, hroom, hfc, roomRun]
  | some t =>
    rw [ht1] at hz
    simp only at hz
    cases hd : P.underlying t with
    | none => rw [hd] at hz; cases hz
    | some d =>
      rw [hd] at hz
      cases d <;> first
        | (cases hz; done)
        | (cases ad <;> simp [Builtin.append_, h0, ht1, run_underlying hu, run_underlying hd, sizeOf, typeInfo, hi1, hln, hroom, hfc, roomRun])

set_option maxHeartbeats 4000000 in
theorem append_grow (h0 : argTypes[0]? = some st) (hu : P.underlying st = some (.slice e)) (hi1 : P.info? e = some i1) (hs1 : i1.size = sz) (hz : isZeros P argTypes = some false)
    (hln : (Builtin.lenOf cx).run P w = .ok n w) (hfc : (Builtin.firstCells sz n cx).run P w.drew = .ok cnew.toArray w.drew) (hroom : ¬ sLen + n ≤ sCap)
    (hbig : Builtin.nextslicecap (sLen + n) sCap * i1.bytes ≤ 2 ^ 48) (hmax : (((sLen + n : Nat)) : Int) ≤ IntKind.i64.max) (hold : (Builtin.firstCells sz sLen (.slice ad sLen sCap)).run P w.drew = .ok old.toArray w.drew)
    (hcz : ∀ w, (zeroValue e).run P w = .ok cz w) :
    (Builtin.append_ argTypes ty #[.slice ad sLen sCap, cx]).run P w = .ok (.slice (some ⟨w.heap.size, 0, none⟩) (sLen + n) (grownCap w (sLen + n) sCap e))
      (w.drew.alloc (.cells (old.toArray ++ (cnew.toArray ++ Builtin.zeroCells cz.cells (grownCap w (sLen + n) sCap e - (sLen + n)))) e)) := by
  subst hs1
  unfold isZeros at hz
  have hb' : ¬ Builtin.nextslicecap (sLen + n) sCap * i1.bytes > 2 ^ 48 := by omega
  have hm' : ¬ (((sLen + n : Nat)) : Int) > IntKind.i64.max := by omega
  have hb2 : ¬ 281474976710656 < Builtin.nextslicecap (sLen + n) sCap * i1.bytes := by have : (2 : Nat) ^ 48 = 281474976710656 := rfl; omega
  have hm2 : ¬ (9223372036854775807 : Int) < (sLen : Int) + (n : Int) := by have : IntKind.i64.max = 9223372036854775807 := rfl; rw [this] at hm'; push_cast at hm'; omega
  cases ht1 : argTypes[1]? with
  | none =>
    simp [Builtin.append_, h0, ht1, run_underlying hu, sizeOf, typeInfo, hi1, hln, hroom, hfc, hold, hcz, hb2, hm2, Question.forced, newRow, grownCap]
  | some t =>
    rw [ht1] at hz
    simp only at hz
    cases hd : P.underlying t with
    | none => rw [hd] at hz; cases hz
    | some d =>
      rw [hd] at hz
      cases d <;> first
        | (cases hz; done)
        | simp [Builtin.append_, h0, ht1, run_underlying hu, run_underlying hd, sizeOf, typeInfo, hi1, hln, hroom, hfc, hold, hcz, hb2, hm2, Question.forced, newRow, grownCap]
end
end Go.Mu

namespace Go.Mu
variable {P : Program} {ρ : Rho} {hp : Heap} {nx base : Nat} {w : World} {tm : Tm} {a : Act}

def nextVal : Next → Option Value
  | .value v => some v
  | .skip => some undef
  | _ => none

/-- What an operation comes to that may turn memory. -/
def HevOK (P : Program) (ρ : Rho) (hp : Heap) (nx base : Nat) (w : World) (s : Sem Next) (v : AVal) (hp' : Heap) (nx' : Nat) : Prop :=
  ∃ n c w' ρ', s.run P w = .ok n w' ∧ nextVal n = some c ∧ VR ρ' v c ∧ HR ρ' hp' w' base ∧ Fresh ρ' nx' ∧ Ev ρ hp nx w ρ' hp' nx' w'

/-- The same of an operation that yields a value. -/
def ValOK (P : Program) (ρ : Rho) (hp : Heap) (nx base : Nat) (w : World) (s : Sem Value) (v : AVal) (hp' : Heap) (nx' : Nat) : Prop :=
  ∃ c w' ρ', s.run P w = .ok c w' ∧ VR ρ' v c ∧ HR ρ' hp' w' base ∧ Fresh ρ' nx' ∧ Ev ρ hp nx w ρ' hp' nx' w'

theorem ValOK.hev {s : Sem Value} {v : AVal} {hp' : Heap} {nx' : Nat} (h : ValOK P ρ hp nx base w s v hp' nx') : HevOK P ρ hp nx base w (do pure (.value (← s))) v hp' nx' := by
  obtain ⟨c, w', ρ', h1, h2⟩ := h
  exact ⟨.value c, c, w', ρ', by simp [h1], rfl, h2⟩

theorem undef_VR : VR ρ undefA undef := by simp only [undefA, undef, VR]; exact ⟨#[], rfl, VRs.nil⟩

end Go.Mu

namespace Go.Mu
variable {P : Program} {ρ : Rho} {hp : Heap} {nx base : Nat} {w : World} {tm : Tm} {a : Act}

theorem appSrc_sound (hR : HR ρ hp w base) {argTypes : Array TypeId} {sz n : Nat} {new : List AVal} {x : AVal} {cx : Value} (hx : VR ρ x cx) (h : appSrc P hp argTypes sz x = some (n, new)) :
    isZeros P argTypes = some false ∧ (∀ w', (Builtin.lenOf cx).run P w' = .ok n w') ∧ ∃ cnew, VRs ρ new cnew ∧ cnew.length = n * sz ∧ ∀ w', w'.heap = w.heap → (Builtin.firstCells sz n cx).run P w' = .ok cnew.toArray w' := by
  have main : ((lenA x).bind fun n => (firstA hp sz n x).bind fun c => some (n, c)) = some (n, new) → (∀ w', (Builtin.lenOf cx).run P w' = .ok n w') ∧ ∃ cnew, VRs ρ new cnew ∧ cnew.length = n * sz ∧ ∀ w', w'.heap = w.heap → (Builtin.firstCells sz n cx).run P w' = .ok cnew.toArray w' := by
    intro hh
    simp only [Option.bind_eq_some_iff] at hh
    obtain ⟨m, hm, c, hc, hh⟩ := hh
    cases hh
    obtain ⟨cs', hv, hl, hcase⟩ := firstA_sound hR hx hc
    refine ⟨fun w' => ?_, cs', hv, hl, fun w' hw => ?_⟩
    · rcases lenA_sound hx hm with ⟨ad', cap', e1⟩ | ⟨s0, e1, e2⟩
      · rw [e1]; simp [Builtin.lenOf]
      · rw [e1, ← e2]; simp [Builtin.lenOf]
    · rcases hcase with ⟨e1, e2⟩ | ⟨ad', l, k, e1, hcell⟩ | ⟨s0, e1, e2⟩
      · subst e2
        have : cs' = [] := List.eq_nil_of_length_eq_zero (by omega)
        subst this
        rw [e1]; simp [Builtin.firstCells]
      · rw [e1]
        have := run_loadCells_list (P := P) w' ad' cs' (fun j v hj => by have := hcell j v hj; simpa only [World.cell?, hw] using this)
        rw [hl] at this
        simp [Builtin.firstCells, this]
      · rw [e1, e2]
        simp only [Builtin.firstCells, Sem.run_pure]
        congr 1
        apply Array.ext'; simp
  unfold appSrc at h
  unfold isZeros
  split at h
  · rename_i t ht
    split at h
    · cases h
    · rename_i d hno hd
      refine ⟨?_, main h⟩
      simp only [ht, hd]
    · cases h
  · rename_i ht
    exact ⟨by simp only [ht], main h⟩

/-- A grown row: its cells lie at the head of a block whose capacity nobody knows. -/
theorem newRowA_sound (hR : HR ρ hp w base) (hF : Fresh ρ nx) (hb : base ≤ w.heap.size) {e : TypeId} {sz m cap : Nat} {cs : List AVal} {ccs rest : List Value} {v : AVal} {hp' : Heap} {nx' : Nat} (hv : VRs ρ cs ccs) (hl : ccs.length = m * sz)
    (hm : m ≤ cap) (hsz : ccs.length + rest.length = cap * sz) (h : newRowA hp nx e sz m cs = some (v, hp', nx')) :
    ∃ ρ', VR ρ' v (.slice (some ⟨w.heap.size, 0, none⟩) m cap) ∧ HR ρ' hp' (w.alloc (.cells (ccs ++ rest).toArray e)) base ∧ Fresh ρ' nx' ∧ Ev ρ hp nx w ρ' hp' nx' (w.alloc (.cells (ccs ++ rest).toArray e)) := by
  unfold newRowA at h
  split at h
  · simp only [T.fz_eq, fn_eq] at h
    cases h
    have hlen := hv.length
    obtain ⟨ρ', h1, h2, h3, h4, h5⟩ := alloc_ev (k := .grown cs e sz none) (ob := .cells (ccs ++ rest).toArray e) (c := ⟨w.heap.size, 0, cap, sz⟩) hR hF hb rfl
      (fun ρ' hx hn => ⟨_, (0, 0), rfl, rfl, by simp; omega, by show cs.length ≤ cap * sz; omega, by
        have := VRs.mono hx _ _ hv
        simp only [List.drop_zero, ← hlen, List.take_left]
        exact this, .inl rfl⟩) (fun _ => .inr trivial)
    refine ⟨ρ', ?_, h3, h4, h5⟩
    simp only [VR]
    exact ⟨_, h1, by simpa using hm, by simp⟩
  · cases h

theorem zeroCells_len (z : Array Value) (n : Nat) : (Builtin.zeroCells z n).toList.length = n * z.size := by simp [Builtin.zeroCells]

theorem grow_fits {need old by_ : Nat} (h : old < need) (hn : need ≤ 2 ^ 30) (hb : by_ ≤ 2 ^ 16) : Builtin.nextslicecap need old * by_ ≤ 2 ^ 48 := by
  have h1 := nextslicecap_le h
  have h2 : Builtin.nextslicecap need old * by_ ≤ (2 * need) * by_ := Nat.mul_le_mul_right _ h1
  have h3 : (2 * need) * by_ ≤ (2 * 2 ^ 30) * 2 ^ 16 := Nat.mul_le_mul (by omega) hb
  have h4 : (2 * 2 ^ 30) * 2 ^ 16 ≤ 2 ^ 48 := by decide
  omega

theorem Ev.weaken {ρ' : Rho} {hp0 hp' : Heap} {nx' : Nat} {w' : World} (h : Ev ρ hp0 nx w ρ' hp' nx' w') (hs : ∀ b k, hp0.get b = some k → ∃ k0, hp.get b = some k0) : Ev ρ hp nx w ρ' hp' nx' w' :=
  ⟨h.ext, h.nxle, fun b k hk hlt => by obtain ⟨k0, hk0⟩ := h.live b k hk hlt; exact hs b k0 hk0, h.os, h.tape, h.output, h.size, fun i hi hno => h.same i hi fun b k c hk hc => by obtain ⟨k0, hk0⟩ := hs b k hk; exact hno b k0 c hk0 hc,
    fun b c h1 h2 => (h.new b c h1 h2).elim .inl fun ⟨b0, k0, c0, h3, h4, h5⟩ => by obtain ⟨k1, hk1⟩ := hs b0 k0 h3; exact .inr ⟨b0, k1, c0, hk1, h4, h5⟩⟩

/-- A second name for a block of memory. -/
theorem alias_ev (hR : HR ρ hp w base) (hF : Fresh ρ nx) {b : Nat} {k k' : ABlk} {c c' : CB} {ob : Obj} (hk : hp.get b = some k) (hc : ρ b = some c) (hs : sibs k nx) (hs' : sibs k' b) (hcc : c'.blk = c.blk) (hob : w.heap[c.blk]? = some ob)
    (hbr : ∀ ρ', Ext ρ ρ' → BR ρ' c' k' ob) (hno : ∀ b' q c0, hp.get b' = some q → ρ b' = some c0 → b' ≠ b → c0.blk ≠ c.blk) :
    ∃ ρ', ρ' nx = some c' ∧ Ext ρ ρ' ∧ HR ρ' (hp.set nx k') w base ∧ Fresh ρ' (nx + 1) ∧ Ev ρ hp nx w ρ' (hp.set nx k') (nx + 1) w := by
  let ρ' : Rho := fun i => if i = nx then some c' else ρ i
  have hnx : ρ' nx = some c' := by simp [ρ']
  have hnone : ρ nx = none := hF nx (Nat.le_refl _)
  have hext : Ext ρ ρ' := by
    intro i x hx
    have : i ≠ nx := fun e => by rw [e, hnone] at hx; cases hx
    simp [ρ', this, hx]
  have hnb : nx ≠ b := fun e => by rw [← e, hnone] at hc; cases hc
  have old : ∀ (i : Nat) (_ : ABlk) c0, i ≠ nx → ρ' i = some c0 → ρ i = some c0 := fun i _ c0 hi h => by simpa [ρ', hi] using h
  obtain ⟨cb, _, hcb, hbase, _⟩ := hR.blk b k hk
  rw [hc] at hcb; cases hcb
  refine ⟨ρ', hnx, hext, ⟨fun i q hq => ?_, fun b1 b2 k1 k2 c1 c2 hk1 hk2 hc1 hc2 he hne => ?_⟩, fun i hi => ?_, ⟨hext, by omega, fun i q hq hlt => ?_, rfl, rfl, rfl, Nat.le_refl _, fun _ _ _ => rfl, fun i x h1 h2 => ?_⟩⟩
  · rw [T.get_set] at hq
    split at hq
    · cases hq; rename_i e; subst e
      exact ⟨c', ob, hnx, by rw [hcc]; exact hbase, by rw [hcc]; exact hob, hbr ρ' hext⟩
    · obtain ⟨c0, ob0, h1, h2, h3, h4⟩ := hR.blk i q hq
      exact ⟨c0, ob0, hext _ _ h1, h2, h3, h4.mono hext⟩
  · rw [T.get_set] at hk1 hk2
    by_cases e1 : b1 = nx
    · rw [if_pos e1] at hk1; cases hk1
      subst e1
      rw [hnx] at hc1; cases hc1
      rw [if_neg (Ne.symm hne)] at hk2
      have h2 := old b2 k2 c2 (Ne.symm hne) hc2
      by_cases e2 : b2 = b
      · subst e2; exact hs'
      · exact absurd (he.symm.trans hcc) (hno b2 k2 c2 hk2 h2 e2)
    · rw [if_neg e1] at hk1
      have h1 := old b1 k1 c1 e1 hc1
      by_cases e2 : b2 = nx
      · rw [if_pos e2] at hk2; cases hk2
        subst e2
        rw [hnx] at hc2; cases hc2
        by_cases e3 : b1 = b
        · subst e3; rw [hk] at hk1; cases hk1; exact hs
        · exact absurd (he.trans hcc) (hno b1 k1 c1 hk1 h1 e3)
      · rw [if_neg e2] at hk2
        exact hR.inj b1 b2 k1 k2 c1 c2 hk1 hk2 h1 (old b2 k2 c2 e2 hc2) he hne
  · have : i ≠ nx := by omega
    simp only [ρ', this, if_false]
    exact hF i (by omega)
  · rw [T.get_set] at hq
    split at hq
    · omega
    · exact ⟨q, hq⟩
  · simp only [ρ'] at h2
    split at h2
    · cases h2
      exact .inr ⟨b, k, c, hk, hc, hcc.symm⟩
    · rw [h1] at h2; cases h2

theorem appendA_sound (hR : HR ρ hp w base) (hF : Fresh ρ nx) (hb : base ≤ w.heap.size) {argTypes : Array TypeId} {ty : TypeId} {s x v : AVal} {cs cx : Value} {hp' : Heap} {nx' : Nat} (hs : VR ρ s cs) (hx : VR ρ x cx)
    (h : appendA P hp nx argTypes s x = some (v, hp', nx')) : ValOK P ρ hp nx base w (Builtin.append_ argTypes ty #[cs, cx]) v hp' nx' := by
  unfold appendA at h
  split at h
  · cases h
  rename_i st h0
  split at h
  case h_2 => cases h
  rename_i e hu
  simp only [Option.bind_eq_some_iff] at h
  obtain ⟨sz, hsz, by_, hby, z, hz, h⟩ := h
  split at h
  · cases h
  rename_i hcond
  have hzl : z.length = sz := Classical.not_not.1 fun e => hcond (.inl e)
  have hb16 : by_ ≤ 2 ^ 16 := Nat.le_of_not_lt fun e => hcond (.inr e)
  simp only [Option.bind_eq_some_iff] at h
  obtain ⟨⟨n, new⟩, hsrc, h⟩ := h
  simp only at h
  obtain ⟨hzf, hln, cnew, hvn, hnl, hfc⟩ := appSrc_sound hR hx hsrc
  obtain ⟨i1, hi1, hs1⟩ := sizeT_info hsz
  obtain ⟨i2, hi2, hb2⟩ := bytesT_info hby
  rw [hi1] at hi2; cases hi2
  obtain ⟨cz, hcz, hvz⟩ := zeroCells_sound (ρ := ρ) hz
  have hczl : cz.cells.size = sz := by have := hvz.length; simpa [hzl] using this
  -- a new row
  have grow : ∀ (ad : Option Addr) (sLen sCap : Nat) (oldA : List AVal) (oldC : List Value), cs = .slice ad sLen sCap → ¬ sLen + n ≤ sCap → sLen + n ≤ 2 ^ 30 → VRs ρ oldA oldC → oldC.length = sLen * sz →
      (Builtin.firstCells sz sLen (.slice ad sLen sCap)).run P w.drew = .ok oldC.toArray w.drew → ∀ v hp' nx', newRowA hp nx e sz (sLen + n) (oldA ++ new) = some (v, hp', nx') → ValOK P ρ hp nx base w (Builtin.append_ argTypes ty #[cs, cx]) v hp' nx' := by
    intro ad sLen sCap oldA oldC ecs hno h30 hvo hol hold v hp' nx' hrow
    subst ecs
    have hmax : (((sLen + n : Nat)) : Int) ≤ IntKind.i64.max := by
      have : IntKind.i64.max = 9223372036854775807 := rfl
      have h2 : (2 : Nat) ^ 30 = 1073741824 := rfl
      rw [this]; omega
    have hrun := append_grow (P := P) (ty := ty) (w := w) h0 hu hi1 hs1 hzf (hln w) (hfc w.drew rfl) hno (by rw [hb2]; exact grow_fits (by omega) h30 hb16) hmax hold hcz
    have hge := grownCap_ge w (sLen + n) sCap e
    have hR' : HR ρ hp w.drew base := hR.drew
    obtain ⟨ρ', h1, h2, h3, h4⟩ := newRowA_sound (w := w.drew) (ccs := oldC ++ cnew) (rest := (Builtin.zeroCells cz.cells (grownCap w (sLen + n) sCap e - (sLen + n))).toList) (cap := grownCap w (sLen + n) sCap e) hR' hF hb (hvo.append hvn) (by simp [hol, hnl, Nat.add_mul]) hge
      (by rw [zeroCells_len, hczl]; simp only [List.length_append, hol, hnl, ← Nat.add_mul]; congr 1; omega) hrow
    refine ⟨_, _, ρ', hrun, h1, ?_, h3, ?_⟩
    · have e1 : (oldC.toArray ++ (cnew.toArray ++ Builtin.zeroCells cz.cells (grownCap w (sLen + n) sCap e - (sLen + n)))) = (oldC ++ cnew ++ (Builtin.zeroCells cz.cells (grownCap w (sLen + n) sCap e - (sLen + n))).toList).toArray := by
        apply Array.ext'; simp
      rw [e1]; exact h2
    · have e1 : (oldC.toArray ++ (cnew.toArray ++ Builtin.zeroCells cz.cells (grownCap w (sLen + n) sCap e - (sLen + n)))) = (oldC ++ cnew ++ (Builtin.zeroCells cz.cells (grownCap w (sLen + n) sCap e - (sLen + n))).toList).toArray := by
        apply Array.ext'; simp
      rw [e1]
      exact ⟨h4.ext, h4.nxle, h4.live, h4.os, h4.tape, h4.output, h4.size, h4.same, h4.new⟩
  have inroom : ∀ (ad : Addr) (sLen sCap o : Nat) (b : Nat) (c : CB) (hp1 : Heap), cs = .slice (some ad) sLen sCap → sLen + n ≤ sCap → ρ b = some c → ad.add (sLen * sz) = ⟨c.blk, o + c.sh, none⟩ → writeCells hp b o new = some hp1 → ∀ v, VR ρ v (.slice (some ad) (sLen + n) sCap) →
      ValOK P ρ hp nx base w (Builtin.append_ argTypes ty #[cs, cx]) v hp1 nx := by
    intro ad sLen sCap o b c hp1 ecs hroom hc had hw v hv
    subst ecs
    obtain ⟨c', w', hc', hst, h1, h2, h3⟩ := writeCells_sound hR hF hvn hw
    rw [hc] at hc'; cases hc'
    have hrun := append_room (P := P) (ty := ty) (w := w) (ad := some ad) h0 hu hi1 hs1 hzf (hln w) (hfc w rfl) hroom
    refine ⟨_, w', ρ, hrun.trans ?_, hv, h1, h2, h3⟩
    simp only [roomRun, had, hst P, Result.andThen_ok]
  split at h
  · -- an exact slice
    rename_i b o len cap
    simp only [VR] at hs
    obtain ⟨c, hc, ecs⟩ := hs
    split at h
    · rename_i hroom
      simp only [Option.bind_eq_some_iff, fn_eq] at h
      obtain ⟨hp1, hw, h⟩ := h
      cases h
      refine inroom _ _ _ (o + len * sz) b c hp' ecs hroom hc (by rw [add_off]; congr 1; omega) hw _ ?_
      simp only [VR]
      exact ⟨c, hc, rfl⟩
    · rename_i hno
      simp only [Option.bind_eq_some_iff, fn_eq, appS_eq] at h
      obtain ⟨old, hold, h⟩ := h
      have h30 : len + n ≤ 2 ^ 30 := by
        unfold newRowA at h
        split at h
        · assumption
        · cases h
      obtain ⟨c', l', hc', hvo, hol, hcell⟩ := readCells_sound hR.drew hold
      rw [hc] at hc'; cases hc'
      have hl := run_loadCells_list (P := P) w.drew ⟨c.blk, o + c.sh, none⟩ l' hcell
      rw [hol] at hl
      exact grow _ _ _ old l' ecs hno h30 hvo hol (by simp only [Builtin.firstCells]; exact hl) v hp' nx' h
  · -- an open slice
    rename_i b k len
    have hs0 := hs
    simp only [VR] at hs
    obtain ⟨c, hc, hK, ecs⟩ := hs
    split at h
    case h_2 => cases h
    rename_i l e' sz' sib hg
    split at h
    · cases h
    rename_i hee
    have he1 : e' = e := Classical.not_not.1 fun x => hee (.inl x)
    have he2 : sz' = sz := Classical.not_not.1 fun x => hee (.inr x)
    subst he1 he2
    obtain ⟨hcs, hle⟩ := hR.grown hg hc
    split at h
    · rename_i hin
      simp only [Option.bind_eq_some_iff, fn_eq] at h
      obtain ⟨hp1, hw, h⟩ := h
      cases h
      obtain ⟨h0z, hin⟩ := hin
      have hkn : k + len + n ≤ c.K := by
        have h1 : (k + len + n) * sz' ≤ c.K * sz' := Nat.le_trans hin hle
        exact Nat.le_of_mul_le_mul_right h1 (by omega)
      refine inroom _ _ _ ((k + len) * sz') b c hp' ecs (by omega) hc (by rw [add_off, hcs, Nat.add_mul]; congr 1; omega) hw _ ?_
      simp only [VR]
      exact ⟨c, hc, by omega, rfl⟩
    · rename_i hout
      split at h
      · rename_i h30o
        obtain ⟨h30, hone, hend⟩ := h30o
        simp only [Option.bind_eq_some_iff, fn_eq, T.fz_eq, appS_eq] at h
        obtain ⟨r, hr, old, hold, h⟩ := h
        cases h
        obtain ⟨_, rfl⟩ := dropS_some _ _ _ hr
        obtain ⟨hol1, rfl⟩ := takeS_some _ _ _ hold
        obtain ⟨ob, hob, hbr⟩ := hR.at hg hc
        obtain ⟨C, fr, rfl, _, hCs, _, hvC, hun⟩ := hbr
        have hlen1 : ((C.toList.drop c.sh).take l.length).length = l.length := by simp; omega
        have hvo : VRs ρ ((l.drop (k * sz')).take (len * sz')) ((((C.toList.drop c.sh).take l.length).drop (k * sz')).take (len * sz')) := (hvC.drop _).take _
        have hole : ((((C.toList.drop c.sh).take l.length).drop (k * sz')).take (len * sz')).length = len * sz' := by
          simp only [List.length_take, List.length_drop] at hol1 ⊢; simp at hlen1 ⊢; omega
        have hsub : ∀ b' q, ((kill hp sib).set b (.grown l e' sz' (some nx))).get b' = some q → b' ≠ b → hp.get b' = some q ∧ ¬ sib = some b' := by
          intro b' q hq hne
          rw [T.get_set, if_neg hne, get_kill] at hq
          split at hq
          · cases hq
          · exact ⟨hq, by assumption⟩
        have hgb : ((kill hp sib).set b (.grown l e' sz' (some nx))).get b = some (.grown l e' sz' (some nx)) := by rw [T.get_set]; simp
        have hnoal : ∀ b' q c0, ((kill hp sib).set b (.grown l e' sz' (some nx))).get b' = some q → ρ b' = some c0 → b' ≠ b → c0.blk ≠ c.blk := by
          intro b' q c0 hq hc0 hne ee
          obtain ⟨h1, h2⟩ := hsub b' q hq hne
          exact h2 (hR.inj b b' _ q c c0 hg h1 hc hc0 ee.symm (Ne.symm hne))
        by_cases hroom : len + n ≤ c.K - k
        · -- in place
          have hend2 : (k + len) * sz' + cnew.length ≤ c.K * sz' := by
            rw [hnl, ← Nat.add_mul]; exact Nat.mul_le_mul_right _ (by omega)
          have h1one := allOne_sound hvn hone
          have hst := fun P => run_storeCells_un (P := P) c.blk (k * c.sz + c.sh + len * sz') e' fr cnew 0 C w hob hun (by rw [hcs]; rw [Nat.add_mul] at hend2; omega) h1one
          have hrun := append_room (P := P) (ty := ty) (w := w) (ad := some ⟨c.blk, k * c.sz + c.sh, none⟩) (sLen := len) (sCap := c.K - k) h0 hu hi1 hs1 hzf (hln w) (hfc w rfl) hroom
          generalize hC' : (C.toList.take (k * c.sz + c.sh + len * sz' + 0) ++ cnew ++ C.toList.drop (k * c.sz + c.sh + len * sz' + 0 + cnew.length)).toArray = C' at hst
          have hsz' : C'.size = C.size := by
            rw [← hC']; simp only [List.size_toArray, List.length_append, List.length_take, List.length_drop, Array.length_toList]; rw [hcs]; rw [Nat.add_mul] at hend2; omega
          have hsame : (C'.toList.drop c.sh).take l.length = (C.toList.drop c.sh).take l.length := by
            rw [← hC', ← hend]
            apply List.ext_getElem?
            intro j
            simp only [List.getElem?_take, List.getElem?_drop, List.getElem?_append, List.length_append, List.length_take, List.length_drop, Array.length_toList, Nat.add_zero]
            by_cases hj : j < (k + len) * sz'
            · have c1 : c.sh + j < min (k * c.sz + c.sh + len * sz') C.size := by rw [hcs]; rw [Nat.add_mul] at hend2 hj; omega
              have c2 : c.sh + j < k * c.sz + c.sh + len * sz' := by omega
              have c3 : c.sh + j < min (k * c.sz + c.sh + len * sz') C.size + cnew.length := by omega
              simp [hj, c1, c2, c3]
            · simp [hj]
          have hnewrow : (C'.toList.drop (k * sz' + c.sh)).take ((len + n) * sz') = ((((C.toList.drop c.sh).take l.length).drop (k * sz')).take (len * sz')) ++ cnew := by
            rw [← hC', ← hend]
            apply List.ext_getElem?
            intro j
            simp only [List.getElem?_take, List.getElem?_drop, List.getElem?_append, List.length_append, List.length_take, List.length_drop, Array.length_toList, Nat.add_zero]
            have e1 : min (k * c.sz + c.sh + len * sz') C.size = k * sz' + c.sh + len * sz' := by rw [hcs]; rw [Nat.add_mul] at hend2; omega
            have e2 : min (len * sz') (min ((k + len) * sz') (C.size - c.sh) - k * sz') = len * sz' := by rw [Nat.add_mul] at hend2 ⊢; omega
            rw [e1, e2]
            by_cases hj : j < len * sz'
            · have c1 : k * sz' + c.sh + j < k * sz' + c.sh + len * sz' := by omega
              have c2 : k * sz' + c.sh + j < k * sz' + c.sh + len * sz' + cnew.length := by omega
              have c3 : j < (len + n) * sz' := by rw [Nat.add_mul]; omega
              have c4 : k * sz' + j < (k + len) * sz' := by rw [Nat.add_mul]; omega
              have c5 : k * sz' + c.sh + j < k * c.sz + c.sh + len * sz' := by rw [hcs]; omega
              have c6 : c.sh + (k * sz' + j) = k * sz' + c.sh + j := by omega
              simp [hj, c1, c2, c3, c4, c5, c6]
            · by_cases hj2 : j < (len + n) * sz'
              · have c1 : ¬ k * sz' + c.sh + j < k * sz' + c.sh + len * sz' := by omega
                have c2 : k * sz' + c.sh + j < k * sz' + c.sh + len * sz' + cnew.length := by rw [hnl]; rw [Nat.add_mul] at hj2; omega
                have c3 : k * sz' + c.sh + j - (k * sz' + c.sh + len * sz') = j - len * sz' := by omega
                simp [hj, hj2, c1, c2, c3]
              · have c1 : cnew.length ≤ j - len * sz' := by rw [hnl]; rw [Nat.add_mul] at hj2; omega
                simp [hj, hj2, List.getElem?_eq_none c1]
          obtain ⟨t1, t2, t3⟩ := turn_ev (k' := .grown l e' sz' (some nx)) (hp' := (kill hp sib).set b (.grown l e' sz' (some nx))) hR hF hg hc (w' := w.setRow c.blk C') (setRow_heap w c.blk C C' e' fr hob)
            ⟨C', fr, rfl, hcs, by omega, hle, by rw [hsame]; exact hvC, by rw [hsz']; exact hun⟩ (fun i hi => setRow_other w c.blk i _ hi) (size_setRow _ _ _) rfl rfl rfl hgb
            (fun b' hne q hq => ⟨(hsub b' q hq hne).1, fun h => (hsub b' q hq hne).2 h⟩)
          have hKk : k ≤ c.K := by omega
          obtain ⟨ρ', a1, a2, a3, a4, a5⟩ := alias_ev (k' := .grown ((l.drop (k * sz')).take (len * sz') ++ new) e' sz' (some b)) (c' := ⟨c.blk, k * sz' + c.sh, c.K - k, sz'⟩) t1 t2 hgb hc rfl rfl rfl (setRow_heap w c.blk C C' e' fr hob)
            (fun ρ' hx => ⟨C', fr, rfl, rfl, by
              show k * sz' + c.sh + (c.K - k) * sz' ≤ C'.size
              rw [Nat.sub_mul, hsz']
              have : k * sz' ≤ c.K * sz' := Nat.mul_le_mul_right _ hKk
              omega, by
              have := hvo.length; have h2 := hvn.length
              rw [List.length_append, ← this, ← h2, hole, hnl, ← Nat.add_mul]
              exact Nat.mul_le_mul_right _ hroom, by
              have : ((l.drop (k * sz')).take (len * sz') ++ new).length = (len + n) * sz' := by
                have := hvo.length; have h2 := hvn.length
                rw [List.length_append, ← this, ← h2, hole, hnl, ← Nat.add_mul]
              rw [this, hnewrow]
              exact VRs.mono hx _ _ (hvo.append hvn), by rw [hsz']; exact hun⟩) hnoal
          refine ⟨.slice (some ⟨c.blk, k * c.sz + c.sh, none⟩) (len + n) (c.K - k), w.setRow c.blk C', ρ', ?_, ?_, a3, a4, t3.trans hR hF a5⟩
          · rw [ecs]
            refine hrun.trans ?_
            simp only [roomRun, add_off, hst P, Result.andThen_ok]
          · simp only [VR]
            exact ⟨_, a1, by simpa using hroom, by simp [hcs]⟩
        · -- a new block
          have hR0 : HR ρ ((kill hp sib).set b (.grown l e' sz' (some nx))) w base := by
            refine ⟨fun b' q hq => ?_, fun b1 b2 k1 k2 c1 c2 hk1 hk2 hc1 hc2 he hne => ?_⟩
            · by_cases hbb : b' = b
              · subst hbb
                rw [hgb] at hq; cases hq
                obtain ⟨c0, ob0, h1, h2, h3, h4⟩ := hR.blk b' _ hg
                exact ⟨c0, ob0, h1, h2, h3, h4⟩
              · exact hR.blk b' q (hsub b' q hq hbb).1
            · by_cases e1 : b1 = b
              · subst e1
                rw [hc] at hc1; cases hc1
                exact absurd he.symm (hnoal b2 k2 c2 hk2 hc2 (Ne.symm hne))
              · by_cases e2 : b2 = b
                · subst e2
                  rw [hc] at hc2; cases hc2
                  exact absurd he (hnoal b1 k1 c1 hk1 hc1 e1)
                · exact hR.inj b1 b2 k1 k2 c1 c2 (hsub b1 k1 hk1 e1).1 (hsub b2 k2 hk2 e2).1 hc1 hc2 he hne
          have hlive : ∀ b' q, ((kill hp sib).set b (.grown l e' sz' (some nx))).get b' = some q → ∃ k0, hp.get b' = some k0 := by
            intro b' q hq
            by_cases hbb : b' = b
            · subst hbb; exact ⟨_, hg⟩
            · exact ⟨q, (hsub b' q hq hbb).1⟩
          have hmax : (((len + n : Nat)) : Int) ≤ IntKind.i64.max := by
            have : IntKind.i64.max = 9223372036854775807 := rfl
            have h2 : (2 : Nat) ^ 30 = 1073741824 := rfl
            rw [this]; omega
          have hcellO : ∀ j v, ((((C.toList.drop c.sh).take l.length).drop (k * sz')).take (len * sz'))[j]? = some v → w.drew.cell? ((⟨c.blk, k * c.sz + c.sh, none⟩ : Addr).add j) = some v := by
            intro j v hj
            rw [add_off, List.getElem?_take] at *
            split at hj
            · rw [List.getElem?_drop, List.getElem?_take] at hj
              split at hj
              · rw [List.getElem?_drop] at hj
                have e1 : c.sh + (k * sz' + j) = k * c.sz + c.sh + j := by rw [hcs]; omega
                rw [e1] at hj
                simp only [World.cell?, World.drew, hob]
                simpa using hj
              · cases hj
            · cases hj
          have hlo := run_loadCells_list (P := P) w.drew ⟨c.blk, k * c.sz + c.sh, none⟩ _ hcellO
          rw [hole] at hlo
          have hrun := append_grow (P := P) (ty := ty) (w := w) (ad := some ⟨c.blk, k * c.sz + c.sh, none⟩) (sLen := len) (sCap := c.K - k) h0 hu hi1 hs1 hzf (hln w) (hfc w.drew rfl) hroom (by rw [hb2]; exact grow_fits (by omega) h30 hb16) hmax (by simp only [Builtin.firstCells]; exact hlo) hcz
          have hge := grownCap_ge w (len + n) (c.K - k) e'
          generalize hcap : grownCap w (len + n) (c.K - k) e' = cap at hrun hge
          have hcsl : ((((C.toList.drop c.sh).take l.length).drop (k * sz')).take (len * sz') ++ cnew).length = (len + n) * sz' := by rw [List.length_append, hole, hnl, Nat.add_mul]
          have hvl := (hvo.append hvn).length
          obtain ⟨ρ', a1, a2, a3, a4, a5⟩ := alloc_ev (w := w.drew) (k := .grown ((l.drop (k * sz')).take (len * sz') ++ new) e' sz' (some b)) (c := ⟨w.heap.size, 0, cap, sz'⟩)
            (ob := .cells (((((C.toList.drop c.sh).take l.length).drop (k * sz')).take (len * sz')).toArray ++ (cnew.toArray ++ Builtin.zeroCells cz.cells (cap - (len + n)))) e') hR0.drew hF hb rfl
            (fun ρ' hx hn => ⟨_, (0, 0), rfl, rfl, by
              have hzz := zeroCells_len cz.cells (cap - (len + n))
              simp only [Array.length_toList] at hzz
              show 0 + cap * sz' ≤ _
              simp only [Array.size_append, List.size_toArray, hzz, hczl]
              rw [List.length_append] at hcsl
              have : (len + n) * sz' + (cap - (len + n)) * sz' = cap * sz' := by rw [← Nat.add_mul]; congr 1; omega
              omega, by
              rw [← hvl, hcsl]
              exact Nat.mul_le_mul_right _ hge, by
              rw [← hvl]
              have e1 : ((((((C.toList.drop c.sh).take l.length).drop (k * sz')).take (len * sz')).toArray ++ (cnew.toArray ++ Builtin.zeroCells cz.cells (cap - (len + n)))).toList.drop 0).take ((((C.toList.drop c.sh).take l.length).drop (k * sz')).take (len * sz') ++ cnew).length = (((C.toList.drop c.sh).take l.length).drop (k * sz')).take (len * sz') ++ cnew := by
                rw [List.drop_zero]
                simp only [Array.toList_append, ← List.append_assoc]
                exact List.take_left
              rw [e1]
              exact VRs.mono hx _ _ (hvo.append hvn), .inl rfl⟩) (fun _ => .inr trivial)
          refine ⟨.slice (some ⟨w.heap.size, 0, none⟩) (len + n) cap, _, ρ', by rw [ecs]; exact hrun, ?_, a3, a4, ?_⟩
          · simp only [VR]
            exact ⟨_, a1, by simpa using hge, by simp⟩
          · exact Ev.weaken ⟨a5.ext, a5.nxle, a5.live, a5.os, a5.tape, a5.output, a5.size, a5.same, a5.new⟩ hlive
      · cases h
  · -- nil
    simp only [VR] at hs
    split at h
    · rename_i hn0
      cases h
      subst hn0
      have hrun := append_room (P := P) (ty := ty) (w := w) (ad := none) (sLen := 0) (sCap := 0) h0 hu hi1 hs1 hzf (hln w) (hfc w rfl) (by omega)
      exact ⟨_, w, ρ, by rw [hs]; exact hrun, by simp only [VR], hR, hF, .refl _ _ _ _⟩
    · rename_i hn0
      have h30 : n ≤ 2 ^ 30 := by
        unfold newRowA at h
        split at h
        · assumption
        · cases h
      exact grow none 0 0 [] [] hs (by omega) (by omega) VRs.nil (by simp) (by simp [Builtin.firstCells]) v hp' nx' (by simpa using h)
  · -- an empty one
    simp only [VR] at hs
    obtain ⟨ad, ecs⟩ := hs
    split at h
    · rename_i hn0
      cases h
      subst hn0
      have hrun := append_room (P := P) (ty := ty) (w := w) (ad := some ad) (sLen := 0) (sCap := 0) h0 hu hi1 hs1 hzf (hln w) (hfc w rfl) (by omega)
      have hnil : cnew = [] := List.eq_nil_of_length_eq_zero (by omega)
      refine ⟨.slice (some ad) 0 0, w, ρ, by rw [ecs]; exact hrun.trans (by subst hnil; simp [roomRun, storeCells]), by simp only [VR]; exact ⟨ad, rfl⟩, hR, hF, .refl _ _ _ _⟩
    · rename_i hn0
      have h30 : n ≤ 2 ^ 30 := by
        unfold newRowA at h
        split at h
        · assumption
        · cases h
      exact grow (some ad) 0 0 [] [] ecs (by omega) (by omega) VRs.nil (by simp) (by simp [Builtin.firstCells, loadCells, loadCellsFrom]) v hp' nx' (by simpa using h)
  · cases h
end Go.Mu

namespace Go.Mu
variable {P : Program} {ρ : Rho} {hp : Heap} {nx base : Nat} {w : World} {tm : Tm} {a : Act}

theorem Args2 {args : Array Operand} {s x : AVal} (hT : TR ρ tm a.tmps) (h : opnds (opnd tm) args.toList = some [s, x]) : ∃ y z, args.map a.eval = #[y, z] ∧ VR ρ s y ∧ VR ρ x z := by
  have hv := opnds_sound hT h
  obtain ⟨y0, ys0, e0, hx0, hv1⟩ := hv.cons_inv
  obtain ⟨y1, ys1, e1, hx1, hv2⟩ := hv1.cons_inv
  have := hv2.nil_inv
  subst this e1
  refine ⟨y0, y1, ?_, hx0, hx1⟩
  apply Array.ext'
  simpa using e0

theorem copyA_sound (hR : HR ρ hp w base) (hF : Fresh ρ nx) {argTypes : Array TypeId} {ty : TypeId} {d x v : AVal} {cd cx : Value} {hp' : Heap} (hd : VR ρ d cd) (hx : VR ρ x cx) (h : copyA P hp argTypes d x = some (v, hp')) :
    ValOK P ρ hp nx base w (Builtin.copy_ argTypes ty #[cd, cx]) v hp' nx := by
  unfold copyA at h
  split at h
  · cases h
  rename_i st h0
  split at h
  case h_2 => cases h
  rename_i e hu
  simp only [Option.bind_eq_some_iff] at h
  obtain ⟨sz, hsz, dl, hdl, sl, hsl, h⟩ := h
  split at h
  · cases h
  rename_i hnos
  simp only [fn_eq, Option.bind_eq_some_iff] at h
  obtain ⟨cs, hcs, hp1, hw, h⟩ := h
  cases h
  obtain ⟨cs', hvs, hl, hcase⟩ := firstA_sound hR hx hcs
  have hfc : (Builtin.firstCells sz (Nat.min sl dl) cx).run P w = .ok cs'.toArray w := by
    rcases hcase with ⟨e1, e2⟩ | ⟨ad', l, k, e1, hcell⟩ | ⟨s0, e1, e2⟩
    · have : cs' = [] := List.eq_nil_of_length_eq_zero (by rw [hl, e2]; simp)
      subst this
      rw [e1]; simp [Builtin.firstCells]
    · rw [e1]
      have := run_loadCells_list (P := P) w ad' cs' hcell
      rw [hl] at this
      simp [Builtin.firstCells, this]
    · rw [e1, e2]
      simp only [Builtin.firstCells, Sem.run_pure]
      congr 1
      apply Array.ext'; simp
  have hlx : (Builtin.lenOf cx).run P w = .ok sl w := by
    rcases lenA_sound hx hsl with ⟨ad', cap', e1⟩ | ⟨s0, e1, e2⟩
    · rw [e1]; simp [Builtin.lenOf]
    · rw [e1, ← e2]; simp [Builtin.lenOf]
  have hdd : ∃ ad cap, cd = .slice ad dl cap := by
    rcases lenA_sound hd hdl with ⟨ad', cap', e1⟩ | ⟨s0, e1, e2⟩
    · exact ⟨_, _, e1⟩
    · rw [e1] at hd; obtain ⟨l, hl⟩ := hd.string_inv; exact (hnos l hl).elim
  obtain ⟨ad, cap, ecd⟩ := hdd
  have hrun : (Builtin.copy_ argTypes ty #[cd, cx]).run P w = (match ad with
      | some a => ((storeCells a cs').run P w).andThen fun _ w' => .ok (goInt (Nat.min sl dl)) w'
      | none => .ok (goInt (Nat.min sl dl)) w) := by
    subst ecd
    cases ad <;> simp [Builtin.copy_, h0, run_underlying' hu, hlx, run_sizeOf' hsz, hfc]
  split at hw
  · rename_i hn0
    cases hw
    have hnil : cs' = [] := List.eq_nil_of_length_eq_zero (by rw [hl, hn0]; simp)
    subst hnil
    refine ⟨goInt (Nat.min sl dl), w, ρ, ?_, by simp only [VR, goInt]; rfl, hR, hF, .refl _ _ _ _⟩
    rw [hrun]
    cases ad <;> simp [storeCells]
  · have fin : ∀ (b o : Nat) (c : CB), ρ b = some c → ad = some ⟨c.blk, o + c.sh, none⟩ → writeCells hp b o cs = some hp' → ValOK P ρ hp nx base w (Builtin.copy_ argTypes ty #[cd, cx]) (.int .i64 (.ofNat (Nat.min sl dl))) hp' nx := by
      intro b o c hc had hw
      obtain ⟨c', w', hc', hst, h1, h2, h3⟩ := writeCells_sound hR hF hvs hw
      rw [hc] at hc'; cases hc'
      refine ⟨goInt (Nat.min sl dl), w', ρ, ?_, by simp only [VR, goInt]; rfl, h1, h2, h3⟩
      subst had
      rw [hrun]
      simp only [hst P, Result.andThen_ok]
    split at hw
    · rename_i b o len cap'
      simp only [VR] at hd
      obtain ⟨c, hc, e1⟩ := hd
      rw [ecd] at e1; cases e1
      exact fin b o c hc rfl hw
    · rename_i b k len
      simp only [Option.bind_eq_some_iff] at hw
      obtain ⟨m, hm, hw⟩ := hw
      obtain ⟨ls, e', s, hg, _, _⟩ := openElems_some hm
      simp only [VR] at hd
      obtain ⟨c, hc, _, e1⟩ := hd
      obtain ⟨hcs', _⟩ := hR.grown hg hc
      rw [ecd] at e1; cases e1
      exact fin b (k * sz) c hc (by rw [hcs']) hw
    · cases hw

theorem storeA_sound (hR : HR ρ hp w base) (hF : Fresh ρ nx) {t : TypeId} {b o n : Nat} {v : AVal} {ca cv : Value} {hp' : Heap} (ha : VR ρ (.ptr b o) ca) (hv : VR ρ v cv) (hs : sizeT P t = some n) (hn : v.cells.length = n) (h : writeCells hp b o v.cells = some hp') :
    ∃ w' ρ', (Instr.storeAt t ca cv).run P w = .ok () w' ∧ HR ρ' hp' w' base ∧ Fresh ρ' nx ∧ Ev ρ hp nx w ρ' hp' nx w' := by
  simp only [VR] at ha
  obtain ⟨c, hc, e⟩ := ha
  have hcv := cellsA_sound hv
  have hl : cv.cells.size = n := by have := hcv.length; simpa [hn] using this
  obtain ⟨c', w', hc', hst, h1, h2, h3⟩ := writeCells_sound hR hF hcv h
  rw [hc] at hc'; cases hc'
  refine ⟨w', ρ, ?_, h1, h2, h3⟩
  rw [e]
  simp only [Instr.storeAt, Instr.sureAddr, Sem.run_bind, Sem.run_pure, Result.andThen_ok, storeVar, run_sizeOf' hs, hl, ne_eq, not_true_eq_false, if_false, Sem.run_ite, hst P]

/-- A map turned. -/
theorem turn_map (hR : HR ρ hp w base) (hF : Fresh ρ nx) {m : Nat} {es es1 : List (AVal × AVal × Nat)} {n n1 : Nat} {c : CB} {es' es1' : Array MapEntry} (hg : hp.get m = some (.mapo es n)) (hc : ρ m = some c) (hob : w.heap[c.blk]? = some (.map es' n)) (hE : ERs ρ es1 es1'.toList) :
    (∀ P : Program, (setObj c.blk (.map es1' n1)).run P w = .ok () { w with heap := w.heap.setIfInBounds c.blk (.map es1' n1) }) ∧
    HR ρ (hp.set m (.mapo es1 n1)) { w with heap := w.heap.setIfInBounds c.blk (.map es1' n1) } base ∧ Fresh ρ nx ∧ Ev ρ hp nx w ρ (hp.set m (.mapo es1 n1)) nx { w with heap := w.heap.setIfInBounds c.blk (.map es1' n1) } := by
  have hlt : c.blk < w.heap.size := (Array.getElem?_eq_some_iff.1 hob).1
  have hsh : c.sh = 0 := by obtain ⟨ob, ho, hb⟩ := hR.at hg hc; obtain ⟨_, _, _, hb⟩ := hb; exact hb
  refine ⟨fun P => by simp only [setObj, Sem.run, hob], turn_ev (k' := .mapo es1 n1) hR hF hg hc (ob := .map es1' n1) (by simp [hlt]) ⟨es1', rfl, hE, hsh⟩ (fun i hi => by simp [Array.getElem?_setIfInBounds, Ne.symm hi]) (by simp) rfl rfl rfl (by rw [T.get_set]; simp) (fun b' hne q hq => ?_)⟩
  rw [T.get_set, if_neg hne] at hq
  exact ⟨hq, fun h => h⟩

theorem replaceE_sound {k v : AVal} {ck cv : Value} (hk : VR ρ k ck) (hv : VR ρ v cv) : ∀ (i : Nat) {es : List (AVal × AVal × Nat)} {es' : List MapEntry}, ERs ρ es es' → ERs ρ (replaceE i k v es) (es'.modify i fun e => { e with key := ck, val := cv })
  | i, [], _, h => by simp only [ERs] at h; subst h; cases i <;> simp [replaceE, ERs]
  | 0, _ :: _, _, ⟨m, ms, e, h1, h2⟩ => by subst e; exact ⟨{ m with key := ck, val := cv }, ms, by simp, ⟨hk, hv, h1.2.2⟩, h2⟩
  | i + 1, _ :: _, _, ⟨m, ms, e, h1, h2⟩ => by
    subst e
    simp only [replaceE, fl_eq]
    exact ⟨m, _, by simp, h1, replaceE_sound hk hv i h2⟩

theorem setValE_sound {v : AVal} {cv : Value} (hv : VR ρ v cv) : ∀ (i : Nat) {es : List (AVal × AVal × Nat)} {es' : List MapEntry}, ERs ρ es es' → ERs ρ (setValE i v es) (es'.modify i fun e => { e with val := cv })
  | i, [], _, h => by simp only [ERs] at h; subst h; cases i <;> simp [setValE, ERs]
  | 0, _ :: _, _, ⟨m, ms, e, h1, h2⟩ => by subst e; exact ⟨{ m with val := cv }, ms, by simp, ⟨h1.1, hv, h1.2.2⟩, h2⟩
  | i + 1, _ :: _, _, ⟨m, ms, e, h1, h2⟩ => by
    subst e
    simp only [setValE, fl_eq]
    exact ⟨m, _, by simp, h1, setValE_sound hv i h2⟩

theorem replaceK_sound {k v k0 : AVal} {ck : Value} {bb : Nat} (hk : VR ρ k ck) : ∀ (i : Nat) {es : List (AVal × AVal × Nat)} {es' : List MapEntry}, ERs ρ es es' → nth es i = some (k0, v, bb) → ERs ρ (replaceE i k v es) (es'.modify i fun e => { e with key := ck })
  | i, [], _, h, hn => by simp [nth] at hn
  | 0, _ :: _, _, ⟨m, ms, e, h1, h2⟩, hn => by
    subst e; simp [nth] at hn; subst hn
    exact ⟨{ m with key := ck }, ms, by simp, ⟨hk, h1.2.1, h1.2.2⟩, h2⟩
  | i + 1, _ :: _, _, ⟨m, ms, e, h1, h2⟩, hn => by
    subst e; simp [nth] at hn
    simp only [replaceE, fl_eq]
    exact ⟨m, _, by simp, h1, replaceK_sound hk i h2 hn⟩

theorem eraseE_sound : ∀ (i : Nat) {es : List (AVal × AVal × Nat)} {es' : List MapEntry}, ERs ρ es es' → ERs ρ (eraseE i es) (es'.eraseIdx i)
  | i, [], _, h => by simp only [ERs] at h; subst h; simp [eraseE, ERs]
  | 0, _ :: _, _, ⟨m, ms, e, h1, h2⟩ => by subst e; simpa [eraseE] using h2
  | i + 1, _ :: _, _, ⟨m, ms, e, h1, h2⟩ => by
    subst e
    simp only [eraseE, fl_eq]
    exact ⟨m, _, by simp, h1, eraseE_sound i h2⟩

theorem ERs.append : ∀ {es fs : List (AVal × AVal × Nat)} {es' fs' : List MapEntry}, ERs ρ es es' → ERs ρ fs fs' → ERs ρ (es ++ fs) (es' ++ fs')
  | [], _, _, _, h, k => by simp only [ERs] at h; subst h; exact k
  | _ :: _, _, _, _, ⟨m, ms, e, h1, h2⟩, k => by subst e; exact ⟨m, _, rfl, h1, h2.append k⟩

theorem ERs.get : ∀ {es : List (AVal × AVal × Nat)} {es' : List MapEntry} (i : Nat) {e : AVal × AVal × Nat}, ERs ρ es es' → nth es i = some e → ∃ m, es'[i]? = some m ∧ ER ρ e m
  | [], _, _, _, _, h => by simp [nth] at h
  | _ :: _, _, 0, _, ⟨m, ms, e, h1, h2⟩, h => by subst e; simp [nth] at h; subst h; exact ⟨m, by simp, h1⟩
  | _ :: _, _, i + 1, _, ⟨m, ms, e, h1, h2⟩, h => by
    subst e; simp [nth] at h
    obtain ⟨q, hq, hr⟩ := ERs.get i h2 h
    exact ⟨q, by simpa using hq, hr⟩

/-- Equal keys of a plain kind are the same bits. -/
theorem sameBits_of {k k' : AVal} {ck ck' : Value} (hk : VR ρ k ck) (hk' : VR ρ k' ck') (h : sameKey k k' = some true) : Instr.sameBits 10000 ck' ck = true := by
  unfold sameKey at h
  split at h
  · simp only [VR] at hk hk'; subst hk hk'
    split at h
    · rename_i e; subst e; simp at h; subst h; simp [Instr.sameBits]
    · cases h
  · obtain ⟨rfl, hx⟩ := hk.str_inv
    obtain ⟨rfl, hy⟩ := hk'.str_inv
    simp only [Option.some.injEq] at h
    rw [eqL_eq] at h
    have := of_decide_eq_true h
    subst this
    simp only [Instr.sameBits, beq_toListBytes, beq_self_eq_true]
  · simp only [VR] at hk hk'; subst hk hk'
    simp at h; subst h; simp [Instr.sameBits]
  · cases h

theorem updateA_sound (hR : HR ρ hp w base) (hF : Fresh ρ nx) {t : TypeId} {m k v : AVal} {cm ck cv : Value} {hp' : Heap} (hm : VR ρ m cm) (hk : VR ρ k ck) (hv : VR ρ v cv) (h : updateA P hp t m k v = some hp') :
    ∃ w' ρ', (Instr.mapUpdate t cm ck cv).run P w = .ok () w' ∧ HR ρ' hp' w' base ∧ Fresh ρ' nx ∧ Ev ρ hp nx w ρ' hp' nx w' := by
  unfold updateA at h
  split at h
  case h_2 => cases h
  rename_i kt et hu
  split at h
  case isFalse => cases h
  rename_i hpk
  split at h
  case h_2 => cases h
  rename_i r
  split at h
  case h_2 => cases h
  rename_i es clock hg
  simp only [Option.bind_eq_some_iff] at h
  obtain ⟨f, hf, h⟩ := h
  obtain ⟨c, es', hc, hob, hE, _⟩ := hR.map hg
  simp only [VR] at hm
  obtain ⟨c', hc', ecm⟩ := hm
  rw [hc] at hc'; cases hc'
  obtain ⟨r', hfk, hmm⟩ := findKey_sound (P := P) hpk hk hE hf
  have hck := checkKey_sound (P := P) hpk hk false 9999 w
  split at h
  · rename_i i v0
    cases h
    cases r' with
    | none => exact hmm.elim
    | some p =>
      obtain ⟨j, pv⟩ := p
      obtain ⟨hij, hpv, ⟨k0, bb, hnth⟩, hsk⟩ := hmm
      subst hij
      obtain ⟨m0, hm0, hER⟩ := hE.get i hnth
      have hm0' : es'[i]? = some m0 := by simpa using hm0
      have hsk' : sameKey k k0 = some true := by rw [hnth] at hsk; exact hsk
      have hbits := sameBits_of hk hER.1 hsk'
      obtain ⟨h1, h2, h3, h4⟩ := turn_map (n1 := clock) (es1' := es'.modify i fun e => { e with key := ck, val := cv }) hR hF hg hc hob (by rw [Array.toList_modify]; exact replaceE_sound hk hv i hE)
      refine ⟨_, ρ, ?_, h2, h3, h4⟩
      rw [ecm]
      simp only [Instr.mapUpdate, Sem.run_bind, run_underlying' hu, Result.andThen_ok, getObj_run hob (by simp), hck, hfk, hm0', Option.map_some, Option.getD_some, Instr.keyThatStays, hbits, if_true, Sem.run_pure, Sem.run_ite, h1 P]
  · cases h
    cases r' with
    | some _ => exact hmm.elim
    | none =>
      obtain ⟨h1, h2, h3, h4⟩ := turn_map (es1 := es ++ [(k, v, clock)]) (n1 := clock + 1) (es1' := es'.push { key := ck, val := cv, born := clock }) hR hF hg hc hob (by rw [Array.toList_push]; exact hE.append ⟨_, [], rfl, ⟨hk, hv, rfl⟩, rfl⟩)
      refine ⟨_, ρ, ?_, by rw [appS_eq]; exact h2, h3, by rw [appS_eq]; exact h4⟩
      rw [ecm]
      simp only [Instr.mapUpdate, Sem.run_bind, run_underlying' hu, Result.andThen_ok, getObj_run hob (by simp), hck, hfk, h1 P]

theorem deleteA_sound (hR : HR ρ hp w base) (hF : Fresh ρ nx) {argTypes : Array TypeId} {ty t : TypeId} {m k : AVal} {cm ck : Value} {hp' : Heap} (h0 : argTypes[0]? = some t) (hm : VR ρ m cm) (hk : VR ρ k ck) (h : deleteA P hp t m k = some hp') :
    ∃ w' ρ', (Builtin.delete_ argTypes ty #[cm, ck]).run P w = .ok undef w' ∧ HR ρ' hp' w' base ∧ Fresh ρ' nx ∧ Ev ρ hp nx w ρ' hp' nx w' := by
  unfold deleteA at h
  split at h
  case h_2 => cases h
  rename_i kt et hu
  split at h
  case isFalse => cases h
  rename_i hpk
  split at h
  · cases h
    simp only [VR] at hm
    have hck := checkKey_sound (P := P) hpk hk true 9999 w
    exact ⟨w, ρ, by rw [hm]; simp [Builtin.delete_, h0, run_underlying' hu, hck, undef], hR, hF, .refl _ _ _ _⟩
  · rename_i r
    split at h
    case h_2 => cases h
    rename_i es clock hg
    simp only [Option.bind_eq_some_iff] at h
    obtain ⟨f, hf, h⟩ := h
    obtain ⟨c, es', hc, hob, hE, _⟩ := hR.map hg
    simp only [VR] at hm
    obtain ⟨c', hc', ecm⟩ := hm
    rw [hc] at hc'; cases hc'
    obtain ⟨r', hfk, hmm⟩ := findKey_sound (P := P) hpk hk hE hf
    have hck := checkKey_sound (P := P) hpk hk es'.isEmpty 9999 w
    split at h
    · rename_i i v0
      cases h
      cases r' with
      | none => exact hmm.elim
      | some p =>
        obtain ⟨j, pv⟩ := p
        obtain ⟨hij, _⟩ := hmm
        subst hij
        obtain ⟨h1, h2, h3, h4⟩ := turn_map (n1 := clock) (es1' := es'.eraseIdxIfInBounds i) hR hF hg hc hob (by rw [Array.toList_eraseIdxIfInBounds]; exact eraseE_sound i hE)
        refine ⟨_, ρ, ?_, h2, h3, h4⟩
        rw [ecm]
        simp [Builtin.delete_, h0, run_underlying' hu, getObj_run hob (by simp), hck, hfk, h1 P, undef]
    · cases h
      cases r' with
      | some _ => exact hmm.elim
      | none =>
        obtain ⟨h1, h2, h3, h4⟩ := turn_map (n1 := clock) (es1' := es') hR hF hg hc hob hE
        have hsame : ∀ b q, hp.get b = some q → (hp.set r (.mapo es clock)).get b = some q := by
          intro b q hb
          rw [T.get_set]
          split
          · rename_i e; subst e; rw [hg] at hb; exact hb
          · exact hb
        refine ⟨_, ρ, ?_, h2.sub hsame, h3, ⟨h4.ext, h4.nxle, fun _ q h _ => ⟨q, h⟩, h4.os, h4.tape, h4.output, h4.size, h4.same, h4.new⟩⟩
        rw [ecm]
        simp [Builtin.delete_, h0, run_underlying' hu, getObj_run hob (by simp), hck, hfk, h1 P, undef]
  · cases h

theorem clearA_sound (hR : HR ρ hp w base) (hF : Fresh ρ nx) {argTypes : Array TypeId} {ty t : TypeId} {x : AVal} {cx : Value} {hp' : Heap} (h0 : argTypes[0]? = some t) (hx : VR ρ x cx) (h : clearA P hp t x = some hp') :
    ∃ w' ρ', (Builtin.clear_ argTypes ty #[cx]).run P w = .ok undef w' ∧ HR ρ' hp' w' base ∧ Fresh ρ' nx ∧ Ev ρ hp nx w ρ' hp' nx w' := by
  unfold clearA at h
  have stay : (Builtin.clear_ argTypes ty #[cx]).run P w = .ok undef w → hp' = hp → ∃ w' ρ', (Builtin.clear_ argTypes ty #[cx]).run P w = .ok undef w' ∧ HR ρ' hp' w' base ∧ Fresh ρ' nx ∧ Ev ρ hp nx w ρ' hp' nx w' :=
    fun h1 h2 => ⟨w, ρ, h1, by rw [h2]; exact hR, hF, by rw [h2]; exact .refl _ _ _ _⟩
  have row : ∀ (e : TypeId) (b o n m cap : Nat) (c : CB) (z : List AVal), P.underlying t = some (.slice e) → ρ b = some c → cx = .slice (some ⟨c.blk, o + c.sh, none⟩) (n + 1) cap → zeroCells P e = some z → writeCells hp b o (repS (n + 1) z) = some hp' →
      ∃ w' ρ', (Builtin.clear_ argTypes ty #[cx]).run P w = .ok undef w' ∧ HR ρ' hp' w' base ∧ Fresh ρ' nx ∧ Ev ρ hp nx w ρ' hp' nx w' := by
    intro e b o n m cap c z hu hc ecx hz hw
    obtain ⟨cz, hcz, hvz⟩ := zeroCells_sound (ρ := ρ) hz
    obtain ⟨c', w', hc', hst, h1, h2, h3⟩ := writeCells_sound hR hF (repS_VRs hvz (n + 1)) hw
    rw [hc] at hc'; cases hc'
    refine ⟨w', ρ, ?_, h1, h2, h3⟩
    have e1 : (Builtin.zeroCells cz.cells (n + 1)).toList = repS (n + 1) cz.cells.toList := by
      have := congrArg Array.toList (repS_row cz.cells (n + 1))
      simpa [Builtin.zeroCells] using this.symm
    rw [ecx]
    simp [Builtin.clear_, h0, run_underlying' hu, hcz, e1, hst P, undef]
  split at h
  · rename_i hu; cases h; simp only [VR] at hx
    exact stay (by rw [hx]; simp [Builtin.clear_, h0, run_underlying' hu, undef]) rfl
  · rename_i k e r hu
    split at h
    · rename_i es clock hg
      cases h
      obtain ⟨c, es', hc, hob, hE, _⟩ := hR.map hg
      simp only [VR] at hx
      obtain ⟨c', hc', ecx⟩ := hx
      rw [hc] at hc'; cases hc'
      obtain ⟨h1, h2, h3, h4⟩ := turn_map (es1 := []) (n1 := clock) (es1' := #[]) hR hF hg hc hob rfl
      refine ⟨_, ρ, ?_, h2, h3, h4⟩
      rw [ecx]
      simp [Builtin.clear_, h0, run_underlying' hu, getObj_run hob (by simp), h1 P, undef]
    · cases h
  · rename_i e hu; cases h; simp only [VR] at hx
    exact stay (by rw [hx]; simp [Builtin.clear_, h0, run_underlying' hu, undef]) rfl
  · rename_i e hu; cases h; simp only [VR] at hx; obtain ⟨ad, hx⟩ := hx
    exact stay (by rw [hx]; simp [Builtin.clear_, h0, run_underlying' hu, undef]) rfl
  · rename_i e hu; cases h; simp only [VR] at hx; obtain ⟨ad, n, hx⟩ := hx
    exact stay (by rw [hx]; simp [Builtin.clear_, h0, run_underlying' hu, undef]) rfl
  · rename_i e b o n cap hu
    simp only [VR] at hx
    obtain ⟨c, hc, ecx⟩ := hx
    split at h
    · rename_i hn; cases h; subst hn
      exact stay (by rw [ecx]; simp [Builtin.clear_, h0, run_underlying' hu, undef]) rfl
    · rename_i hn
      simp only [Option.bind_eq_some_iff] at h
      obtain ⟨z, hz, hw⟩ := h
      obtain ⟨m, rfl⟩ : ∃ m, n = m + 1 := ⟨n - 1, by omega⟩
      exact row e b o m 0 cap c z hu hc ecx hz hw
  · rename_i e b k n hu
    simp only [VR] at hx
    obtain ⟨c, hc, _, ecx⟩ := hx
    split at h
    · rename_i hn; cases h; subst hn
      exact stay (by rw [ecx]; simp [Builtin.clear_, h0, run_underlying' hu, undef]) rfl
    · rename_i hn
      simp only [Option.bind_eq_some_iff] at h
      obtain ⟨z, hz, sz, hsz, q, hq, hw⟩ := h
      obtain ⟨ls, e', s, hg, _, _⟩ := openElems_some hq
      obtain ⟨hcs, _⟩ := hR.grown hg hc
      obtain ⟨m, rfl⟩ : ∃ m, n = m + 1 := ⟨n - 1, by omega⟩
      exact row e b (k * sz) m 0 _ c z hu hc (by rw [← hcs]; exact ecx) hz hw
  · cases h

theorem mapEntryA_sound (hR : HR ρ hp w base) (hF : Fresh ρ nx) {t : TypeId} {m k v : AVal} {cm ck : Value} {hp' : Heap} (hm : VR ρ m cm) (hk : VR ρ k ck) (h : mapEntryA P hp t m k = some (v, hp')) :
    ValOK P ρ hp nx base w (Instr.mapEntry t cm ck) v hp' nx := by
  unfold mapEntryA at h
  split at h
  case h_2 => cases h
  rename_i kt et hu
  split at h
  case isFalse => cases h
  rename_i hpk
  split at h
  case h_2 => cases h
  rename_i r
  split at h
  case h_2 => cases h
  rename_i es clock hg
  simp only [Option.bind_eq_some_iff] at h
  obtain ⟨f, hf, h⟩ := h
  obtain ⟨c, es', hc, hob, hE, _⟩ := hR.map hg
  simp only [VR] at hm
  obtain ⟨c', hc', ecm⟩ := hm
  rw [hc] at hc'; cases hc'
  obtain ⟨r', hfk, hmm⟩ := findKey_sound (P := P) hpk hk hE hf
  have hck := checkKey_sound (P := P) hpk hk false 9999 w
  split at h
  · rename_i i v0
    split at h
    case h_2 => cases h
    rename_i e0 he0
    cases h
    cases r' with
    | none => exact hmm.elim
    | some p =>
      obtain ⟨j, pv⟩ := p
      obtain ⟨hij, hpv, ⟨k0, bb, hnth⟩, hsk⟩ := hmm
      subst hij
      rw [hnth] at he0; cases he0
      obtain ⟨m0, hm0, hER⟩ := hE.get i hnth
      have hm0' : es'[i]? = some m0 := by simpa using hm0
      have hsk' : sameKey k k0 = some true := by rw [hnth] at hsk; exact hsk
      have hbits := sameBits_of hk hER.1 hsk'
      obtain ⟨h1, h2, h3, h4⟩ := turn_map (n1 := clock) (es1' := es'.modify i fun e => { e with key := ck }) hR hF hg hc hob (by rw [Array.toList_modify]; exact replaceK_sound hk i hE hnth)
      refine ⟨.tuple #[pv, goInt m0.born], _, ρ, ?_, ?_, h2, h3, h4⟩
      · rw [ecm]
        simp only [Instr.mapEntry, Sem.run_bind, run_underlying' hu, Result.andThen_ok, getObj_run hob (by simp), hck, hfk, hm0', Option.map_some, Option.getD_some, Instr.keyThatStays, hbits, if_true, Sem.run_pure, Sem.run_ite, h1 P]
      · simp only [VR]
        refine ⟨_, rfl, VRs.cons hpv (VRs.cons ?_ VRs.nil)⟩
        simp only [VR, goInt, hER.2.2]
        rfl
  · simp only [Option.bind_eq_some_iff] at h
    obtain ⟨z, hz, h⟩ := h
    cases h
    obtain ⟨cz, hcz, hvz⟩ := zeroV_sound (ρ := ρ) hz
    cases r' with
    | some _ => exact hmm.elim
    | none =>
      obtain ⟨h1, h2, h3, h4⟩ := turn_map (es1 := es ++ [(k, z, clock)]) (n1 := clock + 1) (es1' := es'.push { key := ck, val := cz, born := clock }) hR hF hg hc hob (by rw [Array.toList_push]; exact hE.append ⟨_, [], rfl, ⟨hk, hvz, rfl⟩, rfl⟩)
      refine ⟨.tuple #[cz, goInt clock], _, ρ, ?_, ?_, by rw [appS_eq]; exact h2, h3, by rw [appS_eq]; exact h4⟩
      · rw [ecm]
        simp only [Instr.mapEntry, Sem.run_bind, run_underlying' hu, Result.andThen_ok, getObj_run hob (by simp), hck, hfk, hcz, h1 P, Sem.run_pure]
      · simp only [VR]; exact ⟨_, rfl, VRs.cons hvz (VRs.cons (by simp only [VR]; rfl) VRs.nil)⟩

theorem entryStoreA_sound (hR : HR ρ hp w base) (hF : Fresh ρ nx) {t : TypeId} {m s v : AVal} {cm cs cv : Value} {hp' : Heap} (hm : VR ρ m cm) (hs : VR ρ s cs) (hv : VR ρ v cv) (h : entryStoreA hp m s v = some hp') :
    ∃ w' ρ', (Instr.entryStore t cm cs cv).run P w = .ok () w' ∧ HR ρ' hp' w' base ∧ Fresh ρ' nx ∧ Ev ρ hp nx w ρ' hp' nx w' := by
  unfold entryStoreA at h
  split at h
  case h_2 => cases h
  rename_i r n hn
  split at h
  case h_2 => cases h
  rename_i es clock hg
  simp only [Option.map_eq_some_iff] at h
  obtain ⟨i, hi, h⟩ := h
  subst h
  obtain ⟨kn, rfl⟩ := natOf_some hn
  obtain ⟨c, es', hc, hob, hE, _⟩ := hR.map hg
  simp only [VR] at hm hs
  obtain ⟨c', hc', ecm⟩ := hm
  rw [hc] at hc'; cases hc'
  have hfind : ∀ {es : List (AVal × AVal × Nat)} {es' : List MapEntry} {j i : Nat}, ERs ρ es es' → bornE n es j = some i → j ≤ i ∧ es'.findIdx? (fun e => (e.born : Int) == (Int.ofNat n)) = some (i - j) := by
    intro es
    induction es with
    | nil => intro es' j i _ h; simp [bornE] at h
    | cons x es ih =>
      intro es' j i hE h
      obtain ⟨m, ms, e, h1, h2⟩ := hE
      subst e
      simp only [bornE] at h
      rw [List.findIdx?_cons]
      have hb : ((m.born : Int) == Int.ofNat n) = Nat.beq x.2.2 n := by
        rw [h1.2.2, Bool.eq_iff_iff]
        constructor
        · intro h; have := eq_of_beq h; have h3 : x.2.2 = n := Int.ofNat.inj this
          rw [h3]; exact Nat.beq_refl n
        · intro h; have := Nat.eq_of_beq_eq_true h; rw [this]; simp
      rw [hb]
      cases hq : Nat.beq x.2.2 n with
      | true => rw [hq] at h; simp at h; subst h; simp
      | false =>
        rw [hq] at h
        simp only [cond_false] at h
        obtain ⟨h3, h4⟩ := ih h2 h
        refine ⟨by omega, ?_⟩
        simp only [Bool.false_eq_true, if_false, h4, Option.map_some]
        congr 1
        omega
  obtain ⟨_, hf⟩ := hfind hE hi
  have hf' : es'.findIdx? (fun e => (e.born : Int) == (Int.ofNat n)) = some i := by
    cases es' with
    | mk l => simpa [List.findIdx?_toArray] using hf
  obtain ⟨h1, h2, h3, h4⟩ := turn_map (n1 := clock) (es1' := es'.modify i fun e => { e with val := cv }) hR hF hg hc hob (by rw [Array.toList_modify]; exact setValE_sound hv i hE)
  refine ⟨_, ρ, ?_, h2, h3, h4⟩
  rw [ecm, hs]
  simp only [Instr.entryStore, Sem.run_bind, Result.andThen_ok, getObj_run hob (by simp), asInt, asIntOf, Sem.run_pure, hf', h1 P]
end Go.Mu

namespace Go.Mu
variable {P : Program} {ρ : Rho} {hp : Heap} {nx base : Nat} {w : World} {tm : Tm} {a : Act}

/-- An iterator turned. -/
theorem turn_obj (hR : HR ρ hp w base) (hF : Fresh ρ nx) {r : Nat} {k k' : ABlk} {c : CB} {ob ob' : Obj} (hg : hp.get r = some k) (hc : ρ r = some c) (hob : w.heap[c.blk]? = some ob) (hnc : ∀ x y z, ob ≠ .cells x y z) (hns : ∀ b, ¬ sibs k b) (hb : BR ρ c k' ob') :
    (∀ P : Program, (setObj c.blk ob').run P w = .ok () { w with heap := w.heap.setIfInBounds c.blk ob' }) ∧
    HR ρ (hp.set r k') { w with heap := w.heap.setIfInBounds c.blk ob' } base ∧ Fresh ρ nx ∧ Ev ρ hp nx w ρ (hp.set r k') nx { w with heap := w.heap.setIfInBounds c.blk ob' } := by
  have hlt : c.blk < w.heap.size := (Array.getElem?_eq_some_iff.1 hob).1
  refine ⟨fun P => ?_, turn_ev (k' := k') hR hF hg hc (ob := ob') (by simp [hlt]) hb (fun i hi => by simp [Ne.symm hi]) (by simp) rfl rfl rfl (by rw [T.get_set]; simp) (fun b' hne q hq => ?_)⟩
  · simp only [setObj, Sem.run, hob]
  · rw [T.get_set, if_neg hne] at hq
    exact ⟨hq, hns b'⟩

theorem leftE_sound (seen : List Nat) : ∀ {es : List (AVal × AVal × Nat)} {es' : List MapEntry}, ERs ρ es es' → ERs ρ (leftE seen es) (es'.filter fun e => !seen.toArray.contains e.born)
  | [], _, h => by simp only [ERs] at h; subst h; simp [leftE, ERs]
  | x :: es, _, ⟨m, ms, e, h1, h2⟩ => by
    subst e
    simp only [leftE, List.filter_cons]
    have hb : seen.toArray.contains m.born = seen.contains x.2.2 := by rw [h1.2.2]; simp
    rw [hb]
    cases seen.contains x.2.2 with
    | true => exact leftE_sound seen h2
    | false => exact ⟨m, _, rfl, h1, leftE_sound seen h2⟩

theorem all_born (last : Nat) : ∀ {es : List (AVal × AVal × Nat)} {es' : List MapEntry}, ERs ρ es es' → es'.all (fun e => decide (e.born ≥ last)) = es.all (fun e => Nat.ble last e.2.2)
  | [], _, h => by simp only [ERs] at h; subst h; rfl
  | x :: es, _, ⟨m, ms, e, h1, h2⟩ => by
    subst e
    simp only [List.all_cons, all_born last h2, h1.2.2]
    congr 1
    rw [Bool.eq_iff_iff]; simp [Nat.ble_eq]


theorem bytesOf_size (l : List Nat) : (bytesOf l).size = l.length := by simp [bytesOf, ByteArray.size]

theorem bytesOf_get (l : List Nat) (i : Nat) (h : i < (bytesOf l).size) (hb : ∀ x ∈ l, x < 256) : ((bytesOf l)[i]'h).toNat = l[i]'(by simpa [bytesOf_size] using h) := by
  have hi : i < l.length := by simpa [bytesOf_size] using h
  have : (bytesOf l)[i]'h = UInt8.ofNat (l[i]) := by
    show (bytesOf l).data[i]'_ = _
    simp [bytesOf]
  rw [this]
  have := hb _ (List.getElem_mem hi)
  simp; omega

theorem choose_one (w : World) : (choose (.mapNext 1)).run P w = .ok 0 w := by simp [choose, Sem.run, Question.forced]

theorem push_list (l : List Nat) (x : Nat) : l.toArray.push x = (appS l [x]).toArray := by rw [appS_eq]; simp

theorem nextA_sound (hR : HR ρ hp w base) (hF : Fresh ρ nx) {it : AVal} {c : Value} {isStr : Bool} {ty : TypeId} {v : AVal} {hp' : Heap} (hv : VR ρ it c) (h : nextA hp it isStr = some (v, hp')) :
    ValOK P ρ hp nx base w (Instr.next c isStr ty) v hp' nx := by
  unfold nextA at h
  split at h
  case h_2 => cases h
  rename_i r
  simp only [VR] at hv
  obtain ⟨cb, hcb, rfl⟩ := hv
  cases hk : hp.get r with
  | none => simp [hk] at h
  | some k =>
    obtain ⟨ob, hob, hbr⟩ := hR.at hk hcb
    rw [hk] at h
    cases k with
    | siter s pos =>
      cases isStr with
      | false => simp at h
      | true =>
        simp only at h
        obtain ⟨rfl, hb, hsh⟩ := hbr
        simp only [hsh, Nat.add_zero]
        cases hn : nth s pos with
        | none =>
          rw [hn] at h; simp only [Option.some.injEq, Prod.mk.injEq] at h
          obtain ⟨rfl, rfl⟩ := h
          rw [nth_eq] at hn
          refine ⟨.tuple #[.bool false], w, ρ, ?_, ?_, hR, hF, Ev.refl ..⟩
          · have : ¬ pos < (bytesOf s).size := by rw [bytesOf_size]; simpa using hn
            simp [Instr.next, getObj, Sem.run, hob, this]
          · simp only [VR]; exact ⟨_, rfl, by simp only [VRs]; exact ⟨_, _, rfl, by simp only [VR], rfl⟩⟩
        | some x =>
          rw [hn] at h
          simp only [fn_eq] at h
          split at h
          case isFalse => cases h
          rename_i hx
          simp only [Option.some.injEq, Prod.mk.injEq] at h
          obtain ⟨rfl, rfl⟩ := h
          rw [nth_eq] at hn
          obtain ⟨hlt, hxe⟩ := List.getElem?_eq_some_iff.1 hn
          have hlt' : pos < (bytesOf s).size := by rw [bytesOf_size]; exact hlt
          have hg := bytesOf_get s pos hlt' hb
          rw [hxe] at hg
          have hd := decode_ascii (bytesOf s) pos hlt' (by rw [hg]; exact hx)
          obtain ⟨t1, t2, t3, t4⟩ := turn_obj (ob' := .stringIter (bytesOf s) (pos + 1)) (k' := .siter s (pos + 1)) hR hF hk hcb hob (by simp) (by simp [sibs]) ⟨rfl, hb, hsh⟩
          refine ⟨.tuple #[.bool true, .int .i64 pos, .int .i32 x], _, ρ, ?_, ?_, t2, t3, t4⟩
          · simp only [Instr.next, getObj, Sem.run_bind, Sem.run, hob, Result.andThen, hlt', if_true, hd, hg, t1, goInt]; rfl
          · simp only [VR]; exact ⟨_, rfl, by simp only [VRs]; exact ⟨_, _, rfl, by simp only [VR], _, _, rfl, by simp only [VR]; rfl, _, _, rfl, by simp only [VR]; rfl, rfl⟩⟩
    | miter m since seen last =>
      cases isStr with
      | true => cases m <;> simp at h
      | false =>
        cases m with
        | none =>
          simp only [Option.some.injEq, Prod.mk.injEq] at h
          obtain ⟨rfl, rfl⟩ := h
          obtain ⟨rfl, hsh⟩ := hbr
          refine ⟨.tuple #[.bool false], w, ρ, ?_, ?_, hR, hF, Ev.refl ..⟩
          · simp [Instr.next, getObj, Sem.run, hob, hsh]
          · simp only [VR]; exact ⟨_, rfl, by simp only [VRs]; exact ⟨_, _, rfl, by simp only [VR], rfl⟩⟩
        | some m =>
          obtain ⟨⟨cm, hcm, rfl⟩, hsh⟩ := hbr
          simp only at h
          cases hkm : hp.get m with
          | none => simp [hkm] at h
          | some km =>
            rw [hkm] at h
            cases km with
            | mapo es clock =>
              obtain ⟨obm, hobm, hbm⟩ := hR.at hkm hcm
              obtain ⟨es', rfl, hes, hsm⟩ := hbm
              simp only at h
              split at h
              case isTrue => cases h
              rename_i hun
              have hall := all_born (ρ := ρ) last hes
              have hgate : (!seen.toArray.isEmpty && !es'.isEmpty && es'.all (fun e => decide (e.born ≥ last))) = false := by
                have e1 : es'.isEmpty = es.isEmpty := by
                  have := hes.length
                  cases es <;> simp_all [Array.isEmpty]
                have e2 : es'.all (fun e => decide (e.born ≥ last)) = es.all (fun e => Nat.ble last e.2.2) := by rw [← hall]; simp
                rw [e1, e2]; simpa using hun
              have hleft := leftE_sound (ρ := ρ) seen hes
              have hfl : (es'.filter fun e => !seen.toArray.contains e.born).toList = es'.toList.filter fun e => !seen.toArray.contains e.born := by simp
              cases hl : leftE seen es with
              | nil =>
                rw [hl] at h hleft
                simp only [Option.some.injEq, Prod.mk.injEq] at h
                obtain ⟨rfl, rfl⟩ := h
                simp only [ERs] at hleft
                have hemp : (es'.filter fun e => !seen.toArray.contains e.born) = #[] := by
                  apply Array.toList_inj.1; rw [hfl, hleft]
                refine ⟨.tuple #[.bool false], w, ρ, ?_, ?_, hR, hF, Ev.refl ..⟩
                · simp only [Instr.next, getObj, Sem.run_bind, Sem.run, hob, hobm, hsh, Result.andThen, hgate, Nat.add_zero, hemp]
                  simp [choose, Sem.run, Question.forced]
                · simp only [VR]; exact ⟨_, rfl, by simp only [VRs]; exact ⟨_, _, rfl, by simp only [VR], rfl⟩⟩
              | cons e tl =>
                rw [hl] at h hleft
                cases tl with
                | cons _ _ => cases h
                | nil =>
                  simp only at h
                  split at h
                  case isFalse => cases h
                  rename_i hold
                  simp only [Option.some.injEq, Prod.mk.injEq] at h
                  obtain ⟨rfl, rfl⟩ := h
                  obtain ⟨me, ms, hme, her, hms⟩ := hleft
                  simp only [ERs] at hms
                  subst hms
                  have hemp : (es'.filter fun e => !seen.toArray.contains e.born) = #[me] := by
                    apply Array.toList_inj.1; rw [hfl, hme]
                  have hb : me.born < since := by rw [her.2.2]; exact hold
                  obtain ⟨t1, t2, t3, t4⟩ := turn_obj (ob' := .mapIter (some cm.blk) since (seen.toArray.push me.born) clock) (k' := .miter (some m) since (appS seen [e.2.2]) clock) hR hF hk hcb hob (by simp) (by simp [sibs])
                    ⟨⟨cm, hcm, by rw [her.2.2, push_list]⟩, hsh⟩
                  refine ⟨.tuple #[.bool true, me.key, me.val], _, ρ, ?_, ?_, t2, t3, t4⟩
                  · have hnb : ¬ since ≤ me.born := by omega
                    simp only [Instr.next, getObj, Sem.run_bind, Sem.run, hob, hobm, hsh, Result.andThen, hgate, Nat.add_zero, hemp]
                    have t1' := t1 P
                    simp only [List.push_toArray] at t1'
                    simp [choose, Sem.run, Question.forced, hb, hnb, t1']
                  · simp only [VR]; exact ⟨_, rfl, by simp only [VRs]; exact ⟨_, _, rfl, by simp only [VR], _, _, rfl, her.1, _, _, rfl, her.2.1, rfl⟩⟩
            | _ => simp at h
    | cells _ _ => cases isStr <;> simp at h
    | grown _ _ _ _ => cases isStr <;> simp at h
    | mapo _ _ => cases isStr <;> simp at h
    | dblk => cases isStr <;> simp at h
    | loop _ _ _ _ _ _ _ => cases isStr <;> simp at h

theorem bytes_VRs (ρ : Rho) : ∀ (s : List Nat), (∀ x ∈ s, x < 256) → VRs ρ (s.map fun c => AVal.int .u8 (.ofNat c)) ((s.map UInt8.ofNat).map fun b => Value.int .u8 b.toNat)
  | [], _ => VRs.nil
  | x :: s, h => by
    refine VRs.cons ?_ (bytes_VRs ρ s fun y hy => h y (List.mem_cons_of_mem _ hy))
    have := h x (List.mem_cons_self)
    simp only [VR]
    congr 1
    show ((UInt8.ofNat x).toNat : Int) = Int.ofNat x
    have : (UInt8.ofNat x).toNat = x := by simp; omega
    rw [this]; rfl

theorem bytesA_sound (hR : HR ρ hp w base) (hF : Fresh ρ nx) (hb : base ≤ w.heap.size) {src dst e : TypeId} {s : List Nat} {c : Value} {u : TypeDesc} (hv : VR ρ (.str s) c) (hsrc : P.underlying src = some u) (hd : P.underlying dst = some (.slice e)) (he : P.underlying e = some (.int .u8)) :
    ValOK P ρ hp nx base w (convert src dst c) (.oslice nx 0 s.length) (hp.set nx (.grown (s.map fun c => .int .u8 (.ofNat c)) e 1 none)) (nx + 1) := by
  simp only [VR] at hv
  obtain ⟨rfl, hs⟩ := hv
  have hrun := Lib.run_convert_string_bytes (P := P) w src dst e (bytesOf s) hsrc hd he
  have hw : Lib.bytesWorld w e (bytesOf s) = w.drew.alloc (.cells (Lib.bytesCells w e (bytesOf s)) e ((Lib.bytesCells w e (bytesOf s)).size, (Lib.bytesCells w e (bytesOf s)).size + 1)) := by
    have hh : (Lib.bytesWorld w e (bytesOf s)).heap = w.heap.push (.cells (Lib.bytesCells w e (bytesOf s)) e ((Lib.bytesCells w e (bytesOf s)).size, (Lib.bytesCells w e (bytesOf s)).size + 1)) := by
      apply Array.ext_getElem?
      intro j
      by_cases hj : j < w.heap.size
      · rw [Lib.bytesWorld_at_old w e _ j hj, Array.getElem?_push]; simp [show j ≠ w.heap.size by omega]
      · by_cases hj2 : j = w.heap.size
        · subst hj2; rw [Lib.bytesWorld_at_new]; simp
        · rw [Array.getElem?_eq_none (by rw [Lib.bytesWorld_size]; omega), Array.getElem?_eq_none (by simp; omega)]
    have : ∀ (a b : World), a.heap = b.heap → a.tape = b.tape → a.drawn = b.drawn → a.os = b.os → a.output = b.output → a = b := by
      intro a b h1 h2 h3 h4 h5; cases a; cases b; simp_all
    exact this _ _ hh rfl rfl rfl rfl
  have hge := grownCap_ge w s.length 0 e
  have hcap : grownCap w (bytesOf s).size 0 e = grownCap w s.length 0 e := by rw [bytesOf_size]
  have hcl : (Lib.bytesCells w e (bytesOf s)).toList = (s.map UInt8.ofNat).map (fun b => Value.int .u8 b.toNat) ++ List.replicate (grownCap w s.length 0 e - s.length) (.int .u8 0) := by
    simp only [Lib.bytesCells, bytesOf_size]; simp [bytesOf]
  have hsz : (Lib.bytesCells w e (bytesOf s)).size = grownCap w s.length 0 e := by
    rw [← Array.length_toList, hcl]; simp; omega
  obtain ⟨ρ', h1, h2, h3, h4, h5⟩ := alloc_ev (w := w.drew) (k := .grown (s.map fun c => .int .u8 (.ofNat c)) e 1 none) (c := ⟨w.heap.size, 0, grownCap w s.length 0 e, 1⟩)
    (ob := .cells (Lib.bytesCells w e (bytesOf s)) e ((Lib.bytesCells w e (bytesOf s)).size, (Lib.bytesCells w e (bytesOf s)).size + 1)) hR.drew hF hb rfl
    (fun ρ' hx hn => ⟨_, _, rfl, rfl, by simp only []; omega, by simp; omega, by
      simp only [hcl, List.drop_zero, List.length_map]
      rw [List.take_append_of_le_length (by simp), List.take_of_length_le (by simp)]
      exact bytes_VRs ρ' s hs, .inr (Nat.le_refl _)⟩) (fun _ => .inr trivial)
  rw [hw] at hrun
  refine ⟨_, _, ρ', hrun, ?_, h3, h4, ⟨h5.ext, h5.nxle, h5.live, h5.os, h5.tape, h5.output, h5.size, h5.same, h5.new⟩⟩
  simp only [VR]
  exact ⟨_, h1, by simpa using hge, by simp [bytesOf_size]⟩

theorem unfrozen_froze {fr : Nat × Nat} {n : Nat} (h : unfrozen fr n) : unfrozen (if fr.1 == fr.2 then (n, n + 1) else (min fr.1 n, max fr.2 (n + 1))) n := by
  rcases h with h | h
  · simp [h, unfrozen]
  · by_cases e : fr.1 = fr.2
    · simp [e, unfrozen]
    · simp only [beq_iff_eq, e, if_false, unfrozen]; right; omega

/-- A row marked as a conversion's. -/
theorem mark_ev (hR : HR ρ hp w base) (hF : Fresh ρ nx) {b : Nat} {k : ABlk} {c : CB} {l' : Array Value} {e : TypeId} {fr : Nat × Nat} {x : Nat} (hk : hp.get b = some k) (hc : ρ b = some c) (hob : w.heap[c.blk]? = some (.cells l' e fr)) (hns : ∀ b', ¬ sibs k b')
    (hbr : ∀ fr', unfrozen fr' l'.size → BR ρ c k (.cells l' e fr')) (hu : unfrozen fr l'.size) :
    ∃ w', (markStringish ⟨c.blk, x, none⟩).run P w = .ok () w' ∧ HR ρ hp w' base ∧ Ev ρ hp nx w ρ hp nx w' := by
  refine ⟨w.freeze ⟨c.blk, l'.size, none⟩ 1, ?_, ?_⟩
  · have : w.shape? c.blk = some (e, l'.size) := by simp [World.shape?, hob]
    simp [markStringish, this]
  · have hlt : c.blk < w.heap.size := (Array.getElem?_eq_some_iff.1 hob).1
    have hat : (w.freeze ⟨c.blk, l'.size, none⟩ 1).heap[c.blk]? = some (.cells l' e (if fr.1 == fr.2 then (l'.size, l'.size + 1) else (min fr.1 l'.size, max fr.2 (l'.size + 1)))) := by
      simp only [World.freeze, Nat.succ_ne_zero, if_false, Array.getElem?_modify, hob, if_true, Option.map_some]
    obtain ⟨h1, _, h3⟩ := turn_ev (k' := k) (hp' := hp) hR hF hk hc hat (hbr _ (unfrozen_froze hu)) (fun i hi => by simp [World.freeze, Array.getElem?_modify, Ne.symm hi]) (by simp [World.freeze]) (by simp [World.freeze]) (by simp [World.freeze]) (by simp [World.freeze]) hk (fun b' _ q hq => ⟨hq, hns b'⟩)
    exact ⟨h1, h3⟩

theorem sameBytes_sound (hR : HR ρ hp w base) (hF : Fresh ρ nx) {t e : TypeId} {v : AVal} {c : Value} (hv : VR ρ v c) (hd : P.underlying t = some (.slice e)) (he : P.underlying e = some (.int .u8))
    (h : (∃ b o len cap l e', v = .slice b o len cap ∧ hp.get b = some (.cells l e')) ∨ (∃ b k len l e' sz, v = .oslice b k len ∧ hp.get b = some (.grown l e' sz none))) :
    ValOK P ρ hp nx base w (convert t t c) v hp nx := by
  rcases h with ⟨b, o, len, cap, l, e', rfl, hb⟩ | ⟨b, k, len, l, e', sz, rfl, hb⟩
  · have hv0 := hv
    simp only [VR] at hv
    obtain ⟨cb, hcb, rfl⟩ := hv
    obtain ⟨ob, hob, l', fr, rfl, h2, h3, h4⟩ := hR.at hb hcb
    obtain ⟨w', r, hR', hE⟩ := mark_ev (P := P) (x := o + cb.sh) hR hF hb hcb hob (fun _ h => h) (fun fr' hf => ⟨l', fr', rfl, h2, h3, hf⟩) h4
    refine ⟨_, w', ρ, ?_, hv0, hR', hF, hE⟩
    simp [convert, run_underlying' hd, run_underlying' he, r]
  · have hv0 := hv
    simp only [VR] at hv
    obtain ⟨cb, hcb, hle, rfl⟩ := hv
    obtain ⟨ob, hob, l', fr, rfl, h2, h3, h4, h5, h6⟩ := hR.at hb hcb
    obtain ⟨w', r, hR', hE⟩ := mark_ev (P := P) (x := k * cb.sz + cb.sh) hR hF hb hcb hob (by simp [sibs]) (fun fr' hf => ⟨l', fr', rfl, h2, h3, h4, h5, hf⟩) h6
    refine ⟨_, w', ρ, ?_, hv0, hR', hF, hE⟩
    simp [convert, run_underlying' hd, run_underlying' he, r]

/-! Methods. -/
theorem methodA_sound {t : TypeId} {v : AVal} {c : Value} {name : String} {f : FuncId} {r : AVal} (hv : VR ρ v c) (h : methodA P t v name = some (f, r)) (d : Nat) :
    ∃ cr, VR ρ r cr ∧ (method (d + 1) t c name).run P w = .ok (f, cr) w := by
  unfold methodA at h
  cases hi : P.info? t with
  | none => simp [hi] at h
  | some i =>
    rw [hi] at h
    simp only at h
    cases hm : i.methods.find? (·.name == name) with
    | none => simp [hm] at h
    | some m =>
      rw [hm] at h
      simp only at h
      split at h
      case isFalse => cases h
      rename_i hpth
      have hpl : m.path.toList = [] := by
        have : m.path = #[] := by simpa using hpth
        simp [this]
      cases hf : m.func with
      | none => simp [hf] at h
      | some fp =>
        obtain ⟨f0, pr⟩ := fp
        rw [hf] at h
        simp only at h
        refine ⟨c, ?_, ?_⟩
        · split at h <;> first | (cases h; done) | (simp only [Option.some.injEq, Prod.mk.injEq] at h; obtain ⟨rfl, rfl⟩ := h; exact hv)
        · have hu : ∃ u, P.underlying t = some u := by
            cases hu : P.underlying t with
            | none => rw [hu] at h; simp at h
            | some u => exact ⟨u, rfl⟩
          obtain ⟨u, hu⟩ := hu
          rw [hu] at h
          have hf0 : f0 = f := by
            split at h <;> first | (cases h; done) | (simp only [Option.some.injEq, Prod.mk.injEq] at h; exact h.1)
          subst hf0
          have hun := run_underlying' hu w
          have hti : (typeInfo t).run P w = .ok i w := by simp [typeInfo, hi]
          have hfo : (follow [] t (Place.val c)).run P w = .ok (t, .val c) w := by rfl
          simp only [method, Sem.run_bind, hti, Result.andThen_ok, hm, hpl, hfo, hf, receiverAt, hun]
          cases u <;> cases pr <;> first | (simp at h; done) | (simp [Place.get])
end Go.Mu
