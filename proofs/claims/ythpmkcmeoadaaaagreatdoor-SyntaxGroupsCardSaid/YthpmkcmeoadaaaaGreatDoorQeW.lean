/- Building, arithmetic, comparing, slicing: the evaluation's value is the world's. -/
import Derived.Test.YthpmkcmeoadaaaaGreatDoorQeV
import Derived.Laws.BitsLemmas
import Derived.Lib.Bytes
namespace Go.Pe
open HM
variable {G : T PO}
set_option linter.unusedVariables false
set_option linter.unusedSimpArgs false

section
variable {ρ : Emb G} {P : Program} {w : World}
theorem run_mapM {α β : Type} (f : α → Sem β) (g : α → β) : ∀ (l : List α), (∀ x ∈ l, (f x).run P w = .ok (g x) w) → (l.mapM f).run P w = .ok (l.map g) w
  | [], _ => rfl
  | x :: xs, h => by
    rw [List.mapM_cons]
    simp only [Sem.run_bind, h x (by simp), Result.andThen_ok, run_mapM f g xs fun y hy => h y (by simp [hy]), Sem.run_pure, List.map_cons]
theorem run_places {fs : Array Field} {pl : List (Nat × Nat)} (h : placesO P fs.toList = some pl) :
    (fs.mapM fun f => do pure (f.offset, ← sizeOf f.type) : Sem (Array (Nat × Nat))).run P w = .ok pl.toArray w := by
  have key : ∀ {l : List Field} {pl : List (Nat × Nat)}, placesO P l = some pl → (l.mapM fun f => do pure (f.offset, ← sizeOf f.type) : Sem (List (Nat × Nat))).run P w = .ok pl w := by
    intro l
    induction l with
    | nil => intro pl h; simp only [placesO, mapO, Option.some.injEq] at h; subst h; rfl
    | cons f fs ih =>
      intro pl h
      simp only [placesO, mapO] at h
      cases hz : szOf P f.type with
      | none => rw [hz] at h; simp at h
      | some n =>
        rw [hz] at h
        simp only at h
        split at h
        · rename_i ys hy
          simp only [Option.some.injEq] at h
          subst h
          rw [List.mapM_cons]
          simp only [Sem.run_bind, run_sizeOf hz, Result.andThen_ok, Sem.run_pure, ih hy]
        · simp at h
  rw [Array.mapM_eq_mapM_toList]
  simp only [Sem.run_map, key h, Result.andThen_ok]
theorem sim_buildV {t : TypeId} {l : List (Nat × PV)} {x : PV} {rp : Array (Nat × Value)} (e : buildV P t l = some x)
    (hm : rp.toList.map (·.1) = l.map (·.1)) (hp : VRs ρ (l.map (·.2)) (rp.toList.map (·.2))) : ∃ v, (Instr.build t rp).run P w = .ok v w ∧ VR ρ x v := by
  unfold buildV at e
  cases hz : zeroOf P t with
  | none => rw [hz] at e; simp at e
  | some z =>
    rw [hz] at e
    simp only at e
    obtain ⟨i, zv, hi, hzi, hzc⟩ := zeroOf_some hz
    have ⟨hzr, hz1⟩ := vrs_ofV1 (ρ := ρ) hzc
    split at e
    · rename_i fs hu
      cases hpl : placesO P fs.toList with
      | none => rw [hpl] at e; simp at e
      | some pl =>
        rw [hpl] at e
        simp only at e
        cases hf : fillL (fun i => pl[i]?) z l with
        | none => rw [hf] at e; simp at e
        | some c =>
          rw [hf] at e
          simp only [Option.some.injEq] at e
          subst e
          obtain ⟨rs, f1, f2, _, _⟩ := sim_fillL hf hzr hz1 hm hp
          refine ⟨.agg rs.toArray, ?_, rs, rfl, f2⟩
          have hfill : Instr.fill (fun x : Nat => pl.toArray[x]?) zv.cells rp.toList = some rs.toArray := by
            have : (fun x : Nat => pl.toArray[x]?) = fun x : Nat => pl[x]? := by funext x; simp
            rw [this]
            simpa using f1
          simp only [Instr.build, Sem.run_bind, run_zeroValue hi hzi, Result.andThen_ok, run_underlying hu, run_places hpl, hfill, Sem.run_pure]
    · rename_i n et hu
      cases hs : szOf P et with
      | none => rw [hs] at e; simp at e
      | some sz =>
        rw [hs] at e
        simp only at e
        cases hf : fillL (fun i => some (i * sz, sz)) z l with
        | none => rw [hf] at e; simp at e
        | some c =>
          rw [hf] at e
          simp only [Option.some.injEq] at e
          subst e
          obtain ⟨rs, f1, f2, _, _⟩ := sim_fillL hf hzr hz1 hm hp
          refine ⟨.agg rs.toArray, ?_, rs, rfl, f2⟩
          have hfill : Instr.fill (fun i => some (i * sz, sz)) zv.cells rp.toList = some rs.toArray := by simpa using f1
          simp only [Instr.build, Sem.run_bind, run_zeroValue hi hzi, Result.andThen_ok, run_underlying hu, run_sizeOf hs, hfill, Sem.run_pure]
    · simp at e

theorem rep_get (z : List PV) : ∀ (n : Nat) (i : Nat), (rep z n)[i]? = if i < n * z.length then z[i % z.length]? else none
  | 0, i => by simp [rep]
  | n + 1, i => by
    simp only [rep]
    by_cases h : i < z.length
    · rw [List.getElem?_append_left h, if_pos (by rw [Nat.succ_mul]; omega), Nat.mod_eq_of_lt h]
    · rw [List.getElem?_append_right (by omega), rep_get z n]
      by_cases h2 : i < (n + 1) * z.length
      · rw [if_pos h2, if_pos (by rw [Nat.succ_mul] at h2; omega)]
        congr 1
        conv => rhs; rw [show i = i - z.length + z.length by omega, Nat.add_mod_right]
      · rw [if_neg h2, if_neg (by rw [Nat.succ_mul] at h2; omega)]
theorem rep_length (z : List PV) (n : Nat) : (rep z n).length = n * z.length := by
  induction n with
  | zero => simp [rep]
  | succ n ih => simp only [rep, List.length_append, ih, Nat.succ_mul]; omega
theorem rep_one {z : List PV} (h : z.all PV.one = true) (n : Nat) : (rep z n).all PV.one = true := by
  induction n with
  | zero => rfl
  | succ n ih => simp only [rep, List.all_append, h, ih, Bool.and_self]
theorem rep_vrs {z : List PV} {zs : Array Value} (h : VRs ρ z zs.toList) (n : Nat) : VRs ρ (rep z n) ((Array.range (n * zs.size)).map (fun i => zs[i % zs.size]!)).toList := by
  have hl : zs.size = z.length := by simpa using h.length
  refine VRs.of_get (by simp [rep_length, hl]) fun i x v hx hv => ?_
  rw [rep_get] at hx
  split at hx
  · rename_i hi
    obtain ⟨v', hv', hr⟩ := h.get hx
    have hz : 0 < z.length := by
      rcases Nat.eq_zero_or_pos z.length with h0 | h0
      · rw [h0] at hi; omega
      · exact h0
    have : v = zs[i % zs.size]! := by
      simp only [Array.toList_map, List.getElem?_map, Array.getElem?_toList] at hv
      rw [Array.getElem?_range, if_pos (by rw [hl]; exact hi)] at hv
      simp only [Option.map_some, Option.some.injEq] at hv
      exact hv.symm
    rw [this]
    have hlt : i % zs.size < zs.size := Nat.mod_lt _ (by omega)
    rw [getElem!_pos zs (i % zs.size) hlt]
    rw [← hl] at hv'
    simp only [Array.getElem?_toList] at hv'
    rw [Array.getElem?_eq_getElem hlt] at hv'
    simp only [Option.some.injEq] at hv'
    rw [hv']; exact hr
  · simp at hx
/-- the cells of a slice's literal -/
theorem sim_buildS {t : TypeId} {n : Nat} {l : List (Nat × PV)} {c : List PV} {rp : Array (Nat × Value)} (e : buildS P t n l = some c)
    (hm : rp.toList.map (·.1) = l.map (·.1)) (hp : VRs ρ (l.map (·.2)) (rp.toList.map (·.2))) :
    ∃ (et : TypeId) (z : Nat) (rs : List Value), elemT P t = some et ∧ szOf P et = some z ∧ VRs ρ c rs ∧ c.all PV.one = true ∧ c.length = n * z ∧
      (Instr.buildSlice t n rp).run P w = .ok (.slice (some ⟨w.heap.size, 0, none⟩) n n) (w.alloc (.cells rs.toArray et)) := by
  unfold buildS at e
  cases he : elemT P t with
  | none => rw [he] at e; simp at e
  | some et =>
    rw [he] at e
    simp only at e
    cases hz : szOf P et with
    | none => rw [hz] at e; simp at e
    | some sz =>
      rw [hz] at e
      simp only at e
      cases hb : Nat.ble (n * sz) 16777216 with
      | false => rw [hb] at e; simp at e
      | true =>
        rw [hb] at e
        simp only [cond_true] at e
        have hble := Nat.le_of_ble_eq_true hb
        cases hzo : zeroOf P et with
        | none => rw [hzo] at e; simp at e
        | some z =>
          rw [hzo] at e
          simp only at e
          cases hq : Nat.beq z.length sz with
          | false => rw [hq] at e; simp at e
          | true =>
            rw [hq] at e
            simp only [cond_true] at e
            have hzl := Nat.eq_of_beq_eq_true hq
            obtain ⟨i, zv, hi, hzi, hzc⟩ := zeroOf_some hzo
            have ⟨hzr, hz1⟩ := vrs_ofV1 (ρ := ρ) hzc
            have hzs : zv.cells.size = sz := by have := hzr.length; simp at this; omega
            have hrep := rep_vrs (ρ := ρ) (zs := zv.cells) hzr n
            obtain ⟨rs, f1, f2, f3, f4⟩ := sim_fillL e hrep (rep_one hz1 n) hm hp
            refine ⟨et, sz, rs, rfl, hz, f2, f3, by rw [f4, rep_length, hzl], ?_⟩
            have hu := elemT_some he
            have h24 : ¬ (n * sz > 2 ^ 24) := by omega
            by_cases h0 : n * sz = 0
            · have hemp : (Array.range (n * zv.cells.size)).map (fun i => zv.cells[i % zv.cells.size]!) = #[] := by
                rw [hzs, h0]; simp
              have f1' : Instr.fill (fun i => some (i * sz, sz)) #[] rp.toList = some rs.toArray := by
                rw [Array.toArray_toList] at f1; rw [← hemp]; exact f1
              have hemp2 : (Array.range (n * sz)).map (fun i => (#[] : Array Value)[i % (#[] : Array Value).size]!) = #[] := by rw [h0]; simp
              simp only [Instr.buildSlice, Sem.run_bind, run_underlying hu, Result.andThen_ok, run_sizeOf hz, if_neg h24, Sem.run_pure, if_pos h0, hemp2, f1', newRow, run_newObj]
              rfl
            · have f1' : Instr.fill (fun i => some (i * sz, sz)) ((Array.range (n * sz)).map (fun i => zv.cells[i % zv.cells.size]!)) rp.toList = some rs.toArray := by
                rw [Array.toArray_toList] at f1; rw [← hzs]; rw [← hzs] at f1; exact f1
              simp only [Instr.buildSlice, Sem.run_bind, run_underlying hu, Result.andThen_ok, run_sizeOf hz, if_neg h24, Sem.run_pure, if_neg h0, run_zeroValue hi hzi, f1', newRow, run_newObj]
              rfl

/-- arithmetic -/
theorem wrap_i64_in {n : Int} (h : inI64 n = true) : IntKind.i64.wrap n = n := by
  unfold inI64 at h
  simp only [Bool.and_eq_true, decide_eq_true_eq] at h
  rw [IntKind.wrap_i64]; omega
theorem wrapF_eq (k : IntKind) (n : Int) : wrapF k n = k.wrap n := by
  unfold wrapF
  cases k
  case i64 =>
    cases h : inI64 n with
    | true => simp only [cond_true]; exact (wrap_i64_in h).symm
    | false => rfl
  all_goals rfl
theorem sim_arith {op : BinOp} {k : IntKind} {a b : Int} {x : PV} (e : arith op k a b = some x) (t : TypeId) (hs : op ≠ .shl ∧ op ≠ .shr) :
    ∃ v, (binOp op t (.int k a) (.int k b)).run P w = .ok v w ∧ VR ρ x v := by
  cases op
  case shl => exact absurd rfl hs.1
  case shr => exact absurd rfl hs.2
  case quo =>
    simp only [arith] at e
    cases hb : decide (b = 0) with
    | true => rw [hb] at e; simp at e
    | false =>
      rw [hb] at e
      simp only [cond_false, Option.some.injEq] at e
      subst e
      exact ⟨.int k (k.wrap (a.tdiv b)), by simp [binOp, Op.intDiv, of_decide_eq_false hb], by rw [wrapF_eq]; rfl⟩
  case rem =>
    simp only [arith] at e
    cases hb : decide (b = 0) with
    | true => rw [hb] at e; simp at e
    | false =>
      rw [hb] at e
      simp only [cond_false, Option.some.injEq] at e
      subst e
      exact ⟨.int k (a.tmod b), by simp [binOp, Op.intDiv, of_decide_eq_false hb], rfl⟩
  case add => simp only [arith, Option.some.injEq] at e; subst e; exact ⟨.int k (k.wrap (a + b)), by simp [binOp, Op.intArith], by rw [wrapF_eq]; rfl⟩
  case sub => simp only [arith, Option.some.injEq] at e; subst e; exact ⟨.int k (k.wrap (a - b)), by simp [binOp, Op.intArith], by rw [wrapF_eq]; rfl⟩
  case mul => simp only [arith, Option.some.injEq] at e; subst e; exact ⟨.int k (k.wrap (a * b)), by simp [binOp, Op.intArith], by rw [wrapF_eq]; rfl⟩
  case and => simp only [arith, Option.some.injEq] at e; subst e; exact ⟨_, by simp only [binOp, ne_eq, not_true_eq_false, if_false, Op.intBits, Sem.run_pure], rfl⟩
  case or => simp only [arith, Option.some.injEq] at e; subst e; exact ⟨_, by simp only [binOp, ne_eq, not_true_eq_false, if_false, Op.intBits, Sem.run_pure], rfl⟩
  case xor => simp only [arith, Option.some.injEq] at e; subst e; exact ⟨_, by simp only [binOp, ne_eq, not_true_eq_false, if_false, Op.intBits, Sem.run_pure], rfl⟩
  case andNot => simp only [arith, Option.some.injEq] at e; subst e; exact ⟨_, by simp only [binOp, ne_eq, not_true_eq_false, if_false, Op.intBits, Sem.run_pure], rfl⟩
  all_goals
    simp only [arith, Option.some.injEq] at e
    subst e
    refine ⟨_, by simp only [binOp, ne_eq, not_true_eq_false, if_false, Op.intCmp, Sem.run_pure]; rfl, ?_⟩
    first
      | rfl
      | (show Value.bool _ = Value.bool _
         congr 1
         done)
theorem sim_shift {op : BinOp} {k j : IntKind} {a b : Int} {x : PV} (e : shiftV op k a b = some x) (t : TypeId) :
    ∃ v, (binOp op t (.int k a) (.int j b)).run P w = .ok v w ∧ VR ρ x v := by
  unfold shiftV at e
  cases hb : decide (b < 0) with
  | true => rw [hb] at e; simp at e
  | false =>
    rw [hb] at e
    simp only [cond_false] at e
    have hb' := of_decide_eq_false hb
    cases op
    case shl =>
      simp only [Option.some.injEq] at e
      subst e
      exact ⟨_, by simp only [binOp, Op.shift, if_neg hb', Sem.run_pure], rfl⟩
    case shr =>
      simp only [Option.some.injEq] at e
      subst e
      exact ⟨_, by simp only [binOp, Op.shift, if_neg hb', Sem.run_pure], rfl⟩
    all_goals simp at e

/-- strings -/
theorem bytesOf_length (s : ByteArray) : (bytesOf s).length = s.size := by unfold bytesOf; rw [List.length_map, Array.length_toList]; rfl
theorem toList_loop (s : ByteArray) : s.toList = s.data.toList := Lib.toList_data s
theorem bEq_iff : ∀ {a b : List Nat}, bEq a b = true ↔ a = b
  | [], [] => by simp [bEq]
  | [], _ :: _ => by simp [bEq]
  | _ :: _, [] => by simp [bEq]
  | x :: xs, y :: ys => by simp [bEq, bEq_iff (a := xs) (b := ys)]
theorem bEq_str (s t : ByteArray) : bEq (bytesOf s) (bytesOf t) = (s.toList == t.toList) := by
  rw [Bool.eq_iff_iff, bEq_iff, beq_iff_eq, toList_loop, toList_loop]
  unfold bytesOf
  constructor
  · intro h
    exact (List.map_inj_right (fun _ _ h => UInt8.toNat_inj.1 h)).1 h
  · intro h; rw [h]
theorem bLess_str : ∀ (a b : List UInt8), bLess (a.map UInt8.toNat) (b.map UInt8.toNat) = Op.bytesLess a b
  | _, [] => by cases ‹List UInt8› <;> rfl
  | [], _ :: _ => rfl
  | x :: xs, y :: ys => by
    simp only [List.map_cons, bLess, Op.bytesLess, bLess_str xs ys]
    have h1 : Nat.blt x.toNat y.toNat = decide (x < y) := by
      rw [Bool.eq_iff_iff, Nat.blt_eq, decide_eq_true_eq, UInt8.lt_iff_toNat_lt]
    have h2 : Nat.beq x.toNat y.toNat = (x == y) := by
      rw [Bool.eq_iff_iff, beq_iff_eq]
      constructor
      · intro h; exact UInt8.toNat_inj.1 (Nat.eq_of_beq_eq_true h)
      · intro h; rw [h]; exact Nat.beq_refl _
    rw [h1, h2]
theorem sim_strV {op : BinOp} {a b : ByteArray} {x : PV} (e : strV op (bytesOf a) (bytesOf b) = some x) (t : TypeId) :
    ∃ v, (binOp op t (.string a) (.string b)).run P w = .ok v w ∧ VR ρ x v := by
  have hl : bLess (bytesOf a) (bytesOf b) = Op.bytesLess a.toList b.toList := by
    rw [toList_loop, toList_loop]; exact bLess_str _ _
  cases op
  case add =>
    simp only [strV] at e
    cases hb : Nat.ble ((bytesOf a).length + (bytesOf b).length) 9223372036854775807 with
    | false => rw [hb] at e; cases e
    | true =>
      rw [hb] at e
      simp only [cond_true, Option.some.injEq] at e
      subst e
      have hle := Nat.le_of_ble_eq_true hb
      rw [bytesOf_length, bytesOf_length] at hle
      have hmax : ¬ (((a.size + b.size : Nat) : Int) > IntKind.i64.max) := by
        have : IntKind.i64.max = 9223372036854775807 := by decide
        rw [this]; omega
      refine ⟨.string (a ++ b), ?_, a ++ b, rfl, ?_⟩
      · simp only [binOp, Op.stringOp, if_neg hmax, Sem.run_pure]
      · simp [bytesOf, ByteArray.data_append]
  all_goals first
    | (simp [strV] at e; done)
    | (simp only [strV, Option.some.injEq] at e
       subst e
       exact ⟨_, by simp only [binOp, Op.stringOp, Sem.run_pure]; rfl, by rw [bEq_str]; rfl⟩)
    | (simp only [strV, Option.some.injEq] at e
       subst e
       exact ⟨_, by simp only [binOp, Op.stringOp, Sem.run_pure]; rfl, by rw [hl]; rfl⟩)
    | (simp only [strV, Option.some.injEq] at e
       subst e
       exact ⟨_, by simp only [binOp, Op.stringOp, Sem.run_pure]; rfl, by rw [hl, bEq_str]; rfl⟩)
end
end Go.Pe
