/- Slicing, appending, copying, converting, maps: the evaluation's step is the world's. -/
import Derived.Test.YthpmkcmeoadaaaaGreatDoorQeX
import Derived.Laws.AppendOwn
import Derived.Laws.BytesString
namespace Go.Pe
open HM
variable {G : T PO}
set_option linter.unusedVariables false
set_option linter.unusedSimpArgs false

section
variable {ρ : Emb G} {P : Program} {h : H} {w w' : World}
theorem natIx_some {v : PV} {n : Nat} (h : natIx v = some n) : ∃ k, v = .i k (Int.ofNat n) := by
  unfold natIx at h
  split at h
  · simp only [Option.some.injEq] at h; subst h; exact ⟨_, rfl⟩
  · simp at h
theorem run_sliceBound {k : IntKind} {n y : Nat} {code : BoundsCode} (h : n ≤ y) : (Instr.sliceBound (.int k (Int.ofNat n)) y code).run P w = .ok n w := by
  have : 0 ≤ Int.ofNat n ∧ Int.ofNat n ≤ (y : Int) := ⟨Int.natCast_nonneg _, Int.ofNat_le.2 h⟩
  simp only [Instr.sliceBound, asIntOf, Sem.run_bind, Sem.run_pure, Result.andThen_ok, if_pos this]
  rfl
theorem bytesOf_extract (s : ByteArray) (l h : Nat) : bytesOf (s.extract l h) = ((bytesOf s).take h).drop l := by
  unfold bytesOf
  rw [ByteArray.data_extract, Array.toList_extract, List.extract_eq_take_drop, ← List.map_take, ← List.map_drop, ← List.drop_take]
/-- an optional bound -/
def BR (re : Operand → Value) (o : Option Operand) (n : Option Nat) : Prop := (o = none ∧ n = none) ∨ ∃ x k m, o = some x ∧ n = some m ∧ re x = .int k (Int.ofNat m)
theorem optO_some {ev : Operand → Option PV} {re : Operand → Value} (hev : ∀ x v, ev x = some v → VR ρ v (re x)) {o : Option Operand} {n : Option Nat} (e : optO (fun x => (ev x).bind natIx) o = some n) : BR re o n := by
  cases o with
  | none => simp only [optO, Option.some.injEq] at e; exact .inl ⟨rfl, e.symm⟩
  | some x =>
    simp only [optO] at e
    cases hx : ev x with
    | none => rw [hx] at e; simp at e
    | some v =>
      rw [hx] at e
      simp only [Option.bind_some] at e
      cases hn : natIx v with
      | none => rw [hn] at e; simp at e
      | some m =>
        rw [hn] at e
        simp only [Option.some.injEq] at e
        obtain ⟨k, rfl⟩ := natIx_some hn
        exact .inr ⟨x, k, m, rfl, e.symm, hev _ _ hx⟩
theorem run_sliceBounds {re : Operand → Value} {lo hi : Option Nat} {olo ohi : Option Operand} (hl : BR re olo lo) (hh : BR re ohi hi) (b : Bool) {len cap : Nat} (h1 : lo.getD 0 ≤ hi.getD len) (h2 : hi.getD len ≤ cap) :
    (Instr.sliceBounds b len cap (olo.map re) (ohi.map re) none).run P w = .ok (lo.getD 0, hi.getD len, cap) w := by
  unfold Instr.sliceBounds
  rcases hl with ⟨rfl, rfl⟩ | ⟨x, k, m, rfl, rfl, hxv⟩ <;> rcases hh with ⟨rfl, rfl⟩ | ⟨x', k', m', rfl, rfl, hxv'⟩ <;>
    simp only [Option.getD_none, Option.getD_some] at h1 h2 <;>
    simp only [Option.map_none, Option.map_some, Sem.run_bind, Sem.run_pure, Result.andThen_ok, *, run_sliceBound h1, run_sliceBound h2, Option.getD_none, Option.getD_some]
theorem run_sliceBounds3 {re : Operand → Value} {lo : Option Nat} {olo : Option Operand} (hl : BR re olo lo) {k k' : IntKind} {len cap hi m : Nat} (h1 : lo.getD 0 ≤ hi) (h2 : hi ≤ m) (h3 : m ≤ cap) :
    (Instr.sliceBounds true len cap (olo.map re) (some (.int k (Int.ofNat hi))) (some (.int k' (Int.ofNat m)))).run P w = .ok (lo.getD 0, hi, m) w := by
  unfold Instr.sliceBounds
  rcases hl with ⟨rfl, rfl⟩ | ⟨x, k, m, rfl, rfl, hxv⟩ <;>
    simp only [Option.getD_none, Option.getD_some] at h1 <;>
    simp only [Option.map_none, Option.map_some, Sem.run_bind, Sem.run_pure, Result.andThen_ok, *, run_sliceBound h1, run_sliceBound h2, run_sliceBound h3, Option.getD_none, Option.getD_some]
/-- slicing -/
theorem sim_sliceV {t : TypeId} {x r : PV} {lo hi mx : Option Nat} {re : Operand → Value} {vx : Value} {olo ohi omx : Option Operand} (e : sliceV P t x lo hi mx = some r) (hx : VR ρ x vx)
    (hl : BR re olo lo) (hh : BR re ohi hi) (hm : BR re omx mx) : ∃ v, (Instr.sliceAt t vx (olo.map re) (ohi.map re) (omx.map re)).run P w = .ok v w ∧ VR ρ r v := by
  unfold sliceV at e
  split at e
  · rename_i s hu
    split at e
    · simp at e
    · obtain ⟨bs, rfl, rfl⟩ := hx
      rcases hm with ⟨rfl, _⟩ | ⟨_, _, _, _, hc, _⟩
      · cases hc : (Nat.ble (lo.getD 0) (hi.getD (bytesOf bs).length) && Nat.ble (hi.getD (bytesOf bs).length) (bytesOf bs).length) with
        | false => simp only [hc, cond_false] at e; cases e
        | true =>
          simp only [hc, cond_true, Option.some.injEq] at e
          subst e
          simp only [Bool.and_eq_true] at hc
          have h1 := Nat.le_of_ble_eq_true hc.1
          have h2 := Nat.le_of_ble_eq_true hc.2
          rw [bytesOf_length] at h1 h2
          refine ⟨.string (bs.extract (lo.getD 0) (hi.getD bs.size)), ?_, _, rfl, by rw [bytesOf_extract, bytesOf_length]⟩
          have hb := run_sliceBounds (P := P) (w := w) hl hh false h1 h2
          simp only [Instr.sliceAt, Sem.run_bind, run_underlying hu, Result.andThen_ok, Instr.slice, Option.map_none, Option.isSome_none, Bool.false_eq_true, if_false, hb, Sem.run_pure]
      · cases hc
  · rename_i el b o n z tg hu
    cases hz : szOf P el with
    | none => rw [hz] at e; simp at e
    | some z' =>
      rw [hz] at e
      simp only at e
      obtain ⟨a, cap, rfl, hcap, htg, hadr⟩ := hx
      have hzz : Nat.beq z z' = true := by
        cases hq : Nat.beq z z' with
        | true => rfl
        | false => rw [hq] at e; cases e
      rw [hzz] at e
      simp only [cond_true] at e
      obtain rfl := Nat.eq_of_beq_eq_true hzz
      have addr_ok : ∀ {l c : Nat}, l + c ≤ cap → 0 < c → ∃ c' d m, ρ b = some (c', d, m) ∧ a.add (l * z) = ⟨c', d + (o + l * z), none⟩ ∧ d + (o + l * z) + c * z ≤ m := fun {l c} h1 h2 => by
        obtain ⟨c', d, m, hρ, ha, hm'⟩ := hadr (by omega)
        refine ⟨c', d, m, hρ, ?_, ?_⟩
        · rw [ha]
          unfold Addr.add
          split
          · rename_i h0; rw [h0]; simp
          · simp; omega
        · have : (l + c) * z ≤ cap * z := Nat.mul_le_mul_right _ h1
          rw [Nat.add_mul] at this
          omega
      cases mx with
      | none =>
        simp only at e
        rcases hm with ⟨rfl, _⟩ | ⟨_, _, _, _, hc, _⟩
        · cases hc : (Nat.ble (lo.getD 0) (hi.getD n) && Nat.ble (hi.getD n) n) with
          | false => rw [hc] at e; cases e
          | true =>
            rw [hc] at e
            simp only [cond_true, Option.some.injEq] at e
            subst e
            simp only [Bool.and_eq_true] at hc
            have h1 := Nat.le_of_ble_eq_true hc.1
            have h2 := Nat.le_of_ble_eq_true hc.2
            have hb := run_sliceBounds (P := P) (w := w) hl hh true h1 (show hi.getD n ≤ cap by omega)
            refine ⟨.slice (if cap = lo.getD 0 then some a else some (a.add (lo.getD 0 * z))) (hi.getD n - lo.getD 0) (cap - lo.getD 0), ?_, ?_⟩
            · simp only [Instr.sliceAt, Sem.run_bind, run_underlying hu, Result.andThen_ok, Instr.slice, Option.map_none, hb, run_sizeOf hz, Sem.run_pure, Option.map_some]
            · by_cases hcl : cap = lo.getD 0
              · rw [if_pos hcl]
                refine ⟨a, _, rfl, by omega, fun ht => ?_, fun h0 => by omega⟩
                simp only [Bool.and_eq_true] at ht
                have := Nat.eq_of_beq_eq_true ht.2
                have := htg ht.1
                omega
              · rw [if_neg hcl]
                refine ⟨a.add (lo.getD 0 * z), _, rfl, by omega, fun ht => ?_, fun h0 => addr_ok (by omega) h0⟩
                simp only [Bool.and_eq_true] at ht
                have := Nat.eq_of_beq_eq_true ht.2
                have := htg ht.1
                omega
        · cases hc
      | some m =>
        simp only at e
        cases hi with
        | none => simp at e
        | some h' =>
          simp only at e
          rcases hm with ⟨_, hc⟩ | ⟨xm, km, mm, rfl, hmm, hxm⟩
          · cases hc
          · simp only [Option.some.injEq] at hmm
            subst hmm
            rcases hh with ⟨_, hc⟩ | ⟨xh, kh, mh, rfl, hmh, hxh⟩
            · cases hc
            · simp only [Option.some.injEq] at hmh
              subst hmh
              cases hc : (Nat.ble (lo.getD 0) h' && Nat.ble h' m && Nat.ble m n) with
              | false => rw [hc] at e; cases e
              | true =>
                rw [hc] at e
                simp only [cond_true, Option.some.injEq] at e
                subst e
                simp only [Bool.and_eq_true] at hc
                have h1 := Nat.le_of_ble_eq_true hc.1.1
                have h2 := Nat.le_of_ble_eq_true hc.1.2
                have h3 := Nat.le_of_ble_eq_true hc.2
                have hb : (Instr.sliceBounds true n cap (olo.map re) (some (re xh)) (some (re xm))).run P w = .ok (lo.getD 0, h', m) w := by
                  rw [hxh, hxm]; exact run_sliceBounds3 hl h1 h2 (by omega)
                refine ⟨.slice (if m = lo.getD 0 then some a else some (a.add (lo.getD 0 * z))) (h' - lo.getD 0) (m - lo.getD 0), ?_, ?_⟩
                · simp only [Instr.sliceAt, Sem.run_bind, run_underlying hu, Result.andThen_ok, Instr.slice, Option.map_some, hb, run_sizeOf hz, Sem.run_pure]
                · by_cases hcl : m = lo.getD 0
                  · rw [if_pos hcl]
                    exact ⟨a, _, rfl, by omega, fun ht => by have := Nat.eq_of_beq_eq_true ht; omega, fun h0 => by omega⟩
                  · rw [if_neg hcl]
                    exact ⟨a.add (lo.getD 0 * z), _, rfl, by omega, fun ht => by have := Nat.eq_of_beq_eq_true ht; omega, fun h0 => addr_ok (by omega) h0⟩
  · rename_i el nb z es hu
    split at e
    · rename_i z' hz
      rcases hm with ⟨rfl, _⟩ | ⟨_, _, _, _, hc, _⟩
      · cases hc : ((nb || Nat.beq z z') && Nat.ble (lo.getD 0) (hi.getD es.length) && Nat.ble (hi.getD es.length) es.length) with
        | false => simp only [hc, cond_false] at e; cases e
        | true =>
          simp only [hc, cond_true, Option.some.injEq] at e
          subst e
          simp only [Bool.and_eq_true] at hc
          have h1 := Nat.le_of_ble_eq_true hc.1.2
          have h2 := Nat.le_of_ble_eq_true hc.2
          rcases hx with ⟨rfl, rfl, rfl⟩ | ⟨rfl, a, cap, rfl, hcap, hadr⟩
          · simp only [List.length_nil] at h1 h2
            have hb := run_sliceBounds (P := P) (w := w) hl hh true (len := 0) (cap := 0) h1 h2
            have e1 : hi.getD 0 = 0 := by omega
            have e2 : lo.getD 0 = 0 := by omega
            refine ⟨.slice none 0 0, ?_, .inl ⟨rfl, by simp, rfl⟩⟩
            rw [e1, e2] at hb
            simp only [Instr.sliceAt, Sem.run_bind, run_underlying hu, Result.andThen_ok, Instr.slice, Option.map_none, hb, run_sizeOf hz, Sem.run_pure, if_true, Nat.sub_self]
          have hzz := hc.1.1
          simp only [Bool.false_or] at hzz
          obtain rfl := Nat.eq_of_beq_eq_true hzz
          have hb := run_sliceBounds (P := P) (w := w) hl hh true h1 (show hi.getD es.length ≤ cap by omega)
          have hlen : ((es.take (hi.getD es.length)).drop (lo.getD 0)).length = hi.getD es.length - lo.getD 0 := by simp; omega
          refine ⟨.slice (if cap = lo.getD 0 then some a else some (a.add (lo.getD 0 * z))) (hi.getD es.length - lo.getD 0) (cap - lo.getD 0), ?_, ?_⟩
          · simp only [Instr.sliceAt, Sem.run_bind, run_underlying hu, Result.andThen_ok, Instr.slice, Option.map_none, hb, run_sizeOf hz, Sem.run_pure, Option.map_some]
          · by_cases hcl : cap = lo.getD 0
            · rw [if_pos hcl]
              refine .inr ⟨rfl, a, _, by rw [hlen], by omega, fun hne => absurd (List.length_eq_zero_iff.1 (by omega)) hne⟩
            · rw [if_neg hcl]
              refine .inr ⟨rfl, a.add (lo.getD 0 * z), _, by rw [hlen], by omega, fun hne => ?_⟩
              obtain ⟨c, d, vs, f1, rfl, f2⟩ := hadr (fun h0 => hne (by rw [h0]; simp))
              refine ⟨c, d + lo.getD 0 * z, vs, f1, ?_, f2.take.drop⟩
              unfold Addr.add
              split
              · rename_i h0; rw [h0]; simp
              · simp
      · cases hc
    · rename_i z' m hz
      cases hi with
      | none => simp at e
      | some h' =>
        simp only at e
        rcases hm with ⟨_, hc⟩ | ⟨xm, km, mm, rfl, hmm, hxm⟩
        · cases hc
        · simp only [Option.some.injEq] at hmm
          subst hmm
          rcases hh with ⟨_, hc⟩ | ⟨xh, kh, mh, rfl, hmh, hxh⟩
          · cases hc
          · simp only [Option.some.injEq] at hmh
            subst hmh
            cases hc : ((nb || Nat.beq z z') && Nat.beq (lo.getD 0) h' && Nat.beq h' m && Nat.ble h' es.length) with
            | false => rw [hc] at e; cases e
            | true =>
              rw [hc] at e
              simp only [cond_true, Option.some.injEq] at e
              simp only [Bool.and_eq_true] at hc
              have h1 := Nat.eq_of_beq_eq_true hc.1.1.2
              have h2 := Nat.eq_of_beq_eq_true hc.1.2
              have h3 := Nat.le_of_ble_eq_true hc.2
              subst h2
              rcases hx with ⟨rfl, rfl, rfl⟩ | ⟨rfl, a, cap, rfl, hcap, hadr⟩
              · simp only [cond_true] at e
                subst e
                simp only [List.length_nil] at h3
                obtain rfl : h' = 0 := by omega
                have hb : (Instr.sliceBounds true 0 0 (olo.map re) (some (re xh)) (some (re xm))).run P w = .ok (lo.getD 0, 0, 0) w := by
                  rw [hxh, hxm]; exact run_sliceBounds3 hl (by omega) (by omega) (by omega)
                refine ⟨.slice none 0 0, ?_, .inl ⟨rfl, rfl, rfl⟩⟩
                rw [h1] at hb
                simp only [Instr.sliceAt, Sem.run_bind, run_underlying hu, Result.andThen_ok, Instr.slice, Option.map_some, hb, run_sizeOf hz, Sem.run_pure, if_true, Nat.sub_self]
              · simp only [cond_false] at e
                subst e
                have hb : (Instr.sliceBounds true es.length cap (olo.map re) (some (re xh)) (some (re xm))).run P w = .ok (lo.getD 0, h', h') w := by
                  rw [hxh, hxm]; exact run_sliceBounds3 hl (by omega) (by omega) (by omega)
                refine ⟨.slice (some a) 0 0, ?_, a, 0, rfl, by omega, fun _ => rfl, fun h => by omega⟩
                rw [h1] at hb
                simp only [Instr.sliceAt, Sem.run_bind, run_underlying hu, Result.andThen_ok, Instr.slice, Option.map_some, hb, run_sizeOf hz, Sem.run_pure, if_true, Nat.sub_self]
    · simp at e
  · simp at e
end
end Go.Pe
