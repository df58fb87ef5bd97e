/- The operations that look at nothing but their operands. -/
import Derived.Test.YthpmkcmeoadaaaaGreatDoorQeS
import Derived.Laws.World
namespace Go.Pe
open HM
variable {G : T PO}
set_option linter.unusedVariables false
set_option linter.unusedSimpArgs false

section
variable {P : Program} {w : World}
theorem run_typeInfo {t : TypeId} {i : TypeInfo} (h : P.info? t = some i) : (typeInfo t).run P w = .ok i w := by simp [typeInfo, h]
theorem szOf_some {t : TypeId} {n : Nat} (h : szOf P t = some n) : ∃ i, P.info? t = some i ∧ i.size = n := by
  unfold szOf at h
  cases hi : P.info? t with
  | none => rw [hi] at h; simp at h
  | some i => rw [hi] at h; simp only [Option.some.injEq] at h; exact ⟨i, rfl, h⟩
theorem bytesT_some {t : TypeId} {n : Nat} (h : bytesT P t = some n) : ∃ i, P.info? t = some i ∧ i.bytes = n := by
  unfold bytesT at h
  cases hi : P.info? t with
  | none => rw [hi] at h; simp at h
  | some i => rw [hi] at h; simp only [Option.some.injEq] at h; exact ⟨i, rfl, h⟩
theorem run_sizeOf {t : TypeId} {n : Nat} (h : szOf P t = some n) : (sizeOf t).run P w = .ok n w := by
  obtain ⟨i, hi, rfl⟩ := szOf_some h
  simp [sizeOf, run_typeInfo hi]
theorem elemT_some {t e : TypeId} (h : elemT P t = some e) : P.underlying t = some (.slice e) := by
  unfold elemT at h
  split at h
  · rename_i e' he
    simp only [Option.some.injEq] at h
    rw [he, h]
  · simp at h
theorem run_isAgg {t : TypeId} {b : Bool} (h : isAg P t = some b) : (isAgg t).run P w = .ok b w := by
  unfold isAg at h
  cases hu : P.underlying t with
  | none => rw [hu] at h; simp at h
  | some d =>
    rw [hu] at h
    simp only [isAgg, Sem.run_bind, run_underlying hu, Result.andThen_ok]
    cases d <;> simp only [Option.some.injEq] at h <;> subst h <;> rfl
theorem zeroOf_some {t : TypeId} {l : List PV} (h : zeroOf P t = some l) : ∃ i v, P.info? t = some i ∧ i.zero = some v ∧ mapO ofV1 v.cells.toList = some l := by
  unfold zeroOf at h
  cases hi : P.info? t with
  | none => rw [hi] at h; simp at h
  | some i =>
    rw [hi] at h
    simp only at h
    cases hz : i.zero with
    | none => rw [hz] at h; simp at h
    | some v => rw [hz] at h; exact ⟨i, v, rfl, hz, h⟩
theorem run_zeroValue {t : TypeId} {i : TypeInfo} {v : Value} (hi : P.info? t = some i) (hz : i.zero = some v) : (zeroValue t).run P w = .ok v w := by
  simp [zeroValue, run_typeInfo hi, hz]
theorem fieldOf_some {t : TypeId} {f : Nat} {g : Field} (h : fieldOf P t f = some g) : ∃ fs, P.underlying t = some (.struct fs) ∧ fs[f]? = some g := by
  unfold fieldOf at h
  split at h
  · rename_i fs hfs; exact ⟨fs, hfs, h⟩
  · simp at h
end

section
variable {ρ : Emb G} {P : Program} {w : World}
theorem VRs.drop : ∀ {n : Nat} {l : List PV} {vs : List Value}, VRs ρ l vs → VRs ρ (l.drop n) (vs.drop n)
  | 0, _, _, h => h
  | n + 1, [], vs, h => by rw [show vs = [] from h]; rfl
  | n + 1, x :: l, vs, ⟨y, ys, e, _, hs⟩ => by rw [e]; exact VRs.drop (n := n) hs
theorem VRs.take : ∀ {n : Nat} {l : List PV} {vs : List Value}, VRs ρ l vs → VRs ρ (l.take n) (vs.take n)
  | 0, _, _, h => rfl
  | n + 1, [], vs, h => by rw [show vs = [] from h]; rfl
  | n + 1, x :: l, vs, ⟨y, ys, e, h, hs⟩ => by rw [e]; exact VRs.cons h (VRs.take (n := n) hs)
theorem takeX_take : ∀ {n : Nat} {l r : List PV}, takeX n l = some r → r = l.take n ∧ n ≤ l.length
  | 0, l, r, e => by simp only [takeX, Option.some.injEq] at e; subst e; exact ⟨by simp, by omega⟩
  | n + 1, [], r, e => by simp [takeX] at e
  | n + 1, x :: xs, r, e => by
    simp only [takeX] at e
    cases h1 : takeX n xs with
    | none => rw [h1] at e; simp at e
    | some q =>
      rw [h1] at e
      simp only [Option.some.injEq] at e
      subst e
      obtain ⟨a, b⟩ := takeX_take h1
      exact ⟨by rw [a]; rfl, by simp; omega⟩
/-- a part of a struct or an array -/
theorem sim_partV {t : TypeId} {c : List PV} {o : Nat} {x : PV} {vs : List Value} (hc : VRs ρ c vs) (e : partV P t c o = some x) :
    ∃ v, (part t vs.toArray o).run P w = .ok v w ∧ VR ρ x v := by
  unfold partV at e
  cases ha : isAg P t with
  | none => rw [ha] at e; simp at e
  | some b =>
    rw [ha] at e
    cases b with
    | true =>
      simp only at e
      cases hz : szOf P t with
      | none => rw [hz] at e; simp at e
      | some n =>
        rw [hz] at e
        simp only at e
        cases ht : takeX n (c.drop o) with
        | none => rw [ht] at e; simp at e
        | some l =>
          rw [ht] at e
          simp only [Option.some.injEq] at e
          subst e
          obtain ⟨rfl, hn⟩ := takeX_take ht
          refine ⟨.agg (vs.toArray.extract o (o + n)), by simp [part, run_isAgg ha, run_sizeOf hz], (vs.drop o).take n, ?_, hc.drop.take⟩
          congr 1
          simp [List.drop_take]
    | false =>
      simp only at e
      obtain ⟨v, hv, hr⟩ := hc.get e
      exact ⟨v, by simp [part, run_isAgg ha, hv], hr⟩

/-- filling a struct or an array with parts -/
theorem zip_fold (off : Nat) : ∀ (l : List Value) (k : Nat) (cs : Array Value), off + k + l.length ≤ cs.size →
    (((l.zipIdx k).foldl (fun cs (x : Value × Nat) => cs.setIfInBounds (off + x.2) x.1) cs).size = cs.size) ∧
    ∀ (i : Nat), ((l.zipIdx k).foldl (fun cs (x : Value × Nat) => cs.setIfInBounds (off + x.2) x.1) cs)[i]? = if off + k ≤ i ∧ i < off + k + l.length then l[i - (off + k)]? else cs[i]?
  | [], k, cs, _ => ⟨rfl, fun i => by rw [if_neg (by simp only [List.length_nil]; omega)]; rfl⟩
  | v :: l, k, cs, h => by
    simp only [List.zipIdx_cons, List.foldl_cons, List.length_cons] at h ⊢
    obtain ⟨h1, h2⟩ := zip_fold off l (k + 1) (cs.setIfInBounds (off + k) v) (by simp; omega)
    refine ⟨by rw [h1]; simp, fun i => ?_⟩
    rw [h2 i]
    by_cases hi : i = off + k
    · subst hi
      rw [if_neg (by omega), if_pos (by omega)]
      simp [show off + k < cs.size by omega]
    · by_cases hc : off + (k + 1) ≤ i ∧ i < off + (k + 1) + l.length
      · rw [if_pos hc, if_pos (by omega), show i - (off + k) = (i - (off + (k + 1))) + 1 by omega, List.getElem?_cons_succ]
      · rw [if_neg hc, if_neg (by omega), Array.getElem?_setIfInBounds_ne (by omega)]
theorem sim_fillL {place : Nat → Option (Nat × Nat)} : ∀ {parts : List (Nat × PV)} {c r : List PV} {cs : List Value} {rparts : List (Nat × Value)},
    fillL place c parts = some r → VRs ρ c cs → c.all PV.one = true → rparts.map (·.1) = parts.map (·.1) → VRs ρ (parts.map (·.2)) (rparts.map (·.2)) →
    ∃ rs : List Value, Instr.fill place cs.toArray rparts = some rs.toArray ∧ VRs ρ r rs ∧ r.all PV.one = true ∧ r.length = c.length
  | [], c, r, cs, rparts, e, hc, h1, hm, _ => by
    simp only [fillL, Option.some.injEq] at e
    subst e
    have : rparts = [] := by simpa using hm
    subst this
    exact ⟨cs, rfl, hc, h1, rfl⟩
  | (i, v) :: rest, c, r, cs, rparts, e, hc, h1, hm, hp => by
    simp only [fillL] at e
    cases rparts with
    | nil => simp at hm
    | cons q rrest =>
      obtain ⟨j, rv⟩ := q
      simp only [List.map_cons, List.cons.injEq] at hm
      obtain ⟨rfl, hm⟩ := hm
      obtain ⟨y, ys, hy, hv, hs⟩ := hp
      simp only [List.map_cons, List.cons.injEq] at hy
      obtain ⟨rfl, rfl⟩ := hy
      cases hpl : place j with
      | none => rw [hpl] at e; simp at e
      | some on =>
        obtain ⟨off, n⟩ := on
        rw [hpl] at e
        simp only at e
        cases hcond : (Nat.beq v.cells.length n && v.cells.all PV.one) with
        | false => rw [hcond] at e; simp at e
        | true =>
          rw [hcond] at e
          simp only [cond_true] at e
          simp only [Bool.and_eq_true] at hcond
          have hn := Nat.eq_of_beq_eq_true hcond.1
          cases hput : putL v.cells off c with
          | none => rw [hput] at e; simp at e
          | some c' =>
            rw [hput] at e
            simp only at e
            obtain ⟨p1, p2, p3⟩ := putL_get hput
            have hvc := hv.cells
            have hlen : rv.cells.toList.length = v.cells.length := hvc.length
            have hcl := hc.length
            have hz := zip_fold off rv.cells.toList 0 cs.toArray (by simp at *; omega)
            generalize hcs' : (rv.cells.toList.zipIdx 0).foldl (fun cs (x : Value × Nat) => cs.setIfInBounds (off + x.2) x.1) cs.toArray = cs' at hz
            have hvr : VRs ρ c' cs'.toList := by
              refine VRs.of_get (by have := hz.1; simp at this ⊢; omega) fun k x u hx hu => ?_
              rw [p3 k] at hx
              rw [Array.getElem?_toList, hz.2 k] at hu
              by_cases hk : off ≤ k ∧ k < off + v.cells.length
              · rw [if_pos hk] at hx
                rw [if_pos (by omega)] at hu
                obtain ⟨u', hu', hr⟩ := hvc.get hx
                rw [show k - (off + 0) = k - off by omega, hu'] at hu
                simp only [Option.some.injEq] at hu
                rw [← hu]; exact hr
              · rw [if_neg hk] at hx
                rw [if_neg (by omega)] at hu
                obtain ⟨u', hu', hr⟩ := hc.get hx
                have hu'' : cs.toArray[k]? = some u' := by simpa using hu'
                rw [hu''] at hu
                simp only [Option.some.injEq] at hu
                rw [← hu]; exact hr
            have hone : c'.all PV.one = true := by
              rw [List.all_eq_true]
              intro x hx
              obtain ⟨k, hk⟩ := List.getElem?_of_mem hx
              rw [p3 k] at hk
              split at hk
              · exact List.all_eq_true.1 hcond.2 x (List.mem_of_getElem? hk)
              · exact List.all_eq_true.1 h1 x (List.mem_of_getElem? hk)
            obtain ⟨rs, f1, f2, f3, f4⟩ := sim_fillL (cs := cs'.toList) (rparts := rrest) e hvr hone hm hs
            refine ⟨rs, ?_, f2, f3, by rw [f4, p1]⟩
            simp only [Instr.fill, hpl]
            rw [if_neg (by simp at *; omega)]
            have hfold : Array.foldl (fun cs (x : Value × Nat) => cs.setIfInBounds (off + x.2) x.1) cs.toArray rv.cells.zipIdx = cs' := by
              rw [← hcs', ← Array.foldl_toList, Array.toList_zipIdx]
            rw [show Array.foldl (fun cs (x : Value × Nat) => match x with | (c, j) => cs.setIfInBounds (off + j) c) cs.toArray rv.cells.zipIdx = cs' from hfold]
            have : cs'.toList.toArray = cs' := by simp
            rw [← this]
            exact f1
theorem partsO_some {ev : Operand → Option PV} {re : Operand → Value} (hev : ∀ x v, ev x = some v → VR ρ v (re x)) : ∀ {ps : List (Nat × Operand)} {l : List (Nat × PV)}, partsO ev ps = some l →
    (ps.map fun x => (x.1, re x.2)).map (·.1) = l.map (·.1) ∧ VRs ρ (l.map (·.2)) ((ps.map fun x => (x.1, re x.2)).map (·.2))
  | [], l, e => by simp only [partsO, mapO, Option.some.injEq] at e; subst e; exact ⟨rfl, rfl⟩
  | (i, x) :: ps, l, e => by
    simp only [partsO, mapO, partF] at e
    cases hx : ev x with
    | none => rw [hx] at e; simp at e
    | some v =>
      rw [hx] at e
      simp only at e
      cases hm : mapO (partF ev) ps with
      | none => rw [hm] at e; simp at e
      | some l' =>
        rw [hm] at e
        simp only [Option.some.injEq] at e
        subst e
        obtain ⟨a, b⟩ := partsO_some hev (ps := ps) (l := l') hm
        exact ⟨by simp only [List.map_cons, a], VRs.cons (hev _ _ hx) b⟩
theorem vrs_mapO {ev : Operand → Option PV} {re : Operand → Value} (hev : ∀ x v, ev x = some v → VR ρ v (re x)) : ∀ {xs : List Operand} {l : List PV}, mapO ev xs = some l → VRs ρ l (xs.map re)
  | [], l, e => by simp only [mapO, Option.some.injEq] at e; subst e; rfl
  | x :: xs, l, e => by
    simp only [mapO] at e
    cases hx : ev x with
    | none => rw [hx] at e; simp at e
    | some v =>
      rw [hx] at e
      simp only at e
      cases hm : mapO ev xs with
      | none => rw [hm] at e; simp at e
      | some l' =>
        rw [hm] at e
        simp only [Option.some.injEq] at e
        subst e
        exact VRs.cons (hev _ _ hx) (vrs_mapO hev hm)
end
end Go.Pe
