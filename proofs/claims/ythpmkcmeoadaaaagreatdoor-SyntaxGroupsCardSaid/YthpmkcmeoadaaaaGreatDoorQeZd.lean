/- Each operation: the evaluation's step is the world's. -/
import Derived.Test.YthpmkcmeoadaaaaGreatDoorQeZc
namespace Go.Pe
open HM
variable {G : T PO}
set_option linter.unusedVariables false
set_option linter.unusedSimpArgs false

section
variable {ρ ρ' : Emb G} {P : Program} {h : H} {w w' : World}
/-- what an operation yields for its slot -/
def NV (nx : Next) (rv : Value) : Prop := nx = .value rv ∨ (nx = .skip ∧ rv = undef)
def Sim1 (P : Program) (re : Operand → Value) (o : Oper) (id : Nat) (ρ : Emb G) (h : H) (w : World) (v : PV) (h' : H) : Prop :=
  ∃ ρ' w' nx rv, (execOp re o).run P w = .ok nx w' ∧ NV nx rv ∧ VR ρ' v rv ∧ Rel ρ' h' w' ∧ Stp (fun b => b = id) ρ h w ρ' h' w'
theorem Sim1.pure {re : Operand → Value} {o : Oper} {id : Nat} {v : PV} {rv : Value} (hr : Rel ρ h w) (hrun : (execOp re o).run P w = .ok (.value rv) w) (hv : VR ρ v rv) : Sim1 P re o id ρ h w v h :=
  ⟨ρ, w, _, rv, hrun, .inl rfl, hv, hr, Stp.refl _ _ _ _⟩
theorem sim_rowX {z i o n c d : Nat} {es l : List PV} {vs : Array Value} (hr : Rel ρ h w) (hf : ρ.fz c = some vs) (hl : FRl ρ.fz z vs es d) (e : rowX es i o n = some l) :
    l.length = n ∧ ∃ us : List Value, VRs ρ l us ∧ ∀ (j : Nat) v, us[j]? = some v → w.cell? ((⟨c, d + i * z + o, none⟩ : Addr).add j) = some v := by
  unfold rowX at e
  cases he : es[i]? with
  | none => rw [he] at e; simp at e
  | some x =>
    rw [he] at e
    simp only at e
    obtain ⟨u, h1, h2, h3, h4⟩ := hl.get he
    obtain ⟨rfl, hn⟩ := takeX_take e
    refine ⟨by simp at hn ⊢; omega, (u.cells.toList.drop o).take n, (h1.cells.vr (ρ := ρ)).drop.take, fun j v hj => ?_⟩
    obtain ⟨⟨et', fz', hh⟩, _⟩ := hr.fzok c vs hf
    have hadd : (⟨c, d + i * z + o, none⟩ : Addr).add j = ⟨c, d + i * z + o + j, none⟩ := by unfold Addr.add; split <;> simp_all
    rw [hadd]
    simp only [World.cell?, hh, Option.isSome_none, Bool.false_eq_true, if_false]
    have hjn : j < n := by
      rcases Nat.lt_or_ge j n with h1 | h1
      · exact h1
      · rw [List.getElem?_eq_none (by simp; omega)] at hj; simp at hj
    rw [List.getElem?_take_of_lt hjn, List.getElem?_drop] at hj
    rw [Nat.add_assoc]
    exact h4 (o + j) v (by simpa using hj)
theorem sim_ldT {t : TypeId} {a v : PV} {h' : H} {va : Value} (hr : Rel ρ h w) (e : ldT P t a h = some (v, h')) (ha : VR ρ a va) : h' = h ∧ ∃ rv, (Instr.loadAt t va).run P w = .ok rv w ∧ VR ρ v rv := by
  unfold ldT at e
  cases a
  case p b o =>
    simp only at e
    obtain ⟨c, d, m, hρ, rfl⟩ := ha
    cases hi : isAg P t with
    | none => rw [hi] at e; exact (no_some e).elim
    | some ag =>
      rw [hi] at e
      cases ag with
      | true =>
        simp only at e
        cases hz : szOf P t with
        | none => rw [hz] at e; exact (no_some e).elim
        | some n =>
          rw [hz] at e
          simp only at e
          obtain ⟨l, h1, e1, e2⟩ := bnd_some e
          obtain ⟨rfl, rfl⟩ := ret_some e2
          obtain ⟨rfl, hl, _, c', d', m', us, hρ', hvs, hcells⟩ := sim_rdCells hr e1
          rw [hρ] at hρ'
          simp only [Option.some.injEq, Prod.mk.injEq] at hρ'
          obtain ⟨rfl, rfl, rfl⟩ := hρ'
          have hlc := run_loadCells_list (P := P) w ⟨c, d + o, none⟩ us hcells
          rw [hvs.length, hl] at hlc
          refine ⟨rfl, .agg us.toArray, ?_, us, rfl, hvs⟩
          simp [Instr.loadAt, Instr.sureAddr, loadVar, run_isAgg hi, run_sizeOf hz, hlc]
      | false =>
        simp only at e
        obtain ⟨l, h1, e1, e2⟩ := bnd_some e
        obtain ⟨rfl, hl, _, c', d', m', us, hρ', hvs, hcells⟩ := sim_rdCells hr e1
        rw [hρ] at hρ'
        simp only [Option.some.injEq, Prod.mk.injEq] at hρ'
        obtain ⟨rfl, rfl, rfl⟩ := hρ'
        match l, hl, e2, hvs with
        | [x], _, e2, hvs =>
          obtain ⟨rfl, rfl⟩ := ret_some e2
          obtain ⟨y, ys, rfl, hy, hys⟩ := hvs
          have hc := hcells 0 y rfl
          have hadd : (⟨c, d + o, none⟩ : Addr).add 0 = ⟨c, d + o, none⟩ := rfl
          rw [hadd] at hc
          refine ⟨rfl, y, ?_, hy⟩
          simp [Instr.loadAt, Instr.sureAddr, loadVar, run_isAgg hi, hc]
  case fp z es i o =>
    simp only at e
    obtain ⟨c, d, vs, hf, rfl, _, hl⟩ := ha
    cases hi : isAg P t with
    | none => rw [hi] at e; exact (no_some e).elim
    | some ag =>
      rw [hi] at e
      cases ag with
      | true =>
        simp only at e
        cases hz : szOf P t with
        | none => rw [hz] at e; exact (no_some e).elim
        | some n =>
          rw [hz] at e
          simp only at e
          obtain ⟨l, h1, e1, e2⟩ := bnd_some e
          obtain ⟨rfl, rfl⟩ := ret_some e2
          obtain ⟨e3, rfl⟩ := ofO_some e1
          obtain ⟨hlen, us, hvs, hcells⟩ := sim_rowX hr hf hl e3
          have hlc := run_loadCells_list (P := P) w ⟨c, d + i * z + o, none⟩ us hcells
          rw [hvs.length, hlen] at hlc
          refine ⟨rfl, .agg us.toArray, ?_, us, rfl, hvs⟩
          simp [Instr.loadAt, Instr.sureAddr, loadVar, run_isAgg hi, run_sizeOf hz, hlc]
      | false =>
        simp only at e
        obtain ⟨l, h1, e1, e2⟩ := bnd_some e
        obtain ⟨e3, rfl⟩ := ofO_some e1
        obtain ⟨hlen, us, hvs, hcells⟩ := sim_rowX hr hf hl e3
        match l, hlen, e2, hvs with
        | [x], _, e2, hvs =>
          obtain ⟨rfl, rfl⟩ := ret_some e2
          obtain ⟨y, ys, rfl, hy, hys⟩ := hvs
          have hc := hcells 0 y rfl
          have hadd : (⟨c, d + i * z + o, none⟩ : Addr).add 0 = ⟨c, d + i * z + o, none⟩ := rfl
          rw [hadd] at hc
          refine ⟨rfl, y, ?_, hy⟩
          simp [Instr.loadAt, Instr.sureAddr, loadVar, run_isAgg hi, hc]
  all_goals exact (no_some e).elim
theorem sim_stT {t : TypeId} {a x v : PV} {h' : H} {va vx : Value} (hr : Rel ρ h w) (e : stT P t a x h = some (v, h')) (ha : VR ρ a va) (hx : VR ρ x vx) (may : Nat → Prop) :
    v = .tup [] ∧ ∃ w', (Instr.storeAt t va vx).run P w = .ok () w' ∧ Rel ρ h' w' ∧ Stp may ρ h w ρ h' w' := by
  unfold stT at e
  cases a
  case p b o =>
    simp only at e
    obtain ⟨c, d, m, hρ, rfl⟩ := ha
    cases hz : szOf P t with
    | none => rw [hz] at e; exact (no_some e).elim
    | some n =>
      rw [hz] at e
      simp only at e
      obtain ⟨hn, e1⟩ := cond_no e
      have hn' := Nat.eq_of_beq_eq_true hn
      obtain ⟨u, h1, e2, e3⟩ := bnd_some e1
      obtain ⟨rfl, rfl⟩ := ret_some e3
      obtain ⟨c', d', m', hρ', hrun, q1, q2⟩ := sim_wrCells (P := P) hr e2 hx.cells may
      rw [hρ] at hρ'
      simp only [Option.some.injEq, Prod.mk.injEq] at hρ'
      obtain ⟨rfl, rfl, rfl⟩ := hρ'
      refine ⟨rfl, _, ?_, q1, q2⟩
      have hlen : vx.cells.size = n := by have := hx.cells.length; simp at this; omega
      simp only [Instr.storeAt, Instr.sureAddr, storeVar, Sem.run_bind, Sem.run_pure, Result.andThen_ok, run_sizeOf hz, hlen, ne_eq, not_true_eq_false, if_false, hrun]
  all_goals exact (no_some e).elim
theorem run_sizeOf_pos {t : TypeId} {n : Nat} (h : szOf P t = some (n + 1)) (a : Addr) (g : Field) (hg : g.type = t) : (fieldPlace a g).run P w = .ok (a.add g.offset) w := by
  subst hg
  simp [fieldPlace, run_sizeOf h]
theorem run_asInt {k : IntKind} {n : Int} : (asInt (.int k n)).run P w = .ok n w := by simp [asInt, asIntOf]
theorem min_run {v : PV} {l : List PV} {x : PV} {rv : Value} {rl : List Value} (e : minmax (fun y x => decide (y < x)) v l = some x) (hv : VR ρ v rv) (hl : VRs ρ l rl) :
    ∃ r, (rl.foldlM Builtin.min2 rv).run P w = .ok r w ∧ VR ρ x r := by
  induction l generalizing v rv rl with
  | nil => simp only [minmax, Option.some.injEq] at e; subst e; rw [show rl = [] from hl]; exact ⟨rv, rfl, hv⟩
  | cons y ys ih =>
    obtain ⟨z, zs, rfl, hz, hzs⟩ := hl
    cases v <;> try (simp [minmax] at e; done)
    cases y <;> try (simp [minmax] at e; done)
    rename_i k a k' b
    simp only [minmax] at e
    split at e
    · rename_i hk
      subst hk
      obtain ⟨r, h1, h2⟩ := ih (rv := .int k (if b < a then b else a)) e (by
        show Value.int k _ = Value.int k _
        congr 1
        by_cases hh : b < a
        · rw [if_pos hh, decide_eq_true hh]; rfl
        · rw [if_neg hh, decide_eq_false hh]; rfl) hzs
      refine ⟨r, ?_, h2⟩
      subst hv; subst hz
      simp only [List.foldlM_cons, Builtin.min2, Sem.run_bind, Sem.run_pure, Result.andThen_ok]
      exact h1
    · simp at e
theorem max_run {v : PV} {l : List PV} {x : PV} {rv : Value} {rl : List Value} (e : minmax (fun y x => decide (x < y)) v l = some x) (hv : VR ρ v rv) (hl : VRs ρ l rl) :
    ∃ r, (rl.foldlM Builtin.max2 rv).run P w = .ok r w ∧ VR ρ x r := by
  induction l generalizing v rv rl with
  | nil => simp only [minmax, Option.some.injEq] at e; subst e; rw [show rl = [] from hl]; exact ⟨rv, rfl, hv⟩
  | cons y ys ih =>
    obtain ⟨z, zs, rfl, hz, hzs⟩ := hl
    cases v <;> try (simp [minmax] at e; done)
    cases y <;> try (simp [minmax] at e; done)
    rename_i k a k' b
    simp only [minmax] at e
    split at e
    · rename_i hk
      subst hk
      obtain ⟨r, h1, h2⟩ := ih (rv := .int k (if b > a then b else a)) e (by
        show Value.int k _ = Value.int k _
        congr 1
        by_cases hh : a < b
        · rw [if_pos hh, decide_eq_true hh]; rfl
        · rw [if_neg hh, decide_eq_false hh]; rfl) hzs
      refine ⟨r, ?_, h2⟩
      subst hv; subst hz
      simp only [List.foldlM_cons, Builtin.max2, Sem.run_bind, Sem.run_pure, Result.andThen_ok]
      exact h1
    · simp at e

theorem sim_builtinV {b : Builtin} {ts : Array TypeId} {ty id : Nat} {l : List PV} {v : PV} {h' : H} {rl : List Value} {cs : Array Bool} (hr : Rel ρ h w) (hid : id < h.next) (hρ : ρ id = none)
    (e : builtinV P b ts.toList id l h = some (v, h')) (hl : VRs ρ l rl) :
    ∃ ρ' w' rv, (builtin b ts ty cs rl.toArray).run P w = .ok (.value rv) w' ∧ VR ρ' v rv ∧ Rel ρ' h' w' ∧ Stp (fun b => b = id) ρ h w ρ' h' w' := by
  generalize hm : builtinV P b ts.toList id l = mm at e
  unfold builtinV at hm
  split at hm
  · rename_i x t hts
    subst hm
    obtain ⟨y, ys, rfl, hy, hys⟩ := hl
    rw [show ys = [] from hys]
    have hts' : ts = #[t] := by rw [← Array.toArray_toList (xs := ts), hts]
    subst hts'
    obtain ⟨rfl, rv, hrun, hv⟩ := sim_lenV (P := P) (ty := ty) hr e hy
    exact ⟨ρ, w, rv, by simp only [builtin, Sem.run_bind, hrun, Result.andThen_ok, Sem.run_pure], hv, hr, Stp.refl _ _ _ _⟩
  · rename_i s x t t' hts
    obtain ⟨y, ys, rfl, hy, hys⟩ := hl
    obtain ⟨z, zs, rfl, hz, hzs⟩ := hys
    rw [show zs = [] from hzs]
    have hts' : ts = #[t, t'] := by rw [← Array.toArray_toList (xs := ts), hts]
    subst hts'
    cases htx : P.underlying t' with
    | none => rw [htx] at hm; subst hm; exact (no_some e).elim
    | some dx =>
      rw [htx] at hm
      have hdx : ∀ k, dx ≠ .int k := fun k hk => by subst hk; simp only at hm; subst hm; exact no_some e
      have hm' : appendV P t id s x = mm := by
        cases dx <;> first | exact hm | exact absurd rfl (hdx _)
      subst hm'
      obtain ⟨ρ', w', rv, hrun, hv, q1, q2⟩ := sim_appendV (P := P) (ty := ty) hr hid hρ e hy hz htx hdx
      exact ⟨ρ', w', rv, by simp only [builtin, Sem.run_bind, hrun, Result.andThen_ok, Sem.run_pure], hv, q1, q2⟩
  · rename_i d x t t' hts
    subst hm
    obtain ⟨y, ys, rfl, hy, hys⟩ := hl
    obtain ⟨z, zs, rfl, hz, hzs⟩ := hys
    rw [show zs = [] from hzs]
    have hts' : ts = #[t, t'] := by rw [← Array.toArray_toList (xs := ts), hts]
    subst hts'
    obtain ⟨w', rv, hrun, hv, q1, q2⟩ := sim_copyV (P := P) (ty := ty) (tx := t') hr e hy hz (fun b => b = id)
    exact ⟨ρ, w', rv, by simp only [builtin, Sem.run_bind, hrun, Result.andThen_ok, Sem.run_pure], hv, q1, q2⟩
  · rename_i x rest
    subst hm
    obtain ⟨e1, rfl⟩ := ofO_some e
    obtain ⟨y, ys, rfl, hy, hys⟩ := hl
    obtain ⟨r, hrun, hv⟩ := min_run (P := P) (w := w) e1 hy hys
    refine ⟨ρ, w, r, ?_, hv, hr, Stp.refl _ _ _ _⟩
    simp only [builtin, Builtin.min_, Sem.run_bind, hrun, Result.andThen_ok, Sem.run_pure]
  · rename_i x rest
    subst hm
    obtain ⟨e1, rfl⟩ := ofO_some e
    obtain ⟨y, ys, rfl, hy, hys⟩ := hl
    obtain ⟨r, hrun, hv⟩ := max_run (P := P) (w := w) e1 hy hys
    refine ⟨ρ, w, r, ?_, hv, hr, Stp.refl _ _ _ _⟩
    simp only [builtin, Builtin.max_, Sem.run_bind, hrun, Result.andThen_ok, Sem.run_pure]
  · rename_i m k t t' hts
    subst hm
    obtain ⟨y, ys, rfl, hy, hys⟩ := hl
    obtain ⟨z, zs, rfl, hz, hzs⟩ := hys
    rw [show zs = [] from hzs]
    have hts' : ts = #[t, t'] := by rw [← Array.toArray_toList (xs := ts), hts]
    subst hts'
    obtain ⟨w', rv, hrun, hv, q1, q2⟩ := sim_deleteV (P := P) (ty := ty) (tk := t') hr e hy hz (fun b => b = id)
    exact ⟨ρ, w', rv, by simp only [builtin, Sem.run_bind, hrun, Result.andThen_ok, Sem.run_pure], hv, q1, q2⟩
  · subst hm; exact (no_some e).elim
end
end Go.Pe
