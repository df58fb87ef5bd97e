/- Maps: the evaluation's step is the world's. -/
import Derived.Test.YthpmkcmeoadaaaaGreatDoorQeZb
namespace Go.Pe
open HM
variable {G : T PO}
set_option linter.unusedVariables false
set_option linter.unusedSimpArgs false

section
variable {ρ ρ' : Emb G} {P : Program} {h : H} {w w' : World}
theorem keyEq_same {t : TypeId} {a b : PV} {r : Bool} {va vb : Value} {d : TypeDesc} (hu : P.underlying t = some d) (e : keyEq P t a b = some r) (ha : VR ρ a va) (hb : VR ρ b vb) :
    Instr.sameNow d va vb = some r ∧ (r = true → Instr.sameBits 10000 vb va = true) := by
  unfold keyEq at e
  rw [hu] at e
  split at e
  · rename_i kk k x k' y hd
    simp only [Option.some.injEq] at hd
    subst hd
    split at e
    · rename_i hk
      simp only [Option.some.injEq] at e
      subst e; subst ha; subst hb; subst hk
      refine ⟨by simp only [Instr.sameNow, if_true]; rfl, fun h => ?_⟩
      have := of_decide_eq_true h
      subst this
      simp [Instr.sameBits]
    · simp at e
  · rename_i x y hd
    simp only [Option.some.injEq] at hd
    subst hd
    simp only [Option.some.injEq] at e
    subst e
    obtain ⟨s, rfl, rfl⟩ := ha
    obtain ⟨s', rfl, rfl⟩ := hb
    refine ⟨by simp only [Instr.sameNow, beq_str], fun h => ?_⟩
    have h' : bEq (bytesOf s') (bytesOf s) = true := by rw [bEq_iff] at h ⊢; exact h.symm
    simp only [Instr.sameBits, beq_str, h']
  · rename_i x y hd
    simp only [Option.some.injEq] at hd
    subst hd
    simp only [Option.some.injEq] at e
    subst e; subst ha; subst hb
    refine ⟨by simp [Instr.sameNow], fun h => ?_⟩
    have : x = y := by simpa using h
    subst this
    simp [Instr.sameBits]
  · simp at e
theorem run_checkKey {t : TypeId} {k : PV} {vk : Value} {b : Bool} {n : Nat} (hk : keyKind P t k = true) (hv : VR ρ k vk) : (Instr.checkKey b (n + 1) t vk).run P w = .ok () w := by
  unfold keyKind at hk
  split at hk
  · rename_i kk _ _ hu
    subst hv
    simp [Instr.checkKey, run_underlying hu]
  · rename_i hu
    obtain ⟨s, rfl, _⟩ := hv
    simp [Instr.checkKey, run_underlying hu]
  · rename_i hu
    subst hv
    simp [Instr.checkKey, run_underlying hu]
  · simp at hk
theorem keyKind_some {t : TypeId} {k : PV} (hk : keyKind P t k = true) : ∃ d, P.underlying t = some d := by
  unfold keyKind at hk
  cases hu : P.underlying t with
  | none => rw [hu] at hk; simp at hk
  | some d => exact ⟨d, rfl⟩
theorem findM_now {t : TypeId} {k : PV} {vk : Value} {d : TypeDesc} (hu : P.underlying t = some d) (hv : VR ρ k vk) : ∀ {es : List (PV × PV)} {l : List MapEntry} {r : Option PV} {i : Nat}, findM P t k es = some r → MR ρ es l →
    (r = none ∧ Instr.findNow d vk l i = some none) ∨ ∃ x j v, r = some x ∧ Instr.findNow d vk l i = some (some (j, v)) ∧ VR ρ x v
  | [], l, r, i, e, hm => by
    simp only [findM, Option.some.injEq] at e
    subst e
    rw [show l = [] from hm]
    exact .inl ⟨rfl, rfl⟩
  | (k', v') :: es, l, r, i, e, ⟨en, l', hl, h1, h2, h3⟩ => by
    subst hl
    simp only [findM] at e
    cases hq : keyEq P t k k' with
    | none => rw [hq] at e; simp at e
    | some q =>
      rw [hq] at e
      obtain ⟨s1, _⟩ := keyEq_same hu hq hv h1
      cases q with
      | true =>
        simp only [Option.some.injEq] at e
        subst e
        exact .inr ⟨v', i, en.val, rfl, by simp only [Instr.findNow, s1], h2⟩
      | false =>
        simp only at e
        rcases findM_now hu hv (i := i + 1) e h3 with ⟨a, b⟩ | ⟨x, j, v, a, b, c⟩
        · exact .inl ⟨a, by simp only [Instr.findNow, s1]; exact b⟩
        · exact .inr ⟨x, j, v, a, by simp only [Instr.findNow, s1]; exact b, c⟩
theorem run_findKey {t : TypeId} {d : TypeDesc} {vk : Value} {l : List MapEntry} {r : Option (Nat × Value)} (hu : P.underlying t = some d) (hf : Instr.findNow d vk l 0 = some r) : (Instr.findKey t vk l).run P w = .ok r w := by
  simp only [Instr.findKey, Sem.run_bind, run_underlying hu, Result.andThen_ok, hf, Sem.run_pure]
theorem mapTs_some {t k e : TypeId} (h : mapTs P t = some (k, e)) : P.underlying t = some (.map k e) := by
  unfold mapTs at h
  split at h
  · rename_i k' e' hu
    simp only [Option.some.injEq, Prod.mk.injEq] at h
    rw [hu, h.1, h.2]
  · simp at h
theorem run_getObj {c : Nat} {ents : Array MapEntry} {clock : Nat} (hh : w.heap[c]? = some (.map ents clock)) : (getObj c).run P w = .ok (.map ents clock) w := by simp [getObj, Sem.run, hh]
theorem zeroV_some {t : TypeId} {z : PV} (h : zeroV P t = some z) : ∃ v, (∀ w : World, (zeroValue t).run P w = .ok v w) ∧ VR ρ z v := by
  unfold zeroV at h
  cases hi : P.info? t with
  | none => rw [hi] at h; simp at h
  | some i =>
    rw [hi] at h
    simp only at h
    cases hz : i.zero with
    | none => rw [hz] at h; simp at h
    | some v => rw [hz] at h; exact ⟨v, fun w => run_zeroValue hi hz, vr_ofV h⟩
theorem sim_lookupV {t : TypeId} {x k v : PV} {ok : Bool} {h' : H} {vx vk : Value} (hr : Rel ρ h w) (e : lookupV P t x k ok h = some (v, h')) (hx : VR ρ x vx) (hk : VR ρ k vk) :
    h' = h ∧ ∃ rv, (Instr.lookup t vx vk ok).run P w = .ok rv w ∧ VR ρ v rv := by
  unfold lookupV at e
  cases hm : mapTs P t with
  | none => rw [hm] at e; exact (no_some e).elim
  | some ke =>
    obtain ⟨kt, et⟩ := ke
    rw [hm] at e
    simp only at e
    have hu := mapTs_some hm
    obtain ⟨hkk, e1⟩ := cond_no e
    obtain ⟨es, h1, e2, e3⟩ := bnd_some e1
    obtain ⟨d, hud⟩ := keyKind_some hkk
    -- the entries
    have hes : h1 = h ∧ ∃ ents : Array MapEntry, MR ρ es ents.toList ∧ ((vx = .map none ∧ ents = #[]) ∨ ∃ c clock, vx = .map (some c) ∧ w.heap[c]? = some (.map ents clock)) := by
      cases x
      case nilm =>
        obtain ⟨rfl, rfl⟩ := ret_some e2
        subst hx
        exact ⟨rfl, #[], rfl, .inl ⟨rfl, rfl⟩⟩
      case m b =>
        obtain ⟨ob, h2, e4, e5⟩ := bnd_some e2
        obtain ⟨hg, rfl⟩ := rd_some e4
        cases ob with
        | cells c own => exact (no_some e5).elim
        | map es' =>
          obtain ⟨rfl, rfl⟩ := ret_some e5
          obtain ⟨c, dd, m, hρ, rfl⟩ := hx
          obtain ⟨c', d', m', hρ', ents, clock, hh, hmr⟩ := hr.obj _ _ hg
          rw [hρ] at hρ'
          simp only [Option.some.injEq, Prod.mk.injEq] at hρ'
          obtain ⟨rfl, rfl, rfl⟩ := hρ'
          exact ⟨rfl, ents, hmr, .inr ⟨c, clock, rfl, hh⟩⟩
      all_goals exact (no_some e2).elim
    obtain ⟨rfl, ents, hmr, hvx⟩ := hes
    have hck := run_checkKey (P := P) (w := w) (b := ents.isEmpty) (n := 9999) hkk hk
    cases hf : findM P kt k es with
    | none => rw [hf] at e3; exact (no_some e3).elim
    | some r =>
      rw [hf] at e3
      rcases findM_now (i := 0) hud hk hf hmr with ⟨rfl, hnow⟩ | ⟨y, j, vy, rfl, hnow, hy⟩
      · simp only at e3
        cases hz : zeroV P et with
        | none => rw [hz] at e3; exact (no_some e3).elim
        | some z =>
          rw [hz] at e3
          obtain ⟨rfl, rfl⟩ := ret_some e3
          obtain ⟨vz, hzr, hzv⟩ := zeroV_some (ρ := ρ) hz
          refine ⟨rfl, (if ok then .tuple #[vz, .bool false] else vz), ?_, ?_⟩
          · rcases hvx with ⟨rfl, rfl⟩ | ⟨c, clock, rfl, hh⟩
            · simp only [Instr.lookup, Sem.run_bind, run_underlying hu, Result.andThen_ok, Sem.run_pure, hck, run_findKey hud hnow, hzr]
            · simp only [Instr.lookup, Sem.run_bind, run_underlying hu, Result.andThen_ok, run_getObj hh, Sem.run_pure, hck, run_findKey hud hnow, hzr]
          · cases ok
            · exact hzv
            · exact ⟨_, rfl, VRs.cons hzv (VRs.cons rfl VRs.nil)⟩
      · simp only at e3
        obtain ⟨rfl, rfl⟩ := ret_some e3
        refine ⟨rfl, (if ok then .tuple #[vy, .bool true] else vy), ?_, ?_⟩
        · rcases hvx with ⟨rfl, rfl⟩ | ⟨c, clock, rfl, hh⟩
          · simp only [Instr.lookup, Sem.run_bind, run_underlying hu, Result.andThen_ok, Sem.run_pure, hck, run_findKey hud hnow]
          · simp only [Instr.lookup, Sem.run_bind, run_underlying hu, Result.andThen_ok, run_getObj hh, Sem.run_pure, hck, run_findKey hud hnow]
        · cases ok
          · exact hy
          · exact ⟨_, rfl, VRs.cons hy (VRs.cons rfl VRs.nil)⟩

/-- what an insertion does to the entries -/
theorem putM_real {t : TypeId} {k v : PV} {vk vv : Value} {d : TypeDesc} {clock : Nat} (hu : P.underlying t = some d) (hk : VR ρ k vk) (hv : VR ρ v vv) : ∀ {es es' : List (PV × PV)} {l : List MapEntry} {i : Nat}, putM P t k v es = some es' → MR ρ es l →
    (Instr.findNow d vk l i = some none ∧ MR ρ es' (l ++ [{ key := vk, val := vv, born := clock }])) ∨
    ∃ j vo en, Instr.findNow d vk l i = some (some (i + j, vo)) ∧ l[j]? = some en ∧ Instr.sameBits 10000 en.key vk = true ∧ MR ρ es' (l.modify j fun e => { e with key := vk, val := vv })
  | [], es', l, i, e, hm => by
    simp only [putM, Option.some.injEq] at e
    subst e
    rw [show l = [] from hm]
    exact .inl ⟨rfl, _, [], rfl, hk, hv, rfl⟩
  | (k', v') :: es, es', l, i, e, ⟨en, l', hl, h1, h2, h3⟩ => by
    subst hl
    simp only [putM] at e
    cases hq : keyEq P t k k' with
    | none => rw [hq] at e; simp at e
    | some q =>
      rw [hq] at e
      obtain ⟨s1, s2⟩ := keyEq_same hu hq hk h1
      cases q with
      | true =>
        simp only [Option.some.injEq] at e
        subst e
        refine .inr ⟨0, en.val, en, by simp only [Instr.findNow, s1, Nat.add_zero], rfl, s2 rfl, ?_⟩
        exact ⟨{ en with key := vk, val := vv }, l', rfl, hk, hv, h3⟩
      | false =>
        simp only at e
        cases hp : putM P t k v es with
        | none => rw [hp] at e; simp at e
        | some r =>
          rw [hp] at e
          simp only [Option.some.injEq] at e
          subst e
          rcases putM_real hu hk hv (i := i + 1) hp h3 with ⟨a, b⟩ | ⟨j, vo, en', a, b, c, dd⟩
          · exact .inl ⟨by simp only [Instr.findNow, s1]; exact a, en, _, rfl, h1, h2, b⟩
          · refine .inr ⟨j + 1, vo, en', ?_, by simpa using b, c, ?_⟩
            · simp only [Instr.findNow, s1]
              rw [a]; congr 3; omega
            · exact ⟨en, _, rfl, h1, h2, dd⟩
theorem sim_updateV {t : TypeId} {x k v r : PV} {h' : H} {vx vk vv : Value} (hr : Rel ρ h w) (e : updateV P t x k v h = some (r, h')) (hx : VR ρ x vx) (hk : VR ρ k vk) (hv : VR ρ v vv) (may : Nat → Prop) :
    r = .tup [] ∧ ∃ w', (Instr.mapUpdate t vx vk vv).run P w = .ok () w' ∧ Rel ρ h' w' ∧ Stp may ρ h w ρ h' w' := by
  unfold updateV at e
  cases hm : mapTs P t with
  | none => rw [hm] at e; exact (no_some e).elim
  | some ke =>
    obtain ⟨kt, et⟩ := ke
    rw [hm] at e
    have hu := mapTs_some hm
    cases x
    case m b =>
      simp only at e
      obtain ⟨hkk, e1⟩ := cond_no e
      obtain ⟨ob, h1, e2, e3⟩ := bnd_some e1
      obtain ⟨hg, rfl⟩ := rd_some e2
      cases ob with
      | cells c own => exact (no_some e3).elim
      | map es =>
        simp only at e3
        obtain ⟨es', h2, e4, e5⟩ := bnd_some e3
        obtain ⟨hp, rfl⟩ := ofO_some e4
        obtain ⟨u, h3, e6, e7⟩ := bnd_some e5
        obtain ⟨_, rfl⟩ := wr_some e6
        obtain ⟨rfl, rfl⟩ := ret_some e7
        obtain ⟨d, hud⟩ := keyKind_some hkk
        obtain ⟨c, dd, m, hρ, rfl⟩ := hx
        obtain ⟨c', d', m', hρ', ents, clock, hh, hmr⟩ := hr.obj _ _ hg
        have hρ0 := hρ
        rw [hρ] at hρ'
        simp only [Option.some.injEq, Prod.mk.injEq] at hρ'
        obtain ⟨rfl, rfl, rfl⟩ := hρ'
        have hlt : c < w.heap.size := OR.some (o := .map es) (d := dd) (m := m) ⟨ents, clock, hh, hmr⟩
        have hck := run_checkKey (P := P) (w := w) (b := false) (n := 9999) hkk hk
        have hset : ∀ o : Obj, (setObj c o).run P w = .ok () { w with heap := w.heap.setIfInBounds c o } := fun o => by simp [setObj, Sem.run, hh]
        have fin : ∀ (ents' : Array MapEntry) (clock' : Nat), MR ρ es' ents'.toList →
            Rel ρ (h.put b (.map es')) { w with heap := w.heap.setIfInBounds c (.map ents' clock') } ∧ Stp may ρ h w ρ (h.put b (.map es')) { w with heap := w.heap.setIfInBounds c (.map ents' clock') } := fun ents' clock' hmr' =>
          hr.upd (ob' := .map es') (w' := { w with heap := w.heap.setIfInBounds c (.map ents' clock') }) hg rfl rfl hρ0 (fun c' hne => by simp [Array.getElem?_setIfInBounds_ne (Ne.symm hne)]) (by simp) (show OR ρ { w with heap := w.heap.setIfInBounds c (.map ents' clock') } (.map es') c dd m from ⟨ents', clock', by simp [hlt], hmr'⟩) rfl rfl rfl may
        rcases putM_real (i := 0) (clock := clock) hud hk hv hp hmr with ⟨hnow, hmr'⟩ | ⟨j, vo, en, hnow, hen, hsb, hmr'⟩
        · refine ⟨rfl, _, ?_, fin (ents.push { key := vk, val := vv, born := clock }) (clock + 1) (by simpa using hmr')⟩
          unfold Instr.mapUpdate
          simp only [Sem.run_bind, run_underlying hu, Result.andThen_ok, run_getObj hh, hck, run_findKey hud hnow, hset]
        · refine ⟨rfl, _, ?_, fin (ents.modify j fun e => { e with key := vk, val := vv }) clock (by simpa using hmr')⟩
          have hen' : ents[j]? = some en := by simpa using hen
          unfold Instr.mapUpdate
          simp only [Sem.run_bind, run_underlying hu, Result.andThen_ok, run_getObj hh, hck, run_findKey hud hnow, Nat.zero_add, hen', Option.map_some, Option.getD_some, Instr.keyThatStays, hsb, if_true, Sem.run_pure, hset]
    all_goals exact (no_some e).elim
theorem delM_real {t : TypeId} {k : PV} {vk : Value} {d : TypeDesc} (hu : P.underlying t = some d) (hk : VR ρ k vk) : ∀ {es es' : List (PV × PV)} {l : List MapEntry} {i : Nat}, delM P t k es = some es' → MR ρ es l →
    (Instr.findNow d vk l i = some none ∧ MR ρ es' l) ∨ ∃ j vo, Instr.findNow d vk l i = some (some (i + j, vo)) ∧ MR ρ es' (l.eraseIdx j)
  | [], es', l, i, e, hm => by
    simp only [delM, Option.some.injEq] at e
    subst e
    rw [show l = [] from hm]
    exact .inl ⟨rfl, rfl⟩
  | (k', v') :: es, es', l, i, e, ⟨en, l', hl, h1, h2, h3⟩ => by
    subst hl
    simp only [delM] at e
    cases hq : keyEq P t k k' with
    | none => rw [hq] at e; simp at e
    | some q =>
      rw [hq] at e
      obtain ⟨s1, s2⟩ := keyEq_same hu hq hk h1
      cases q with
      | true =>
        simp only [Option.some.injEq] at e
        subst e
        exact .inr ⟨0, en.val, by simp only [Instr.findNow, s1, Nat.add_zero], h3⟩
      | false =>
        simp only at e
        cases hp : delM P t k es with
        | none => rw [hp] at e; simp at e
        | some r =>
          rw [hp] at e
          simp only [Option.some.injEq] at e
          subst e
          rcases delM_real hu hk (i := i + 1) hp h3 with ⟨a, b⟩ | ⟨j, vo, a, b⟩
          · exact .inl ⟨by simp only [Instr.findNow, s1]; exact a, en, _, rfl, h1, h2, b⟩
          · refine .inr ⟨j + 1, vo, ?_, en, _, rfl, h1, h2, b⟩
            simp only [Instr.findNow, s1]
            rw [a]; congr 3; omega
theorem sim_deleteV {t tk ty : TypeId} {x k r : PV} {h' : H} {vx vk : Value} (hr : Rel ρ h w) (e : deleteV P t x k h = some (r, h')) (hx : VR ρ x vx) (hk : VR ρ k vk) (may : Nat → Prop) :
    ∃ w' rv, (Builtin.delete_ #[t, tk] ty #[vx, vk]).run P w = .ok rv w' ∧ VR ρ r rv ∧ Rel ρ h' w' ∧ Stp may ρ h w ρ h' w' := by
  unfold deleteV at e
  cases hm : mapTs P t with
  | none => rw [hm] at e; exact (no_some e).elim
  | some ke =>
    obtain ⟨kt, et⟩ := ke
    rw [hm] at e
    have hu := mapTs_some hm
    cases x
    case m b =>
      simp only at e
      obtain ⟨hkk, e1⟩ := cond_no e
      obtain ⟨ob, h1, e2, e3⟩ := bnd_some e1
      obtain ⟨hg, rfl⟩ := rd_some e2
      cases ob with
      | cells c own => exact (no_some e3).elim
      | map es =>
        simp only at e3
        obtain ⟨es', h2, e4, e5⟩ := bnd_some e3
        obtain ⟨hp, rfl⟩ := ofO_some e4
        obtain ⟨u, h3, e6, e7⟩ := bnd_some e5
        obtain ⟨_, rfl⟩ := wr_some e6
        obtain ⟨rfl, rfl⟩ := ret_some e7
        obtain ⟨d, hud⟩ := keyKind_some hkk
        obtain ⟨c, dd, m, hρ, rfl⟩ := hx
        obtain ⟨c', d', m', hρ', ents, clock, hh, hmr⟩ := hr.obj _ _ hg
        have hρ0 := hρ
        rw [hρ] at hρ'
        simp only [Option.some.injEq, Prod.mk.injEq] at hρ'
        obtain ⟨rfl, rfl, rfl⟩ := hρ'
        have hlt : c < w.heap.size := OR.some (o := .map es) (d := dd) (m := m) ⟨ents, clock, hh, hmr⟩
        have hck := run_checkKey (P := P) (w := w) (b := ents.isEmpty) (n := 9999) hkk hk
        have hset : ∀ o : Obj, (setObj c o).run P w = .ok () { w with heap := w.heap.setIfInBounds c o } := fun o => by simp [setObj, Sem.run, hh]
        have fin : ∀ (ents' : Array MapEntry) (clock' : Nat), MR ρ es' ents'.toList →
            Rel ρ (h.put b (.map es')) { w with heap := w.heap.setIfInBounds c (.map ents' clock') } ∧ Stp may ρ h w ρ (h.put b (.map es')) { w with heap := w.heap.setIfInBounds c (.map ents' clock') } := fun ents' clock' hmr' =>
          hr.upd (ob' := .map es') (w' := { w with heap := w.heap.setIfInBounds c (.map ents' clock') }) hg rfl rfl hρ0 (fun c' hne => by simp [Array.getElem?_setIfInBounds_ne (Ne.symm hne)]) (by simp) (show OR ρ { w with heap := w.heap.setIfInBounds c (.map ents' clock') } (.map es') c dd m from ⟨ents', clock', by simp [hlt], hmr'⟩) rfl rfl rfl may
        rcases delM_real (i := 0) hud hk hp hmr with ⟨hnow, hmr'⟩ | ⟨j, vo, hnow, hmr'⟩
        · refine ⟨_, .tuple #[], ?_, ⟨[], rfl, VRs.nil⟩, fin ents clock hmr'⟩
          unfold Builtin.delete_
          simp only [Sem.run_bind, List.getElem?_toArray, List.getElem?_cons_zero, List.getElem?_cons_succ, run_underlying hu, Result.andThen_ok, run_getObj hh, hck, run_findKey hud hnow, hset, Sem.run_pure]
        · refine ⟨_, .tuple #[], ?_, ⟨[], rfl, VRs.nil⟩, fin (ents.eraseIdxIfInBounds j) clock ?_⟩
          · unfold Builtin.delete_
            simp only [Sem.run_bind, List.getElem?_toArray, List.getElem?_cons_zero, List.getElem?_cons_succ, run_underlying hu, Result.andThen_ok, run_getObj hh, hck, run_findKey hud hnow, Nat.zero_add, hset, Sem.run_pure]
          · have : (ents.eraseIdxIfInBounds j).toList = ents.toList.eraseIdx j := by
              unfold Array.eraseIdxIfInBounds
              split
              · rw [Array.toList_eraseIdx]
              · rw [List.eraseIdx_of_length_le (by simp; omega)]
            rw [this]; exact hmr'
    case nilm =>
      simp only at e
      obtain ⟨hkk, e1⟩ := cond_no e
      obtain ⟨rfl, rfl⟩ := ret_some e1
      subst hx
      have hck := run_checkKey (P := P) (w := w) (b := true) (n := 9999) hkk hk
      refine ⟨w, .tuple #[], ?_, ⟨[], rfl, VRs.nil⟩, hr, Stp.refl _ _ _ _⟩
      unfold Builtin.delete_
      simp only [Sem.run_bind, List.getElem?_toArray, List.getElem?_cons_zero, List.getElem?_cons_succ, run_underlying hu, Result.andThen_ok, hck, Sem.run_pure]
    all_goals exact (no_some e).elim
end
end Go.Pe
