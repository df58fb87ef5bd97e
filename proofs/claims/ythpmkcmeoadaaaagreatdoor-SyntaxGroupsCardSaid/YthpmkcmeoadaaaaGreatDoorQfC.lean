/- A call that is given free values alone and one block that is lent: what it does is the world's. -/
import Derived.Test.YthpmkcmeoadaaaaGreatDoorQfB
namespace Go.Pe
open HM
variable {G : T PO}
set_option linter.unusedVariables false
set_option linter.unusedSimpArgs false

section
variable {ρ ρ' : Emb G} {h : H} {w w' : World} {may : Nat → Prop}
theorem sim_frzArgs : ∀ {l : List PV} {r : List PV × Option Nat} {rl : List Value} {ρ : Emb G} {h h' : H}, Rel ρ h w → frzArgs l h = some (r, h') → VRs ρ l rl →
    ∃ ρ', Rel ρ' h' w ∧ Stp may ρ h w ρ' h' w ∧ (∀ b, r.2 = some b → 1024 ≤ b ∧ ∃ x, ρ' b = some x) ∧
      ∀ ρ0 : Emb G, FLe ρ'.fz ρ0.fz → (∀ b, b < 1024 → ρ0 b = ρ' b) → (∀ b, r.2 = some b → ρ0 1024 = ρ' b) → VRs ρ0 r.1 rl
  | [], r, rl, ρ, h, h', hr, e, hl => by
    obtain ⟨rfl, rfl⟩ := ret_some e
    exact ⟨ρ, hr, Stp.refl _ _ _ _, fun b hb => by simp at hb, fun ρ0 _ _ _ => hl⟩
  | a :: as, r, rl, ρ, h, h', hr, e, ⟨y, ys, he, hy, hys⟩ => by
    subst he
    have gen : ∀ {r : List PV × Option Nat}, (HM.bnd (frzM 1000 a) fun a' => HM.bnd (frzArgs as) fun r => HM.ret (a' :: r.1, r.2)) h = some (r, h') →
        ∃ ρ', Rel ρ' h' w ∧ Stp may ρ h w ρ' h' w ∧ (∀ b, r.2 = some b → 1024 ≤ b ∧ ∃ x, ρ' b = some x) ∧
          ∀ ρ0 : Emb G, FLe ρ'.fz ρ0.fz → (∀ b, b < 1024 → ρ0 b = ρ' b) → (∀ b, r.2 = some b → ρ0 1024 = ρ' b) → VRs ρ0 r.1 (y :: ys) := fun {r} e => by
      obtain ⟨a', h1, e1, e2⟩ := bnd_some e
      obtain ⟨r', h2, e3, e4⟩ := bnd_some e2
      obtain ⟨rfl, rfl⟩ := ret_some e4
      obtain ⟨ρ1, hr1, s1, f1, _⟩ := sim_frzM (may := may) 1000 hr e1 hy
      obtain ⟨ρ2, hr2, s2, hb2, f2⟩ := sim_frzArgs hr1 e3 (hys.mono s1.ext)
      refine ⟨ρ2, hr2, s1.both' s2, hb2, fun ρ0 h1 h2 h3 => VRs.cons ?_ (f2 ρ0 h1 h2 h3)⟩
      exact ((f1.mono s2.ext.fz).mono h1).vr
    unfold frzArgs at e
    cases a
    case p b o =>
      simp only at e
      rcases cond_some e with ⟨hb, e1⟩ | ⟨hb, e1⟩
      · have hb : b < 1024 := by simpa [Nat.blt_eq] using hb
        obtain ⟨r', h2, e3, e4⟩ := bnd_some e1
        obtain ⟨rfl, rfl⟩ := ret_some e4
        obtain ⟨ρ2, hr2, s2, hb2, f2⟩ := sim_frzArgs hr e3 hys
        refine ⟨ρ2, hr2, s2, hb2, fun ρ0 h1 h2 h3 => VRs.cons ?_ (f2 ρ0 h1 h2 h3)⟩
        obtain ⟨c, d, m, hρ, hv⟩ := hy
        exact ⟨c, d, m, by rw [h2 b hb]; exact s2.ext _ _ hρ, hv⟩
      · have hb : 1024 ≤ b := by
          rcases Nat.lt_or_ge b 1024 with h | h
          · have : Nat.blt b 1024 = true := by simpa [Nat.blt_eq] using h
            rw [this] at hb; cases hb
          · exact h
        obtain ⟨ho, e2⟩ := cond_no e1
        obtain rfl := Nat.eq_of_beq_eq_true ho
        obtain ⟨r', h2, e3, e4⟩ := bnd_some e2
        obtain ⟨l', bo⟩ := r'
        cases bo with
        | some b' => exact (no_some e4).elim
        | none =>
          obtain ⟨rfl, rfl⟩ := ret_some e4
          obtain ⟨ρ2, hr2, s2, _, f2⟩ := sim_frzArgs hr e3 hys
          refine ⟨ρ2, hr2, s2, fun b1 hb1 => ?_, fun ρ0 h1 h2 h3 => VRs.cons ?_ (f2 ρ0 h1 h2 fun b1 hb1 => by cases hb1)⟩
          · simp only [Option.some.injEq] at hb1
            subst hb1
            obtain ⟨c, d, m, hρ, hv⟩ := hy
            exact ⟨hb, _, s2.ext _ _ hρ⟩
          · obtain ⟨c, d, m, hρ, hv⟩ := hy
            exact ⟨c, d, m, by rw [h3 b rfl]; exact s2.ext _ _ hρ, hv⟩
    all_goals exact gen e
theorem sim_lendM {b : Nat} {cs : List PV} {h' : H} (hr : Rel ρ h w) (e : lendM b h = some (cs, h')) :
    ∃ ρ' c d m cs2 vs us et fz, Rel ρ' h' w ∧ Stp may ρ h w ρ' h' w ∧ h'.get b = some (.cells cs2 true) ∧ cs.length = cs2.length ∧ ρ' b = some (c, d, m) ∧ w.heap[c]? = some (.cells vs et fz) ∧
      FRs ρ'.fz cs us ∧ cs.all PV.one = true ∧ (∀ (j : Nat) v, us[j]? = some v → vs[d + j]? = some v) ∧ d + cs.length ≤ m ∧ m ≤ vs.size ∧ ∀ j, d ≤ j → j < m → ¬ (fz.1 ≤ j ∧ j < fz.2) := by
  unfold lendM at e
  obtain ⟨ob, h1, e1, e2⟩ := bnd_some e
  obtain ⟨hg, rfl⟩ := rd_some e1
  cases ob with
  | map es => exact (no_some e2).elim
  | cells cs0 own =>
    obtain ⟨cs', h1, e3, e4⟩ := bnd_some e2
    obtain ⟨ob2, h2, e5, e6⟩ := bnd_some e4
    obtain ⟨hg2, rfl⟩ := rd_some e5
    cases ob2 with
    | map es => exact (no_some e6).elim
    | cells cs2 own2 =>
      cases own2 with
      | false => exact (no_some e6).elim
      | true =>
        obtain ⟨hlen, e7⟩ := cond_no e6
        obtain ⟨rfl, rfl⟩ := ret_some e7
        have hlen := Nat.eq_of_beq_eq_true hlen
        obtain ⟨c, d, m, hρ, vs, et, fz, hh, hc, _⟩ := hr.obj b _ hg
        have htx : ∀ l : List PV, takeX l.length l = some l := fun l => by
          induction l with
          | nil => rfl
          | cons x xs ih => simp only [List.length_cons, takeX, ih]
        have hrd : rdCells b 0 cs0.length h = some (cs0, h) := by
          unfold rdCells
          simp only [HM.bnd, HM.rd, hg, List.drop_zero, htx, HM.ofO, HM.ret]
        obtain ⟨_, hl0, hone, c', d', m', us, hρ', hvs, hcells⟩ := sim_rdCells hr hrd
        rw [hρ] at hρ'
        simp only [Option.some.injEq, Prod.mk.injEq] at hρ'
        obtain ⟨rfl, rfl, rfl⟩ := hρ'
        obtain ⟨ρ1, hr1, s1, f1, o1⟩ := sim_mapH (may := may) (fun hr e hv => sim_frzM 1000 hr e hv) hr e3 hvs
        have hρ1 := s1.ext _ _ hρ
        obtain ⟨c2, d2, m2, hρ2, vs2, et2, fz2, hh2, _, hw2⟩ := hr1.obj b _ hg2
        rw [hρ1] at hρ2
        simp only [Option.some.injEq, Prod.mk.injEq] at hρ2
        obtain ⟨rfl, rfl, rfl⟩ := hρ2
        rw [hh] at hh2
        simp only [Option.some.injEq, Obj.cells.injEq] at hh2
        obtain ⟨rfl, rfl, rfl⟩ := hh2
        obtain ⟨w1, w2, w3⟩ := hw2 rfl
        refine ⟨ρ1, c, d, m, cs2, vs, us, et, fz, hr1, s1, hg2, hlen, hρ1, hh, f1, o1 hone, fun j v hj => ?_, by omega, w2, w3⟩
        have := hcells j v hj
        have hadd : (⟨c, d + 0, none⟩ : Addr).add j = ⟨c, d + j, none⟩ := by unfold Addr.add; split <;> simp_all
        rw [hadd] at this
        simpa only [World.cell?, hh, Option.isSome_none, Bool.false_eq_true, if_false] using this
theorem sca1_vr {fz : Fz} {v : PV} {rv : Value} (hs : sca1 v = true) (h : FR fz v rv) : VR ρ v rv := by
  cases v <;> simp only [sca1, Bool.false_eq_true] at hs <;> exact h
theorem sca1s_vr {fz : Fz} : ∀ {l : List PV} {us : List Value}, l.all sca1 = true → FRs fz l us → VRs ρ l us
  | [], _, _, h => h
  | x :: xs, _, hs, ⟨y, ys, e, h, hh⟩ => by
    simp only [List.all_cons, Bool.and_eq_true] at hs
    exact ⟨y, ys, e, sca1_vr hs.1 h, sca1s_vr hs.2 hh⟩
theorem sca2_vr {fz : Fz} {v : PV} {rv : Value} (hs : sca2 v = true) (h : FR fz v rv) : VR ρ v rv := by
  cases v <;> simp only [sca2, Bool.false_eq_true] at hs
  case agg l => obtain ⟨vs, rfl, hh⟩ := h; exact ⟨vs, rfl, sca1s_vr hs hh⟩
  all_goals exact h
theorem sca2s_vr {fz : Fz} : ∀ {l : List PV} {us : List Value}, l.all sca2 = true → FRs fz l us → VRs ρ l us
  | [], _, _, h => h
  | x :: xs, _, hs, ⟨y, ys, e, h, hh⟩ => by
    simp only [List.all_cons, Bool.and_eq_true] at hs
    exact ⟨y, ys, e, sca2_vr hs.1 h, sca2s_vr hs.2 hh⟩
theorem scal_vr {fz : Fz} {v : PV} {rv : Value} (hs : scal v = true) (h : FR fz v rv) : VR ρ v rv := by
  cases v <;> simp only [scal, Bool.false_eq_true] at hs
  case agg l => obtain ⟨vs, rfl, hh⟩ := h; exact ⟨vs, rfl, sca1s_vr hs hh⟩
  case tup l => obtain ⟨vs, rfl, hh⟩ := h; exact ⟨vs, rfl, sca2s_vr hs hh⟩
  all_goals exact h

/-- the callee's view: the program's variables, what stays, and perhaps one block -/
def Emb.call (ρ : Emb G) (bo : Option Nat) : Emb G := ⟨fun b => if b < 1024 then ρ b else if b = 1024 then bo.bind ρ.at_ else none, ρ.fz⟩
theorem Rel.call0 (hr : Rel ρ h w) : Rel (ρ.call none) ⟨1024, G⟩ w := by
  have hlow : ∀ {b : Nat}, b < 1024 → (ρ.call none) b = ρ b := fun hb => by simp [Emb.call, hb]
  have hG : ∀ {b : Nat} {o : PO}, (⟨1024, G⟩ : H).get b = some o → b < 1024 ∧ ∃ cs vs, o = .cells cs false ∧ ρ.fz b = some vs ∧ ∀ (i : Nat) x, cs[i]? = some x → x.one = true ∧ ∃ v, vs[i]? = some v ∧ FR ρ.fz x v := fun {b o} hb => hr.glok b o hb
  refine ⟨fun g hg => by rw [hlow hg]; exact hr.glob g hg, Nat.le_refl _, fun b hb => ?_, fun b o hb => ?_, fun b b' o o' c d m d' m' hb ho => ?_, fun c vs hc => ⟨(hr.fzok c vs hc).1, ?_⟩, hr.glok, fun b cs c d m hb hρ => ?_⟩
  · have hb : 1024 ≤ b := hb
    simp only [Emb.call, if_neg (show ¬ b < 1024 by omega)]
    split <;> rfl
  · obtain ⟨hlt, cs, vs, rfl, hf, hx⟩ := hG hb
    obtain ⟨m, hm⟩ := hr.glob b hlt
    obtain ⟨⟨et, fz, hh⟩, _⟩ := hr.fzok b vs hf
    refine ⟨b, 0, m, by rw [hlow hlt]; exact hm, vs, et, fz, hh, fun i x hi => ?_, fun h => by cases h⟩
    obtain ⟨h1, v, h2, h3⟩ := hx i x hi
    exact ⟨h1, v, by simpa using h2, FR.vr (ρ := ρ.call none) h3⟩
  · obtain ⟨_, cs, vs, rfl, _⟩ := hG hb
    cases ho
  · rintro ⟨b, o, d, m, hb, ho, _⟩
    obtain ⟨_, cs, vs, rfl, _⟩ := hG hb
    cases ho
  · obtain ⟨hlt, cs', vs, _, hf, _⟩ := hG hb
    obtain ⟨m', hm⟩ := hr.glob b hlt
    rw [hlow hlt, hm] at hρ
    simp only [Option.some.injEq, Prod.mk.injEq] at hρ
    exact ⟨vs, by rw [← hρ.1]; exact hf⟩
theorem no_own0 (hr : Rel ρ h w) (c : Nat) : ¬ OwnR (ρ.call none) ⟨1024, G⟩ c := by
  rintro ⟨b, o, d, m, hb, ho, _⟩
  obtain ⟨_, cs, vs, rfl, _⟩ := hr.glok b o hb
  cases ho
end
end Go.Pe
