/- Making a value free: what it says of the world. -/
import Derived.Test.YthpmkcmeoadaaaaGreatDoorQfA
namespace Go.Pe
open HM
variable {G : T PO}
set_option linter.unusedVariables false
set_option linter.unusedSimpArgs false

section
variable {ρ ρ' : Emb G} {h : H} {w w' : World} {may : Nat → Prop}
def Emb.fzAdd (ρ : Emb G) (c : Nat) (vs : Array Value) : Emb G := { ρ with fz := fun x => if x = c then some vs else ρ.fz x }
theorem Rel.demote (hr : Rel ρ h w) {b c d m : Nat} {cs : List PV} {own : Bool} (hb : h.get b = some (.cells cs own)) (hρ : ρ b = some (c, d, m)) :
    ∃ ρ' vs, Rel ρ' (h.put b (.cells cs false)) w ∧ Stp may ρ h w ρ' (h.put b (.cells cs false)) w ∧ ρ'.fz c = some vs ∧ ρ'.at_ = ρ.at_ := by
  obtain ⟨c', d', m', hρ', vs, et, fz, hh, hc, hw⟩ := hr.obj b _ hb
  rw [hρ] at hρ'
  simp only [Option.some.injEq, Prod.mk.injEq] at hρ'
  obtain ⟨rfl, rfl, rfl⟩ := hρ'
  have hgp : ∀ j, (h.put b (.cells cs false)).get j = if j = b then some (.cells cs false) else h.get j := fun j => H.get_put h b _ j
  have hfle : FLe ρ.fz (ρ.fzAdd c vs).fz := fun x us hx => by
    unfold Emb.fzAdd
    by_cases e : x = c
    · subst e
      simp only [if_true]
      obtain ⟨⟨e1, z1, h1⟩, _⟩ := hr.fzok x us hx
      rw [hh] at h1
      simp only [Option.some.injEq, Obj.cells.injEq] at h1
      rw [h1.1]
    · simp only [if_neg e]; exact hx
  have hele : ELe ρ (ρ.fzAdd c vs) := ⟨fun _ _ h => h, hfle⟩
  have hown : ∀ {x : Nat} {ox : PO}, (h.put b (.cells cs false)).get x = some ox → ox.own = true → x ≠ b ∧ h.get x = some ox := fun {x ox} hx ho => by
    rw [hgp] at hx
    by_cases e : x = b
    · rw [if_pos e] at hx
      simp only [Option.some.injEq] at hx
      subst hx
      cases ho
    · rw [if_neg e] at hx; exact ⟨e, hx⟩
  have hownc : ∀ c', OwnR (ρ.fzAdd c vs) (h.put b (.cells cs false)) c' → c' ≠ c ∧ OwnR ρ h c' := fun c' ⟨x, ox, d1, m1, hx, ho, h1⟩ => by
    obtain ⟨e, hx'⟩ := hown hx ho
    refine ⟨fun ec => ?_, x, ox, d1, m1, hx', ho, h1⟩
    subst ec
    exact e (hr.inj x b ox _ c' d1 m1 _ _ hx' ho hb h1 hρ)
  refine ⟨ρ.fzAdd c vs, vs, ⟨hr.glob, hr.low, hr.dom, fun x o hx => ?_, fun x x' o o' c1 d1 m1 d2 m2 hx ho hx' h1 h2 => ?_, fun c1 us h1 => ?_, fun g o hg => ?_, fun x cs1 c1 d1 m1 hx h1 => ?_⟩,
    ⟨hele, fun _ _ e => .inr e, fun _ _ _ => rfl, Nat.le_refl _, fun c1 h1 => .inr (hownc c1 h1).2, Nat.le_refl _, rfl, rfl, rfl, fun c1 us h1 => ?_⟩, ?_, rfl⟩
  · rw [hgp] at hx
    by_cases e : x = b
    · rw [if_pos e] at hx
      simp only [Option.some.injEq] at hx
      subst hx; subst e
      exact ⟨_, _, _, hρ, vs, et, fz, hh, fun i y hy => let ⟨a1, v, a2, a3⟩ := hc i y hy; ⟨a1, v, a2, a3.mono hele⟩, fun h => by cases h⟩
    · rw [if_neg e] at hx
      obtain ⟨c1, d1, m1, h1, h2⟩ := hr.obj x o hx
      exact ⟨c1, d1, m1, h1, h2.keep hele rfl⟩
  · obtain ⟨e, hxo⟩ := hown hx ho
    rw [hgp] at hx'
    by_cases e' : x' = b
    · subst e'
      exact hr.inj x x' o _ c1 d1 m1 d2 m2 hxo ho hb h1 h2
    · rw [if_neg e'] at hx'
      exact hr.inj x x' o o' c1 d1 m1 d2 m2 hxo ho hx' h1 h2
  · by_cases e : c1 = c
    · subst e
      simp only [Emb.fzAdd, if_true, Option.some.injEq] at h1
      subst h1
      exact ⟨⟨et, fz, hh⟩, fun ho => (hownc c1 ho).1 rfl⟩
    · simp only [Emb.fzAdd, if_neg e] at h1
      obtain ⟨a1, a2⟩ := hr.fzok c1 us h1
      exact ⟨a1, fun ho => a2 (hownc c1 ho).2⟩
  · obtain ⟨a1, cs1, vs1, a2, a3, a4⟩ := hr.glok g o hg
    exact ⟨a1, cs1, vs1, a2, hfle _ _ a3, fun i x hx => let ⟨b1, v, b2, b3⟩ := a4 i x hx; ⟨b1, v, b2, b3.mono hfle⟩⟩
  · rw [hgp] at hx
    by_cases e : x = b
    · subst e
      have h1' : ρ x = some (c1, d1, m1) := h1
      rw [hρ] at h1'
      simp only [Option.some.injEq, Prod.mk.injEq] at h1'
      obtain ⟨rfl, _, _⟩ := h1'
      exact ⟨vs, by simp only [Emb.fzAdd, if_true]⟩
    · rw [if_neg e] at hx
      obtain ⟨us, hus⟩ := hr.rofz x cs1 c1 d1 m1 hx h1
      exact ⟨_, hfle _ _ hus⟩
  · by_cases e : c1 = c
    · subst e
      cases own with
      | true => exact .inr (.inl ⟨b, _, _, _, hb, rfl, hρ⟩)
      | false =>
        obtain ⟨us', hus⟩ := hr.rofz b cs _ _ _ hb hρ
        left
        have := hfle _ _ hus
        rw [h1] at this
        rw [hus, ← this]
    · simp only [Emb.fzAdd, if_neg e] at h1
      exact .inl h1
  · simp only [Emb.fzAdd, if_true]
theorem sim_demote (hr : Rel ρ h w) {b c d m : Nat} {h' : H} {u : Unit} (e : Go.Pe.demote b h = some (u, h')) (hρ : ρ b = some (c, d, m)) :
    ∃ ρ' vs, Rel ρ' h' w ∧ Stp may ρ h w ρ' h' w ∧ ρ'.fz c = some vs := by
  unfold Go.Pe.demote at e
  obtain ⟨o, h1, e1, e2⟩ := bnd_some e
  obtain ⟨hg, rfl⟩ := rd_some e1
  cases o with
  | map es => exact (no_some e2).elim
  | cells cs own =>
    obtain ⟨_, rfl⟩ := wr_some e2
    obtain ⟨ρ', vs, a, b, c, _⟩ := hr.demote (may := may) hg hρ
    exact ⟨ρ', vs, a, b, c⟩

theorem Stp.both' {ρ ρ1 ρ2 : Emb G} {h h1 h2 : H} {w w1 w2 : World} (s : Stp may ρ h w ρ1 h1 w1) (t : Stp may ρ1 h1 w1 ρ2 h2 w2) : Stp may ρ h w ρ2 h2 w2 :=
  (s.trans t).weaken fun _ _ h => h.elim id id

theorem FR.one_cells {fz : Fz} {e : PV} {u : Value} (h : FR fz e u) (h1 : e.one = true) : u.cells = #[u] := by
  cases e <;> simp only [PV.one, Bool.false_eq_true] at h1
  case fl => rcases h with ⟨h0, h1, rfl⟩ | ⟨h0, a, cap, rfl, h1⟩ <;> rfl
  all_goals first
    | (simp only [FR] at h; done)
    | (simp only [FR] at h; subst h; rfl)
    | (obtain ⟨_, rfl, _⟩ := h; rfl)
    | (obtain ⟨_, _, rfl, _⟩ := h; rfl)
    | (obtain ⟨_, _, _, _, rfl, _⟩ := h; rfl)
theorem one_cells {e : PV} (h1 : e.one = true) : e.cells = [e] := by cases e <;> simp only [PV.one, Bool.false_eq_true] at h1 <;> rfl
theorem FRs.take {fz : Fz} : ∀ {n : Nat} {l : List PV} {vs : List Value}, FRs fz l vs → FRs fz (l.take n) (vs.take n)
  | 0, _, _, h => rfl
  | n + 1, [], vs, h => by rw [show vs = [] from h]; rfl
  | n + 1, x :: l, vs, ⟨y, ys, e, h, hs⟩ => by rw [e]; exact ⟨_, _, rfl, h, FRs.take (n := n) hs⟩
theorem FRs.drop {fz : Fz} : ∀ {n : Nat} {l : List PV} {vs : List Value}, FRs fz l vs → FRs fz (l.drop n) (vs.drop n)
  | 0, _, _, h => h
  | n + 1, [], vs, h => by rw [show vs = [] from h]; rfl
  | n + 1, x :: l, vs, ⟨y, ys, e, h, hs⟩ => by rw [e]; exact FRs.drop (n := n) hs
theorem frl_one {fz : Fz} {vs : Array Value} : ∀ {l : List PV} {us : List Value} {D : Nat}, FRs fz l us → l.all PV.one = true → (∀ (j : Nat) v, us[j]? = some v → vs[D + j]? = some v) → FRl fz 1 vs l D
  | [], _, _, _, _, _ => trivial
  | e :: l, _, D, ⟨u, us, rfl, h, hs⟩, h1, hv => by
    simp only [List.all_cons, Bool.and_eq_true] at h1
    have hu := h.one_cells h1.1
    refine ⟨⟨u, h, by rw [hu]; rfl, by rw [one_cells h1.1]; simp [h1.1], fun j v hj => ?_⟩, frl_one hs h1.2 fun j v hj => ?_⟩
    · rw [hu] at hj
      cases j with
      | zero => exact hv 0 v (by simpa using hj)
      | succ j => simp at hj
    · have := hv (j + 1) v (by simpa using hj)
      rwa [show D + 1 + j = D + (j + 1) by omega]
theorem frl_rowsL {fz : Fz} {z : Nat} {vs : Array Value} : ∀ {k : Nat} {l : List PV} {us : List Value} {D : Nat}, FRs fz l us → l.all PV.one = true → us.length = k * z → (∀ (j : Nat) v, us[j]? = some v → vs[D + j]? = some v) → FRl fz z vs (rowsL z k l) D
  | 0, _, _, _, _, _, _, _ => trivial
  | k + 1, l, us, D, hl, h1, hlen, hv => by
    rw [Nat.add_mul] at hlen
    refine ⟨⟨.agg (us.take z).toArray, ⟨_, rfl, hl.take⟩, ?_, ?_, fun j v hj => ?_⟩, frl_rowsL hl.drop ?_ ?_ fun j v hj => ?_⟩
    · simp only [Value.cells, List.size_toArray, List.length_take]; omega
    · simp only [PV.cells]
      rw [List.all_eq_true] at h1 ⊢
      exact fun x hx => h1 x (List.mem_of_mem_take hx)
    · simp only [Value.cells, List.getElem?_toArray] at hj
      have hjz : j < z := by
        rcases Nat.lt_or_ge j z with h | h
        · exact h
        · rw [List.getElem?_eq_none (by simp; omega)] at hj; simp at hj
      rw [List.getElem?_take_of_lt hjz] at hj
      exact hv j v hj
    · rw [List.all_eq_true] at h1 ⊢
      exact fun x hx => h1 x (List.mem_of_mem_drop hx)
    · simp; omega
    · rw [List.getElem?_drop] at hj
      have := hv (z + j) v hj
      rwa [Nat.add_assoc]
theorem rowsL_length {z : Nat} : ∀ {k : Nat} {l : List PV}, (rowsL z k l).length = k
  | 0, _ => rfl
  | k + 1, l => by simp [rowsL, rowsL_length (k := k)]
theorem frl_rows {fz : Fz} {z k : Nat} {vs : Array Value} {l : List PV} {us : List Value} {D : Nat} (hl : FRs fz l us) (h1 : l.all PV.one = true) (hlen : us.length = k * z) (hv : ∀ (j : Nat) v, us[j]? = some v → vs[D + j]? = some v) :
    FRl fz z vs (rows z k l) D ∧ (rows z k l).length = k := by
  unfold rows
  cases hz : Nat.beq z 1 with
  | true =>
    obtain rfl := Nat.eq_of_beq_eq_true hz
    exact ⟨frl_one hl h1 hv, by have := hl.length; simp only [cond_true]; omega⟩
  | false => exact ⟨frl_rowsL hl h1 hlen hv, rowsL_length⟩

theorem mapH_some {f : PV → HM PV} {x : PV} {xs ys : List PV} {h h' : H} (e : mapH f (x :: xs) h = some (ys, h')) : ∃ y ys' h1, f x h = some (y, h1) ∧ mapH f xs h1 = some (ys', h') ∧ ys = y :: ys' := by
  obtain ⟨y, h1, e1, e2⟩ := bnd_some e
  obtain ⟨ys', h2, e3, e4⟩ := bnd_some e2
  obtain ⟨rfl, rfl⟩ := ret_some e4
  exact ⟨y, ys', h1, e1, e3, rfl⟩
theorem sim_mapH {f : PV → HM PV} (hf : ∀ {ρ : Emb G} {h h' : H} {v v' : PV} {rv : Value}, Rel ρ h w → f v h = some (v', h') → VR ρ v rv → ∃ ρ', Rel ρ' h' w ∧ Stp may ρ h w ρ' h' w ∧ FR ρ'.fz v' rv ∧ (v.one = true → v'.one = true)) :
    ∀ {l l' : List PV} {us : List Value} {ρ : Emb G} {h h' : H}, Rel ρ h w → mapH f l h = some (l', h') → VRs ρ l us → ∃ ρ', Rel ρ' h' w ∧ Stp may ρ h w ρ' h' w ∧ FRs ρ'.fz l' us ∧ (l.all PV.one = true → l'.all PV.one = true)
  | [], l', us, ρ, h, h', hr, e, hl => by
    obtain ⟨rfl, rfl⟩ := ret_some e
    exact ⟨ρ, hr, Stp.refl _ _ _ _, hl, fun h => h⟩
  | x :: xs, l', us, ρ, h, h', hr, e, ⟨y, ys, he, hy, hys⟩ => by
    subst he
    obtain ⟨x', xs', h1, e1, e2, rfl⟩ := mapH_some e
    obtain ⟨ρ1, hr1, s1, f1, o1⟩ := hf hr e1 hy
    obtain ⟨ρ2, hr2, s2, f2, o2⟩ := sim_mapH hf hr1 e2 (hys.mono s1.ext)
    refine ⟨ρ2, hr2, s1.both' s2, ⟨y, ys, rfl, f1.mono s2.ext.fz, f2⟩, fun h => ?_⟩
    simp only [List.all_cons, Bool.and_eq_true] at h ⊢
    exact ⟨o1 h.1, o2 h.2⟩
theorem sim_frzM : ∀ (n : Nat) {ρ : Emb G} {h h' : H} {v v' : PV} {rv : Value}, Rel ρ h w → frzM n v h = some (v', h') → VR ρ v rv → ∃ ρ', Rel ρ' h' w ∧ Stp may ρ h w ρ' h' w ∧ FR ρ'.fz v' rv ∧ (v.one = true → v'.one = true)
  | 0, ρ, h, h', v, v', rv, hr, e, hv => (no_some e).elim
  | n + 1, ρ, h, h', v, v', rv, hr, e, hv => by
    have ih := fun {ρ : Emb G} {h h' : H} {v v' : PV} {rv : Value} (hr : Rel ρ h w) (e : frzM n v h = some (v', h')) (hv : VR ρ v rv) => sim_frzM n hr e hv
    unfold frzM at e
    cases v
    case p b o => exact (no_some e).elim
    case m b => exact (no_some e).elim
    case sl b o k z tg =>
      simp only at e
      obtain ⟨a, cap, rfl, hcap, htg, hadr⟩ := hv
      rcases cond_some e with ⟨h0, e1⟩ | ⟨h0, e1⟩
      · obtain ⟨rfl, rfl⟩ := ret_some e1
        obtain rfl := Nat.eq_of_beq_eq_true h0
        exact ⟨ρ, hr, Stp.refl _ _ _ _, (.inr ⟨rfl, a, cap, rfl, by simp, fun h => absurd rfl h⟩), fun h => h⟩
      · have hk : k ≠ 0 := fun h => by rw [h] at h0; simp at h0
        obtain ⟨c, d, m, hρ, rfl, _⟩ := hadr (by omega)
        obtain ⟨ob, h1, e2, e3⟩ := bnd_some e1
        obtain ⟨hg, rfl⟩ := rd_some e2
        cases ob with
        | map es => exact (no_some e3).elim
        | cells cs own =>
          simp only at e3
          obtain ⟨l, h1, e4, e5⟩ := bnd_some e3
          obtain ⟨e6, rfl⟩ := ofO_some e4
          obtain ⟨l', h2, e7, e8⟩ := bnd_some e5
          obtain ⟨u, h3, e9, e10⟩ := bnd_some e8
          obtain ⟨rfl, rfl⟩ := ret_some e10
          have hrd : rdCells b o (k * z) h = some (l, h) := by
            unfold rdCells
            simp only [HM.bnd, HM.rd, hg, e6, HM.ofO, HM.ret]
          obtain ⟨_, hlen, hone, c', d', m', us, hρ', hvs, hcells⟩ := sim_rdCells hr hrd
          rw [hρ] at hρ'
          simp only [Option.some.injEq, Prod.mk.injEq] at hρ'
          obtain ⟨rfl, rfl, rfl⟩ := hρ'
          obtain ⟨ρ1, hr1, s1, f1, o1⟩ := sim_mapH ih hr e7 hvs
          obtain ⟨ρ2, vs, hr2, s2, hfz⟩ := sim_demote (may := may) hr1 e9 (s1.ext _ _ hρ)
          obtain ⟨⟨et, fz', hh⟩, _⟩ := hr2.fzok c vs hfz
          have hul := hvs.length
          obtain ⟨r1, r2⟩ := frl_rows (z := z) (k := k) (vs := vs) (D := d + o) (f1.mono s2.ext.fz) (o1 hone) (by omega) fun j v hj => by
            have := hcells j v hj
            have hadd : (⟨c, d + o, none⟩ : Addr).add j = ⟨c, d + o + j, none⟩ := by unfold Addr.add; split <;> simp_all
            rw [hadd] at this
            simpa only [World.cell?, hh, Option.isSome_none, Bool.false_eq_true, if_false] using this
          refine ⟨ρ2, hr2, s1.both' s2, ?_, fun _ => rfl⟩
          exact .inr ⟨rfl, ⟨c, d + o, none⟩, cap, by rw [r2], by omega, fun _ => ⟨c, d + o, vs, hfz, rfl, r1⟩⟩
    case agg l =>
      obtain ⟨l', h1, e1, e2⟩ := bnd_some e
      obtain ⟨rfl, rfl⟩ := ret_some e2
      obtain ⟨vs, rfl, hvs⟩ := hv
      obtain ⟨ρ1, hr1, s1, f1, _⟩ := sim_mapH ih hr e1 hvs
      exact ⟨ρ1, hr1, s1, ⟨vs, rfl, f1⟩, fun h => by cases h⟩
    case tup l =>
      obtain ⟨l', h1, e1, e2⟩ := bnd_some e
      obtain ⟨rfl, rfl⟩ := ret_some e2
      obtain ⟨vs, rfl, hvs⟩ := hv
      obtain ⟨ρ1, hr1, s1, f1, _⟩ := sim_mapH ih hr e1 hvs
      exact ⟨ρ1, hr1, s1, ⟨vs, rfl, f1⟩, fun h => by cases h⟩
    case fn f l =>
      obtain ⟨l', h1, e1, e2⟩ := bnd_some e
      obtain ⟨rfl, rfl⟩ := ret_some e2
      obtain ⟨vs, rfl, hvs⟩ := hv
      obtain ⟨ρ1, hr1, s1, f1, _⟩ := sim_mapH ih hr e1 hvs
      exact ⟨ρ1, hr1, s1, ⟨vs, rfl, f1⟩, fun _ => rfl⟩
    case ifc t x =>
      obtain ⟨x', h1, e1, e2⟩ := bnd_some e
      obtain ⟨rfl, rfl⟩ := ret_some e2
      obtain ⟨y, rfl, hy⟩ := hv
      obtain ⟨ρ1, hr1, s1, f1, _⟩ := ih hr e1 hy
      exact ⟨ρ1, hr1, s1, ⟨y, rfl, f1⟩, fun _ => rfl⟩
    all_goals
      obtain ⟨rfl, rfl⟩ := ret_some e
      exact ⟨ρ, hr, Stp.refl _ _ _ _, hv, fun h => h⟩
end
end Go.Pe
