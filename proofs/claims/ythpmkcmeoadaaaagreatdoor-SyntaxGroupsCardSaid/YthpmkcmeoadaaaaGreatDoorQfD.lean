/- A call that is given free values alone and one block that is lent: what it does is the world's. -/
import Derived.Test.YthpmkcmeoadaaaaGreatDoorQfC
namespace Go.Pe
open HM
variable {G : T PO}
set_option linter.unusedVariables false
set_option linter.unusedSimpArgs false

section
variable {ρ ρ' : Emb G} {h : H} {w w' : World} {may : Nat → Prop}
theorem Rel.call1 (hr : Rel ρ h w) {b c d m : Nat} {cs cs2 : List PV} {vs : Array Value} {us : List Value} {et : TypeId} {fz : Nat × Nat} (hb : h.get b = some (.cells cs2 true)) (hρ : ρ b = some (c, d, m))
    (hh : w.heap[c]? = some (.cells vs et fz)) (hf : FRs ρ.fz cs us) (hone : cs.all PV.one = true) (hv : ∀ (j : Nat) v, us[j]? = some v → vs[d + j]? = some v) (hd : d + cs.length ≤ m) (hm : m ≤ vs.size)
    (hz : ∀ j, d ≤ j → j < m → ¬ (fz.1 ≤ j ∧ j < fz.2)) :
    Rel (ρ.call (some b)) ⟨1025, G.set (.cells cs true) 1024⟩ w ∧ ∀ c', OwnR (ρ.call (some b)) ⟨1025, G.set (.cells cs true) 1024⟩ c' → c' = c := by
  have hlow : ∀ {x : Nat}, x < 1024 → (ρ.call (some b)) x = ρ x := fun hx => by simp [Emb.call, hx]
  have h1024 : (ρ.call (some b)) 1024 = some (c, d, m) := by simp [Emb.call, hρ]
  have hget : ∀ x, (⟨1025, G.set (.cells cs true) 1024⟩ : H).get x = if x = 1024 then some (.cells cs true) else G.get x := fun x => T.get_set _ G 1024 x
  have hG : ∀ {x : Nat} {o : PO}, G.get x = some o → x < 1024 ∧ ∃ cs vs, o = .cells cs false ∧ ρ.fz x = some vs ∧ ∀ (i : Nat) y, cs[i]? = some y → y.one = true ∧ ∃ v, vs[i]? = some v ∧ FR ρ.fz y v := fun {x o} hx => hr.glok x o hx
  have hnf : ∀ us', ρ.fz c = some us' → False := fun us' hc => (hr.fzok c us' hc).2 ⟨b, _, d, m, hb, rfl, hρ⟩
  have howner : ∀ {x : Nat} {o : PO}, (⟨1025, G.set (.cells cs true) 1024⟩ : H).get x = some o → o.own = true → x = 1024 := fun {x o} hx ho => by
    rw [hget] at hx
    by_cases e : x = 1024
    · exact e
    · rw [if_neg e] at hx
      obtain ⟨_, cs', vs', rfl, _⟩ := hG hx
      cases ho
  have howns : ∀ c', OwnR (ρ.call (some b)) ⟨1025, G.set (.cells cs true) 1024⟩ c' → c' = c := fun c' ⟨x, o, d1, m1, hx, ho, h1⟩ => by
    have := howner hx ho
    subst this
    rw [h1024] at h1
    simp only [Option.some.injEq, Prod.mk.injEq] at h1
    exact h1.1.symm
  refine ⟨⟨fun g hg => by rw [hlow hg]; exact hr.glob g hg, Nat.le_succ 1024, fun x hx => ?_, fun x o hx => ?_, fun x x' o o' c1 d1 m1 d2 m2 hx ho hx' h1 h2 => ?_, fun c' vs' hc => ⟨(hr.fzok c' vs' hc).1, fun ho => ?_⟩, hr.glok, fun x cs1 c1 d1 m1 hx h1 => ?_⟩, howns⟩
  · have hx : 1025 ≤ x := hx
    simp only [Emb.call, if_neg (show ¬ x < 1024 by omega), if_neg (show ¬ x = 1024 by omega)]
  · rw [hget] at hx
    by_cases e : x = 1024
    · subst e
      rw [if_pos rfl] at hx
      simp only [Option.some.injEq] at hx
      subst hx
      refine ⟨c, d, m, h1024, vs, et, fz, hh, fun i y hy => ?_, fun _ => ⟨hd, hm, hz⟩⟩
      obtain ⟨v, h1, h2⟩ := VRs.get (hf.vr (ρ := ρ.call (some b))) hy
      exact ⟨List.all_eq_true.1 hone y (List.mem_of_getElem? hy), v, hv i v h1, h2⟩
    · rw [if_neg e] at hx
      obtain ⟨hlt, cs', vs', rfl, hf', hx'⟩ := hG hx
      obtain ⟨mm, hmm⟩ := hr.glob x hlt
      obtain ⟨⟨et', fz', hh'⟩, _⟩ := hr.fzok x vs' hf'
      refine ⟨x, 0, mm, by rw [hlow hlt]; exact hmm, vs', et', fz', hh', fun i y hi => ?_, fun h => by cases h⟩
      obtain ⟨h1, v, h2, h3⟩ := hx' i y hi
      exact ⟨h1, v, by simpa using h2, FR.vr (ρ := ρ.call (some b)) h3⟩
  · have := howner hx ho
    subst this
    rw [h1024] at h1
    simp only [Option.some.injEq, Prod.mk.injEq] at h1
    obtain ⟨rfl, rfl, rfl⟩ := h1
    by_cases e : x' = 1024
    · exact e.symm
    · rw [hget, if_neg e] at hx'
      obtain ⟨hlt, cs', vs', _, hfx, _⟩ := hG hx'
      obtain ⟨mm, hmm⟩ := hr.glob x' hlt
      rw [hlow hlt, hmm] at h2
      simp only [Option.some.injEq, Prod.mk.injEq] at h2
      obtain ⟨rfl, _⟩ := h2
      exact (hnf _ hfx).elim
  · have := howns c' ho
    subst this
    exact hnf _ hc
  · rw [hget] at hx
    by_cases e : x = 1024
    · rw [if_pos e] at hx; simp at hx
    · rw [if_neg e] at hx
      obtain ⟨hlt, cs', vs', _, hfx, _⟩ := hG hx
      obtain ⟨mm, hmm⟩ := hr.glob x hlt
      rw [hlow hlt, hmm] at h1
      simp only [Option.some.injEq, Prod.mk.injEq] at h1
      exact ⟨vs', by rw [← h1.1]; exact hfx⟩

/-- what is told of a function's text -/
def BodySim (G : T PO) (P : Program) (f : FuncId) (body : List PV → HM PV) : Prop :=
  ∀ l h v h', body l h = some (v, h') → ∀ (ρ : Emb G) w (rl : List Value), Rel ρ h w → VRs ρ l rl → Calls P f rl.toArray w fun e w' => ∃ ρ' rv, e = .returned rv ∧ VR ρ' v rv ∧ Rel ρ' h' w' ∧ Stp (fun _ => False) ρ h w ρ' h' w'
variable {P : Program}
theorem Rel.own_lt (hr : Rel ρ h w) {c : Nat} (ho : OwnR ρ h c) : c < w.heap.size := by
  obtain ⟨b, o, d, m, hb, _, hρ⟩ := ho
  obtain ⟨c', d', m', h1, h2⟩ := hr.obj b o hb
  rw [hρ] at h1
  simp only [Option.some.injEq, Prod.mk.injEq] at h1
  rw [h1.1]; exact h2.some
/-- a world in which nothing that was there has changed; more may stay than before -/
theorem Rel.later (hr : Rel ρ h w) {ρ6 : Emb G} (hat : ρ6.at_ = ρ.at_) (hfl : FLe ρ.fz ρ6.fz) (hfz : ∀ c vs, ρ6.fz c = some vs → (∃ e z, w'.heap[c]? = some (.cells vs e z)) ∧ (ρ.fz c = some vs ∨ w.heap.size ≤ c))
    (frame : ∀ c, c < w.heap.size → w'.heap[c]? = w.heap[c]?) (hsz : w.heap.size ≤ w'.heap.size) (hos : w'.os = w.os) (htp : w'.tape = w.tape) (hout : w'.output = w.output) :
    Rel ρ6 h w' ∧ Stp may ρ h w ρ6 h w' := by
  have hat' : ∀ b, ρ6 b = ρ b := fun b => by rw [hat]
  have hown : ∀ c, OwnR ρ6 h c → OwnR ρ h c := fun c ⟨b, o, d, m, hb, ho, hρ⟩ => ⟨b, o, d, m, hb, ho, by rw [← hat']; exact hρ⟩
  have hele6 : ELe ρ ρ6 := ⟨fun b x h => by rw [hat']; exact h, hfl⟩
  refine ⟨⟨fun g hg => by rw [hat']; exact hr.glob g hg, hr.low, fun b hb => by rw [hat']; exact hr.dom b hb, fun b o hb => ?_, fun b b' o o' c d m d' m' h1 h2 h3 h4 h5 => hr.inj b b' o o' c d m d' m' h1 h2 h3 (by rw [← hat']; exact h4) (by rw [← hat']; exact h5), fun c vs hc => ⟨(hfz c vs hc).1, fun ho => ?_⟩, fun b o hb => ?_, fun b cs c d m hb hρ => ?_⟩,
    ⟨hele6, fun b _ hb => .inr (by rw [hat']; exact hb), fun c hc _ => frame c hc, hsz, fun c hc => .inr (hown c hc), Nat.le_refl _, hos, htp, hout, fun c vs hc => (hfz c vs hc).2.imp (fun h => h) fun h => .inr h⟩⟩
  · obtain ⟨c, d, m, h1, h2⟩ := hr.obj b o hb
    exact ⟨c, d, m, by rw [hat']; exact h1, h2.keep hele6 (frame c h2.some)⟩
  · rcases (hfz c vs hc).2 with k | k
    · exact (hr.fzok c vs k).2 (hown c ho)
    · have := hr.own_lt (hown c ho); omega
  · obtain ⟨q1, cs, vs, q2, q3, q4⟩ := hr.glok b o hb
    exact ⟨q1, cs, vs, q2, hfl _ _ q3, fun i x hx => let ⟨b1, v, b2, b3⟩ := q4 i x hx; ⟨b1, v, b2, b3.mono hfl⟩⟩
  · obtain ⟨vs, hvs⟩ := hr.rofz b cs c d m hb (by rw [← hat']; exact hρ)
    exact ⟨vs, hfl _ _ hvs⟩
theorem sim_inner0 {f : FuncId} {body : List PV → HM PV} (hs : BodySim G P f body) {as : List PV} {v : PV} (e : inner0 G body as = some v) (hr : Rel ρ h w) {rl : List Value} (hl : VRs (ρ.call none) as rl) :
    Calls P f rl.toArray w fun e w' => ∃ (ρ5 : Emb G) (rv : Value), e = .returned rv ∧ FR ρ5.fz v rv ∧ Rel ρ5 h w' ∧ Stp (fun _ => False) ρ h w ρ5 h w' ∧ ∀ c, c < w.heap.size → w'.heap[c]? = w.heap[c]? := by
  unfold inner0 at e
  cases hb : body as ⟨1024, G⟩ with
  | none => rw [hb] at e; cases e
  | some r =>
    obtain ⟨v1, h2⟩ := r
    rw [hb] at e
    simp only at e
    cases hf : frzM 1000 v1 h2 with
    | none => rw [hf] at e; cases e
    | some r2 =>
      obtain ⟨v2, h3⟩ := r2
      rw [hf] at e
      simp only [Option.some.injEq] at e
      subst e
      refine (hs _ _ _ _ hb (ρ.call none) w rl hr.call0 hl).mono fun e w' hh => ?_
      obtain ⟨ρ2, rv, he, hv, hr2, s2⟩ := hh
      obtain ⟨ρ3, hr3, s3, f3, _⟩ := sim_frzM (may := fun _ => False) 1000 hr2 hf hv
      have st := s2.both s3
      have frame : ∀ c, c < w.heap.size → w'.heap[c]? = w.heap[c]? := fun c hc => st.frame c hc (no_own0 hr c)
      obtain ⟨a1, a2⟩ := hr.later (may := fun _ => False) (ρ6 := ⟨ρ.at_, ρ3.fz⟩) rfl st.ext.fz (fun c vs hc => ⟨(hr3.fzok c vs hc).1, by
        rcases st.fzo c vs hc with k | k | k
        · exact .inl k
        · exact (no_own0 hr c k).elim
        · exact .inr k⟩) frame st.size st.os st.tape st.output
      exact ⟨⟨ρ.at_, ρ3.fz⟩, rv, he, f3, a1, a2, frame⟩
theorem sim_inner1 {f : FuncId} {body : List PV → HM PV} (hs : BodySim G P f body) {as cs cs' : List PV} {v : PV} (e : inner1 G body as cs = some (v, cs')) (hr : Rel ρ h w) {rl : List Value}
    {b c d m : Nat} {cs2 : List PV} {vs : Array Value} {us : List Value} {et : TypeId} {fz : Nat × Nat} (hb : h.get b = some (.cells cs2 true)) (hρ : ρ b = some (c, d, m))
    (hh : w.heap[c]? = some (.cells vs et fz)) (hf : FRs ρ.fz cs us) (hone : cs.all PV.one = true) (hv : ∀ (j : Nat) v, us[j]? = some v → vs[d + j]? = some v) (hd : d + cs.length ≤ m) (hm : m ≤ vs.size)
    (hz : ∀ j, d ≤ j → j < m → ¬ (fz.1 ≤ j ∧ j < fz.2)) (hl : VRs (ρ.call (some b)) as rl) :
    Calls P f rl.toArray w fun e w' => ∃ (ρ5 : Emb G) (rv : Value), e = .returned rv ∧ FR ρ5.fz v rv ∧ Rel ρ5 (h.put b (.cells cs' true)) w' ∧ Stp (fun _ => False) ρ h w ρ5 (h.put b (.cells cs' true)) w' := by
  obtain ⟨hrc, hoc⟩ := hr.call1 hb hρ hh hf hone hv hd hm hz
  unfold inner1 at e
  cases hbd : body as ⟨1025, G.set (.cells cs true) 1024⟩ with
  | none => rw [hbd] at e; cases e
  | some r =>
    obtain ⟨v1, h2⟩ := r
    rw [hbd] at e
    simp only at e
    cases hu : unlend v1 h2 with
    | none => rw [hu] at e; cases e
    | some r2 =>
      obtain ⟨r2, h4⟩ := r2
      rw [hu] at e
      simp only [Option.some.injEq] at e
      subst e
      unfold unlend at hu
      obtain ⟨v', h3, e1, e2⟩ := bnd_some hu
      obtain ⟨cs3, h5, e3, e4⟩ := bnd_some e2
      obtain ⟨e5, rfl⟩ := ret_some e4
      simp only [Prod.mk.injEq] at e5
      obtain ⟨rfl, rfl⟩ := e5
      refine (hs _ _ _ _ hbd (ρ.call (some b)) w rl hrc hl).mono fun e w' hh2 => ?_
      obtain ⟨ρ2, rv, he, hvr, hr2, s2⟩ := hh2
      obtain ⟨ρ3, hr3, s3, f3, _⟩ := sim_frzM (may := fun _ => False) 1000 hr2 e1 hvr
      obtain ⟨ρ4, c', d', m', cs4, vs', us', et', fz', hr4, s4, hg4, hlen4, hρ4, hh4, hf4, hone4, hv4, hd4, hm4, hz4⟩ := sim_lendM (may := fun _ => False) hr3 e3
      have st := (s2.both s3).both s4
      have h1024 : (ρ.call (some b)) 1024 = some (c, d, m) := by simp [Emb.call, hρ]
      have := st.ext _ _ h1024
      rw [hρ4] at this
      simp only [Option.some.injEq, Prod.mk.injEq] at this
      obtain ⟨rfl, rfl, rfl⟩ := this
      have frame : ∀ x, x < w.heap.size → x ≠ c' → w'.heap[x]? = w.heap[x]? := fun x hx hne => st.frame x hx fun ho => hne (hoc x ho)
      have hnc : ∀ vs, ρ4.fz c' = some vs → False := fun vs hc => (hr4.fzok c' vs hc).2 ⟨1024, _, _, _, hg4, rfl, hρ4⟩
      have hownc : OwnR ρ h c' := ⟨b, _, _, _, hb, rfl, hρ⟩
      have hfle : FLe ρ.fz ρ4.fz := st.ext.fz
      have hfo : ∀ x vs, ρ4.fz x = some vs → ¬ OwnR ρ h x := fun x vs hx ho => by
        rcases st.fzo x vs hx with k | k | k
        · exact (hr.fzok x vs k).2 ho
        · have := hoc x k; subst this; exact hnc _ hx
        · have := hr.own_lt ho; omega
      let ρ5 : Emb G := ⟨ρ.at_, ρ4.fz⟩
      have hele : ELe ρ ρ5 := ⟨fun _ _ h => h, hfle⟩
      have hgp : ∀ j, (h.put b (.cells cs3 true)).get j = if j = b then some (.cells cs3 true) else h.get j := fun j => H.get_put h b _ j
      have hown : ∀ x, OwnR ρ5 (h.put b (.cells cs3 true)) x → OwnR ρ h x := fun x ⟨y, o, d1, m1, hy, ho, h1⟩ => by
        rw [hgp] at hy
        by_cases e : y = b
        · subst e; exact ⟨y, _, d1, m1, hb, rfl, h1⟩
        · rw [if_neg e] at hy; exact ⟨y, o, d1, m1, hy, ho, h1⟩
      have hne : ∀ {y : Nat} {o : PO} {c1 d1 m1 : Nat}, y ≠ b → h.get y = some o → ρ y = some (c1, d1, m1) → c1 ≠ c' := fun {y o c1 d1 m1} hyb hy h1 ec => by
        subst ec
        exact hyb (hr.inj b y _ o _ _ _ d1 m1 hb rfl hy hρ h1).symm
      refine ⟨ρ5, rv, he, f3.mono s4.ext.fz, ⟨hr.glob, hr.low, hr.dom, fun y o hy => ?_, fun y y' o o' c1 d1 m1 d2 m2 hy ho hy' h1 h2 => ?_, fun x vs1 hx => ⟨(hr4.fzok x vs1 hx).1, fun ho => hfo x vs1 hx (hown x ho)⟩, fun y o hy => ?_, fun y cs1 c1 d1 m1 hy h1 => ?_⟩,
        ⟨hele, fun _ _ h => .inr h, fun x hx hnx => frame x hx fun ec => hnx (by rw [ec]; exact hownc), st.size, fun x hx => .inr (hown x hx), Nat.le_refl _, st.os, st.tape, st.output, fun x vs1 hx => ?_⟩⟩
      · rw [hgp] at hy
        by_cases e : y = b
        · subst e
          rw [if_pos rfl] at hy
          simp only [Option.some.injEq] at hy
          subst hy
          refine ⟨_, _, _, hρ, vs', et', fz', hh4, fun i x hx => ?_, fun _ => ⟨hd4, hm4, hz4⟩⟩
          obtain ⟨u, q1, q2⟩ := VRs.get (hf4.vr (ρ := ρ5)) hx
          exact ⟨List.all_eq_true.1 hone4 x (List.mem_of_getElem? hx), u, hv4 i u q1, q2⟩
        · rw [if_neg e] at hy
          obtain ⟨c1, d1, m1, h1, h2⟩ := hr.obj y o hy
          exact ⟨c1, d1, m1, h1, h2.keep hele (frame c1 h2.some (hne e hy h1))⟩
      · have old : ∀ {x : Nat} {ox : PO}, (h.put b (.cells cs3 true)).get x = some ox → ∃ oy, h.get x = some oy ∧ (ox.own = true → oy.own = true) := fun {x ox} hx => by
          rw [hgp] at hx
          by_cases e : x = b
          · subst e; exact ⟨_, hb, fun _ => rfl⟩
          · rw [if_neg e] at hx; exact ⟨ox, hx, fun h => h⟩
        obtain ⟨oy, q1, q2⟩ := old hy
        obtain ⟨oy', q3, _⟩ := old hy'
        exact hr.inj y y' oy oy' c1 d1 m1 d2 m2 q1 (q2 ho) q3 h1 h2
      · obtain ⟨q1, cs1, vs1, q2, q3, q4⟩ := hr.glok y o hy
        exact ⟨q1, cs1, vs1, q2, hfle _ _ q3, fun i x hx => let ⟨b1, v, b2, b3⟩ := q4 i x hx; ⟨b1, v, b2, b3.mono hfle⟩⟩
      · rw [hgp] at hy
        by_cases e : y = b
        · rw [if_pos e] at hy; simp at hy
        · rw [if_neg e] at hy
          obtain ⟨vs1, hvs⟩ := hr.rofz y cs1 c1 d1 m1 hy h1
          exact ⟨vs1, hfle _ _ hvs⟩
      · rcases st.fzo x vs1 hx with k | k | k
        · exact .inl k
        · have := hoc x k; subst this; exact (hnc _ hx).elim
        · exact .inr (.inr k)
theorem sim_pureC {f : FuncId} {body : List PV → HM PV} (hs : BodySim G P f body) : BodySim G P f (pureC G body) := by
  intro l h v h' e ρ w rl hr hl
  unfold pureC at e
  cases ha : frzArgs l h with
  | none => rw [ha] at e; cases e
  | some r =>
    obtain ⟨⟨as, bo⟩, h1⟩ := r
    rw [ha] at e
    obtain ⟨ρ1, hr1, s1, hlow, hl1⟩ := sim_frzArgs (may := fun _ => False) hr ha hl
    cases bo with
    | none =>
      simp only at e
      cases hi : inner0 G body as with
      | none => rw [hi] at e; cases e
      | some v1 =>
        rw [hi] at e
        simp only [Option.some.injEq, Prod.mk.injEq] at e
        obtain ⟨rfl, rfl⟩ := e
        have hla : VRs (ρ1.call none) as rl := hl1 (ρ1.call none) (fun _ _ h => h) (fun b hb => by simp [Emb.call, hb]) fun b hb => by cases hb
        refine (sim_inner0 hs hi hr1 hla).mono fun e w' hh => ?_
        obtain ⟨ρ5, rv, he, hv, hr5, st5, frame⟩ := hh
        cases hsc : scal v1 with
        | false => exact ⟨ρ5, rv, he, hv.vr, hr5, s1.both st5⟩
        | true =>
          obtain ⟨a1, a2⟩ := hr.later (may := fun _ => False) (ρ6 := ρ) rfl (fun _ _ h => h) (fun c vs hc => ⟨by rw [frame c (hr.fz_lt hc)]; exact (hr.fzok c vs hc).1, .inl hc⟩) frame st5.size st5.os st5.tape st5.output
          exact ⟨ρ, rv, he, scal_vr hsc hv, a1, a2⟩
    | some b =>
      simp only at e
      cases hle : lendM b h1 with
      | none => rw [hle] at e; cases e
      | some r2 =>
        obtain ⟨cs, h2⟩ := r2
        rw [hle] at e
        simp only at e
        cases hi : inner1 G body as cs with
        | none => rw [hi] at e; cases e
        | some r3 =>
          obtain ⟨v1, cs'⟩ := r3
          rw [hi] at e
          simp only at e
          cases hw : wr b (.cells cs' true) h2 with
          | none => rw [hw] at e; cases e
          | some r4 =>
            obtain ⟨u, h3⟩ := r4
            rw [hw] at e
            simp only [Option.some.injEq, Prod.mk.injEq] at e
            obtain ⟨rfl, rfl⟩ := e
            obtain ⟨_, rfl⟩ := wr_some hw
            obtain ⟨ρ2, c, d, m, cs2, vs, us, et, fz, hr2, s2, hg2, hlen2, hρ2, hh2, hf2, hone2, hv2, hd2, hm2, hz2⟩ := sim_lendM (may := fun _ => False) hr1 hle
            have hla : VRs (ρ2.call (some b)) as rl := hl1 (ρ2.call (some b)) s2.ext.fz (fun x hx => by
              obtain ⟨m1, hm1⟩ := hr1.glob x hx
              have := s2.ext _ _ hm1
              simp only [Emb.call, if_pos hx, hm1, this]) fun x hx => by
              simp only [Option.some.injEq] at hx
              subst hx
              obtain ⟨_, y, hb1⟩ := hlow b rfl
              simp only [Emb.call, Nat.lt_irrefl, if_false, if_true, Option.bind_some, hb1]
              exact s2.ext _ _ hb1
            refine (sim_inner1 hs hi hr2 hg2 hρ2 hh2 hf2 hone2 hv2 hd2 hm2 hz2 hla).mono fun e w' hh => ?_
            obtain ⟨ρ5, rv, he, hv, hr5, st5⟩ := hh
            exact ⟨ρ5, rv, he, hv.vr, hr5, (s1.both s2).both st5⟩
end
end Go.Pe
