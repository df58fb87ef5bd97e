/- The swap of two neighbours, and how an operation that is ready is brought to the front. -/
import Derived.Test.YthpmkcmeoadaaaaGreatDoorQeC
namespace Go.Pe
open HM

section
variable {P : Program} {call : FuncId → List PV → HM PV} {nt : Nat} {ops : Array Oper} {base : Nat} {ms : List Nat}
theorem execC_eq {ev : Operand → Option PV} {id : Nat} {op : Op} (h : kdOf P op ≠ .eff) : execC P call ev id op = execV P ev id op := by
  cases op
  case call c =>
    obtain ⟨cal, args, ts⟩ := c
    cases cal
    case value f => exact absurd rfl h
    all_goals rfl
  all_goals rfl
theorem runC_cons {i : Nat} {is : List Nat} {o : Oper} {tm : T PV} {h : H} {sn : List (Nat × H)} {r : T PV × H} (ho : ops[i]? = some o)
    (e : runC P call nt ops base ms (i :: is) tm h sn = some r) :
    (!wantV ops tm o || chk P ops base ms i o tm h sn) = true ∧ ∃ tm1 h1, opStep P call nt ops base i o tm h = some (tm1, h1) ∧ runC P call nt ops base ms is tm1 h1 (snapAdd P ops i o tm h sn) = some r := by
  simp only [runC, ho] at e
  cases hc : (!wantV ops tm o || chk P ops base ms i o tm h sn) with
  | false => rw [hc] at e; simp at e
  | true =>
    rw [hc] at e
    simp only [cond_true] at e
    cases hs : opStep P call nt ops base i o tm h with
    | none => rw [hs] at e; simp at e
    | some q =>
      obtain ⟨tm1, h1⟩ := q
      rw [hs] at e
      exact ⟨rfl, tm1, h1, rfl, e⟩
theorem runC_mk {i : Nat} {is : List Nat} {o : Oper} {tm : T PV} {h : H} {sn : List (Nat × H)} {r : T PV × H} {tm1 : T PV} {h1 : H} (ho : ops[i]? = some o)
    (hc : (!wantV ops tm o || chk P ops base ms i o tm h sn) = true) (hs : opStep P call nt ops base i o tm h = some (tm1, h1))
    (e : runC P call nt ops base ms is tm1 h1 (snapAdd P ops i o tm h sn) = some r) : runC P call nt ops base ms (i :: is) tm h sn = some r := by
  simp only [runC, ho, hc, cond_true, hs]
  exact e

theorem execV_of_opVal {i : Nat} {o : Oper} {tm : T PV} {h : H} {v : PV} {h' : H} (hw : wantV ops tm o = true) (hk : kdOf P o.op ≠ .eff)
    (e : opVal P call ops base i o tm h = some (v, h')) : execV P (opnd tm) (base + i) o.op h = some (v, h') := by
  unfold opVal at e
  rw [hw] at e
  simp only [cond_true] at e
  rwa [execC_eq hk] at e
theorem opVal_of_execV {i : Nat} {o : Oper} {tm : T PV} {h : H} {v : PV} {h' : H} (hw : wantV ops tm o = true) (hk : kdOf P o.op ≠ .eff)
    (e : execV P (opnd tm) (base + i) o.op h = some (v, h')) : opVal P call ops base i o tm h = some (v, h') := by
  unfold opVal
  rw [hw]
  simp only [cond_true]
  rwa [execC_eq hk]
theorem opVal_unwanted {i : Nat} {o : Oper} {tm : T PV} {h : H} (hw : wantV ops tm o = false) : opVal P call ops base i o tm h = some (.tup [], h) := by
  unfold opVal
  rw [hw]; rfl

/-- the heart: the operation y and then x, where x does not act and nothing of y is needed by x -/
theorem opVal_swap (hc : ∀ f l, Mono none (call f l)) {iy ix : Nat} {oy ox : Oper} {tm : T PV} {h h1 h2 : H} {vy vx : PV} {sn : List (Nat × H)}
    (hne : iy ≠ ix) (hinc : (ms.getD ix 0).testBit iy = false) (hxe : kdOf P ox.op ≠ .eff)
    (hsz : iy < ops.size) (hlim : base + ops.size ≤ h.next) (hux : ix < ops.size) (hub : h.get (base + ix) = none)
    (ey : opVal P call ops base iy oy tm h = some (vy, h1)) (ex : opVal P call ops base ix ox tm h1 = some (vx, h2))
    (hck : (!wantV ops tm ox || chk P ops base ms ix ox tm h1 (snapAdd P ops iy oy tm h sn)) = true) :
    ∃ h1', opVal P call ops base ix ox tm h = some (vx, h1') ∧ opVal P call ops base iy oy tm h1' = some (vy, h2) ∧
      (!wantV ops tm ox || chk P ops base ms ix ox tm h sn) = true ∧ HLe h h1' ∧
      (kdOf P oy.op = .quiet → wantV ops tm oy = true → ∀ v a, execV P (opnd tm) (base + iy) oy.op h = some (v, a) → ∃ a', execV P (opnd tm) (base + iy) oy.op h1' = some (v, a')) := by
  cases hwx : wantV ops tm ox with
  | false =>
    rw [opVal_unwanted hwx] at ex
    simp only [Option.some.injEq, Prod.mk.injEq] at ex
    obtain ⟨rfl, rfl⟩ := ex
    exact ⟨h, opVal_unwanted hwx, ey, rfl, fun _ _ hb => hb, fun _ _ v a hx => ⟨a, hx⟩⟩
  | true =>
    rw [hwx] at hck
    simp only [Bool.not_true, Bool.false_or] at hck
    have ex' := execV_of_opVal hwx hxe ex
    simp only [Bool.not_true, Bool.false_or]
    cases hkx : kdOf P ox.op with
    | eff => exact absurd hkx hxe
    | birth =>
      obtain ⟨hb1, o, rfl, hbx⟩ := birth_execV (P := P) hkx _ _ _ ex'
      have ⟨_, my⟩ := mono_opVal hc iy oy tm _ _ _ ey
      have ⟨my1, _⟩ := my (base + ix) o (by omega) (by simp only [ne_eq, Option.some.injEq]; omega) hub
      refine ⟨h.put (base + ix) o, opVal_of_execV hwx hxe (hbx h hub), my1, ?_, fun b o' hb => ?_, fun hq hw v a hx => ?_⟩
      · unfold chk; rw [hkx]
      · rw [H.get_put, if_neg (fun e => by rw [e, hub] at hb; simp at hb)]; exact hb
      · have q := (quiet_execV (P := P) (ev := opnd tm) (id := base + iy) hq _ _ _ hx).2 (h.put (base + ix) o) fun b o' _ hb => by
          rw [H.get_put, if_neg (fun e => by rw [e, hub] at hb; simp at hb)]; exact hb
        exact ⟨_, q⟩
    | quiet =>
      obtain ⟨rfl, qx⟩ := quiet_execV (P := P) hkx _ _ _ ex'
      -- the look gives the same ahead of y
      have key : execV P (opnd tm) (base + ix) ox.op h = some (vx, h) := by
        unfold chk at hck
        rw [hkx] at hck
        simp only at hck
        cases ht : touch (opnd tm) ox.op with
        | none => exact qx h fun b o hb => by rw [ht] at hb; simp at hb
        | some b =>
          rw [ht] at hck
          simp only [Bool.and_eq_true] at hck
          cases hwy : wantV ops tm oy with
          | false =>
            rw [opVal_unwanted hwy] at ey
            simp only [Option.some.injEq, Prod.mk.injEq] at ey
            obtain ⟨_, rfl⟩ := ey
            exact ex'
          | true =>
            cases hky : kdOf P oy.op with
            | quiet =>
              obtain ⟨rfl, _⟩ := quiet_execV (P := P) hky _ _ _ (execV_of_opVal hwy (by rw [hky]; simp) ey)
              exact ex'
            | birth =>
              obtain ⟨hby, o, rfl, _⟩ := birth_execV (P := P) hky _ _ _ (execV_of_opVal hwy (by rw [hky]; simp) ey)
              refine qx h fun b' o' hb' ho' => ?_
              rw [ht] at hb'
              simp only [Option.some.injEq] at hb'
              subst hb'
              have hbne : b ≠ base + iy := by
                intro e
                have h1 := hck.1
                unfold touchOk at h1
                simp only [Bool.or_eq_true, Nat.blt_eq, Nat.ble_eq] at h1
                rcases h1 with (h1 | h1) | h1
                · omega
                · omega
                · rw [show b - base = iy by omega, hinc] at h1; simp at h1
              rw [H.get_put, if_neg hbne] at ho'
              exact ho'
            | eff =>
              have h2 := hck.2
              unfold snapAdd at h2
              rw [hky, hwy] at h2
              simp only [Kd.isEff, Bool.and_self, cond_true, snapOk, hinc, Bool.false_or, Bool.and_eq_true] at h2
              have h3 := h2.1
              rw [ex'] at h3
              cases hx : execV P (opnd tm) (base + ix) ox.op h with
              | none => rw [hx] at h3; simp at h3
              | some r =>
                obtain ⟨v', a'⟩ := r
                rw [hx] at h3
                simp only at h3
                obtain ⟨rfl, _⟩ := quiet_execV (P := P) hkx _ _ _ hx
                rw [eqP_eq h3]
      refine ⟨h, opVal_of_execV hwx hxe key, ey, ?_, fun _ _ hb => hb, fun _ _ v a hx => ⟨a, hx⟩⟩
      refine chk_congr (tm := tm) (h := h2) (fun _ _ => rfl) (fun _ v a hx => ?_) (sn := sn) ?_
      · rw [ex'] at hx
        simp only [Option.some.injEq, Prod.mk.injEq] at hx
        exact ⟨h, by rw [key, hx.1]⟩
      · unfold chk at hck ⊢
        rw [hkx] at hck ⊢
        simp only at hck ⊢
        cases ht : touch (opnd tm) ox.op with
        | none => rfl
        | some b =>
          rw [ht] at hck
          simp only [Bool.and_eq_true] at hck ⊢
          refine ⟨hck.1, ?_⟩
          have h2 := hck.2
          unfold snapAdd at h2
          cases hq : ((kdOf P oy.op).isEff && wantV ops tm oy) with
          | false => rw [hq] at h2; exact h2
          | true =>
            rw [hq] at h2
            simp only [cond_true, snapOk, Bool.and_eq_true] at h2
            exact h2.2

theorem putT_swap {tm tmy tmyx : T PV} {dy dx : Option Tmp} {vy vx : PV} (hne : ∀ d, dy = some d → dx ≠ some d)
    (h1 : putT nt tm dy vy = some tmy) (h2 : putT nt tmy dx vx = some tmyx) : ∃ tmx, putT nt tm dx vx = some tmx ∧ putT nt tmx dy vy = some tmyx := by
  rcases putT_some h1 with ⟨rfl, rfl⟩ | ⟨k, rfl, hk, rfl⟩
  · exact ⟨tmyx, h2, rfl⟩
  · rcases putT_some h2 with ⟨rfl, rfl⟩ | ⟨j, rfl, hj, rfl⟩
    · exact ⟨tm, rfl, h1⟩
    · have hkj : j ≠ k := fun e => hne k rfl (by rw [e])
      refine ⟨tm.set vx j, ?_, ?_⟩
      · simp only [putT]; rw [show Nat.blt j nt = true by rw [Nat.blt_eq]; exact hj]; rfl
      · simp only [putT]; rw [show Nat.blt k nt = true by rw [Nat.blt_eq]; exact hk]
        simp only [cond_true]
        rw [T.set_set vy vx tm k j hkj]

theorem swap (hc : ∀ f l, Mono none (call f l)) {iy ix : Nat} {oy ox : Oper} {B : List Nat} {tm : T PV} {h : H} {sn : List (Nat × H)} {r : T PV × H}
    (hoy : ops[iy]? = some oy) (hox : ops[ix]? = some ox) (hne : iy ≠ ix) (hinc : (ms.getD ix 0).testBit iy = false) (hap : Oper.apart ops oy ox = true) (hxe : kdOf P ox.op ≠ .eff)
    (hlim : base + ops.size ≤ h.next) (hub : h.get (base + ix) = none)
    (e : runC P call nt ops base ms (iy :: ix :: B) tm h sn = some r) : runC P call nt ops base ms (ix :: iy :: B) tm h sn = some r := by
  obtain ⟨a1, a2, a3⟩ := Oper.apart_spec hap
  obtain ⟨hcy, tmy, h1, sy, e1⟩ := runC_cons hoy e
  obtain ⟨hcx, tmyx, h2, sx, e2⟩ := runC_cons hox e1
  obtain ⟨vy, ovy, py⟩ := opStep_some sy
  obtain ⟨vx, ovx, px⟩ := opStep_some sx
  have wx : wantV ops tmy ox = wantV ops tm ox := wantV_putT py a1
  rw [opVal_putT py a1] at ovx
  have hsz : iy < ops.size := by
    rcases Nat.lt_or_ge iy ops.size with h | h
    · exact h
    · rw [Array.getElem?_eq_none h] at hoy; simp at hoy
  have hux : ix < ops.size := by
    rcases Nat.lt_or_ge ix ops.size with h | h
    · exact h
    · rw [Array.getElem?_eq_none h] at hox; simp at hox
  have hck : (!wantV ops tm ox || chk P ops base ms ix ox tm h1 (snapAdd P ops iy oy tm h sn)) = true := by
    rw [wx] at hcx
    simp only [Bool.or_eq_true] at hcx ⊢
    exact hcx.imp id fun hk => chk_congr (fun x hx => ((evs_putT py a1) x hx).symm) (fun _ v a hx => ⟨a, hx⟩) hk
  obtain ⟨h1', q1, q2, q3, q4, q5⟩ := opVal_swap hc hne hinc hxe hsz hlim hux hub ovy ovx hck
  obtain ⟨tmx, p1, p2⟩ := putT_swap a2 py px
  have wy : wantV ops tmx oy = wantV ops tm oy := wantV_putT p1 a3
  refine runC_mk hox q3 (opStep_mk q1 p1) ?_
  have sx0 : snapAdd P ops ix ox tm h sn = sn := by
    unfold snapAdd
    cases hk : kdOf P ox.op with
    | eff => exact absurd hk hxe
    | quiet => rfl
    | birth => rfl
  rw [sx0]
  refine runC_mk hoy ?_ (opStep_mk (by rw [opVal_putT p1 a3]; exact q2) p2) ?_
  · rw [wy]
    cases hwy : wantV ops tm oy with
    | false => rfl
    | true =>
      rw [hwy] at hcy
      simp only [Bool.not_true, Bool.false_or] at hcy ⊢
      exact chk_congr (tm := tm) (evs_putT p1 a3) (fun hq v a hx => q5 hq hwy v a hx) hcy
  · refine runC_le B ?_ e2
    have : snapAdd P ops ix ox tmy h1 (snapAdd P ops iy oy tm h sn) = snapAdd P ops iy oy tm h sn := by
      unfold snapAdd
      cases hk : kdOf P ox.op with
      | eff => exact absurd hk hxe
      | quiet => rfl
      | birth => rfl
    rw [this]
    unfold snapAdd
    rw [wy]
    cases (kdOf P oy.op).isEff && wantV ops tm oy with
    | false => exact SnLe.refl _
    | true => exact .cons q4 (SnLe.refl _)

/-- what is ready is brought to the front -/
theorem bubble (hc : ∀ f l, Mono none (call f l)) {ix : Nat} {ox : Oper} (hox : ops[ix]? = some ox) : ∀ (A : List Nat) {B : List Nat} {tm : T PV} {h : H} {sn : List (Nat × H)} {r : T PV × H},
    (∀ y ∈ A, pairOk P ops ms y ix = true ∧ y ≠ ix ∧ (ms.getD ix 0).testBit y = false) → base + ops.size ≤ h.next → h.get (base + ix) = none →
    runC P call nt ops base ms (A ++ ix :: B) tm h sn = some r → runC P call nt ops base ms (ix :: (A ++ B)) tm h sn = some r
  | [], _, _, _, _, _, _, _, _, e => e
  | y :: A, B, tm, h, sn, r, hA, hlim, hub, e => by
    obtain ⟨hpy, hne, hinc⟩ := hA y (by simp)
    cases hoy : ops[y]? with
    | none => unfold pairOk at hpy; rw [hoy] at hpy; simp at hpy
    | some oy =>
      have hpy' := hpy
      unfold pairOk at hpy'
      rw [hoy, hox] at hpy'
      simp only [hinc, Bool.false_or, Bool.and_eq_true] at hpy'
      obtain ⟨_, hap, hxe⟩ := hpy'
      have hxe' : kdOf P ox.op ≠ .eff := fun e => by rw [e] at hxe; simp [Kd.isEff] at hxe
      have e' : runC P call nt ops base ms (y :: (A ++ ix :: B)) tm h sn = some r := e
      obtain ⟨hcy, tmy, h1, sy, e1⟩ := runC_cons hoy e'
      have hux : ix < ops.size := by
        rcases Nat.lt_or_ge ix ops.size with h | h
        · exact h
        · rw [Array.getElem?_eq_none h] at hox; simp at hox
      have ⟨n1, m1⟩ := mono_opStep hc y oy tm h tmy h1 sy
      have ih := bubble hc hox A (fun z hz => hA z (by simp [hz])) (Nat.le_trans hlim n1) ((m1 (base + ix) (.map []) (by omega) (by omega) hub).2) e1
      have e3 : runC P call nt ops base ms (y :: ix :: (A ++ B)) tm h sn = some r := runC_mk hoy hcy sy ih
      exact swap hc hoy hox hne hinc hap hxe' hlim hub e3
end
end Go.Pe
