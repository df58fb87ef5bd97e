/- Comparing, slicing, converting: the evaluation's value is the world's. -/
import Derived.Test.YthpmkcmeoadaaaaGreatDoorQeW
import Derived.Laws.StructEq
namespace Go.Pe
open HM
variable {G : T PO}
set_option linter.unusedVariables false
set_option linter.unusedSimpArgs false

section
variable {ρ : Emb G} {P : Program} {w : World}
theorem beq_str (s t : ByteArray) : (s == t) = bEq (bytesOf s) (bytesOf t) := by
  rw [bEq_str, beq_toListBytes]
theorem VR.nil_inv {z : Nat} {es : List PV} {v : Value} (h : VR ρ (.fl true z es) v) : v = .slice none 0 0 := by
  rcases h with ⟨_, _, h⟩ | ⟨h, _⟩
  · exact h
  · cases h
theorem VR.inv_nili {a : PV} (h : VR ρ a .nilIface) : a = .nili := by
  cases a
  case nili => rfl
  case b => cases h
  case i => cases h
  case s => obtain ⟨_, h, _⟩ := h; cases h
  case nilp => cases h
  case p => obtain ⟨_, _, _, _, h⟩ := h; cases h
  case sl => obtain ⟨_, _, h, _⟩ := h; cases h
  case agg => obtain ⟨_, h, _⟩ := h; cases h
  case tup => obtain ⟨_, h, _⟩ := h; cases h
  case nilf => cases h
  case fn => obtain ⟨_, h, _⟩ := h; cases h
  case ifc => obtain ⟨_, h, _⟩ := h; cases h
  case nilm => cases h
  case m => obtain ⟨_, _, _, _, h⟩ := h; cases h
  case fl => rcases h with ⟨_, _, h⟩ | ⟨_, _, _, h, _⟩ <;> cases h
  case fp => obtain ⟨_, _, _, _, h, _⟩ := h; cases h
theorem VR.inv_agg {a : PV} {xs : Array Value} (h : VR ρ a (.agg xs)) : ∃ l, a = .agg l := by
  cases a
  case agg l => exact ⟨l, rfl⟩
  case b => cases h
  case i => cases h
  case s => obtain ⟨_, h, _⟩ := h; cases h
  case nilp => cases h
  case p => obtain ⟨_, _, _, _, h⟩ := h; cases h
  case sl => obtain ⟨_, _, h, _⟩ := h; cases h
  case nili => cases h
  case tup => obtain ⟨_, h, _⟩ := h; cases h
  case nilf => cases h
  case fn => obtain ⟨_, h, _⟩ := h; cases h
  case ifc => obtain ⟨_, h, _⟩ := h; cases h
  case nilm => cases h
  case m => obtain ⟨_, _, _, _, h⟩ := h; cases h
  case fl => rcases h with ⟨_, _, h⟩ | ⟨_, _, _, h, _⟩ <;> cases h
  case fp => obtain ⟨_, _, _, _, h, _⟩ := h; cases h
theorem sim_eqFs {d : Nat} (ih : ∀ {t : TypeId} {x y : PV} {r : Bool} {vx vy : Value}, eqV P d t x y = some r → VR ρ x vx → VR ρ y vy → (Op.equalIn d t vx vy).run P w = .ok r w)
    {xs ys : List PV} {vxs vys : List Value} (hx : VRs ρ xs vxs) (hy : VRs ρ ys vys) : ∀ {fs : List Field} {r : Bool}, eqFs P (eqV P d) fs xs ys = some r → (Op.eqFields d vxs.toArray vys.toArray fs).run P w = .ok r w
  | [], r, e => by
    simp only [eqFs, Option.some.injEq] at e
    subst e
    simp [Op.eqFields]
  | f :: fs, r, e => by
    simp only [eqFs] at e
    by_cases hn : f.name = "_"
    · rw [if_pos hn] at e
      rw [Op.eqFields, if_neg (fun h => h hn)]
      exact sim_eqFs ih hx hy e
    · rw [if_neg hn] at e
      rw [Op.eqFields, if_pos hn]
      cases ha : partV P f.type xs f.offset with
      | none => rw [ha] at e; simp at e
      | some a =>
        rw [ha] at e
        cases hb : partV P f.type ys f.offset with
        | none => rw [hb] at e; simp at e
        | some b =>
          rw [hb] at e
          simp only at e
          obtain ⟨va, ra, vra⟩ := sim_partV (w := w) hx ha
          obtain ⟨vb, rb, vrb⟩ := sim_partV (w := w) hy hb
          cases hq : eqV P d f.type a b with
          | none => rw [hq] at e; simp at e
          | some q =>
            rw [hq] at e
            have hrun := ih hq vra vrb
            simp only [Sem.run_bind, ra, rb, hrun, Result.andThen_ok]
            cases q with
            | false =>
              simp only [Option.some.injEq] at e
              subst e
              simp
            | true =>
              simp only at e
              simpa using sim_eqFs ih hx hy e
set_option maxHeartbeats 1600000 in
theorem sim_eqV : ∀ {d : Nat} {t : TypeId} {x y : PV} {r : Bool} {vx vy : Value}, eqV P d t x y = some r → VR ρ x vx → VR ρ y vy → (Op.equalIn d t vx vy).run P w = .ok r w
  | 0, t, x, y, r, vx, vy, e, _, _ => by simp [eqV] at e
  | d + 1, t, x, y, r, vx, vy, e, hx, hy => by
    simp only [eqV] at e
    split at e
    all_goals (rename_i hu)
    case h_1 => simp only [Option.some.injEq] at e; subst e; subst hx; subst hy; simp [Op.equalIn, run_underlying hu]
    case h_2 =>
      split at e
      · rename_i hk
        simp only [Option.some.injEq] at e; subst e; subst hx; subst hy
        simp only [Op.equalIn, Sem.run_bind, run_underlying hu, Result.andThen_ok, if_pos hk, Sem.run_pure]
        congr 1
      · simp at e
    case h_3 =>
      simp only [Option.some.injEq] at e; subst e
      obtain ⟨s, rfl, rfl⟩ := hx
      obtain ⟨s', rfl, rfl⟩ := hy
      simp only [Op.equalIn, Sem.run_bind, run_underlying hu, Result.andThen_ok, Sem.run_pure, beq_str]
    case h_4 => simp only [Option.some.injEq] at e; subst e; subst hx; subst hy; simp [Op.equalIn, run_underlying hu]
    case h_5 => simp only [Option.some.injEq] at e; subst e; subst hx; obtain ⟨c, dd, m, _, rfl⟩ := hy; simp [Op.equalIn, run_underlying hu]
    case h_6 => simp only [Option.some.injEq] at e; subst e; subst hy; obtain ⟨c, dd, m, _, rfl⟩ := hx; simp [Op.equalIn, run_underlying hu]
    case h_7 => simp only [Option.some.injEq] at e; subst e; subst hx; obtain ⟨v, rfl, _⟩ := hy; simp [Op.equalIn, run_underlying hu]
    case h_8 => simp only [Option.some.injEq] at e; subst e; subst hy; obtain ⟨v, rfl, _⟩ := hx; simp [Op.equalIn, run_underlying hu]
    case h_9 => simp only [Option.some.injEq] at e; subst e; subst hx; subst hy; simp [Op.equalIn, run_underlying hu]
    case h_10 =>
      simp only [Option.some.injEq] at e; subst e
      obtain rfl := VR.nil_inv hy
      rcases hx with ⟨rfl, _, rfl⟩ | ⟨rfl, a, cap, rfl, _⟩ <;> simp [Op.equalIn, run_underlying hu]
    case h_11 => simp only [Option.some.injEq] at e; subst e; obtain rfl := VR.nil_inv hx; obtain ⟨a, cap, rfl, _⟩ := hy; simp [Op.equalIn, run_underlying hu]
    case h_12 => simp only [Option.some.injEq] at e; subst e; obtain rfl := VR.nil_inv hy; obtain ⟨a, cap, rfl, _⟩ := hx; simp [Op.equalIn, run_underlying hu]
    case h_13 => simp only [Option.some.injEq] at e; subst e; subst hx; subst hy; simp [Op.equalIn, run_underlying hu]
    case h_14 => simp only [Option.some.injEq] at e; subst e; subst hx; obtain ⟨c, dd, m, _, rfl⟩ := hy; simp [Op.equalIn, run_underlying hu]
    case h_15 => simp only [Option.some.injEq] at e; subst e; subst hy; obtain ⟨c, dd, m, _, rfl⟩ := hx; simp [Op.equalIn, run_underlying hu]
    case h_16 => simp only [Option.some.injEq] at e; subst e; subst hx; subst hy; simp [Op.equalIn, run_underlying hu]
    case h_17 => simp only [Option.some.injEq] at e; subst e; subst hx; obtain ⟨vs, rfl, _⟩ := hy; simp [Op.equalIn, run_underlying hu]
    case h_18 => simp only [Option.some.injEq] at e; subst e; subst hy; obtain ⟨vs, rfl, _⟩ := hx; simp [Op.equalIn, run_underlying hu]
    case h_19 =>
      cases hs : P.stoodInHeld t with
      | true => rw [hs] at e; simp at e
      | false =>
        rw [hs] at e
        simp only [cond_false] at e
        obtain ⟨vxs, rfl, hxs⟩ := hx
        obtain ⟨vys, rfl, hys⟩ := hy
        rename_i fs _ _
        have hf : P.fieldsOf t = fs := by simp [Program.fieldsOf, hu]
        rw [run_equalIn_struct (P := P) w d t vxs.toArray vys.toArray (by rw [hf]; exact hu) hs, hf]
        exact sim_eqFs (fun e hx hy => sim_eqV e hx hy) hxs hys e
    case h_20 =>
      simp only [Option.some.injEq] at e; subst e
      obtain rfl := VR.nil_inv hx
      rcases hy with ⟨rfl, _, rfl⟩ | ⟨rfl, a, cap, rfl, _⟩ <;> simp [Op.equalIn, run_underlying hu]
    case h_21 => simp only [Option.some.injEq] at e; subst e; subst hx; obtain ⟨_, _, _, _, rfl, _⟩ := hy; simp [Op.equalIn, run_underlying hu]
    case h_22 => simp only [Option.some.injEq] at e; subst e; subst hy; obtain ⟨_, _, _, _, rfl, _⟩ := hx; simp [Op.equalIn, run_underlying hu]
    case h_23 => simp at e

/-- an operation on two operands -/
theorem cmp_shape {d : Nat} {t : TypeId} {a b : PV} {q : Bool} {va vb : Value} (e : eqV P (d + 1) t a b = some q) (ha : VR ρ a va) (hb : VR ρ b vb)
    (hi : ∀ k m k' n, a = .i k m → b = .i k' n → False) (hs : ∀ m n, a = .s m → b = .s n → False) :
    binOp .eql t va vb = (do pure (.bool (← Op.equal t va vb))) ∧ binOp .neq t va vb = (do pure (.bool (!(← Op.equal t va vb)))) := by
  simp only [eqV] at e
  split at e
  case h_1 => subst ha; subst hb; exact ⟨rfl, rfl⟩
  case h_2 => exact (hi _ _ _ _ rfl rfl).elim
  case h_3 => exact (hs _ _ rfl rfl).elim
  case h_4 => subst ha; subst hb; exact ⟨rfl, rfl⟩
  case h_5 => subst ha; obtain ⟨c, dd, m, _, rfl⟩ := hb; exact ⟨rfl, rfl⟩
  case h_6 => subst hb; obtain ⟨c, dd, m, _, rfl⟩ := ha; exact ⟨rfl, rfl⟩
  case h_7 => subst ha; obtain ⟨v, rfl, _⟩ := hb; exact ⟨rfl, rfl⟩
  case h_8 => subst hb; obtain ⟨v, rfl, _⟩ := ha; exact ⟨rfl, rfl⟩
  case h_9 => subst ha; subst hb; exact ⟨rfl, rfl⟩
  case h_10 => obtain rfl := VR.nil_inv hb; rcases ha with ⟨_, _, rfl⟩ | ⟨_, x, cap, rfl, _⟩ <;> exact ⟨rfl, rfl⟩
  case h_11 => obtain rfl := VR.nil_inv ha; obtain ⟨x, cap, rfl, _⟩ := hb; exact ⟨rfl, rfl⟩
  case h_12 => obtain rfl := VR.nil_inv hb; obtain ⟨x, cap, rfl, _⟩ := ha; exact ⟨rfl, rfl⟩
  case h_13 => subst ha; subst hb; exact ⟨rfl, rfl⟩
  case h_14 => subst ha; obtain ⟨c, dd, m, _, rfl⟩ := hb; exact ⟨rfl, rfl⟩
  case h_15 => subst hb; obtain ⟨c, dd, m, _, rfl⟩ := ha; exact ⟨rfl, rfl⟩
  case h_16 => subst ha; subst hb; exact ⟨rfl, rfl⟩
  case h_17 => subst ha; obtain ⟨vs, rfl, _⟩ := hb; exact ⟨rfl, rfl⟩
  case h_18 => subst hb; obtain ⟨vs, rfl, _⟩ := ha; exact ⟨rfl, rfl⟩
  case h_19 => obtain ⟨vxs, rfl, _⟩ := ha; obtain ⟨vys, rfl, _⟩ := hb; exact ⟨rfl, rfl⟩
  case h_20 => obtain rfl := VR.nil_inv ha; rcases hb with ⟨_, _, rfl⟩ | ⟨_, x, cap, rfl, _⟩ <;> exact ⟨rfl, rfl⟩
  case h_21 => subst ha; obtain ⟨_, _, _, _, rfl, _⟩ := hb; exact ⟨rfl, rfl⟩
  case h_22 => subst hb; obtain ⟨_, _, _, _, rfl, _⟩ := ha; exact ⟨rfl, rfl⟩
  case h_23 => simp at e
theorem guard_ok {op : BinOp} {t : TypeId} {x y : Operand} {a b : PV} {va vb : Value} (h : eqOk P t x y a b = true) (ha : VR ρ a va) (hb : VR ρ b vb) : (eqGuard op t x y va vb).run P w = .ok () w := by
  unfold eqGuard
  by_cases hop : (!(op matches .eql | .neq)) = true
  · cases op <;> simp at hop ⊢
  · cases va <;> cases vb
    case nilIface.nilIface =>
      have ha' := VR.inv_nili ha
      have hb' := VR.inv_nili hb
      subst ha'; subst hb'
      simp only [eqOk, Bool.or_eq_true] at h
      rcases h with h | h
      · cases x <;> simp [isC] at h
        cases op <;> simp
      · cases y <;> simp [isC] at h
        cases op <;> cases x <;> simp
    case agg.agg xs ys =>
      have ha' := VR.inv_agg ha
      have hb' := VR.inv_agg hb
      obtain ⟨l, rfl⟩ := ha'
      obtain ⟨l', rfl⟩ := hb'
      simp only [eqOk, Bool.not_eq_true'] at h
      cases op <;> simp [h]
    all_goals (cases op <;> simp)
theorem sim_binV {op : BinOp} {t : TypeId} {x y : Operand} {a b r : PV} {va vb : Value} (e : binV P op t x y a b = some r) (ha : VR ρ a va) (hb : VR ρ b vb) :
    ∃ v, (do eqGuard op t x y va vb; binOp op t va vb : Sem Value).run P w = .ok v w ∧ VR ρ r v := by
  have hg : ∀ {k k' : IntKind} {m n : Int}, a = .i k m → b = .i k' n → (eqGuard op t x y va vb).run P w = .ok () w := fun h1 h2 => by
    subst h1; subst h2
    exact guard_ok (a := .i _ _) (b := .i _ _) rfl ha hb
  unfold binV at e
  split at e
  · have g := hg rfl rfl
    subst ha; subst hb
    simp only [Sem.run_bind, g, Result.andThen_ok]
    exact sim_shift e t
  · have g := hg rfl rfl
    subst ha; subst hb
    simp only [Sem.run_bind, g, Result.andThen_ok]
    exact sim_shift e t
  · split at e
    · rename_i hs1 hs2 hk
      subst hk
      have g := hg rfl rfl
      subst ha; subst hb
      simp only [Sem.run_bind, g, Result.andThen_ok]
      refine sim_arith e t ⟨fun h => ?_, fun h => ?_⟩
      · subst h; simp [arith] at e
      · subst h; simp [arith] at e
    · simp at e
  · have g : (eqGuard op t x y va vb).run P w = .ok () w := guard_ok (a := .s _) (b := .s _) rfl ha hb
    obtain ⟨s, rfl, rfl⟩ := ha
    obtain ⟨s', rfl, rfl⟩ := hb
    simp only [Sem.run_bind, g, Result.andThen_ok]
    exact sim_strV e t
  · rename_i h1 h2 h3 h4
    cases ho : eqOk P t x y a b with
    | false => rw [ho] at e; simp at e
    | true =>
      rw [ho] at e
      simp only [cond_true] at e
      split at e
      · rename_i q hq
        simp only [Option.some.injEq] at e
        subst e
        have g : (eqGuard .eql t x y va vb).run P w = .ok () w := guard_ok ho ha hb
        have hs := cmp_shape (d := 9999) hq ha hb (fun k m k' n e1 e2 => h3 k m k' n e1 e2) (fun m n e1 e2 => h4 m n e1 e2)
        have heq : (Op.equal t va vb).run P w = .ok q w := sim_eqV hq ha hb
        simp only [Sem.run_bind, g, Result.andThen_ok, hs.1, heq, Sem.run_pure]
        exact ⟨_, rfl, rfl⟩
      · simp at e
  · rename_i h1 h2 h3 h4
    cases ho : eqOk P t x y a b with
    | false => rw [ho] at e; simp at e
    | true =>
      rw [ho] at e
      simp only [cond_true] at e
      split at e
      · rename_i q hq
        simp only [Option.some.injEq] at e
        subst e
        have g : (eqGuard .neq t x y va vb).run P w = .ok () w := guard_ok ho ha hb
        have hs := cmp_shape (d := 9999) hq ha hb (fun k m k' n e1 e2 => h3 k m k' n e1 e2) (fun m n e1 e2 => h4 m n e1 e2)
        have heq : (Op.equal t va vb).run P w = .ok q w := sim_eqV hq ha hb
        simp only [Sem.run_bind, g, Result.andThen_ok, hs.2, heq, Sem.run_pure]
        exact ⟨_, rfl, rfl⟩
      · simp at e
  · simp at e
theorem sim_unV {op : UnOp} {a r : PV} {va : Value} (e : unV op a = some r) (ha : VR ρ a va) : ∃ v, (Op.unary op va).run P w = .ok v w ∧ VR ρ r v := by
  unfold unV at e
  split at e
  · split at e
    · simp only [Option.some.injEq] at e
      subst e; subst ha
      exact ⟨_, rfl, by rw [wrapF_eq]; rfl⟩
    · simp at e
  · split at e
    · simp only [Option.some.injEq] at e
      subst e; subst ha
      exact ⟨_, rfl, rfl⟩
    · simp at e
  · simp at e
end
end Go.Pe
