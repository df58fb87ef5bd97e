/- The quick evaluator: regions, code, calls. -/
import Derived.Test.YthpmkcmeoadaaaaGreatDoorQgC
namespace Go.Pe
open HM
set_option linter.unusedVariables false
set_option linter.unusedSimpArgs false

/-- where a value goes -/
inductive DK where
  | drop
  | put (p : R)
  | slow (d : Nat)
  | bad
def dkOf (nt : Nat) : Option Tmp → DK
  | none => .drop
  | some d => bif Nat.blt d nt then (bif Nat.blt d 1099511627776 then .put (pth 40 d) else .slow d) else .bad
noncomputable def DK.go (d : DK) (v : PV) (tm : T PV) : Option (T PV) := match d with
  | .drop => some tm
  | .put p => some (setP v p tm)
  | .slow k => some (tm.set v k)
  | .bad => none
theorem dk_eq (nt : Nat) (d : Option Tmp) (v : PV) (tm : T PV) : (dkOf nt d).go v tm = putT nt tm d v := by
  cases d with
  | none => rfl
  | some d =>
    show (bif Nat.blt d nt then (bif Nat.blt d 1099511627776 then DK.put (pth 40 d) else .slow d) else .bad).go v tm = bif Nat.blt d nt then some (tm.set v d) else none
    cases Nat.blt d nt with
    | false => rfl
    | true =>
      simp only [cond_true]
      cases h : Nat.blt d 1099511627776 with
      | false => rfl
      | true =>
        have : d < 1099511627776 := by simpa [Nat.blt_eq] using h
        simp only [cond_true, DK.go]
        rw [setP_eq v 40 d tm this]
noncomputable def bitF (d : Nat) (w : Bool) : Bx (T PV → Bool) := match w with
  | true => ⟨fun tm => match getP (pth 40 d) tm with
    | some (.b x) => x
    | _ => false⟩
  | false => ⟨fun tm => match getP (pth 40 d) tm with
    | some (.b x) => !x
    | _ => false⟩
noncomputable def wantF (ops : Array Oper) (o : Oper) : Option (Bx (T PV → Bool)) := match o.guard with
  | none => none
  | some (j, w) => match ops[j]? with
    | some p => (match p.dst with
      | some d => bif Nat.blt d 1099511627776 then some (bitF d w) else some ⟨fun tm => wantV ops tm o⟩
      | none => some ⟨fun tm => wantV ops tm o⟩)
    | none => some ⟨fun tm => wantV ops tm o⟩
theorem want_none {ops : Array Oper} {o : Oper} {tm : T PV} (h : wantF ops o = none) : wantV ops tm o = true := by
  unfold wantF at h
  unfold wantV
  cases hg : o.guard with
  | none => rfl
  | some g =>
    obtain ⟨j, w⟩ := g
    rw [hg] at h
    simp only at h
    split at h
    · split at h
      · rename_i d _
        cases hb : Nat.blt d 1099511627776 <;> rw [hb] at h <;> cases h
      · cases h
    · cases h
theorem want_some {ops : Array Oper} {o : Oper} {tm : T PV} {f : Bx (T PV → Bool)} (h : wantF ops o = some f) : f.run tm = wantV ops tm o := by
  unfold wantF at h
  cases hg : o.guard with
  | none => rw [hg] at h; cases h
  | some g =>
    obtain ⟨j, w⟩ := g
    rw [hg] at h
    simp only at h
    split at h
    · rename_i p hp
      split at h
      · rename_i d hd
        cases hb : Nat.blt d 1099511627776 with
        | false =>
          rw [hb] at h
          simp only [cond_false, Option.some.injEq] at h
          subst h
          rfl
        | true =>
          have hlt : d < 1099511627776 := by simpa [Nat.blt_eq] using hb
          rw [hb] at h
          simp only [cond_true, Option.some.injEq] at h
          subst h
          unfold wantV
          rw [hg]
          simp only [yielV, hp, hd]
          unfold bitF
          cases w
          · simp only [getP_eq 40 d tm hlt]
            cases tm.get d with
            | none => rfl
            | some v => cases v <;> first | rfl | (rename_i x; cases x <;> rfl)
          · simp only [getP_eq 40 d tm hlt]
            cases tm.get d with
            | none => rfl
            | some v => cases v <;> first | rfl | (rename_i x; cases x <;> rfl)
      · cases h; rfl
    · cases h; rfl
section
variable (P : Program) (nt : Nat) (ops : Array Oper)
abbrev StepT := CallT → Nat → T PV → H → Option (T PV × H)
noncomputable def runF (i : Nat) (o : Oper) : Bx StepT := match dkOf nt o.dst with
  | .drop => ⟨fun call base tm h => match (exF P o.op).app call (base + i) tm h with
    | some (_, h') => some (tm, h')
    | none => none⟩
  | .put p => ⟨fun call base tm h => match (exF P o.op).app call (base + i) tm h with
    | some (v, h') => some (setP v p tm, h')
    | none => none⟩
  | d => ⟨fun call base tm h => match (exF P o.op).app call (base + i) tm h with
    | some (v, h') => (match d.go v tm with
      | some tm' => some (tm', h')
      | none => none)
    | none => none⟩
theorem runF_eq {i : Nat} {o : Oper} {call : CallT} {base : Nat} {tm : T PV} {h : H} : (runF P nt i o).run call base tm h = match execC P call (opnd tm) (base + i) o.op h with
    | some (v, h') => (match putT nt tm o.dst v with
      | some tm' => some (tm', h')
      | none => none)
    | none => none := by
  unfold runF
  simp only [← dk_eq]
  cases dkOf nt o.dst <;> (simp only [exF_eq, DK.go]; try (cases execC P call (opnd tm) (base + i) o.op h <;> rfl))
noncomputable def stepF (i : Nat) (o : Oper) : Bx StepT := match wantF ops o with
  | none => runF P nt i o
  | some f => ⟨fun call base tm h => Bool.rec (motive := fun _ => Option (T PV × H)) (match (dkOf nt o.dst).go (.tup []) tm with
      | some tm' => some (tm', h)
      | none => none) ((runF P nt i o).run call base tm h) (f.run tm)⟩
theorem stepF_eq {i : Nat} {o : Oper} {call : CallT} {base : Nat} {tm : T PV} {h : H} : (stepF P nt ops i o).run call base tm h = opStep P call nt ops base i o tm h := by
  unfold stepF opStep opVal
  split
  · rename_i hw
    rw [want_none hw, runF_eq]
    rfl
  · rename_i f hw
    simp only [want_some hw, dk_eq, runF_eq]
    cases wantV ops tm o <;> rfl
noncomputable def chainT (os : List Oper) : Nat → Bx StepT :=
  List.rec (motive := fun _ => Nat → Bx StepT) (fun _ => ⟨fun _ _ tm h => some (tm, h)⟩)
    (fun o _ ih i => ⟨fun call base tm h => match (stepF P nt ops i o).run call base tm h with
      | some (tm', h') => (ih (i + 1)).run call base tm' h'
      | none => none⟩) os
theorem chainT_eq {call : CallT} {base : Nat} : ∀ {os : List Oper} {i : Nat} {tm : T PV} {h : H}, (chainT P nt ops os i).run call base tm h = runT P call nt ops base os i tm h
  | [], _, _, _ => rfl
  | o :: os, i, tm, h => by
    show (match (stepF P nt ops i o).run call base tm h with
      | some (tm', h') => (chainT P nt ops os (i + 1)).run call base tm' h'
      | none => none) = _
    rw [stepF_eq, runT]
    cases opStep P call nt ops base i o tm h with
    | none => rfl
    | some r => exact chainT_eq
def tch : Op → Bool
  | .load .. | .lookup .. | .convert .. => true
  | .call { callee := .builtin .len, .. } => true
  | _ => false
theorem touch_none {ev : Operand → Option PV} {op : Op} (h : tch op = false) : touch ev op = none := by
  unfold touch
  split
  · cases h
  · cases h
  · cases h
  · cases h
  · rfl
noncomputable def touchF (op : Op) : Bx (T PV → Option Nat) := match op with
  | .load _ a => ⟨fun tm => match (fOpnd a).run tm with
    | some (.p b _) => some b
    | _ => none⟩
  | op => ⟨fun tm => touch (opnd tm) op⟩
theorem touchF_eq (op : Op) (tm : T PV) : (touchF op).run tm = touch (opnd tm) op := by
  unfold touchF
  split
  · rename_i t a
    simp only [fOpnd_eq, touch]
    cases opnd tm a with
    | none => rfl
    | some v => cases v <;> rfl
  · rfl
def Kd.isQ : Kd → Bool
  | .quiet => true
  | _ => false
noncomputable def stepC (ms : List Nat) (i : Nat) (o : Oper) : Bx StepT := bif Kd.isQ (kdOf P o.op) && tch o.op then (match ms.getD i 0 with
    | m => (match wantF ops o with
      | none => ⟨fun call base tm h => match (touchF o.op).run tm with
        | none => (stepF P nt ops i o).run call base tm h
        | some b => Bool.rec (motive := fun _ => Option (T PV × H)) none ((stepF P nt ops i o).run call base tm h) (Nat.blt b base || Nat.ble (base + ops.size) b || m.testBit (b - base))⟩
      | some f => ⟨fun call base tm h => match (touchF o.op).run tm with
        | none => (stepF P nt ops i o).run call base tm h
        | some b => Bool.rec (motive := fun _ => Option (T PV × H)) none ((stepF P nt ops i o).run call base tm h) (!(f.run tm) || (Nat.blt b base || Nat.ble (base + ops.size) b || m.testBit (b - base)))⟩))
  else stepF P nt ops i o
def noSnap (ms : List Nat) : List Nat → List Nat → Bool
  | _, [] => true
  | E, i :: is => match ops[i]? with
    | some o => (!tch o.op || E.all (fun e => (ms.getD i 0).testBit e)) && noSnap ms (bif (kdOf P o.op).isEff then i :: E else E) is
    | none => false
noncomputable def chainC (ms : List Nat) (c : List Nat) : Bx StepT :=
  List.rec (motive := fun _ => Bx StepT) ⟨fun _ _ tm h => some (tm, h)⟩
    (fun i _ ih => match ops[i]? with
      | some o => ⟨fun call base tm h => match (stepC P nt ops ms i o).run call base tm h with
        | some (tm', h') => ih.run call base tm' h'
        | none => none⟩
      | none => ⟨fun _ _ _ _ => none⟩) c
theorem snap_true {ms : List Nat} {i : Nat} {o : Oper} {base : Nat} {tm : T PV} {h : H} {E : List Nat} (hE : E.all (fun e => (ms.getD i 0).testBit e) = true) : ∀ {sn : List (Nat × H)}, (∀ x ∈ sn, x.1 ∈ E) → snapOk P base ms i o tm h sn = true
  | [], _ => rfl
  | (e, hs) :: sn, hs' => by
    have h1 : (ms.getD i 0).testBit e = true := List.all_eq_true.1 hE e (hs' (e, hs) (by simp))
    simp only [snapOk, h1, Bool.true_or, Bool.true_and]
    exact snap_true hE fun x hx => hs' x (by simp [hx])
theorem stepC_eq {ms : List Nat} {i : Nat} {o : Oper} {call : CallT} {base : Nat} {tm : T PV} {h : H} {E : List Nat} {sn : List (Nat × H)} (hs : tch o.op = true → E.all (fun e => (ms.getD i 0).testBit e) = true) (hsn : ∀ x ∈ sn, x.1 ∈ E) :
    (stepC P nt ops ms i o).run call base tm h = bif !wantV ops tm o || chk P ops base ms i o tm h sn then opStep P call nt ops base i o tm h else none := by
  unfold stepC
  cases hk : Kd.isQ (kdOf P o.op) && tch o.op with
  | false =>
    have hc : chk P ops base ms i o tm h sn = true := by
      unfold chk
      cases hq : kdOf P o.op with
      | birth => rfl
      | eff => rfl
      | quiet =>
        rw [hq] at hk
        have ht : tch o.op = false := by simpa [Kd.isQ] using hk
        simp only [touch_none ht]
    rw [hc, Bool.or_true]
    exact stepF_eq P nt ops
  | true =>
    simp only [Bool.and_eq_true] at hk
    obtain ⟨hk1, hk2⟩ := hk
    have hq : kdOf P o.op = .quiet := by
      cases hq : kdOf P o.op <;> rw [hq] at hk1 <;> first | rfl | cases hk1
    have hc : chk P ops base ms i o tm h sn = match touch (opnd tm) o.op with
        | none => true
        | some b => touchOk ops base ms i b := by
      unfold chk
      rw [hq]
      simp only
      cases touch (opnd tm) o.op with
      | none => rfl
      | some b => simp only [snap_true P (hs hk2) hsn, Bool.and_true]
    rw [hc]
    simp only [cond_true]
    split
    · rename_i hw
      rw [want_none hw]
      simp only [touchF_eq, stepF_eq]
      cases touch (opnd tm) o.op with
      | none => rfl
      | some b =>
        simp only [touchOk, Bool.not_true, Bool.false_or]
        cases (Nat.blt b base || Nat.ble (base + ops.size) b || (ms.getD i 0).testBit (b - base)) <;> rfl
    · rename_i f hw
      simp only [touchF_eq, stepF_eq, want_some hw]
      cases touch (opnd tm) o.op with
      | none => simp only [Bool.or_true, cond_true]
      | some b =>
        simp only [touchOk]
        cases (!wantV ops tm o || (Nat.blt b base || Nat.ble (base + ops.size) b || (ms.getD i 0).testBit (b - base))) <;> rfl
theorem chainC_eq {ms : List Nat} {call : CallT} {base : Nat} : ∀ {c E : List Nat} {tm : T PV} {h : H} {sn : List (Nat × H)}, noSnap P ops ms E c = true → (∀ x ∈ sn, x.1 ∈ E) → (chainC P nt ops ms c).run call base tm h = runC P call nt ops base ms c tm h sn
  | [], _, _, _, _, _, _ => rfl
  | i :: is, E, tm, h, sn, hn, hsn => by
    have e0 : chainC P nt ops ms (i :: is) = match ops[i]? with
      | some o => ⟨fun call base tm h => match (stepC P nt ops ms i o).run call base tm h with
        | some (tm', h') => (chainC P nt ops ms is).run call base tm' h'
        | none => none⟩
      | none => ⟨fun _ _ _ _ => none⟩ := rfl
    rw [e0, runC]
    unfold noSnap at hn
    cases ho : ops[i]? with
    | none => rfl
    | some o =>
      rw [ho] at hn
      simp only [Bool.and_eq_true, Bool.or_eq_true, Bool.not_eq_true'] at hn
      obtain ⟨h1, h2⟩ := hn
      have hs : tch o.op = true → E.all (fun e => (ms.getD i 0).testBit e) = true := fun ht => by
        rcases h1 with h1 | h1
        · rw [ht] at h1; cases h1
        · exact h1
      simp only [stepC_eq P nt ops hs hsn]
      cases (!wantV ops tm o || chk P ops base ms i o tm h sn) with
      | false => rfl
      | true =>
        simp only [cond_true]
        cases opStep P call nt ops base i o tm h with
        | none => rfl
        | some r =>
          obtain ⟨tm', h'⟩ := r
          refine chainC_eq h2 fun x hx => ?_
          unfold snapAdd at hx
          cases hk : (kdOf P o.op).isEff with
          | false =>
            rw [hk] at hx
            simp only [Bool.false_and, cond_false] at hx ⊢
            exact hsn x hx
          | true =>
            rw [hk] at hx
            simp only [Bool.true_and, cond_true] at hx ⊢
            cases hw : wantV ops tm o with
            | false => rw [hw] at hx; simp only [cond_false] at hx; exact List.mem_cons_of_mem _ (hsn x hx)
            | true =>
              rw [hw] at hx
              simp only [cond_true] at hx
              rcases List.mem_cons.1 hx with rfl | hx
              · simp
              · exact List.mem_cons_of_mem _ (hsn x hx)
end
abbrev RegT := CallT → T PV → H → Option (T PV × H)
/-- the parts of a region that draws -/
inductive DR where
  | quick (ms c : List Nat)
  | slow
  | no
def drOf (P : Program) (ops : Array Oper) : DR := match masks ops with
  | ms => match canon P ops.toList ms ops.size (List.range ops.size) with
    | c => bif okR P ops ms c then (bif noSnap P ops ms [] c then .quick ms c else .slow) else .no
noncomputable def regionF (P : Program) (nt : Nat) (ops : Array Oper) (draw : Bool) : Bx RegT := bif draw then (match drOf P ops with
    | .quick ms c => ⟨fun call tm h => frc h.next ((chainC P nt ops ms c).run call h.next tm ⟨h.next + ops.size, h.tab⟩)⟩
    | .slow => ⟨fun call tm h => regionV P call nt ops true tm h⟩
    | .no => ⟨fun _ _ _ => none⟩)
  else ⟨fun call tm h => frc h.next ((chainT P nt ops ops.toList 0).run call h.next tm ⟨h.next + ops.size, h.tab⟩)⟩
theorem regionF_eq {P : Program} {nt : Nat} {ops : Array Oper} {draw : Bool} {call : CallT} {tm : T PV} {h : H} : (regionF P nt ops draw).run call tm h = regionV P call nt ops draw tm h := by
  unfold regionF
  cases draw with
  | false =>
    simp only [cond_false, frc_eq, chainT_eq]
    rfl
  | true =>
    simp only [cond_true]
    cases hd : drOf P ops with
    | slow => rfl
    | no =>
      unfold drOf at hd
      simp only at hd
      unfold regionV
      simp only [cond_true]
      cases ho : okR P ops (masks ops) (canon P ops.toList (masks ops) ops.size (List.range ops.size)) with
      | false => rfl
      | true =>
        rw [ho] at hd
        simp only [cond_true] at hd
        cases hn : noSnap P ops (masks ops) [] (canon P ops.toList (masks ops) ops.size (List.range ops.size)) <;> rw [hn] at hd <;> cases hd
    | quick ms c =>
      unfold drOf at hd
      simp only at hd
      unfold regionV
      simp only [cond_true]
      cases ho : okR P ops (masks ops) (canon P ops.toList (masks ops) ops.size (List.range ops.size)) with
      | false => rw [ho] at hd; cases hd
      | true =>
        rw [ho] at hd
        simp only [cond_true] at hd
        cases hn : noSnap P ops (masks ops) [] (canon P ops.toList (masks ops) ops.size (List.range ops.size)) with
        | false => rw [hn] at hd; cases hd
        | true =>
          rw [hn] at hd
          simp only [cond_true, DR.quick.injEq] at hd
          obtain ⟨rfl, rfl⟩ := hd
          simp only [cond_true, frc_eq]
          exact chainC_eq P nt ops hn (fun x hx => by cases hx)
abbrev CodT := CallT → T PV → H → Option (PX × T PV × H)
noncomputable def loopF (body : T PV → H → Option (PX × T PV × H)) (F : Nat) : T PV → H → Option (PX × T PV × H) :=
  Nat.rec (motive := fun _ => T PV → H → Option (PX × T PV × H)) (fun _ _ => none) (fun _ ih tm h => match body tm h with
    | some (.nm, tm', h') => ih tm' h'
    | some (.ex i, tm', h') => some (.ex i, tm', h')
    | some (.rt, tm', h') => some (.rt, tm', h')
    | none => none) F
theorem loopF_eq {b1 b2 : T PV → H → Option (PX × T PV × H)} (hb : ∀ tm h, b1 tm h = b2 tm h) : ∀ (F : Nat) (tm : T PV) (h : H), loopF b1 F tm h = loopV b2 F tm h
  | 0, _, _ => rfl
  | F + 1, tm, h => by
    show (match b1 tm h with
    | some (.nm, tm', h') => loopF b1 F tm' h'
    | some (.ex i, tm', h') => some (.ex i, tm', h')
    | some (.rt, tm', h') => some (.rt, tm', h')
    | none => none) = _
    rw [hb, loopV]
    cases b2 tm h with
    | none => rfl
    | some r =>
      obtain ⟨x, tm', h'⟩ := r
      cases x with
      | nm => exact loopF_eq hb F tm' h'
      | ex i => rfl
      | rt => rfl
noncomputable def codeF (P : Program) (nt F : Nat) (c : Code) : Bx CodT :=
  Code.rec (motive := fun _ => Bx CodT)
    ⟨fun _ tm h => some (.nm, tm, h)⟩
    (fun _ ops draw => ⟨fun call tm h => match (regionF P nt ops draw).run call tm h with
      | some (tm', h') => some (.nm, tm', h')
      | none => none⟩)
    (fun _ _ iha ihb => ⟨fun call tm h => match iha.run call tm h with
      | some (.nm, tm', h') => ihb.run call tm' h'
      | some (.ex i, tm', h') => some (.ex i, tm', h')
      | some (.rt, tm', h') => some (.rt, tm', h')
      | none => none⟩)
    (fun c _ _ ihx ihy => ⟨fun call tm h => match (fOpnd c).run tm with
      | some (.b x) => Bool.rec (motive := fun _ => Option (PX × T PV × H)) (ihy.run call tm h) (ihx.run call tm h) x
      | _ => none⟩)
    (fun id _ ih => ⟨fun call tm h => match ih.run call tm h with
      | some (.ex j, tm', h') => Bool.rec (motive := fun _ => Option (PX × T PV × H)) (some (.ex j, tm', h')) (some (.nm, tm', h')) (Nat.beq j id)
      | some (.nm, tm', h') => some (.nm, tm', h')
      | some (.rt, tm', h') => some (.rt, tm', h')
      | none => none⟩)
    (fun _ ih => ⟨fun call tm h => loopF (ih.run call) F tm h⟩)
    (fun _ _ _ _ _ _ => ⟨fun _ _ _ => none⟩)
    (fun id => ⟨fun _ tm h => some (.ex id, tm, h)⟩)
    (fun _ ih => ih)
    (fun _ => ⟨fun _ tm h => some (.nm, tm, h)⟩)
    (fun _ => ⟨fun _ _ _ => none⟩)
    ⟨fun _ tm h => some (.rt, tm, h)⟩
    (fun _ => ⟨fun _ _ _ => none⟩) c
theorem codeF_eq {P : Program} {nt F : Nat} {call : CallT} : ∀ {c : Code} {tm : T PV} {h : H}, (codeF P nt F c).run call tm h = codeV P call nt F c tm h := by
  intro c
  induction c with
  | skip => intro tm h; rfl
  | label l => intro tm h; rfl
  | exit id => intro tm h; rfl
  | ret => intro tm h; rfl
  | goto l => intro tm h; rfl
  | refuse w => intro tm h; rfl
  | rangeFunc f ps a b _ _ => intro tm h; rfl
  | scope c ih => intro tm h; exact ih
  | loop c ih => intro tm h; exact loopF_eq (fun tm h => ih) F tm h
  | region id ops draw =>
    intro tm h
    show (match (regionF P nt ops draw).run call tm h with
      | some (tm', h') => some (PX.nm, tm', h')
      | none => none) = _
    rw [regionF_eq, codeV]
    cases regionV P call nt ops draw tm h <;> rfl
  | cond c a b iha ihb =>
    intro tm h
    show (match (fOpnd c).run tm with
      | some (.b x) => Bool.rec (motive := fun _ => Option (PX × T PV × H)) ((codeF P nt F b).run call tm h) ((codeF P nt F a).run call tm h) x
      | _ => none) = _
    rw [fOpnd_eq, codeV]
    cases opnd tm c with
    | none => rfl
    | some v =>
      cases v <;> try rfl
      rename_i x
      cases x
      · exact ihb
      · exact iha
  | seq a b iha ihb =>
    intro tm h
    show (match (codeF P nt F a).run call tm h with
      | some (.nm, tm', h') => (codeF P nt F b).run call tm' h'
      | some (.ex i, tm', h') => some (.ex i, tm', h')
      | some (.rt, tm', h') => some (.rt, tm', h')
      | none => none) = _
    rw [iha, codeV]
    cases codeV P call nt F a tm h with
    | none => rfl
    | some r =>
      obtain ⟨x, tm', h'⟩ := r
      cases x with
      | nm => exact ihb
      | ex i => rfl
      | rt => rfl
  | block i c ih =>
    intro tm h
    show (match (codeF P nt F c).run call tm h with
      | some (.ex j, tm', h') => Bool.rec (motive := fun _ => Option (PX × T PV × H)) (some (.ex j, tm', h')) (some (.nm, tm', h')) (Nat.beq j i)
      | some (.nm, tm', h') => some (.nm, tm', h')
      | some (.rt, tm', h') => some (.rt, tm', h')
      | none => none) = _
    rw [ih, codeV]
    cases codeV P call nt F c tm h with
    | none => rfl
    | some r =>
      obtain ⟨x, tm', h'⟩ := r
      cases x with
      | nm => rfl
      | rt => rfl
      | ex j =>
        simp only
        cases Nat.beq j i <;> rfl
noncomputable def resQ (P : Program) (rs : List ResultVar) : Bx (T PV → HM (List PV)) :=
  List.rec (motive := fun _ => Bx (T PV → HM (List PV))) ⟨fun _ h => some ([], h)⟩ (fun r _ ih => match r with
    | .tmp t => ⟨fun tm h => match (fTmp t).run tm with
      | some v => (match ih.run tm h with
        | some (l, h') => some (v :: l, h')
        | none => none)
      | none => none⟩
    | .cell a t => ⟨fun tm h => match (fTmp a).run tm with
      | some u => (match (ldQ P t).run u h with
        | some (v, h') => (match ih.run tm h' with
          | some (l, h'') => some (v :: l, h'')
          | none => none)
        | none => none)
      | none => none⟩) rs
theorem resQ_eq {P : Program} {tm : T PV} : ∀ {rs : List ResultVar} {h : H}, (resQ P rs).run tm h = resV P tm rs h
  | [], h => rfl
  | .tmp t :: rs, h => by
    show (match (fTmp t).run tm with
      | some v => (match (resQ P rs).run tm h with
        | some (l, h') => some (v :: l, h')
        | none => none)
      | none => none) = _
    rw [fTmp_eq, resQ_eq, resV, bnd]
    simp only
    cases resV P tm rs h <;> rfl
  | .cell a t :: rs, h => by
    show (match (fTmp a).run tm with
      | some u => (match (ldQ P t).run u h with
        | some (v, h') => (match (resQ P rs).run tm h' with
          | some (l, h'') => some (v :: l, h'')
          | none => none)
        | none => none)
      | none => none) = _
    rw [fTmp_eq, resV, bnd]
    simp only [ldQ_eq]
    cases ldT P t ((tm.get a).getD (.tup [])) h with
    | none => rfl
    | some r =>
      obtain ⟨v, h'⟩ := r
      simp only [bnd]
      rw [resQ_eq]
      cases resV P tm rs h' <;> rfl
noncomputable def argsQ (l : List PV) : Nat → T PV → T PV :=
  List.rec (motive := fun _ => Nat → T PV → T PV) (fun _ t => t) (fun v _ ih i t => ih (i + 1) (T.setQ v t i)) l
theorem argsQ_eq : ∀ (l : List PV) (i : Nat) (t : T PV), argsQ l i t = args_ l i t
  | [], _, _ => rfl
  | v :: vs, i, t => by
    show argsQ vs (i + 1) (T.setQ v t i) = _
    rw [argsQ_eq, T.setQ_eq, args_]
noncomputable def bodyF (P : Program) (F : Nat) (fn : Func) : Bx (CallT → List PV → HM PV) := match fn.body with
  | none => ⟨fun _ _ _ => none⟩
  | some c => ⟨fun call args h => Bool.rec (motive := fun _ => Option (PV × H)) none (match (codeF P fn.ntmps F c).run call (argsQ args 0 .e) h with
    | some (.ex _, _, _) => none
    | some (_, tm, h') => (match (resQ P fn.results.toList).run tm h' with
      | some (l, h'') => some (one_ l, h'')
      | none => none)
    | none => none) (Nat.ble (lenQ args) fn.ntmps)⟩
theorem bodyF_some {P : Program} {F : Nat} {fn : Func} {call : CallT} {args : List PV} {h : H} {r : PV × H} (e : (bodyF P F fn).run call args h = some r) : bodyV P call F fn args h = some r := by
  unfold bodyF at e
  unfold bodyV
  cases hb : fn.body with
  | none => rw [hb] at e; cases e
  | some c =>
    rw [hb] at e
    simp only at e ⊢
    cases hl : Nat.ble (lenQ args) fn.ntmps with
    | false => rw [hl] at e; cases e
    | true =>
      rw [hl] at e
      simp only [codeF_eq, argsQ_eq, resQ_eq] at e
      have hle : args.length ≤ fn.ntmps := by
        rw [lenQ_eq] at hl
        simpa [Nat.ble_eq] using hl
      rw [show max fn.ntmps args.length = fn.ntmps from Nat.max_eq_left hle]
      exact e
noncomputable def funF (P : Program) (F : Nat) (f : FuncId) : Bx (CallT → List PV → HM PV) := match P.funcs[f]? with
  | some fn => bodyF P F fn
  | none => ⟨fun _ _ _ => none⟩
noncomputable def callQ (P : Program) (F : Nat) (n : Nat) : CallT :=
  Nat.rec (motive := fun _ => CallT) (fun _ _ _ => none) (fun _ ih f args h => (funF P F f).run ih args h) n
theorem callQ_some {K : Cx} (hmd : ∀ f, K.md f = false) (hov : ∀ f, K.ov f = none) {F : Nat} : ∀ {n : Nat} {f : FuncId} {args : List PV} {h : H} {r : PV × H}, callQ K.P F n f args h = some r → callX K (n + F) f args h = some r
  | 0, _, _, _, _, e => by cases e
  | n + 1, f, args, h, r, e => by
    have e1 : (funF K.P F f).run (callQ K.P F n) args h = some r := e
    rw [show n + 1 + F = (n + F) + 1 by omega]
    simp only [callX, hov, hmd, cond_false]
    unfold funF at e1
    cases hf : K.P.funcs[f]? with
    | none => rw [hf] at e1; cases e1
    | some fn =>
      rw [hf] at e1
      exact bodyV_le (fun f l h r e => callQ_some hmd hov e) (by omega) (bodyF_some e1)
end Go.Pe
