/- A region that draws its order: each order that may be drawn comes to what the fixed order comes to. -/
import Derived.Test.YthpmkcmeoadaaaaGreatDoorQeQ
namespace Go.Pe
open HM

theorem bEq_eq : ∀ {a b : List Nat}, bEq a b = true → a = b
  | [], [], _ => rfl
  | [], _ :: _, h => by simp [bEq] at h
  | _ :: _, [], h => by simp [bEq] at h
  | x :: xs, y :: ys, h => by
    simp only [bEq, Bool.and_eq_true] at h
    rw [Nat.eq_of_beq_eq_true h.1, bEq_eq h.2]
theorem bEq_refl : ∀ a : List Nat, bEq a a = true
  | [] => rfl
  | x :: xs => by simp only [bEq, Nat.beq_refl, bEq_refl xs, Bool.and_self]
mutual
theorem eqP_eq : ∀ {x y : PV}, eqP x y = true → x = y
  | .b x, y, h => by cases y <;> simp only [eqP, Bool.false_eq_true, beq_iff_eq] at h; rw [h]
  | .i k x, y, h => by
    cases y <;> simp only [eqP, Bool.false_eq_true, Bool.and_eq_true, decide_eq_true_eq] at h
    rw [h.1, h.2]
  | .s x, y, h => by cases y <;> simp only [eqP, Bool.false_eq_true] at h; rw [bEq_eq h]
  | .nilp, y, h => by cases y <;> simp only [eqP, Bool.false_eq_true] at h; rfl
  | .p a b, y, h => by
    cases y <;> simp only [eqP, Bool.false_eq_true, Bool.and_eq_true] at h
    rw [Nat.eq_of_beq_eq_true h.1, Nat.eq_of_beq_eq_true h.2]
  | .sl a b n z t, y, h => by
    cases y <;> simp only [eqP, Bool.false_eq_true, Bool.and_eq_true, beq_iff_eq] at h
    obtain ⟨⟨⟨⟨h1, h2⟩, h3⟩, h4⟩, h5⟩ := h
    rw [Nat.eq_of_beq_eq_true h1, Nat.eq_of_beq_eq_true h2, Nat.eq_of_beq_eq_true h3, Nat.eq_of_beq_eq_true h4, h5]
  | .nilf, y, h => by cases y <;> simp only [eqP, Bool.false_eq_true] at h; rfl
  | .fn f x, y, h => by
    cases y <;> simp only [eqP, Bool.false_eq_true, Bool.and_eq_true] at h
    rw [Nat.eq_of_beq_eq_true h.1, eqPs_eq h.2]
  | .nili, y, h => by cases y <;> simp only [eqP, Bool.false_eq_true] at h; rfl
  | .ifc t x, y, h => by
    cases y <;> simp only [eqP, Bool.false_eq_true, Bool.and_eq_true] at h
    rw [Nat.eq_of_beq_eq_true h.1, eqP_eq h.2]
  | .nilm, y, h => by cases y <;> simp only [eqP, Bool.false_eq_true] at h; rfl
  | .m a, y, h => by cases y <;> simp only [eqP, Bool.false_eq_true] at h; rw [Nat.eq_of_beq_eq_true h]
  | .agg x, y, h => by cases y <;> simp only [eqP, Bool.false_eq_true] at h; rw [eqPs_eq h]
  | .tup x, y, h => by cases y <;> simp only [eqP, Bool.false_eq_true] at h; rw [eqPs_eq h]
  | .fl a z x, y, h => by
    cases y <;> simp only [eqP, Bool.false_eq_true, Bool.and_eq_true, beq_iff_eq] at h
    rw [h.1, Nat.eq_of_beq_eq_true h.2.1, eqPs_eq h.2.2]
  | .fp z x a b, y, h => by
    cases y <;> simp only [eqP, Bool.false_eq_true, Bool.and_eq_true] at h
    obtain ⟨h0, ⟨h1, h2⟩, h3⟩ := h
    rw [Nat.eq_of_beq_eq_true h0, eqPs_eq h1, Nat.eq_of_beq_eq_true h2, Nat.eq_of_beq_eq_true h3]
theorem eqPs_eq : ∀ {x y : List PV}, eqPs x y = true → x = y
  | [], y, h => by cases y <;> simp only [eqPs, Bool.false_eq_true] at h; rfl
  | x :: xs, y, h => by
    cases y <;> simp only [eqPs, Bool.false_eq_true, Bool.and_eq_true] at h
    rw [eqP_eq h.1, eqPs_eq h.2]
end
mutual
theorem eqP_refl : ∀ x : PV, eqP x x = true
  | .b x => by simp only [eqP, beq_self_eq_true]
  | .i k x => by simp only [eqP, decide_true, Bool.and_self]
  | .s x => by simp only [eqP, bEq_refl]
  | .nilp => by simp only [eqP]
  | .p a b => by simp only [eqP, Nat.beq_refl, Bool.and_self]
  | .sl a b n z t => by simp only [eqP, Nat.beq_refl, Bool.and_self, beq_self_eq_true]
  | .nilf => by simp only [eqP]
  | .fn f x => by simp only [eqP, Nat.beq_refl, eqPs_refl x, Bool.and_self]
  | .nili => by simp only [eqP]
  | .ifc t x => by simp only [eqP, Nat.beq_refl, eqP_refl x, Bool.and_self]
  | .nilm => by simp only [eqP]
  | .m a => by simp only [eqP, Nat.beq_refl]
  | .agg x => by simp only [eqP, eqPs_refl x]
  | .tup x => by simp only [eqP, eqPs_refl x]
  | .fl a z x => by simp only [eqP, eqPs_refl x, Nat.beq_refl, Bool.and_self, beq_self_eq_true]
  | .fp z x a b => by simp only [eqP, eqPs_refl x, Nat.beq_refl, Bool.and_self]
theorem eqPs_refl : ∀ x : List PV, eqPs x x = true
  | [] => by simp only [eqPs]
  | x :: xs => by simp only [eqPs, eqP_refl x, eqPs_refl xs, Bool.and_self]
end

theorem mapO_congr {α β : Type} {f g : α → Option β} : ∀ {l : List α}, (∀ x ∈ l, f x = g x) → mapO f l = mapO g l
  | [], _ => rfl
  | x :: xs, h => by
    simp only [mapO]
    rw [h x (by simp), mapO_congr fun y hy => h y (by simp [hy])]

section
variable {P : Program} {ev ev' : Operand → Option PV} {id : Nat}
theorem execV_congr {op : Op} (h : ∀ x ∈ op.operands, ev x = ev' x) : execV P ev id op = execV P ev' id op := by
  have pairs : ∀ ps : Array (Nat × Operand), (∀ x ∈ (ps.toList.map (·.2)).toArray, ev x = ev' x) → partsO ev ps.toList = partsO ev' ps.toList := fun ps hp =>
    mapO_congr fun q hq => by unfold partF; rw [hp q.2 (by simp only [List.mem_toArray, List.mem_map]; exact ⟨q, hq, rfl⟩)]
  have opt : ∀ o : Option Operand, (∀ x ∈ o.toArray, ev x = ev' x) → optO (fun x => (ev x).bind natIx) o = optO (fun x => (ev' x).bind natIx) o := fun o ho => by
    cases o with
    | none => rfl
    | some x => simp only [optO]; rw [ho x (by simp)]
  cases op <;> simp only [Op.operands] at h
  case build t ps => simp only [execV]; rw [pairs ps h]
  case buildSlice t n ps => simp only [execV]; rw [pairs ps h]
  case slice t x lo hi mx =>
    simp only [execV]
    rw [h x (by simp), opt lo fun y hy => h y (by simp_all), opt hi fun y hy => h y (by simp_all), opt mx fun y hy => h y (by simp_all)]
  case makeFunc fn fs cs =>
    cases fn <;> simp only [execV]
    rw [mapO_congr fun x hx => h x (by simp_all)]
  case makeMap t r => cases r <;> rfl
  case call c =>
    obtain ⟨cal, args, ts⟩ := c
    cases cal <;> simp only [execV]
    rw [mapO_congr fun x hx => h x (by simp_all [Call.operands])]
  all_goals first
    | rfl
    | (simp only [execV]; simp_all; done)
theorem touch_congr {op : Op} (h : ∀ x ∈ op.operands, ev x = ev' x) : touch ev op = touch ev' op := by
  cases op <;> simp only [Op.operands] at h
  case load t a => simp only [touch]; rw [h a (by simp)]
  case lookup t x k ok => simp only [touch]; rw [h x (by simp)]
  case convert s d x => simp only [touch]; rw [h x (by simp)]
  case call c =>
    obtain ⟨cal, args, ts⟩ := c
    cases cal
    case builtin b =>
      cases b <;> simp only [touch]
      cases ha : args.toList with
      | nil => rfl
      | cons x xs => simp only []; rw [h x (by simp [Call.operands, ← Array.mem_toList_iff, ha])]
    all_goals rfl
  all_goals rfl
theorem execC_congr {call : FuncId → List PV → HM PV} {op : Op} (h : ∀ x ∈ op.operands, ev x = ev' x) : execC P call ev id op = execC P call ev' id op := by
  cases op
  case call c =>
    obtain ⟨cal, args, ts⟩ := c
    cases cal
    case value f =>
      simp only [execC]
      have hf : ev f = ev' f := h f (by simp [Op.operands, Call.operands])
      rw [hf]
      have ha : mapO ev args.toList = mapO ev' args.toList := mapO_congr fun x hx => h x (by simp_all [Op.operands, Call.operands])
      rw [ha]
    all_goals exact execV_congr (P := P) (id := id) h
  all_goals exact execV_congr (P := P) (id := id) h
end

section
variable {P : Program} {call : FuncId → List PV → HM PV} {nt : Nat} {ops : Array Oper} {base : Nat} {ms : List Nat}
theorem opnd_set {tm : T PV} {d : Nat} {v : PV} {x : Operand} (h : x ≠ .tmp d) : opnd (tm.set v d) x = opnd tm x := by
  cases x <;> simp only [opnd]
  rename_i t
  rw [T.get_set, if_neg (fun e => h (by rw [e]))]
theorem putT_some {tm tm' : T PV} {d : Option Tmp} {v : PV} (h : putT nt tm d v = some tm') : (d = none ∧ tm' = tm) ∨ ∃ k, d = some k ∧ k < nt ∧ tm' = tm.set v k := by
  cases d with
  | none => simp only [putT, Option.some.injEq] at h; exact .inl ⟨rfl, h.symm⟩
  | some k =>
    simp only [putT] at h
    cases hb : Nat.blt k nt with
    | false => rw [hb] at h; simp at h
    | true =>
      rw [hb] at h
      simp only [cond_true, Option.some.injEq] at h
      exact .inr ⟨k, rfl, by simpa [Nat.blt_eq] using hb, h.symm⟩
theorem opnd_putT {tm tm' : T PV} {d : Option Tmp} {v : PV} (h : putT nt tm d v = some tm') {x : Operand} (hx : ∀ k, d = some k → x ≠ .tmp k) : opnd tm' x = opnd tm x := by
  rcases putT_some h with ⟨_, rfl⟩ | ⟨k, hk, _, rfl⟩
  · rfl
  · exact opnd_set (hx k hk)
theorem wantV_putT {tm tm' : T PV} {d : Option Tmp} {v : PV} (h : putT nt tm d v = some tm') {o : Oper} (hx : ∀ k, d = some k → k ∉ o.looksAt ops) : wantV ops tm' o = wantV ops tm o := by
  rcases putT_some h with ⟨_, rfl⟩ | ⟨k, hk, _, rfl⟩
  · rfl
  · unfold wantV
    cases hg : o.guard with
    | none => rfl
    | some gw =>
      obtain ⟨j, w⟩ := gw
      have : yielV ops (tm.set v k) j = yielV ops tm j := by
        unfold yielV
        cases ho : ops[j]? with
        | none => rfl
        | some oj =>
          simp only
          cases hd : oj.dst with
          | none => rfl
          | some d' =>
            simp only
            rw [T.get_set, if_neg]
            intro e
            exact hx k hk (by simp [Oper.looksAt, hg, ho, hd, e])
      simp only [this]
theorem looks_operands {o : Oper} {k : Tmp} (h : k ∉ o.looksAt ops) {x : Operand} (hx : x ∈ o.op.operands) : x ≠ .tmp k := by
  intro e
  refine h (List.mem_append_left _ (List.mem_filterMap.2 ⟨x, by simpa using hx, by rw [e]⟩))
theorem opVal_putT {tm tm' : T PV} {d : Option Tmp} {v : PV} (h : putT nt tm d v = some tm') {o : Oper} (hx : ∀ k, d = some k → k ∉ o.looksAt ops) (i : Nat) (hh : H) :
    opVal P call ops base i o tm' hh = opVal P call ops base i o tm hh := by
  unfold opVal
  rw [wantV_putT h hx, execC_congr (ev := opnd tm') (ev' := opnd tm) fun x hxo => opnd_putT h fun k hk => looks_operands (hx k hk) hxo]
theorem evs_putT {tm tm' : T PV} {d : Option Tmp} {v : PV} (h : putT nt tm d v = some tm') {o : Oper} (hx : ∀ k, d = some k → k ∉ o.looksAt ops) :
    ∀ x ∈ o.op.operands, opnd tm' x = opnd tm x := fun _ hxo => opnd_putT h fun k hk => looks_operands (hx k hk) hxo
theorem snapOk_congr {i : Nat} {o : Oper} {tm tm' : T PV} {h h' : H} (he : ∀ x ∈ o.op.operands, opnd tm' x = opnd tm x)
    (hv : ∀ v a, execV P (opnd tm) (base + i) o.op h = some (v, a) → ∃ a', execV P (opnd tm) (base + i) o.op h' = some (v, a')) :
    ∀ {sn : List (Nat × H)}, snapOk P base ms i o tm h sn = true → snapOk P base ms i o tm' h' sn = true
  | [], _ => rfl
  | (e, hs) :: sn, hk => by
    simp only [snapOk, Bool.and_eq_true, Bool.or_eq_true] at hk ⊢
    refine ⟨hk.1.imp id fun hk1 => ?_, snapOk_congr he hv hk.2⟩
    rw [execV_congr (P := P) (ev := opnd tm') (ev' := opnd tm) (id := base + i) he]
    cases hx : execV P (opnd tm) (base + i) o.op h with
    | none => rw [hx] at hk1; simp at hk1
    | some r =>
      obtain ⟨v, a⟩ := r
      obtain ⟨a', ha'⟩ := hv v a hx
      rw [ha']
      rw [hx] at hk1
      cases hy : execV P (opnd tm) (base + i) o.op hs with
      | none => rw [hy] at hk1; simp at hk1
      | some r' => rw [hy] at hk1; exact hk1
theorem chk_congr {i : Nat} {o : Oper} {tm tm' : T PV} {h h' : H} {sn : List (Nat × H)} (he : ∀ x ∈ o.op.operands, opnd tm' x = opnd tm x)
    (hv : kdOf P o.op = .quiet → ∀ v a, execV P (opnd tm) (base + i) o.op h = some (v, a) → ∃ a', execV P (opnd tm) (base + i) o.op h' = some (v, a'))
    (hk : chk P ops base ms i o tm h sn = true) : chk P ops base ms i o tm' h' sn = true := by
  unfold chk at hk ⊢
  cases hkd : kdOf P o.op with
  | birth => rfl
  | eff => rfl
  | quiet =>
    rw [hkd] at hk
    simp only at hk ⊢
    rw [touch_congr (ev := opnd tm') (ev' := opnd tm) he]
    cases ht : touch (opnd tm) o.op with
    | none => rfl
    | some b =>
      rw [ht] at hk
      simp only [Bool.and_eq_true] at hk ⊢
      exact ⟨hk.1, snapOk_congr he (hv hkd) hk.2⟩

/-- snapshots of which the second have more blocks -/
def HLe (h h' : H) : Prop := ∀ b o, h.get b = some o → h'.get b = some o
inductive SnLe : List (Nat × H) → List (Nat × H) → Prop where
  | nil : SnLe [] []
  | cons {e : Nat} {h h' : H} {l l' : List (Nat × H)} : HLe h h' → SnLe l l' → SnLe ((e, h) :: l) ((e, h') :: l')
theorem SnLe.refl : ∀ l : List (Nat × H), SnLe l l
  | [] => .nil
  | (_, _) :: l => .cons (fun _ _ hb => hb) (SnLe.refl l)
theorem snapOk_le {i : Nat} {o : Oper} {tm : T PV} {h : H} (hq : kdOf P o.op = .quiet) : ∀ {sn sn' : List (Nat × H)}, SnLe sn sn' → snapOk P base ms i o tm h sn = true → snapOk P base ms i o tm h sn' = true
  | _, _, .nil, _ => rfl
  | _, _, .cons (e := e) (h := hs) (h' := hs') hle hl, hk => by
    simp only [snapOk, Bool.and_eq_true, Bool.or_eq_true] at hk ⊢
    refine ⟨hk.1.imp id fun hk1 => ?_, snapOk_le hq hl hk.2⟩
    cases hx : execV P (opnd tm) (base + i) o.op h with
    | none => rw [hx] at hk1; simp at hk1
    | some r =>
      obtain ⟨v, a⟩ := r
      rw [hx] at hk1
      cases hy : execV P (opnd tm) (base + i) o.op hs with
      | none => rw [hy] at hk1; simp at hk1
      | some r' =>
        obtain ⟨v', a'⟩ := r'
        rw [hy] at hk1
        have h2 := (quiet_execV (P := P) (ev := opnd tm) (id := base + i) hq _ _ _ hy).2 hs' fun b o _ hb => hle b o hb
        rw [h2]
        exact hk1
theorem runC_le : ∀ (is : List Nat) {tm : T PV} {h : H} {sn sn' : List (Nat × H)} {r : T PV × H}, SnLe sn sn' →
    runC P call nt ops base ms is tm h sn = some r → runC P call nt ops base ms is tm h sn' = some r
  | [], _, _, _, _, _, _, e => e
  | i :: is, tm, h, sn, sn', r, hle, e => by
    simp only [runC] at e ⊢
    cases ho : ops[i]? with
    | none => rw [ho] at e; simp at e
    | some o =>
      rw [ho] at e
      simp only at e ⊢
      cases hc : (!wantV ops tm o || chk P ops base ms i o tm h sn) with
      | false => rw [hc] at e; simp at e
      | true =>
        have hc' : (!wantV ops tm o || chk P ops base ms i o tm h sn') = true := by
          simp only [Bool.or_eq_true] at hc ⊢
          refine hc.imp id fun hk => ?_
          unfold chk at hk ⊢
          cases hkd : kdOf P o.op with
          | birth => rfl
          | eff => rfl
          | quiet =>
            rw [hkd] at hk
            simp only at hk ⊢
            cases ht : touch (opnd tm) o.op with
            | none => rfl
            | some b =>
              rw [ht] at hk
              simp only [Bool.and_eq_true] at hk ⊢
              exact ⟨hk.1, snapOk_le hkd hle hk.2⟩
        rw [hc] at e
        rw [hc']
        simp only [cond_true] at e ⊢
        cases hs : opStep P call nt ops base i o tm h with
        | none => rw [hs] at e; simp at e
        | some r1 =>
          obtain ⟨tm1, h1⟩ := r1
          rw [hs] at e
          simp only at e ⊢
          refine runC_le is ?_ e
          unfold snapAdd
          cases (kdOf P o.op).isEff && wantV ops tm o with
          | false => exact hle
          | true => exact .cons (fun _ _ hb => hb) hle
end
end Go.Pe
