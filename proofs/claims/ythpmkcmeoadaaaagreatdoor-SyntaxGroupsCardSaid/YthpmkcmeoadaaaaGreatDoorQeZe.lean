/- Each operation but a call: the evaluation's step is the world's. -/
import Derived.Test.YthpmkcmeoadaaaaGreatDoorQeZd
namespace Go.Pe
open HM
variable {G : T PO}
set_option linter.unusedVariables false
set_option linter.unusedSimpArgs false

section
variable {ρ ρ' : Emb G} {P : Program} {h : H} {w w' : World}
theorem sim_execV {ev : Operand → Option PV} {re : Operand → Value} (hev : ∀ x v, ev x = some v → VR ρ v (re x)) {id : Nat} (hr : Rel ρ h w) (hid : id < h.next) (hρ : ρ id = none) (o : Oper) {v : PV} {h' : H}
    (e : execV P ev id o.op h = some (v, h')) (hcst : ∀ c, re (.const c) = c) : Sim1 P re o id ρ h w v h' := by
  obtain ⟨dst, op, ty, pos, after, guard⟩ := o
  cases op
  case move x =>
    simp only [execV] at e
    obtain ⟨e1, rfl⟩ := ofO_some e
    exact Sim1.pure hr rfl (hev _ _ e1)
  case assign x =>
    simp only [execV] at e
    obtain ⟨e1, rfl⟩ := ofO_some e
    exact Sim1.pure hr rfl (hev _ _ e1)
  case pick c a b =>
    simp only [execV] at e
    obtain ⟨x, h1, e1, e2⟩ := bnd_some e
    obtain ⟨e3, rfl⟩ := ofO_some e1
    have hc := hev _ _ e3
    cases x
    case b q =>
      cases q with
      | true =>
        simp only at e2
        obtain ⟨e4, rfl⟩ := ofO_some e2
        refine Sim1.pure (rv := re a) hr ?_ (hev _ _ e4)
        simp only [execOp, show re c = .bool true from hc, asBool, Sem.run_bind, Sem.run_pure, Result.andThen_ok, if_true]
      | false =>
        simp only at e2
        obtain ⟨e4, rfl⟩ := ofO_some e2
        refine Sim1.pure (rv := re b) hr ?_ (hev _ _ e4)
        simp only [execOp, show re c = .bool false from hc, asBool, Sem.run_bind, Sem.run_pure, Result.andThen_ok, Bool.false_eq_true, if_false]
    all_goals exact (no_some e2).elim
  case alloc t =>
    simp only [execV] at e
    obtain ⟨z, h1, e1, e2⟩ := bnd_some e
    obtain ⟨e3, rfl⟩ := ofO_some e1
    obtain ⟨u, h2, e4, e5⟩ := bnd_some e2
    obtain ⟨hg, rfl⟩ := new_some e4
    obtain ⟨rfl, rfl⟩ := ret_some e5
    obtain ⟨i, zv, hi, hz, hzc⟩ := zeroOf_some e3
    have ⟨hl, h1⟩ := vrs_ofV1 (ρ := ρ) hzc
    have hsz := hl.length
    have hf := hr.freshCells hid hρ hg hl h1 zv.cells t zv.cells.size (by simp at hsz; omega) (Nat.le_refl _) (fun i v hv => by simpa using hv) true (0, 0) (fun j hj => by omega)
    refine ⟨_, _, _, .pointer (some ⟨w.heap.size, 0, none⟩), ?_, .inl rfl, ⟨_, 0, zv.cells.size, by first | (simp only [Emb.add, if_true]; done) | (simp only [Emb.add, if_true]; rfl), rfl⟩, hf.1, hf.2⟩
    simp only [execOp, Instr.alloc, Sem.run_bind, run_zeroValue hi hz, Result.andThen_ok, newVar, newRow, run_newObj, Sem.run_pure]
    rfl
  case box t x =>
    simp only [execV] at e
    obtain ⟨z, h1, e1, e2⟩ := bnd_some e
    obtain ⟨e3, rfl⟩ := ofO_some e1
    obtain ⟨hone, e4⟩ := cond_no e2
    obtain ⟨u, h2, e5, e6⟩ := bnd_some e4
    obtain ⟨hg, rfl⟩ := new_some e5
    obtain ⟨rfl, rfl⟩ := ret_some e6
    have hx := hev _ _ e3
    have hl := hx.cells
    have hsz := hl.length
    have hf := hr.freshCells hid hρ hg hl hone (re x).cells t (re x).cells.size (by simp at hsz; omega) (Nat.le_refl _) (fun i v hv => by simpa using hv) true (0, 0) (fun j hj => by omega)
    refine ⟨_, _, _, .pointer (some ⟨w.heap.size, 0, none⟩), ?_, .inl rfl, ⟨_, 0, (re x).cells.size, by first | (simp only [Emb.add, if_true]; done) | (simp only [Emb.add, if_true]; rfl), rfl⟩, hf.1, hf.2⟩
    simp only [execOp, Instr.box, Sem.run_bind, newVar, newRow, run_newObj, Result.andThen_ok, Sem.run_pure]
    rfl
  case build t ps =>
    simp only [execV] at e
    obtain ⟨l, h1, e1, e2⟩ := bnd_some e
    obtain ⟨e3, rfl⟩ := ofO_some e1
    obtain ⟨e4, rfl⟩ := ofO_some e2
    obtain ⟨hm, hp⟩ := partsO_some hev e3
    have hlist : (ps.map fun (x : Nat × Operand) => (x.1, re x.2)).toList = ps.toList.map fun x => (x.1, re x.2) := by simp
    obtain ⟨rv, hrun, hv⟩ := sim_buildV (P := P) (w := w) (rp := ps.map fun (x : Nat × Operand) => (x.1, re x.2)) e4 (by rw [hlist]; exact hm) (by rw [hlist]; exact hp)
    refine Sim1.pure hr ?_ hv
    simp only [execOp, Sem.run_bind]
    rw [show (ps.map fun (x : Nat × Operand) => match x with | (i, x) => (i, re x)) = ps.map fun (x : Nat × Operand) => (x.1, re x.2) from rfl, hrun]
    rfl
  case buildSlice t n ps =>
    simp only [execV] at e
    obtain ⟨l, h1, e1, e2⟩ := bnd_some e
    obtain ⟨e3, rfl⟩ := ofO_some e1
    obtain ⟨c, h2, e4, e5⟩ := bnd_some e2
    obtain ⟨e6, rfl⟩ := ofO_some e4
    obtain ⟨et, h3, e7, e8⟩ := bnd_some e5
    obtain ⟨e9, rfl⟩ := ofO_some e7
    obtain ⟨z, h4, e10, e11⟩ := bnd_some e8
    obtain ⟨e12, rfl⟩ := ofO_some e10
    obtain ⟨u, h5, e13, e14⟩ := bnd_some e11
    obtain ⟨hg, rfl⟩ := new_some e13
    obtain ⟨rfl, rfl⟩ := ret_some e14
    obtain ⟨hm, hp⟩ := partsO_some hev e3
    have hlist : (ps.map fun (x : Nat × Operand) => (x.1, re x.2)).toList = ps.toList.map fun x => (x.1, re x.2) := by simp
    obtain ⟨et', z', rs, he', hz', hrs, hone, hlen, hrun⟩ := sim_buildS (P := P) (w := w) (rp := ps.map fun (x : Nat × Operand) => (x.1, re x.2)) e6 (by rw [hlist]; exact hm) (by rw [hlist]; exact hp)
    rw [e9] at he'
    simp only [Option.some.injEq] at he'
    subst he'
    rw [e12] at hz'
    simp only [Option.some.injEq] at hz'
    subst hz'
    have hsz := hrs.length
    have hf := hr.freshCells hid hρ hg hrs hone rs.toArray et (n * z) (by omega) (by simp; omega) (fun i v hv => by simpa using hv) true (0, 0) (fun j hj => by omega)
    refine ⟨_, _, _, .slice (some ⟨w.heap.size, 0, none⟩) n n, ?_, .inl rfl, ⟨_, n, rfl, Nat.le_refl _, fun _ => rfl, fun _ => ⟨_, 0, n * z, by first | (simp only [Emb.add, if_true]; done) | (simp only [Emb.add, if_true]; rfl), rfl, by omega⟩⟩, hf.1, hf.2⟩
    simp only [execOp, Sem.run_bind]
    rw [show (ps.map fun (x : Nat × Operand) => match x with | (i, x) => (i, re x)) = ps.map fun (x : Nat × Operand) => (x.1, re x.2) from rfl, hrun]
    rfl
  case load t a =>
    simp only [execV] at e
    obtain ⟨x, h1, e1, e2⟩ := bnd_some e
    obtain ⟨e3, rfl⟩ := ofO_some e1
    obtain ⟨rfl, rv, hrun, hv⟩ := sim_ldT (P := P) hr e2 (hev _ _ e3)
    refine Sim1.pure hr ?_ hv
    simp only [execOp, Sem.run_bind, hrun, Result.andThen_ok, Sem.run_pure]
  case store t a x =>
    simp only [execV] at e
    obtain ⟨y, h1, e1, e2⟩ := bnd_some e
    obtain ⟨e3, rfl⟩ := ofO_some e1
    obtain ⟨z, h2, e4, e5⟩ := bnd_some e2
    obtain ⟨e6, rfl⟩ := ofO_some e4
    obtain ⟨rfl, w', hrun, q1, q2⟩ := sim_stT (P := P) hr e5 (hev _ _ e3) (hev _ _ e6) (fun b => b = id)
    refine ⟨ρ, w', .skip, undef, ?_, .inr ⟨rfl, rfl⟩, ⟨[], rfl, VRs.nil⟩, q1, q2⟩
    simp only [execOp, Sem.run_bind, hrun, Result.andThen_ok, Sem.run_pure]
  case nilCheck x =>
    simp only [execV] at e
    obtain ⟨y, h1, e1, e2⟩ := bnd_some e
    obtain ⟨e3, rfl⟩ := ofO_some e1
    have hx := hev _ _ e3
    cases y
    case p b oo =>
      simp only at e2
      obtain ⟨rfl, rfl⟩ := ret_some e2
      obtain ⟨c, d, m, hρb, hre⟩ := hx
      refine Sim1.pure (rv := re x) hr ?_ ⟨c, d, m, hρb, hre⟩
      simp only [execOp, hre, Sem.run_pure]
    case fp z es i oo =>
      simp only at e2
      obtain ⟨rfl, rfl⟩ := ret_some e2
      refine Sim1.pure (rv := re x) hr ?_ hx
      obtain ⟨c, d, vs, hf, hre, hl⟩ := hx
      simp only [execOp, hre, Sem.run_pure]
    all_goals exact (no_some e2).elim
  case binOp op t x y yt =>
    simp only [execV] at e
    obtain ⟨a, h1, e1, e2⟩ := bnd_some e
    obtain ⟨e3, rfl⟩ := ofO_some e1
    obtain ⟨b, h2, e4, e5⟩ := bnd_some e2
    obtain ⟨e6, rfl⟩ := ofO_some e4
    obtain ⟨e7, rfl⟩ := ofO_some e5
    obtain ⟨rv, hrun, hv⟩ := sim_binV (P := P) (w := w) e7 (hev _ _ e3) (hev _ _ e6)
    refine Sim1.pure hr ?_ hv
    simp only [execOp]
    rw [Sem.run_bind, hrun]
    rfl
  case unOp op t x =>
    simp only [execV] at e
    obtain ⟨a, h1, e1, e2⟩ := bnd_some e
    obtain ⟨e3, rfl⟩ := ofO_some e1
    obtain ⟨e4, rfl⟩ := ofO_some e2
    obtain ⟨rv, hrun, hv⟩ := sim_unV (P := P) (w := w) e4 (hev _ _ e3)
    refine Sim1.pure hr ?_ hv
    simp only [execOp, Sem.run_bind, hrun, Result.andThen_ok, Sem.run_pure]
  case convert s d x =>
    simp only [execV] at e
    obtain ⟨a, h1, e1, e2⟩ := bnd_some e
    obtain ⟨e3, rfl⟩ := ofO_some e1
    obtain ⟨ρ', w', rv, hrun, hv, q1, q2⟩ := sim_convV (P := P) hr hid hρ e2 (hev _ _ e3)
    exact ⟨ρ', w', _, rv, by simp only [execOp, Sem.run_bind, hrun, Result.andThen_ok, Sem.run_pure], .inl rfl, hv, q1, q2⟩
  case makeInterface t x =>
    simp only [execV] at e
    obtain ⟨a, h1, e1, e2⟩ := bnd_some e
    obtain ⟨e3, rfl⟩ := ofO_some e1
    cases hu : P.underlying t with
    | none => rw [hu] at e2; exact (no_some e2).elim
    | some d =>
      rw [hu] at e2
      have hd : ∀ m, d ≠ .interface m := fun m hm => by subst hm; exact no_some e2
      have e2' : HM.ret (PV.ifc t a) h = some (v, h') := by cases d <;> first | exact e2 | exact absurd rfl (hd _)
      obtain ⟨rfl, rfl⟩ := ret_some e2'
      refine Sim1.pure (rv := .iface t (re x)) hr ?_ ⟨_, rfl, hev _ _ e3⟩
      have : (Instr.makeInterface t (re x)).run P w = .ok (.iface t (re x)) w := by
        simp only [Instr.makeInterface, Sem.run_bind, run_underlying hu, Result.andThen_ok]
        cases d <;> first | rfl | exact absurd rfl (hd _)
      simp only [execOp, Sem.run_bind, this, Result.andThen_ok, Sem.run_pure]
  case makeFunc fn fs cs =>
    cases fn
    case func f =>
      simp only [execV] at e
      obtain ⟨hfs, e1⟩ := cond_no e
      obtain ⟨l, h1, e2, e3⟩ := bnd_some e1
      obtain ⟨e4, rfl⟩ := ofO_some e2
      obtain ⟨rfl, rfl⟩ := ret_some e3
      have hl := vrs_mapO hev e4
      have hfs' : fs = #[] := by simpa using hfs
      subst hfs'
      refine Sim1.pure (rv := .func (.func f) #[] (cs.map re)) hr ?_ ⟨cs.toList.map re, by congr 1; apply Array.ext'; simp, hl⟩
      simp only [execOp, Instr.makeFunc, Sem.run_bind, Sem.run_pure, Result.andThen_ok, Array.map_empty]
    all_goals (simp only [execV] at e; exact (no_some e).elim)
  case makeMap t r =>
    cases r with
    | some x => simp only [execV] at e; exact (no_some e).elim
    | none =>
      simp only [execV] at e
      obtain ⟨u, h2, e5, e6⟩ := bnd_some e
      obtain ⟨hg, rfl⟩ := new_some e5
      obtain ⟨rfl, rfl⟩ := ret_some e6
      have hf := hr.fresh hid hρ hg (.map []) (.map #[] 0) 0 (fun ρ' hle => ⟨#[], 0, by show (w.heap.push _)[w.heap.size]? = _; rw [Array.getElem?_push_size], rfl⟩)
      refine ⟨_, _, _, .map (some w.heap.size), ?_, .inl rfl, ⟨_, 0, 0, by first | (simp only [Emb.add, if_true]; done) | (simp only [Emb.add, if_true]; rfl), rfl⟩, hf.1, hf.2⟩
      simp only [execOp, Option.map_none, Instr.makeMap, Sem.run_bind, Sem.run_pure, Result.andThen_ok, run_newObj]
      rfl
  case makeSlice t l c =>
    simp only [execV] at e
    obtain ⟨a, h1, e1, e2⟩ := bnd_some e
    obtain ⟨e3, rfl⟩ := ofO_some e1
    obtain ⟨b, h2, e4, e5⟩ := bnd_some e2
    obtain ⟨e6, rfl⟩ := ofO_some e4
    obtain ⟨ln, cn, et, hl, hc, he⟩ : ∃ ln cn et, natIx a = some ln ∧ natIx b = some cn ∧ elemT P t = some et := by
      cases hl : natIx a with
      | none => rw [hl] at e5; exact (no_some e5).elim
      | some ln =>
        cases hc : natIx b with
        | none => rw [hl, hc] at e5; exact (no_some e5).elim
        | some cn =>
          cases he : elemT P t with
          | none => rw [hl, hc, he] at e5; exact (no_some e5).elim
          | some et => exact ⟨_, _, _, rfl, rfl, rfl⟩
    rw [hl, hc, he] at e5
    simp only at e5
    obtain ⟨z, by_, zs, hz, hby, hzo⟩ : ∃ z by_ zs, szOf P et = some z ∧ bytesT P et = some by_ ∧ zeroOf P et = some zs := by
      cases hz : szOf P et with
      | none => rw [hz] at e5; exact (no_some e5).elim
      | some z =>
        cases hby : bytesT P et with
        | none => rw [hz, hby] at e5; exact (no_some e5).elim
        | some by_ =>
          cases hzo : zeroOf P et with
          | none => rw [hz, hby, hzo] at e5; exact (no_some e5).elim
          | some zs => exact ⟨_, _, _, rfl, rfl, rfl⟩
    rw [hz, hby, hzo] at e5
    simp only at e5
    obtain ⟨hcond, e7⟩ := cond_no e5
    simp only [Bool.and_eq_true] at hcond
    obtain ⟨⟨⟨c1, c2⟩, c3⟩, c4⟩ := hcond
    have c1 := Nat.le_of_ble_eq_true c1
    have c2 := Nat.le_of_ble_eq_true c2
    have c3 := Nat.eq_of_beq_eq_true c3
    have c4 := Nat.le_of_ble_eq_true c4
    obtain ⟨u, h3, e8, e9⟩ := bnd_some e7
    obtain ⟨hg, rfl⟩ := new_some e8
    obtain ⟨rfl, rfl⟩ := ret_some e9
    obtain ⟨k1, rfl⟩ := natIx_some hl
    obtain ⟨k2, rfl⟩ := natIx_some hc
    have hrl : re l = .int k1 (ln : Int) := hev _ _ e3
    have hrc : re c = .int k2 (cn : Int) := hev _ _ e6
    have hu := elemT_some he
    obtain ⟨i, hi, hiz⟩ := szOf_some hz
    obtain ⟨i', hi', hib⟩ := bytesT_some hby
    obtain rfl : i = i' := by rw [hi] at hi'; exact Option.some.inj hi'
    obtain ⟨i', zv, hi', hzi, hzc⟩ := zeroOf_some hzo
    obtain rfl : i = i' := by rw [hi] at hi'; exact Option.some.inj hi'
    have ⟨hzr, hz1⟩ := vrs_ofV1 (ρ := ρ) hzc
    have hzs : zv.cells.size = z := by have := hzr.length; simp at this; omega
    have hrep := rep_vrs (ρ := ρ) (zs := zv.cells) hzr cn
    have hrl2 := hrep.length
    have wl : IntKind.i64.wrap (ln : Int) = (ln : Int) := by rw [IntKind.wrap_i64]; omega
    have wc : IntKind.i64.wrap (cn : Int) = (cn : Int) := by rw [IntKind.wrap_i64]; omega
    have hf := hr.freshCells hid hρ hg hrep (rep_one hz1 cn) ((Array.range (cn * zv.cells.size)).map (fun i => zv.cells[i % zv.cells.size]!)) et (cn * z) (by rw [rep_length, c3]; exact Nat.le_refl _) (by simp [hzs]) (fun i v hv => by rw [Array.getElem?_toList] at hv; exact hv) true (0, 0) (fun j hj => by omega)
    refine ⟨_, _, _, .slice (some ⟨w.heap.size, 0, none⟩) ln cn, ?_, .inl rfl, ⟨_, cn, rfl, c1, fun h => (Nat.eq_of_beq_eq_true h).symm, fun _ => ⟨_, 0, cn * z, by first | (simp only [Emb.add, if_true]; done) | (simp only [Emb.add, if_true]; rfl), rfl, by omega⟩⟩, hf.1, hf.2⟩
    have hbz : ((i.bytes : Int) * (cn : Int) ≤ 140737488355328) := by
      have h1 : ((cn * i.bytes : Nat) : Int) ≤ 140737488355328 := by rw [hib]; omega
      rw [Nat.mul_comm] at h1
      simpa using h1
    have hcnd : ¬ ((((decide ((cn : Int) < 0) || decide ((i.bytes : Int) * (cn : Int) > 2 ^ 48)) || decide ((ln : Int) < 0)) || decide ((ln : Int) > (cn : Int))) = true) := by
      simp only [Bool.or_eq_true, decide_eq_true_eq]
      omega
    have hmk : (Instr.makeSlice t (re l) (re c)).run P w = .ok (.slice (some ⟨w.heap.size, 0, none⟩) ln cn) (w.alloc (.cells ((Array.range (cn * zv.cells.size)).map (fun i => zv.cells[i % zv.cells.size]!)) et)) := by
      unfold Instr.makeSlice
      rw [hrl, hrc]
      simp only [Sem.run_bind, run_underlying hu, Result.andThen_ok, run_asInt, run_typeInfo hi, wl, wc, if_neg hcnd, run_askRoom, Int.toNat_natCast, run_sizeOf hz]
      by_cases h0 : cn * z = 0
      · have hemp : (Array.range (cn * zv.cells.size)).map (fun i => zv.cells[i % zv.cells.size]!) = #[] := by rw [hzs, h0]; simp
        have hemp2 : (Array.range (cn * z)).map (fun i => (#[] : Array Value)[i % (#[] : Array Value).size]!) = #[] := by rw [h0]; simp
        simp only [Sem.run_bind, if_pos h0, Sem.run_pure, Result.andThen_ok, hemp2, hemp, newRow, run_newObj]
        rfl
      · simp only [Sem.run_bind, if_neg h0, Sem.run_pure, Result.andThen_ok, run_zeroValue hi hzi, newRow, run_newObj, hzs]
        rfl
    simp only [execOp, Sem.run_bind]
    rw [hmk]
    rfl
  case slice t x lo hi mx =>
    simp only [execV] at e
    obtain ⟨a, h1, e1, e2⟩ := bnd_some e
    obtain ⟨e3, rfl⟩ := ofO_some e1
    cases hlo : optO (fun x => (ev x).bind natIx) lo with
    | none => rw [hlo] at e2; exact (no_some e2).elim
    | some lo' =>
      cases hhi : optO (fun x => (ev x).bind natIx) hi with
      | none => rw [hlo, hhi] at e2; exact (no_some e2).elim
      | some hi' =>
        cases hmx : optO (fun x => (ev x).bind natIx) mx with
        | none => rw [hlo, hhi, hmx] at e2; exact (no_some e2).elim
        | some mx' =>
          rw [hlo, hhi, hmx] at e2
          simp only at e2
          obtain ⟨e4, rfl⟩ := ofO_some e2
          obtain ⟨rv, hrun, hv⟩ := sim_sliceV (P := P) (w := w) e4 (hev _ _ e3) (optO_some hev hlo) (optO_some hev hhi) (optO_some hev hmx)
          refine Sim1.pure hr ?_ hv
          simp only [execOp, Sem.run_bind, hrun, Result.andThen_ok, Sem.run_pure]
  case fieldAddr t x f =>
    simp only [execV] at e
    obtain ⟨a, h1, e1, e2⟩ := bnd_some e
    obtain ⟨e3, rfl⟩ := ofO_some e1
    have hx := hev _ _ e3
    cases a
    case p b oo =>
      simp only at e2
      cases hf : fieldOf P t f with
      | none => rw [hf] at e2; exact (no_some e2).elim
      | some g =>
        rw [hf] at e2
        simp only at e2
        cases hz : szOf P g.type with
        | none => rw [hz] at e2; exact (no_some e2).elim
        | some n =>
          cases n with
          | zero => rw [hz] at e2; exact (no_some e2).elim
          | succ n =>
            rw [hz] at e2
            simp only at e2
            obtain ⟨rfl, rfl⟩ := ret_some e2
            obtain ⟨c, d, m, hρb, hre⟩ := hx
            obtain ⟨fs, hu, hfs⟩ := fieldOf_some hf
            have hadd : (⟨c, d + oo, none⟩ : Addr).add g.offset = ⟨c, d + (oo + g.offset), none⟩ := by unfold Addr.add; split <;> simp_all [Nat.add_assoc]
            refine Sim1.pure (rv := .pointer (some ⟨c, d + (oo + g.offset), none⟩)) hr ?_ ⟨c, d, m, hρb, rfl⟩
            simp only [execOp, Instr.fieldAt, Sem.run_bind, run_underlying hu, Result.andThen_ok, hfs, hre, Instr.sureAddr, Sem.run_pure, run_sizeOf_pos hz _ g rfl, hadd]
    case fp zz es i oo =>
      simp only at e2
      cases hf : fieldOf P t f with
      | none => rw [hf] at e2; exact (no_some e2).elim
      | some g =>
        rw [hf] at e2
        simp only at e2
        cases hz : szOf P g.type with
        | none => rw [hz] at e2; exact (no_some e2).elim
        | some n =>
          cases n with
          | zero => rw [hz] at e2; exact (no_some e2).elim
          | succ n =>
            rw [hz] at e2
            simp only at e2
            obtain ⟨rfl, rfl⟩ := ret_some e2
            obtain ⟨c, d, vs, hfz, hre, hil, hl⟩ := hx
            obtain ⟨fs, hu, hfs⟩ := fieldOf_some hf
            have hadd : (⟨c, d + i * zz + oo, none⟩ : Addr).add g.offset = ⟨c, d + i * zz + (oo + g.offset), none⟩ := by unfold Addr.add; split <;> simp_all [Nat.add_assoc]
            refine Sim1.pure (rv := .pointer (some ⟨c, d + i * zz + (oo + g.offset), none⟩)) hr ?_ ⟨c, d, vs, hfz, rfl, hil, hl⟩
            simp only [execOp, Instr.fieldAt, Sem.run_bind, run_underlying hu, Result.andThen_ok, hfs, hre, Instr.sureAddr, Sem.run_pure, run_sizeOf_pos hz _ g rfl, hadd]
    all_goals exact (no_some e2).elim
  case field t x f =>
    simp only [execV] at e
    obtain ⟨a, h1, e1, e2⟩ := bnd_some e
    obtain ⟨e3, rfl⟩ := ofO_some e1
    have hx := hev _ _ e3
    cases a
    case agg c =>
      simp only at e2
      cases hf : fieldOf P t f with
      | none => rw [hf] at e2; exact (no_some e2).elim
      | some g =>
        rw [hf] at e2
        simp only at e2
        obtain ⟨e4, rfl⟩ := ofO_some e2
        obtain ⟨vs, hre, hvs⟩ := hx
        obtain ⟨fs, hu, hfs⟩ := fieldOf_some hf
        obtain ⟨rv, hrun, hv⟩ := sim_partV (P := P) (w := w) hvs e4
        refine Sim1.pure hr ?_ hv
        simp only [execOp, Instr.field, Sem.run_bind, run_underlying hu, Result.andThen_ok, hfs, hre, asAgg, Sem.run_pure, hrun]
    all_goals exact (no_some e2).elim
  case indexAddr t x y =>
    simp only [execV] at e
    obtain ⟨a, h1, e1, e2⟩ := bnd_some e
    obtain ⟨e3, rfl⟩ := ofO_some e1
    obtain ⟨b, h2, e4, e5⟩ := bnd_some e2
    obtain ⟨e6, rfl⟩ := ofO_some e4
    have hx := hev _ _ e3
    have hy := hev _ _ e6
    cases hj : natIx b with
    | none => rw [hj] at e5; exact (no_some e5).elim
    | some j =>
      rw [hj] at e5
      obtain ⟨k, rfl⟩ := natIx_some hj
      have hry : re y = .int k (Int.ofNat j) := hy
      cases hu : P.underlying t with
      | none => rw [hu] at e5; exact (no_some e5).elim
      | some dt =>
        rw [hu] at e5
        cases dt
        case slice el =>
          cases a
          case sl bb oo n z tg =>
            simp only at e5
            obtain ⟨hjn, e7⟩ := cond_no e5
            have hjn : j < n := by simpa [Nat.blt_eq] using hjn
            cases hz : szOf P el with
            | none => rw [hz] at e7; exact (no_some e7).elim
            | some zz =>
              rw [hz] at e7
              obtain ⟨rfl, rfl⟩ := ret_some e7
              obtain ⟨ad, cap, hre, hcap, htg, hadr⟩ := hx
              obtain ⟨c, d, m, hρb, rfl, _⟩ := hadr (by omega)
              have hadd : (⟨c, d + oo, none⟩ : Addr).add (j * zz) = ⟨c, d + (oo + j * zz), none⟩ := by
                unfold Addr.add
                split
                · rename_i h0; rw [h0]; rfl
                · simp [Nat.add_assoc]
              have hb : 0 ≤ Int.ofNat j ∧ Int.ofNat j < (n : Int) := ⟨Int.natCast_nonneg _, Int.ofNat_lt.2 hjn⟩
              refine Sim1.pure (rv := .pointer (some ⟨c, d + (oo + j * zz), none⟩)) hr ?_ ⟨c, d, m, hρb, rfl⟩
              simp only [execOp, Instr.indexAt, Sem.run_bind, hry, asIntOf, Sem.run_pure, Result.andThen_ok, run_underlying hu, hre, if_pos hb, run_sizeOf hz]
              rw [show (Int.ofNat j).toNat = j from rfl, hadd]
          case fl nb z es =>
            simp only at e5
            obtain ⟨hjn, e7⟩ := cond_no e5
            have hjn : j < es.length := by simpa [Nat.blt_eq] using hjn
            cases hz : szOf P el with
            | none => rw [hz] at e7; exact (no_some e7).elim
            | some zz =>
              rw [hz] at e7
              simp only at e7
              obtain ⟨hzz, e8⟩ := cond_no e7
              obtain ⟨rfl, rfl⟩ := ret_some e8
              rcases hx with ⟨_, rfl, _⟩ | ⟨rfl, ad, cap, hre, hcap, hadr⟩
              · simp at hjn
              simp only [Bool.false_or] at hzz
              obtain rfl := Nat.eq_of_beq_eq_true hzz
              obtain ⟨c, d, vs, hfz, rfl, hl⟩ := hadr (fun h0 => by rw [h0] at hjn; simp at hjn)
              have hadd : (⟨c, d, none⟩ : Addr).add (j * z) = ⟨c, d + j * z + 0, none⟩ := by
                unfold Addr.add
                split
                · rename_i h0; rw [h0]; rfl
                · simp
              have hb : 0 ≤ Int.ofNat j ∧ Int.ofNat j < (es.length : Int) := ⟨Int.natCast_nonneg _, Int.ofNat_lt.2 hjn⟩
              refine Sim1.pure (rv := .pointer (some ⟨c, d + j * z + 0, none⟩)) hr ?_ ⟨c, d, vs, hfz, rfl, hjn, hl⟩
              simp only [execOp, Instr.indexAt, Sem.run_bind, hry, asIntOf, Sem.run_pure, Result.andThen_ok, run_underlying hu, hre, if_pos hb, run_sizeOf hz]
              rw [show (Int.ofNat j).toNat = j from rfl, hadd]
          all_goals exact (no_some e5).elim
        case array n el =>
          cases a
          case p bb oo =>
            simp only at e5
            obtain ⟨hjn, e7⟩ := cond_no e5
            have hjn : j < n := by simpa [Nat.blt_eq] using hjn
            cases hz : szOf P el with
            | none => rw [hz] at e7; exact (no_some e7).elim
            | some zz =>
              rw [hz] at e7
              obtain ⟨rfl, rfl⟩ := ret_some e7
              obtain ⟨c, d, m, hρb, hre⟩ := hx
              have hadd : (⟨c, d + oo, none⟩ : Addr).add (j * zz) = ⟨c, d + (oo + j * zz), none⟩ := by
                unfold Addr.add
                split
                · rename_i h0; rw [h0]; rfl
                · simp [Nat.add_assoc]
              have hb : 0 ≤ Int.ofNat j ∧ Int.ofNat j < (n : Int) := ⟨Int.natCast_nonneg _, Int.ofNat_lt.2 hjn⟩
              refine Sim1.pure (rv := .pointer (some ⟨c, d + (oo + j * zz), none⟩)) hr ?_ ⟨c, d, m, hρb, rfl⟩
              simp only [execOp, Instr.indexAt, Sem.run_bind, hry, asIntOf, Sem.run_pure, Result.andThen_ok, run_underlying hu, hre, Instr.sureAddr, if_pos hb, run_sizeOf hz]
              rw [show (Int.ofNat j).toNat = j from rfl, hadd]
          case fp z es i oo =>
            simp only at e5
            obtain ⟨hjn, e7⟩ := cond_no e5
            have hjn : j < n := by simpa [Nat.blt_eq] using hjn
            cases hz : szOf P el with
            | none => rw [hz] at e7; exact (no_some e7).elim
            | some zz =>
              rw [hz] at e7
              obtain ⟨rfl, rfl⟩ := ret_some e7
              obtain ⟨c, d, vs, hfz, hre, hil, hl⟩ := hx
              have hadd : (⟨c, d + i * z + oo, none⟩ : Addr).add (j * zz) = ⟨c, d + i * z + (oo + j * zz), none⟩ := by
                unfold Addr.add
                split
                · rename_i h0; rw [h0]; rfl
                · simp [Nat.add_assoc]
              have hb : 0 ≤ Int.ofNat j ∧ Int.ofNat j < (n : Int) := ⟨Int.natCast_nonneg _, Int.ofNat_lt.2 hjn⟩
              refine Sim1.pure (rv := .pointer (some ⟨c, d + i * z + (oo + j * zz), none⟩)) hr ?_ ⟨c, d, vs, hfz, rfl, hil, hl⟩
              simp only [execOp, Instr.indexAt, Sem.run_bind, hry, asIntOf, Sem.run_pure, Result.andThen_ok, run_underlying hu, hre, Instr.sureAddr, if_pos hb, run_sizeOf hz]
              rw [show (Int.ofNat j).toNat = j from rfl, hadd]
          all_goals exact (no_some e5).elim
        all_goals exact (no_some e5).elim
  case index t x y =>
    simp only [execV] at e
    obtain ⟨a, h1, e1, e2⟩ := bnd_some e
    obtain ⟨e3, rfl⟩ := ofO_some e1
    obtain ⟨b, h2, e4, e5⟩ := bnd_some e2
    obtain ⟨e6, rfl⟩ := ofO_some e4
    have hx := hev _ _ e3
    have hy := hev _ _ e6
    cases hj : natIx b with
    | none => rw [hj] at e5; exact (no_some e5).elim
    | some j =>
      rw [hj] at e5
      obtain ⟨k, rfl⟩ := natIx_some hj
      have hry : re y = .int k (Int.ofNat j) := hy
      cases hu : P.underlying t with
      | none => rw [hu] at e5; exact (no_some e5).elim
      | some dt =>
        rw [hu] at e5
        cases dt
        case string =>
          cases a
          case s l =>
            simp only at e5
            cases hc : l[j]? with
            | none => rw [hc] at e5; exact (no_some e5).elim
            | some c =>
              rw [hc] at e5
              obtain ⟨rfl, rfl⟩ := ret_some e5
              obtain ⟨s, hre, rfl⟩ := hx
              obtain ⟨bt, hbt, hbc⟩ : ∃ bt : UInt8, s[j]? = some bt ∧ bt.toNat = c := by
                unfold bytesOf at hc
                rw [List.getElem?_map, Array.getElem?_toList] at hc
                cases hd : s.data[j]? with
                | none => rw [hd] at hc; simp at hc
                | some bt =>
                  rw [hd] at hc
                  simp only [Option.map_some, Option.some.injEq] at hc
                  refine ⟨bt, ?_, hc⟩
                  have hlt : j < s.data.size := by
                    rcases Nat.lt_or_ge j s.data.size with h1 | h1
                    · exact h1
                    · rw [Array.getElem?_eq_none h1] at hd; cases hd
                  rw [Array.getElem?_eq_getElem hlt] at hd
                  have hlt' : j < s.size := hlt
                  rw [getElem?_pos s j hlt']
                  exact hd
              refine Sim1.pure (rv := .int .u8 bt.toNat) hr ?_ (by rw [← hbc]; rfl)
              have h0 : 0 ≤ Int.ofNat j := Int.natCast_nonneg _
              simp only [execOp, Instr.index, Sem.run_bind, hry, asIntOf, Sem.run_pure, Result.andThen_ok, run_underlying hu, hre, if_pos h0]
              rw [show (Int.ofNat j).toNat = j from rfl, hbt]
              rfl
          all_goals exact (no_some e5).elim
        case array n el =>
          cases a
          case agg c =>
            simp only at e5
            obtain ⟨hjn, e7⟩ := cond_no e5
            have hjn : j < n := by simpa [Nat.blt_eq] using hjn
            cases hz : szOf P el with
            | none => rw [hz] at e7; exact (no_some e7).elim
            | some zz =>
              rw [hz] at e7
              simp only at e7
              obtain ⟨e8, rfl⟩ := ofO_some e7
              obtain ⟨vs, hre, hvs⟩ := hx
              obtain ⟨rv, hrun, hv⟩ := sim_partV (P := P) (w := w) hvs e8
              have hb : 0 ≤ Int.ofNat j ∧ Int.ofNat j < (n : Int) := ⟨Int.natCast_nonneg _, Int.ofNat_lt.2 hjn⟩
              refine Sim1.pure hr ?_ hv
              simp only [execOp, Instr.index, Sem.run_bind, hry, asIntOf, Sem.run_pure, Result.andThen_ok, run_underlying hu, hre, if_pos hb, run_sizeOf hz]
              rw [show (Int.ofNat j).toNat = j from rfl, hrun]
              rfl
          all_goals exact (no_some e5).elim
        all_goals (cases a <;> exact (no_some e5).elim)
  case lookup t x k ok =>
    simp only [execV] at e
    obtain ⟨a, h1, e1, e2⟩ := bnd_some e
    obtain ⟨e3, rfl⟩ := ofO_some e1
    obtain ⟨b, h2, e4, e5⟩ := bnd_some e2
    obtain ⟨e6, rfl⟩ := ofO_some e4
    obtain ⟨rfl, rv, hrun, hv⟩ := sim_lookupV (P := P) hr e5 (hev _ _ e3) (hev _ _ e6)
    refine Sim1.pure hr ?_ hv
    simp only [execOp, Sem.run_bind, hrun, Result.andThen_ok, Sem.run_pure]
  case mapUpdate t m k x =>
    simp only [execV] at e
    obtain ⟨a, h1, e1, e2⟩ := bnd_some e
    obtain ⟨e3, rfl⟩ := ofO_some e1
    obtain ⟨b, h2, e4, e5⟩ := bnd_some e2
    obtain ⟨e6, rfl⟩ := ofO_some e4
    obtain ⟨c, h3, e7, e8⟩ := bnd_some e5
    obtain ⟨e9, rfl⟩ := ofO_some e7
    obtain ⟨rfl, w', hrun, q1, q2⟩ := sim_updateV (P := P) hr e8 (hev _ _ e3) (hev _ _ e6) (hev _ _ e9) (fun b => b = id)
    refine ⟨ρ, w', .skip, undef, ?_, .inr ⟨rfl, rfl⟩, ⟨[], rfl, VRs.nil⟩, q1, q2⟩
    simp only [execOp, Sem.run_bind, hrun, Result.andThen_ok, Sem.run_pure]
  case insert t m k x =>
    simp only [execV] at e
    obtain ⟨a, h1, e1, e2⟩ := bnd_some e
    obtain ⟨e3, rfl⟩ := ofO_some e1
    obtain ⟨b, h2, e4, e5⟩ := bnd_some e2
    obtain ⟨e6, rfl⟩ := ofO_some e4
    obtain ⟨c, h3, e7, e8⟩ := bnd_some e5
    obtain ⟨e9, rfl⟩ := ofO_some e7
    obtain ⟨rfl, w', hrun, q1, q2⟩ := sim_updateV (P := P) hr e8 (hev _ _ e3) (hev _ _ e6) (hev _ _ e9) (fun b => b = id)
    refine ⟨ρ, w', .skip, undef, ?_, .inr ⟨rfl, rfl⟩, ⟨[], rfl, VRs.nil⟩, q1, q2⟩
    simp only [execOp, Sem.run_bind, hrun, Result.andThen_ok, Sem.run_pure]
  case extract x n =>
    simp only [execV] at e
    obtain ⟨a, h1, e1, e2⟩ := bnd_some e
    obtain ⟨e3, rfl⟩ := ofO_some e1
    have hx := hev _ _ e3
    cases a
    case tup l =>
      simp only at e2
      obtain ⟨e4, rfl⟩ := ofO_some e2
      obtain ⟨vs, hre, hvs⟩ := hx
      obtain ⟨rv, hg, hv⟩ := hvs.get e4
      refine Sim1.pure (rv := rv) hr ?_ hv
      simp only [execOp, hre, Instr.extract, Sem.run_bind]
      have : vs.toArray[n]? = some rv := by simpa using hg
      rw [this]
      rfl
    all_goals exact (no_some e2).elim
  case call c =>
    obtain ⟨cal, args, ts⟩ := c
    cases cal
    case builtin b =>
      simp only [execV] at e
      obtain ⟨l, h1, e1, e2⟩ := bnd_some e
      obtain ⟨e3, rfl⟩ := ofO_some e1
      have hl := vrs_mapO hev e3
      obtain ⟨ρ', w', rv, hrun, hv, q1, q2⟩ := sim_builtinV (P := P) (ty := ty) (cs := args.map fun | .const _ => true | _ => false) hr hid hρ e2 hl
      refine ⟨ρ', w', .value rv, rv, ?_, .inl rfl, hv, q1, q2⟩
      have hargs : (args.toList.map re).toArray = args.map re := by apply Array.ext'; simp
      rw [hargs] at hrun
      simp only [execOp, Sem.run_bind, resolve, Sem.run_pure, Result.andThen_ok, invoke]
      exact hrun
    all_goals exact (no_some (h := h) e).elim
  all_goals exact (no_some (h := h) e).elim
end
end Go.Pe
