/- The start: all cells of a world stand for what stays; one variable is known. -/
import Derived.Test.YthpmkcmeoadaaaaGreatDoorHyb
import Derived.Test.YthpmkcmeoadaaaaGreatDoorRows
import Derived.Below
import Derived.ProofKit
import Derived.OpenShut
import Derived.LaidMore
open Go Go.Pe Go.Pe.HM Go.RowKit Go.WideShapes Go.ChangeShapes
namespace Go.Proofs.YthpmkcmeoadaaaaGreatDoor
set_option linter.unusedVariables false
def fz0 (w : World) : Fz := fun c => match w.heap[c]? with
  | some (.cells vs _ _) => some vs
  | _ => none
def emb0 (w : World) : Emb GS := ⟨fun g => if g < 1024 then some (g, 0, 0) else none, fz0 w⟩
theorem gs_get {b : Nat} {o : PO} (h : GS.get b = some o) : b = 1 ∧ o = kindsO := by
  have e : GS = T.set kindsO .e 1 := rfl
  rw [e, T.get_set] at h
  split at h
  · rename_i hb
    exact ⟨hb, (Option.some.inj h).symm⟩
  · cases h
theorem no_own {w : World} {c : Nat} : ¬ OwnR (emb0 w) ⟨1024, GS⟩ c := by
  rintro ⟨b, o, d, m, h1, h2, _⟩
  obtain ⟨_, rfl⟩ := gs_get (show GS.get b = some o from h1)
  cases h2
def kindL : List PV := [.s [], .s [105, 110, 112, 117, 116], .s [115, 99, 97, 108, 101], .s [114, 117, 108, 101], .s [112, 97, 121], .s [112, 97, 115, 116]]
/-- the known variable, in a world -/
def Known (w : World) : Prop := ∃ vs, fz0 w 1 = some vs ∧ ∀ (i : Nat) x, kindL[i]? = some x → ∃ s, x = .s (bytesOf s) ∧ vs[i]? = some (.string s)
theorem rel0 {w : World} (hk : Known w) : Rel (emb0 w) ⟨1024, GS⟩ w := by
  obtain ⟨vs, hv, hs⟩ := hk
  have hw : ∃ e z, w.heap[1]? = some (.cells vs e z) := by
    unfold fz0 at hv
    split at hv
    · rename_i v e z h3
      cases hv
      exact ⟨e, z, h3⟩
    · cases hv
  exact {
    glob := fun g hg => ⟨0, by simp [emb0, hg]⟩
    low := Nat.le_refl _
    dom := fun b hb => by
      have : ¬ b < 1024 := by have : 1024 ≤ b := hb; omega
      simp [emb0, this]
    obj := fun b o h1 => by
      obtain ⟨rfl, rfl⟩ := gs_get (show GS.get b = some o from h1)
      obtain ⟨e, z, hw⟩ := hw
      refine ⟨1, 0, 0, by simp [emb0], ?_⟩
      refine ⟨vs, e, z, hw, fun i x hx => ?_, fun h => by cases h⟩
      obtain ⟨s, rfl, h2⟩ := hs i x hx
      exact ⟨rfl, .string s, by simpa using h2, ⟨s, rfl, rfl⟩⟩
    inj := fun b b' o o' c d m d' m' h1 h2 => by
      obtain ⟨_, rfl⟩ := gs_get (show GS.get b = some o from h1)
      cases h2
    fzok := fun c vs' h1 => by
      refine ⟨?_, no_own⟩
      have h2 : fz0 w c = some vs' := h1
      unfold fz0 at h2
      split at h2
      · rename_i v e z h3
        cases h2
        exact ⟨e, z, h3⟩
      · cases h2
    glok := fun b o h1 => by
      obtain ⟨rfl, rfl⟩ := gs_get h1
      refine ⟨by omega, _, vs, rfl, hv, fun i x hx => ?_⟩
      obtain ⟨s, rfl, h2⟩ := hs i x hx
      exact ⟨rfl, .string s, h2, ⟨s, rfl, rfl⟩⟩
    rofz := fun b cs c d m h1 h2 => by
      obtain ⟨rfl, _⟩ := gs_get (show GS.get b = _ from h1)
      have : c = 1 := by
        simp [emb0] at h2
        exact h2.1.symm
      subst this
      exact ⟨vs, hv⟩ }
theorem below_of {w w' : World} {ρ' : Emb GS} {h' : H} {may : Nat → Prop} (s : Stp may (emb0 w) ⟨1024, GS⟩ w ρ' h' w') : Below w.heap.size w w' :=
  ⟨s.os, s.tape, s.output, s.size, fun k hk => s.frame k hk no_own⟩
/-- what a call with frozen arguments answers, by the machine -/
theorem calls_of {f : FuncId} {l : List PV} {x : Bool} {rl : List Value} {w : World} (hk : Known w) (e : ∀ h, CL KS f l h = some (.b x, h)) (hl : VRs (emb0 w) l rl) :
    Calls Tryz.prog f rl.toArray w fun e w' => e = .returned (.bool x) ∧ Below w.heap.size w w' := by
  obtain ⟨n, hn⟩ := CL_ex (e ⟨1024, GS⟩)
  refine ((simS n f l _ _ _ hn).2 (emb0 w) w rl (rel0 hk) hl).mono fun e w' ⟨ρ', rv, h1, h2, h3, h4⟩ => ?_
  have h5 : rv = .bool x := by
    unfold VR at h2
    exact h2
  subst h5
  exact ⟨h1, below_of h4⟩
theorem laidVars_mem {P : Program} {w : World} {n : String} {d : DataW Unit} : ∀ {l : List (String × DataW Unit)} {ps : List MemPlace}, DataW.LaidVars P w l ps → (n, d) ∈ l →
    ∃ g t cs fuel p, P.globalNamed n = some g ∧ (P.globals[g]?).map (·.type) = some t ∧ w.var? P n = some cs ∧ DataW.trod (fun _ => ()) P w 0 (fun _ => true) false fuel t cs.toList = some (d, p)
  | [], _, _, h => by cases h
  | (n', d') :: r, ps, ⟨g, t, cs, fuel, p, q, h1, h2, h3, h4, h5, _⟩, h => by
    rcases List.mem_cons.1 h with h | h
    · cases h
      exact ⟨g, t, cs, fuel, p, h1, h2, h3, h4⟩
    · exact laidVars_mem h5 h
theorem cell_at {w : World} {a : Addr} {v : Value} (h : w.cell? a = some v) : ∃ vs, fz0 w a.block = some vs ∧ a = ⟨a.block, a.off, none⟩ ∧ vs[a.off]? = some v := by
  unfold World.cell? at h
  split at h
  · rename_i c e z h1
    cases hs : a.spot with
    | some s => rw [hs] at h; simp at h
    | none =>
      rw [hs] at h
      refine ⟨c, by simp [fz0, h1], ?_, by simpa using h⟩
      cases a
      simp_all
  · cases h
theorem gKinds : Tryz.prog.globalNamed "payroll/syntax.kinds" = some 1 := by kernel_rfl
theorem tKinds : (Tryz.prog.globals[1]?).map (·.type) = some 96 := by kernel_rfl
theorem u96 : Tryz.prog.underlying 96 = some (.array 6 9) := by kernel_rfl
theorem c96 : Tryz.prog.cellsOf 96 = 6 := by kernel_rfl
theorem c9 : Tryz.prog.cellsOf 9 = 1 := by kernel_rfl
theorem known_of {laid : List (String × DataW Unit)} {W : World} (hp : (laid.all fun x => x.2.handleName?.isNone) = true) (hm : ("payroll/syntax.kinds", Rows.laid_payroll_syntax_kinds) ∈ laid) (h : laidMetH Tryz.prog laid W) : Known W := by
  rw [MakeChecks.laidMetH_plain _ _ _ hp] at h
  obtain ⟨ps, hL, _⟩ := h
  obtain ⟨g, t, cs, fuel, p, h1, h2, h3, h4⟩ := laidVars_mem hL hm
  obtain rfl := Option.some.inj (gKinds.symm.trans h1)
  obtain rfl := Option.some.inj (tKinds.symm.trans h2)
  obtain ⟨xs, m, rfl, hx, hlen, hn, hel⟩ := DataW.trod_array u96 h4
  simp only [Prod.mk.injEq] at hx
  have hx1 : xs.map (·.1) = [.lit (.string []), .lit (.string [105, 110, 112, 117, 116]), .lit (.string [115, 99, 97, 108, 101]), .lit (.string [114, 117, 108, 101]), .lit (.string [112, 97, 121]), .lit (.string [112, 97, 115, 116])] := by
    have := hx.1
    unfold Rows.laid_payroll_syntax_kinds at this
    simpa using this.symm
  have hs : ∀ (i : Nat) (bs : List UInt8), (xs.map (·.1))[i]? = some (.lit (.string bs)) → ∃ s : ByteArray, cs[i]? = some (.string s) ∧ s.data.toList = bs := fun i bs hi => by
    have hi6 : i < 6 := by
      have : i < (xs.map (·.1)).length := by
        rcases Nat.lt_or_ge i (xs.map (·.1)).length with h | h
        · exact h
        · rw [List.getElem?_eq_none h] at hi; cases hi
      rw [List.length_map, hn] at this
      exact this
    have h5 := hel i hi6
    rw [List.getElem?_map] at hi
    cases hxi : xs[i]? with
    | none => rw [hxi] at hi; cases hi
    | some x =>
      rw [hxi] at hi h5
      simp only [Option.map_some, Option.some.injEq] at hi
      obtain ⟨s, e1, e2, _⟩ := DataW.trod_string Tryz.underlying9 h5
      rw [c9, Nat.mul_one] at e1
      refine ⟨s, ?_, ?_⟩
      · have h6 : (cs.toList.drop i).head? = some (.string s) := by
          cases hd : cs.toList.drop i with
          | nil => rw [hd] at e1; cases e1
          | cons a b => rw [hd] at e1; simp at e1; simp [e1]
        rw [List.head?_drop] at h6
        simpa using h6
      · rw [e2] at hi
        simpa using hi
  have hcell := fun i => World.var?_cell h1 h3 i
  obtain ⟨s0, g0, _⟩ := hs 0 [] (by rw [hx1]; rfl)
  obtain ⟨vs, hv, _, _⟩ := cell_at (by rw [hcell 0]; exact g0)
  refine ⟨vs, hv, fun i x hx => ?_⟩
  have fin : ∀ (i : Nat) (bs : List UInt8), (xs.map (·.1))[i]? = some (.lit (.string bs)) → ∃ s, PV.s (bs.map UInt8.toNat) = .s (bytesOf s) ∧ vs[i]? = some (.string s) := fun i bs hi => by
    obtain ⟨s, k1, k2⟩ := hs i bs hi
    refine ⟨s, by rw [← k2]; rfl, ?_⟩
    obtain ⟨vs', q1, _, q2⟩ := cell_at (by rw [hcell i]; exact k1)
    have : vs' = vs := by
      have q1' : fz0 W 1 = some vs' := q1
      have hv' : fz0 W 1 = some vs := hv
      rw [q1'] at hv'
      exact Option.some.inj hv'
    rw [this] at q2
    exact q2
  rw [hx1] at fin
  match i, hx with
  | 0, hx => cases hx; exact fin 0 _ rfl
  | 1, hx => cases hx; exact fin 1 _ rfl
  | 2, hx => cases hx; exact fin 2 _ rfl
  | 3, hx => cases hx; exact fin 3 _ rfl
  | 4, hx => cases hx; exact fin 4 _ rfl
  | 5, hx => cases hx; exact fin 5 _ rfl
  | i + 6, hx => cases hx
end Go.Proofs.YthpmkcmeoadaaaaGreatDoor
