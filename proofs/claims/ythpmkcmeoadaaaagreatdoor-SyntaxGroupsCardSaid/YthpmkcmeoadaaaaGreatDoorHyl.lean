/-
  PROVED: whatever list of numbers SyntaxGroups is called with, it returns true, and its argument reads behind the call as it read before.
  Conditions: none beyond those of the given statement: the listed package-level variables hold what the program's text lays in them (the card ties them).
-/
import Derived.Test.YthpmkcmeoadaaaaGreatDoorHyc
import Derived.Test.YthpmkcmeoadaaaaGreatDoorHyk
import Derived.Test.YthpmkcmeoadaaaaGreatDoorRows
import Derived.Test.YthpmkcmeoadaaaaGreatDoorCards
import Derived.Test.YthpmkcmeoadaaaaGreatDoorTie
import Derived.WalkKit
import Derived.ProofKit
import Derived.OpenShut
import Derived.ChangeOld
import Derived.Below
import Derived.Carry
import Derived.LaidMore
import Derived.Stop.Joined
import Derived.SevenTiedAt
namespace Go.Proofs.YthpmkcmeoadaaaaGreatDoor
open Go Go.Pe Go.ChangeShapes Go.WideShapes Go.ChangeAt Go.RowKit
set_option linter.unusedVariables false
theorem own : ownKnob Tryz.prog.godebug = none := by kernel_rfl
theorem laidOut : laidOutB Tryz.prog = true := by kernel_rfl
theorem u4 : Tryz.prog.underlying 4 = some .bool := by kernel_rfl
theorem u22 : Tryz.prog.underlying 22 = some (.slice 3) := by kernel_rfl
theorem u3 : Tryz.prog.underlying 3 = some (.int .i64) := by kernel_rfl
theorem c3 : Tryz.prog.cellsOf 3 = 1 := by kernel_rfl
theorem frl_ints {fz : Fz} {vs : Array Value} : ∀ (es : List Int) (d : Nat), (∀ i, i < es.length → vs[d + i]? = some (.int .i64 (es.getD i 0))) → FRl fz 1 vs (ints es) d
  | [], d, h => by
    rw [ints_nil]
    unfold FRl
    trivial
  | y :: ys, d, h => by
    have e : ints (y :: ys) = .i .i64 y :: ints ys := rfl
    rw [e]
    unfold FRl
    refine ⟨⟨.int .i64 y, by unfold FR; rfl, rfl, rfl, fun j v hv => ?_⟩, frl_ints ys (d + 1) fun i hi => ?_⟩
    · cases j with
      | zero =>
        have := h 0 (by simp)
        simp [Value.cells] at hv
        subst hv
        simpa using this
      | succ j => simp [Value.cells] at hv
    · have := h (i + 1) (by simp; omega)
      rw [show d + 1 + i = d + (i + 1) by omega, this]
      simp
theorem fr_ints {H : Type} {enc : TypeId × Value → H} {P : Program} {w : World} {base : Nat} {spare : Nat → Bool} {held : Bool} {t e : TypeId} {fuel : Nat} {cs : List Value} {x : DataW H × List MemPlace}
    (ht : P.underlying t = some (.slice e)) (he : P.underlying e = some (.int .i64)) (hc : P.cellsOf e = 1) (h : DataW.trod enc P w base spare held fuel t cs = some x) :
    ∃ v b z es, cs = [v] ∧ FR (fz0 w) (.fl b z (ints es)) v ∧ (b || Nat.beq z 1) = true ∧ (b = true → es = []) := by
  rcases open_ints ht he hc h with ⟨rfl, _⟩ | ⟨a, len, cap, zs, rfl, _, hl, _, hz, _, hcell, _⟩
  · refine ⟨_, true, 0, [], rfl, ?_, rfl, fun _ => rfl⟩
    unfold FR
    exact .inl ⟨rfl, rfl, rfl⟩
  · refine ⟨_, false, 1, zs.take len, rfl, ?_, rfl, fun h => nomatch h⟩
    have hlz : len ≤ zs.length := by
      rw [hz]
      split <;> omega
    have hn : (ints (zs.take len)).length = len := by rw [ints_len]; simp; omega
    unfold FR
    refine .inr ⟨rfl, a, cap, by rw [hn], by rw [hn]; exact hl, fun hne => ?_⟩
    have hpos : 0 < len := by
      rcases Nat.eq_zero_or_pos len with h0 | h0
      · subst h0
        exact absurd (by simp [ints]) hne
      · exact h0
    have h0 := hcell 0 (by omega)
    have ea : a.add 0 = a := by simp [Addr.add]
    rw [ea] at h0
    obtain ⟨vs, h1, h2, h3⟩ := cell_at h0
    refine ⟨a.block, a.off, vs, h1, h2, frl_ints _ _ fun i hi => ?_⟩
    have hi' : i < len := by simp at hi; omega
    have h4 := hcell i (by omega)
    obtain ⟨vs', g1, g2, g3⟩ := cell_at h4
    have eb : (a.add i).block = a.block := by unfold Addr.add; split <;> rfl
    have eo : (a.add i).off = a.off + i := by
      unfold Addr.add
      split
      · rename_i h5
        rw [h5, Nat.add_zero]
      · rfl
    rw [eb, h1] at g1
    cases g1
    rw [eo] at g3
    rw [g3]
    simp [List.getD, hi']
/-- Go's table, as cells -/
def firstCells : Array Value := match Go.Pinned.utf8First with
  | .agg ds => (ds.map fun d => match d with
    | .lit (.int k n) => Value.int k n
    | _ => .bool false).toArray
  | _ => #[]
/-- the door's own heap, with the pinned table -/
noncomputable def W0 (os : Os) : World := { World.doorLaid Tryz.prog 5000 os with heap := (World.doorLaid Tryz.prog 5000 os).heap.modify 7 fun o => match o with
  | .cells _ t z => .cells firstCells t z
  | o => o }
set_option maxRecDepth 100000 in
theorem door_met (os : Os) (args : Array Value) : laidMetH Tryz.prog Rows.syntaxGroupsRow.laid ((W0 os).forCall (fun _ _ => 0) ⟨#[], args, []⟩).memory :=
  laidMetH_of_parts3 (fuel := 8) (laidMet_of_run' 8 (by kernel_rfl) (by kernel_rfl)) (by kernel_rfl) (by kernel_rfl)
set_option maxRecDepth 100000 in
theorem lifted (os : Os) (started : os.Started) (H : Type) (enc : TypeId × Value → H) :
    ReturnsInHanded {} Tryz.checked os 3 .any (fun w args => (Rows.syntaxGroupsSpec.pre enc Tryz.prog Tryz.f3 [] false w args ∧ laidMetH Tryz.prog Rows.syntaxGroupsRow.laid w) ∧ sizedMet enc Tryz.prog Tryz.f3 (OpenSpec.ofChange Rows.syntaxGroupsSpec) false w args)
      (Rows.syntaxGroupsSpec.post enc Tryz.prog Tryz.f3 false true false false) := by
  refine returnsInHanded_of_change_and (C := Tryz.checked) (X := fun w _ => laidMetH Tryz.prog Rows.syntaxGroupsRow.laid w) (fun _ _ _ hh h => h.of_heap hh) own started (by kernel_rfl) Tryz.func3
    (ChangeSpec.witness_shaped (enc := enc) (C := Tryz.checked) (os := os) (X := fun w _ => laidMetH Tryz.prog Rows.syntaxGroupsRow.laid w) false (W0 os) #[.slice none 0 0] 8 rfl (World.shaped_of_RefB (by kernel_rfl) (by kernel_rfl)) (by kernel_rfl) (by kernel_rfl) (by kernel_rfl) (door_met os _)) ?_
  intro W base args ds gs before hval0 hW _ _ hL _
  have hval : ∀ (j : Nat) t v, Tryz.f3.params[j]? = some t → args[j]? = some v → Value.okWide Tryz.prog W .any base t v := hval0
  have hW' := hW
  obtain ⟨p, q, hA0, hV, rfl, hfz, hnd⟩ := hW
  have hA : DataW.TrodAll enc Tryz.prog W 0 (fun _ => true) true Tryz.f3.params.toList args.toList ds p := hA0
  rw [Tryz.params3] at hA hval
  obtain ⟨v0, d0, rfl, rfl, h0⟩ := trodAll_one hA
  obtain ⟨rfl, rfl⟩ := trodVars_none hV
  have lt := hW'.lt
  have hk : Known W := known_of (by kernel_rfl) (by simp [Rows.syntaxGroupsRow]) hL
  have hv0 := hval 0 22 v0 rfl rfl
  have q0 : v0.cells.toList = [v0] := by
    cases v0 <;> first | rfl | (exfalso; simp [Value.okWide, Cell.okWide, Cell.ok] at hv0)
  obtain ⟨n0, e0⟩ := h0
  obtain ⟨x0, b0, z0, es0, k0, f0, g0, i0⟩ := fr_ints u22 u3 c3 e0
  rw [q0] at k0
  obtain rfl : v0 = x0 := by simpa using k0
  refine (calls_of hk (law3 ⟨g0, i0⟩) (VRs.cons (show VR (emb0 W) (.fl b0 z0 (ints es0)) v0 from f0) VRs.nil)).mono fun e W' ⟨he, bel⟩ => ?_
  subst he
  have lt0 : ∀ x ∈ p, x.block < W.heap.size := fun x hx => lt x (by simp [hx])
  refine ⟨_, rfl, _, _, _, [], _, [], hW', trodAll_mk1 (shut_bool u4 _), trodAll_mk1 (Below.trod laidOut (by kernel_rfl) (of_decide_eq_true (by kernel_rfl)) ⟨n0, e0⟩ bel lt0), rfl, bel.frame _, fun h => by cases h⟩
theorem syntaxGroups_holds : Rows.SyntaxGroupsSaid :=
  OpenClaim.holds_of_wide 3 Tryz.f3 rfl rfl rfl rfl rfl rfl rfl ⟨rfl, rfl, rfl, rfl, rfl⟩ rfl rfl rfl rfl rfl (by kernel_rfl) Tryz.func3 (by kernel_rfl)
    (of_decide_eq_true (by kernel_rfl)) (by unfold Func.isWrapper; first | (rw [if_pos (by decide +kernel)]; kernel_rfl) | (rw [if_neg (by decide +kernel)]; exact ⟨rfl, rfl⟩))
    (fun os started H enc _ => lifted os started H enc)
theorem syntaxGroups_card : Rows.SyntaxGroupsCardSaid :=
  Claim7.holds_tied_plain_at .later [] [.data, .data, .data, .data, .sentinel, .sentinel, .data, .data, .data, .pinned] true (true, "033ae8572e0a22d4f46acb2fec21de2c76680fc164e6b3ac692619b2a8d75a8b") true
    syntaxGroups_holds (fun _ h => by cases h) (by kernel_rfl) (fun _ h => by cases h) syntaxGroups_row_tie rfl ⟨rfl, rfl⟩ (by kernel_rfl) rfl
    (fun f fn hf hfn => by
      obtain rfl : f = 3 := Option.some.inj ((show Tryz.prog.funcNamed "payroll/payrolllaw18.SyntaxGroups" = some 3 by kernel_rfl).symm.trans hf) |>.symm
      obtain rfl : fn = Tryz.f3 := (Option.some.inj (Tryz.func3.symm.trans hfn)).symm
      exact ⟨by kernel_rfl, fun j t ht => by
        rw [Tryz.params3] at ht
        have hm : t ∈ [22] := by simpa using Array.mem_of_getElem? ht
        have hall : ([22].all fun u => !Tryz.prog.wantsStandIn u) = true := by kernel_rfl
        exact (show Tryz.prog.wantsStandIn t = false by simpa using List.all_eq_true.1 hall t hm)⟩)
    (by kernel_rfl)
#print axioms syntaxGroups_card
end Go.Proofs.YthpmkcmeoadaaaaGreatDoor
