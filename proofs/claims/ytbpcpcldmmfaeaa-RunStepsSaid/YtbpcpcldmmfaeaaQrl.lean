/- Arguments that stay: lists of numbers. -/
import Derived.Test.YtbpcpcldmmfaeaaQrk
import Derived.ProofKit
open Go Go.Pe Go.Pe.HM Go.RowKit Go.WideShapes Go.ChangeShapes
namespace Go.Proofs.Ytbpcpcldmmfaeaa
set_option linter.unusedVariables false
theorem frl_ints {fz : Fz} {vs : Array Value} : ∀ (es : List Int) (d : Nat), (∀ i, i < es.length → vs[d + i]? = some (.int .i64 (es.getD i 0))) → FRl fz 1 vs (ints es) d
  | [], d, h => by
    rw [ints_nil]
    unfold FRl
    trivial
  | y :: ys, d, h => by
    have e : ints (y :: ys) = .i .i64 y :: ints ys := rfl
    rw [e]
    unfold FRl
    refine ⟨⟨.int .i64 y, by unfold FR; rfl, rfl, rfl, fun j v hv => ?_⟩, frl_ints ys (d + 1) fun i hi => ?_⟩
    · cases j with
      | zero =>
        have := h 0 (by simp)
        simp [Value.cells] at hv
        subst hv
        simpa using this
      | succ j => simp [Value.cells] at hv
    · have := h (i + 1) (by simp; omega)
      rw [show d + 1 + i = d + (i + 1) by omega, this]
      simp
theorem cell_at {w : World} {a : Addr} {v : Value} (h : w.cell? a = some v) : ∃ vs, fz0 w a.block = some vs ∧ a = ⟨a.block, a.off, none⟩ ∧ vs[a.off]? = some v := by
  unfold World.cell? at h
  split at h
  · rename_i c e z h1
    cases hs : a.spot with
    | some s => rw [hs] at h; simp at h
    | none =>
      rw [hs] at h
      refine ⟨c, by simp [fz0, h1], ?_, by simpa using h⟩
      cases a
      simp_all
  · cases h
theorem fr_ints {H : Type} {enc : TypeId × Value → H} {P : Program} {w : World} {base : Nat} {spare : Nat → Bool} {held : Bool} {t e : TypeId} {fuel : Nat} {cs : List Value} {x : DataW H × List MemPlace}
    (ht : P.underlying t = some (.slice e)) (he : P.underlying e = some (.int .i64)) (hc : P.cellsOf e = 1) (h : DataW.trod enc P w base spare held fuel t cs = some x) :
    ∃ v b z es, cs = [v] ∧ FR (fz0 w) (.fl b z (ints es)) v ∧ (b || Nat.beq z 1) = true ∧ (b = true → es = []) := by
  rcases open_ints ht he hc h with ⟨rfl, _⟩ | ⟨a, len, cap, zs, rfl, _, hl, _, hz, _, hcell, _⟩
  · refine ⟨_, true, 0, [], rfl, ?_, rfl, fun _ => rfl⟩
    unfold FR
    exact .inl ⟨rfl, rfl, rfl⟩
  · refine ⟨_, false, 1, zs.take len, rfl, ?_, rfl, fun h => nomatch h⟩
    have hlz : len ≤ zs.length := by
      rw [hz]
      split <;> omega
    have hn : (ints (zs.take len)).length = len := by rw [ints_len]; simp; omega
    unfold FR
    refine .inr ⟨rfl, a, cap, by rw [hn], by rw [hn]; exact hl, fun hne => ?_⟩
    have hpos : 0 < len := by
      rcases Nat.eq_zero_or_pos len with h0 | h0
      · subst h0
        exact absurd (by simp [ints]) hne
      · exact h0
    have h0 := hcell 0 (by omega)
    have ea : a.add 0 = a := by simp [Addr.add]
    rw [ea] at h0
    obtain ⟨vs, h1, h2, h3⟩ := cell_at h0
    refine ⟨a.block, a.off, vs, h1, h2, frl_ints _ _ fun i hi => ?_⟩
    have hi' : i < len := by simp at hi; omega
    have h4 := hcell i (by omega)
    obtain ⟨vs', g1, g2, g3⟩ := cell_at h4
    have eb : (a.add i).block = a.block := by unfold Addr.add; split <;> rfl
    have eo : (a.add i).off = a.off + i := by
      unfold Addr.add
      split
      · rename_i h5
        rw [h5, Nat.add_zero]
      · rfl
    rw [eb, h1] at g1
    cases g1
    rw [eo] at g3
    rw [g3]
    simp [List.getD, hi']
end Go.Proofs.Ytbpcpcldmmfaeaa
