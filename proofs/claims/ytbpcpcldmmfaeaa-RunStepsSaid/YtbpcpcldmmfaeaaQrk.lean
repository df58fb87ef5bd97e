/- The start: all cells of a world stand for what stays. -/
import Derived.Test.YtbpcpcldmmfaeaaQrj
import Derived.Below
open Go Go.Pe Go.Pe.HM Go.RowKit
namespace Go.Proofs.Ytbpcpcldmmfaeaa
set_option linter.unusedVariables false
def fz0 (w : World) : Fz := fun c => match w.heap[c]? with
  | some (.cells vs _ _) => some vs
  | _ => none
def emb0 (w : World) : Emb (.e : T PO) := ⟨fun g => if g < 1024 then some (g, 0, 0) else none, fz0 w⟩
theorem get_eP {i : Nat} : (T.e : T PO).get i = none := by
  unfold T.get
  rfl
theorem no_own {w : World} {c : Nat} : ¬ OwnR (emb0 w) ⟨1024, .e⟩ c := by
  rintro ⟨b, o, d, m, h1, _⟩
  have h2 : (T.e : T PO).get b = some o := h1
  rw [get_eP] at h2
  cases h2
theorem rel0 (w : World) : Rel (emb0 w) ⟨1024, .e⟩ w where
  glob g hg := ⟨0, by simp [emb0, hg]⟩
  low := Nat.le_refl _
  dom b hb := by
    have : ¬ b < 1024 := by have : 1024 ≤ b := hb; omega
    simp [emb0, this]
  obj b o h1 := by
    have h2 : (T.e : T PO).get b = some o := h1
    rw [get_eP] at h2
    cases h2
  inj b b' o o' c d m d' m' h1 := by
    have h2 : (T.e : T PO).get b = some o := h1
    rw [get_eP] at h2
    cases h2
  fzok c vs h1 := by
    refine ⟨?_, no_own⟩
    have h2 : fz0 w c = some vs := h1
    unfold fz0 at h2
    split at h2
    · rename_i v e z h3
      cases h2
      exact ⟨e, z, h3⟩
    · cases h2
  glok b o h1 := by
    rw [get_eP] at h1
    cases h1
  rofz b cs c d m h1 := by
    have h2 : (T.e : T PO).get b = _ := h1
    rw [get_eP] at h2
    cases h2
theorem below_of {w w' : World} {ρ' : Emb (.e : T PO)} {h' : H} {may : Nat → Prop} (s : Stp may (emb0 w) ⟨1024, .e⟩ w ρ' h' w') : Below w.heap.size w w' :=
  ⟨s.os, s.tape, s.output, s.size, fun k hk => s.frame k hk no_own⟩
/-- what a call with frozen arguments answers, by the machine -/
theorem calls_of {f : FuncId} {l : List PV} {x : Bool} {rl : List Value} {w : World} (e : ∀ h, CL KR f l h = some (.b x, h)) (hl : VRs (emb0 w) l rl) :
    Calls Try.prog f rl.toArray w fun e w' => e = .returned (.bool x) ∧ Below w.heap.size w w' := by
  obtain ⟨n, hn⟩ := CL_ex (e ⟨1024, .e⟩)
  refine ((simR n f l _ _ _ hn).2 (emb0 w) w rl (rel0 w) hl).mono fun e w' ⟨ρ', rv, h1, h2, h3, h4⟩ => ?_
  have h5 : rv = .bool x := by
    unfold VR at h2
    exact h2
  subst h5
  exact ⟨h1, below_of h4⟩
end Go.Proofs.Ytbpcpcldmmfaeaa
