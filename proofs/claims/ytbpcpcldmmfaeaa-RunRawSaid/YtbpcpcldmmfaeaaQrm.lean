/- Arguments that stay: runs and commands. -/
import Derived.Test.YtbpcpcldmmfaeaaQrl
open Go Go.Pe Go.Pe.HM Go.RowKit Go.WideShapes Go.ChangeShapes
namespace Go.Proofs.Ytbpcpcldmmfaeaa
set_option maxRecDepth 100000
set_option linter.unusedVariables false
theorem u3 : Try.prog.underlying 3 = some (.int .i64) := by kernel_rfl
theorem u23 : Try.prog.underlying 23 = some (.slice 3) := by kernel_rfl
theorem u36 : Try.prog.underlying 36 = some (.slice 32) := by kernel_rfl
theorem u25 : Try.prog.underlying 25 = some (.struct #[⟨"Count", 3, 0, false, "", "", 0⟩, ⟨"Sum", 3, 1, false, "", "", 8⟩, ⟨"Hash", 3, 2, false, "", "", 16⟩]) := by kernel_rfl
theorem u27 : Try.prog.underlying 27 = some (.struct #[⟨"State", 3, 0, false, "", "", 0⟩, ⟨"Employees", 23, 1, false, "", "", 8⟩, ⟨"Control", 25, 2, false, "", "", 32⟩]) := by kernel_rfl
theorem u32 : Try.prog.underlying 32 = some (.struct #[⟨"Kind", 3, 0, false, "", "", 0⟩, ⟨"Employees", 23, 1, false, "", "", 8⟩, ⟨"Control", 25, 2, false, "", "", 32⟩]) := by kernel_rfl
theorem c3 : Try.prog.cellsOf 3 = 1 := by kernel_rfl
theorem c23 : Try.prog.cellsOf 23 = 1 := by kernel_rfl
theorem c25 : Try.prog.cellsOf 25 = 3 := by kernel_rfl
theorem c27 : Try.prog.cellsOf 27 = 5 := by kernel_rfl
theorem c32 : Try.prog.cellsOf 32 = 5 := by kernel_rfl
section
variable {H : Type} {enc : TypeId × Value → H} {w : World} {base : Nat} {spare : Nat → Bool} {held : Bool} {fuel : Nat} {cs : List Value} {x : DataW H × List MemPlace}
theorem open_ctl (h : DataW.trod enc Try.prog w base spare held fuel 25 cs = some x) : ∃ c s k, cs = [.int .i64 c, .int .i64 s, .int .i64 k] := by
  obtain ⟨xs, n, _, _, hl, hx, hf⟩ := DataW.trod_struct u25 h
  rw [c25] at hl
  match cs, hl with
  | [a, b, c], _ =>
    have f0 : DataW.trod enc Try.prog w base spare held n 3 (([a, b, c].drop 0).take (Try.prog.cellsOf 3)) = xs[0]? := hf 0 _ rfl
    rw [c3] at f0
    have f1 : DataW.trod enc Try.prog w base spare held n 3 (([a, b, c].drop 1).take (Try.prog.cellsOf 3)) = xs[1]? := hf 1 _ rfl
    rw [c3] at f1
    have f2 : DataW.trod enc Try.prog w base spare held n 3 (([a, b, c].drop 2).take (Try.prog.cellsOf 3)) = xs[2]? := hf 2 _ rfl
    rw [c3] at f2
    have hx : xs.length = 3 := hx
    match xs, hx with
    | [p, q, r], _ =>
      obtain ⟨m0, e0, _⟩ := DataW.trod_int u3 (x := p) f0
      obtain ⟨m1, e1, _⟩ := DataW.trod_int u3 (x := q) f1
      obtain ⟨m2, e2, _⟩ := DataW.trod_int u3 (x := r) f2
      simp at e0 e1 e2
      subst e0 e1 e2
      exact ⟨_, _, _, rfl⟩
theorem open_five {t : TypeId} {n0 n1 n2 : String} (ht : Try.prog.underlying t = some (.struct #[⟨n0, 3, 0, false, "", "", 0⟩, ⟨n1, 23, 1, false, "", "", 8⟩, ⟨n2, 25, 2, false, "", "", 32⟩])) (hc : Try.prog.cellsOf t = 5)
    (h : DataW.trod enc Try.prog w base spare held fuel t cs = some x) :
    ∃ st v b z es c s k, cs = [.int .i64 st, v, .int .i64 c, .int .i64 s, .int .i64 k] ∧ FR (fz0 w) (.fl b z (ints es)) v ∧ (b || Nat.beq z 1) = true ∧ (b = true → es = []) := by
  obtain ⟨xs, n, _, _, hl, hx, hf⟩ := DataW.trod_struct ht h
  rw [hc] at hl
  match cs, hl with
  | [a0, a1, a2, a3, a4], _ =>
    have f0 : DataW.trod enc Try.prog w base spare held n 3 (([a0, a1, a2, a3, a4].drop 0).take (Try.prog.cellsOf 3)) = xs[0]? := hf 0 _ rfl
    rw [c3] at f0
    have f1 : DataW.trod enc Try.prog w base spare held n 23 (([a0, a1, a2, a3, a4].drop 1).take (Try.prog.cellsOf 23)) = xs[1]? := hf 1 _ rfl
    rw [c23] at f1
    have f2 : DataW.trod enc Try.prog w base spare held n 25 (([a0, a1, a2, a3, a4].drop 2).take (Try.prog.cellsOf 25)) = xs[2]? := hf 2 _ rfl
    rw [c25] at f2
    have hx : xs.length = 3 := hx
    match xs, hx with
    | [p, q, r], _ =>
      obtain ⟨m0, e0, _⟩ := DataW.trod_int u3 (x := p) f0
      obtain ⟨v, b, z, es, e1, g1, g2, g3⟩ := fr_ints u23 u3 c3 (x := q) f1
      obtain ⟨c, s, k, e2⟩ := open_ctl (x := r) f2
      simp at e0 e1 e2
      obtain ⟨e2, e3, e4⟩ := e2
      subst e0 e1 e2 e3 e4
      exact ⟨_, _, b, z, es, _, _, _, rfl, g1, g2, g3⟩
end
end Go.Proofs.Ytbpcpcldmmfaeaa
