/- Arguments that stay: rows of commands. -/
import Derived.Test.YtbpcpcldmmfaeaaQrm
open Go Go.Pe Go.Pe.HM Go.RowKit Go.WideShapes Go.ChangeShapes
namespace Go.Proofs.Ytbpcpcldmmfaeaa
set_option maxRecDepth 100000
set_option linter.unusedVariables false
def EOK (fz : Fz) (vs : Array Value) (c : Cmd) (d : Nat) : Prop := ∃ u, FR fz c.v u ∧ u.cells.size = 5 ∧ c.v.cells.all PV.one = true ∧ ∀ (j : Nat) v, u.cells[j]? = some v → vs[d + j]? = some v
theorem frl_cmds {fz : Fz} {vs : Array Value} : ∀ (l : List Cmd) (d : Nat), (∀ i, i < l.length → EOK fz vs (l.getD i default) (d + i * 5)) → FRl fz 5 vs (cmds l) d
  | [], d, h => by
    have e : cmds [] = [] := rfl
    rw [e]
    unfold FRl
    trivial
  | y :: ys, d, h => by
    have e : cmds (y :: ys) = y.v :: cmds ys := rfl
    rw [e]
    unfold FRl
    refine ⟨?_, frl_cmds ys (d + 5) fun i hi => ?_⟩
    · have := h 0 (by simp)
      simpa [EOK] using this
    · have := h (i + 1) (by simp; omega)
      rw [show d + (i + 1) * 5 = d + 5 + i * 5 by omega] at this
      simpa using this
def Cmd.half (x : Cmd) : Prop := (x.b || Nat.beq x.z 1) = true ∧ (x.b = true → x.es = [])
theorem Addr.add_bo (a : Addr) (i : Nat) : (a.add i).block = a.block ∧ (a.add i).off = a.off + i := by
  unfold Addr.add
  split
  · rename_i h5
    rw [h5, Nat.add_zero]
    exact ⟨rfl, rfl⟩
  · exact ⟨rfl, rfl⟩
section
variable {H : Type} {enc : TypeId × Value → H} {w : World} {base : Nat} {spare : Nat → Bool} {held : Bool} {fuel : Nat} {cs : List Value} {x : DataW H × List MemPlace}
theorem fr_cmds (h : DataW.trod enc Try.prog w base spare held fuel 36 cs = some x) :
    ∃ v b z l, cs = [v] ∧ FR (fz0 w) (.fl b z (cmds l)) v ∧ (b || Nat.beq z 5) = true ∧ (∀ c ∈ l, c.half) := by
  rcases DataW.trod_slice u36 h with ⟨rfl, _⟩ | ⟨a, len, cap, elems, rest, n, _, rfl, _, _, hl, _, hlen, hel, _, _⟩
  · refine ⟨_, true, 0, [], rfl, ?_, rfl, fun c hc => nomatch hc⟩
    unfold FR
    exact .inl ⟨rfl, rfl, rfl⟩
  · have el : ∀ i, i < len → ∃ st v b z es c s k, (∀ j, j < 5 → w.cell? ((a.add (i * 5)).add j) = [Value.int .i64 st, v, .int .i64 c, .int .i64 s, .int .i64 k][j]?) ∧ FR (fz0 w) (.fl b z (ints es)) v ∧ (b || Nat.beq z 1) = true ∧ (b = true → es = []) := by
      intro i hi
      have h1 := hel i hi
      rw [c32, List.getElem?_eq_getElem (by omega), Option.bind_eq_some_iff] at h1
      obtain ⟨cs', h2, h3⟩ := h1
      obtain ⟨st, v, b, z, es, c, s, k, rfl, g1, g2, g3⟩ := open_five u32 c32 h3
      exact ⟨st, v, b, z, es, c, s, k, (World.cells?_some h2).2.2, g1, g2, g3⟩
    have each : ∀ i, i < len → ∃ c : Cmd, c.half ∧ ∃ vs, fz0 w a.block = some vs ∧ a = ⟨a.block, a.off, none⟩ ∧ EOK (fz0 w) vs c (a.off + i * 5) := by
      intro i hi
      have ha : a = ⟨a.block, a.off, none⟩ := by
        obtain ⟨st, v, b, z, es, c, s, k, h1, _⟩ := el 0 (by omega)
        have h2 := h1 0 (by omega)
        have e : (a.add (0 * 5)).add 0 = a := by simp [Addr.add]
        rw [e] at h2
        obtain ⟨_, _, h3, _⟩ := cell_at (w := w) (v := .int .i64 st) h2
        exact h3
      obtain ⟨st, v, b, z, es, c, s, k, h1, g1, g2, g3⟩ := el i hi
      have at_ : ∀ j u, [Value.int .i64 st, v, .int .i64 c, .int .i64 s, .int .i64 k][j]? = some u → ∃ vs, fz0 w a.block = some vs ∧ vs[a.off + i * 5 + j]? = some u := by
        intro j u hu
        have hj : j < 5 := (List.getElem?_eq_some_iff.1 hu).1
        have h2 := h1 j hj
        rw [hu] at h2
        obtain ⟨vs, k1, _, k3⟩ := cell_at h2
        rw [(Addr.add_bo _ _).1, (Addr.add_bo _ _).1] at k1
        rw [(Addr.add_bo _ _).2, (Addr.add_bo _ _).2] at k3
        exact ⟨vs, k1, k3⟩
      obtain ⟨vs, k1, k3⟩ := at_ 0 _ rfl
      refine ⟨⟨st, b, z, es, c, s, k⟩, ⟨g2, g3⟩, vs, k1, ha, .agg #[.int .i64 st, v, .int .i64 c, .int .i64 s, .int .i64 k], ?_, rfl, rfl, fun j u hu => ?_⟩
      · unfold Cmd.v FR
        refine ⟨_, rfl, ?_⟩
        simp only [FRs, FR] at g1 ⊢
        exact ⟨_, _, rfl, rfl, _, _, rfl, g1, _, _, rfl, rfl, _, _, rfl, rfl, _, _, rfl, rfl, rfl⟩
      · obtain ⟨vs', m1, m2⟩ := at_ j u (by simpa [Value.cells] using hu)
        rw [k1] at m1
        cases m1
        exact m2
    have key : ∃ f : Nat → Cmd, ∀ i, i < len → (f i).half ∧ ∃ vs, fz0 w a.block = some vs ∧ a = ⟨a.block, a.off, none⟩ ∧ EOK (fz0 w) vs (f i) (a.off + i * 5) := by
      refine ⟨fun i => if h : i < len then (each i h).choose else default, fun i hi => ?_⟩
      simp only [dif_pos hi]
      exact (each i hi).choose_spec
    obtain ⟨f, hf⟩ := key
    refine ⟨_, false, 5, (List.range len).map f, rfl, ?_, rfl, fun c hc => ?_⟩
    · have hn : (cmds ((List.range len).map f)).length = len := by simp [cmds]
      unfold FR
      refine .inr ⟨rfl, a, cap, by rw [hn], by rw [hn]; exact hl, fun hne => ?_⟩
      have hpos : 0 < len := by
        rcases Nat.eq_zero_or_pos len with h0 | h0
        · subst h0
          exact absurd rfl hne
        · exact h0
      obtain ⟨_, vs, g1, g2, _⟩ := hf 0 hpos
      refine ⟨a.block, a.off, vs, g1, g2, frl_cmds _ _ fun i hi => ?_⟩
      have hi' : i < len := by simpa using hi
      obtain ⟨_, vs', k1, _, k3⟩ := hf i hi'
      rw [g1] at k1
      cases k1
      simpa [List.getD, hi'] using k3
    · simp only [List.mem_map, List.mem_range] at hc
      obtain ⟨i, hi, rfl⟩ := hc
      exact (hf i hi).1
end
end Go.Proofs.Ytbpcpcldmmfaeaa
