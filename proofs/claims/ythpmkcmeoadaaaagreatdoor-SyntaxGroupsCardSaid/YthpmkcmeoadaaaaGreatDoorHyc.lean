/- The law, but for its cases. -/
import Derived.Test.YthpmkcmeoadaaaaGreatDoorHye
import Derived.Test.YthpmkcmeoadaaaaGreatDoorHyf
import Derived.Test.YthpmkcmeoadaaaaGreatDoorHyg
import Derived.Test.YthpmkcmeoadaaaaGreatDoorHyh
import Derived.Test.YthpmkcmeoadaaaaGreatDoorHyi
import Derived.Test.YthpmkcmeoadaaaaGreatDoorHyj
open Go Go.Pe Go.Pe.HM
namespace Go.Proofs.YthpmkcmeoadaaaaGreatDoor
set_option maxRecDepth 100000
set_option maxHeartbeats 4000000
set_option linter.unusedSimpArgs false
set_option linter.unusedVariables false
section
variable {bb : Bool} {zz : Nat} {l : List Int}
theorem gs_none {k : Nat} (h : 1024 ≤ k) : GS.get k = none := by
  have e : GS = T.set kindsO .e 1 := rfl
  rw [e, T.get_set, if_neg (by omega)]
  rfl
theorem TapeOk_mk0 : TapeOk bb zz l (some (.cells [.fl bb zz (ints l), .i .i64 0] true)) = True := eq_true ⟨0, rfl, by omega⟩
theorem atOf_mk0 {p : PV} {k : IntKind} {w : Bool} : atOf (some (.cells [p, .i k 0] w)) = 0 := rfl
theorem new0 (hz : (bb || Nat.beq zz 1) = true) {n : Nat} (hn : 1024 ≤ n) : CL KS 4 [.fl bb zz (ints l)] ⟨n, GS⟩ = some (.p (n + 3) 0, ⟨n + 5, T.set (.cells [.fl bb zz (ints l), .i .i64 0] true) GS (n + 3)⟩) := new hz (fun b hb => gs_none (Nat.le_trans hn hb))
theorem law3 (hl : Lst bb zz l) (h : H) : CL KS 3 [.fl bb zz (ints l)] h = some (.b true, h) := by
  have hz := hl.z
  have a1 := nv_ge (l := l) (a := 0) (n := 6) (by omega)
  have a2 := nv_lt (l := l) (a := 0) (n := 6) (by omega)
  have b1 := nv_ge (l := l) (a := na l 0) (n := 6) (by omega)
  have b2 := nv_lt (l := l) (a := na l 0) (n := 6) (by omega)
  have n1 := na_le (l := l) (a := 0)
  have n2 := na_le (l := l) (a := na l 0)
  refine law0' 101 rfl Tryz.func3 rfl rfl (by kernel_rfl) ?_
  repeat' (first | (rewrite [SplitP_leq]; rotate_left; omega) | (rewrite [SplitP_req]; rotate_left; omega) | (rewrite [SplitP_and]; refine ⟨fun hp => ?_, fun hp => ?_⟩) | (rewrite [SplitB_leq]; rotate_left; assumption) | (rewrite [SplitB_req]; rotate_left; assumption) | (rewrite [SplitB_and]; refine ⟨fun hp => ?_, fun hp => ?_⟩) | simp (disch := first | omega | assumption | (simp (disch := omega) only [oset_same, oset_ne, T.get_del, if_neg, if_pos, true_and, and_true, List.length_cons, List.length_nil, Nat.reduceAdd, List.all_cons, List.all_nil, Bool.and_self, TapeOk_mk, TapeOk_mk0]; done) | (simp only [List.all_cons, List.all_nil, pl, pl1, Bool.and_self, Nat.reduceBEq, Bool.false_or, Bool.true_or, Bool.or_self, Nat.beq_refl, List.length_cons, List.length_nil, Nat.reduceAdd, Nat.reduceLT, Nat.zero_add] <;> fail) | fail) only [go_sem, ↓reduceIte, new0 hz, next hl, atOf_mk, atOf_mk0, gs_none] | fail)
  rewrite [← evE_seq]
  generalize nv l 0 6 = a at a1 a2
  generalize nv l (na l 0) 6 = b at b1 b2
  generalize na l (na l 0) = q
  generalize na l 0 = p
  have key : okS bb zz l a b p q = true := by
    have ha : a = 0 ∨ a = 1 ∨ a = 2 ∨ a = 3 ∨ a = 4 ∨ a = 5 := by omega
    have hb : b = 0 ∨ b = 1 ∨ b = 2 ∨ b = 3 ∨ b = 4 ∨ b = 5 := by omega
    rcases ha with rfl | rfl | rfl | rfl | rfl | rfl
    · rcases hb with rfl | rfl | rfl | rfl | rfl | rfl
      · exact case00 bb zz l p q
      · exact case01 bb zz l p q
      · exact case02 bb zz l p q
      · exact case03 bb zz l p q
      · exact case04 bb zz l p q
      · exact case05 bb zz l p q
    · rcases hb with rfl | rfl | rfl | rfl | rfl | rfl
      · exact case10 bb zz l p q
      · exact case11 bb zz l p q
      · exact case12 bb zz l p q
      · exact case13 bb zz l p q
      · exact case14 bb zz l p q
      · exact case15 bb zz l p q
    · rcases hb with rfl | rfl | rfl | rfl | rfl | rfl
      · exact case20 bb zz l p q
      · exact case21 bb zz l p q
      · exact case22 bb zz l p q
      · exact case23 bb zz l p q
      · exact case24 bb zz l p q
      · exact case25 bb zz l p q
    · rcases hb with rfl | rfl | rfl | rfl | rfl | rfl
      · exact case30 bb zz l p q
      · exact case31 bb zz l p q
      · exact case32 bb zz l p q
      · exact case33 bb zz l p q
      · exact case34 bb zz l p q
      · exact case35 bb zz l p q
    · rcases hb with rfl | rfl | rfl | rfl | rfl | rfl
      · exact case40 bb zz l p q
      · exact case41 bb zz l p q
      · exact case42 bb zz l p q
      · exact case43 bb zz l p q
      · exact case44 bb zz l p q
      · exact case45 bb zz l p q
    · rcases hb with rfl | rfl | rfl | rfl | rfl | rfl
      · exact case50 bb zz l p q
      · exact case51 bb zz l p q
      · exact case52 bb zz l p q
      · exact case53 bb zz l p q
      · exact case54 bb zz l p q
      · exact case55 bb zz l p q
  exact ev_quick (K := KS) (fn := Tryz.f3) 3000 100 key
end
end Go.Proofs.YthpmkcmeoadaaaaGreatDoor
