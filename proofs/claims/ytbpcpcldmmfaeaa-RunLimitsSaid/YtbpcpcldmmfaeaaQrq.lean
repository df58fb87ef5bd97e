/- A row of commands that is drawn. -/
import Derived.Test.YtbpcpcldmmfaeaaQrp
open Go Go.Pe Go.Pe.HM
namespace Go.Proofs.Ytbpcpcldmmfaeaa
set_option maxRecDepth 100000
set_option maxHeartbeats 8000000
set_option linter.unusedSimpArgs false
set_option linter.unusedVariables false
/-- a cell of employees in the heap -/
def HE (t : T PO) (q : Nat → Prop) (e : PV) (x : Cmd) : Prop := (e = .fl true 0 [] ∧ x.b = true ∧ x.z = 0 ∧ x.es = []) ∨ (∃ a own, e = .sl a 0 x.es.length 1 true ∧ q a ∧ t.get a = some (.cells (ints x.es) own) ∧ x.b = false ∧ x.z = 1)
def HCs (t : T PO) (q : Nat → Prop) : List PV → List Cmd → Prop
  | cells, [] => cells = []
  | cells, x :: cs => ∃ e rest, cells = .i .i64 x.kd :: e :: .i .i64 x.c :: .i .i64 x.s :: .i .i64 x.k :: rest ∧ HE t q e x ∧ HCs t q rest cs
theorem HCs.len {t : T PO} {q : Nat → Prop} : ∀ {cs : List Cmd} {cells : List PV}, HCs t q cells cs → cells.length = cs.length * 5
  | [], cells, h => by rw [show cells = [] from h]; rfl
  | x :: cs, cells, ⟨e, rest, h1, _, h3⟩ => by
    rw [h1]
    simp only [List.length_cons, HCs.len h3]
    omega
theorem HE.mono {t t' : T PO} {q q' : Nat → Prop} (h : ∀ a, q a → q' a ∧ t'.get a = t.get a) {e : PV} {x : Cmd} : HE t q e x → HE t' q' e x
  | .inl h1 => .inl h1
  | .inr ⟨a, own, h1, h2, h3, h4⟩ => .inr ⟨a, own, h1, (h a h2).1, by rw [(h a h2).2]; exact h3, h4⟩
theorem HCs.mono {t t' : T PO} {q q' : Nat → Prop} (h : ∀ a, q a → q' a ∧ t'.get a = t.get a) : ∀ {cs : List Cmd} {cells : List PV}, HCs t q cells cs → HCs t' q' cells cs
  | [], _, h1 => h1
  | x :: cs, _, ⟨e, rest, h1, h2, h3⟩ => ⟨e, rest, h1, HE.mono h h2, HCs.mono h h3⟩
theorem HCs.append {t : T PO} {q : Nat → Prop} {e : PV} {x : Cmd} (he : HE t q e x) : ∀ {cs : List Cmd} {cells : List PV}, HCs t q cells cs → HCs t q (cells ++ [.i .i64 x.kd, e, .i .i64 x.c, .i .i64 x.s, .i .i64 x.k]) (cs ++ [x])
  | [], cells, h1 => by rw [show cells = [] from h1]; exact ⟨e, [], rfl, he, rfl⟩
  | y :: cs, cells, ⟨e1, rest, h1, h2, h3⟩ => ⟨e1, _, by rw [h1]; rfl, h2, HCs.append he h3⟩
theorem frzM_sl1' {n : Nat} {b : Nat} {own : Bool} {h : H} {xs : List Int} (hg : h.tab.get b = some (.cells (ints xs) own)) : ∃ h', frzM (n + 2) (.sl b 0 xs.length 1 true) h = some (.fl false 1 (ints xs), h') ∧ h'.next = h.next ∧ (∀ a, a ≠ b → h'.tab.get a = h.tab.get a) ∧ ∃ own', h'.tab.get b = some (.cells (ints xs) own') := by
  cases xs with
  | nil => exact ⟨h, rfl, rfl, fun _ _ => rfl, own, hg⟩
  | cons y ys =>
    have hz : Nat.beq (y :: ys).length 0 = false := rfl
    have hl : (y :: ys).length = (ints (y :: ys)).length := (ints_len _).symm
    refine ⟨⟨h.next, h.tab.set (.cells (ints (y :: ys)) false) b⟩, ?_, rfl, fun a ha => by simp only [T.get_set, if_neg ha], false, by simp only [T.get_set, ↓reduceIte]⟩
    unfold frzM
    have htk : takeX (y :: ys).length (ints (y :: ys)) = some (ints (y :: ys)) := by rw [hl]; exact takeX_all _
    simp only [hz, htk, cond_false, bnd, rd, H.get, hg, List.drop_zero, Nat.mul_one, takeX_all, ofO, ret, mapH_pl1 (n := n + 1) (by omega) (ints_pl _), Go.Pe.demote, wr, H.put]
    rfl
theorem flat_cmds_cons (x : Cmd) (cs : List Cmd) : flatL (cmds (x :: cs)) = .i .i64 x.kd :: .fl x.b x.z (ints x.es) :: .i .i64 x.c :: .i .i64 x.s :: .i .i64 x.k :: flatL (cmds cs) := rfl
theorem frz_cmds {n : Nat} {q : Nat → Prop} : ∀ {cs : List Cmd} {cells : List PV} {h : H}, HCs h.tab q cells cs → ∃ h', mapH (frzM (n + 2)) cells h = some (flatL (cmds cs), h') ∧ h'.next = h.next ∧ (∀ b, ¬ q b → h'.tab.get b = h.tab.get b) ∧ (∀ b xs own, h.tab.get b = some (.cells xs own) → ∃ own', h'.tab.get b = some (.cells xs own'))
  | [], cells, h, e => by
    rw [show cells = [] from e]
    exact ⟨h, rfl, rfl, fun _ _ => rfl, fun b xs own e => ⟨own, e⟩⟩
  | x :: cs, cells, h, ⟨e, rest, h1, h2, h3⟩ => by
    have key : ∃ h1, frzM (n + 2) e h = some (.fl x.b x.z (ints x.es), h1) ∧ h1.next = h.next ∧ (∀ b, ¬ q b → h1.tab.get b = h.tab.get b) ∧ (∀ b xs own, h.tab.get b = some (.cells xs own) → ∃ own', h1.tab.get b = some (.cells xs own')) := by
      rcases h2 with ⟨rfl, g1, g2, g3⟩ | ⟨a, own, rfl, g1, g2, g3, g4⟩
      · exact ⟨h, by rw [g1, g2, g3]; rfl, rfl, fun _ _ => rfl, fun b xs own e => ⟨own, e⟩⟩
      · obtain ⟨h1, k1, k2, k3, own', k4⟩ := frzM_sl1' (n := n) (h := h) g2
        refine ⟨h1, by rw [g3, g4]; exact k1, k2, fun b hb => k3 b (fun e => hb (e ▸ g1)), fun b xs ow e => ?_⟩
        by_cases hba : b = a
        · subst hba
          rw [g2] at e
          simp only [Option.some.injEq, PO.cells.injEq] at e
          exact ⟨own', by rw [k4, e.1]⟩
        · exact ⟨ow, by rw [k3 b hba]; exact e⟩
    obtain ⟨h1', k1, k2, k3, k4⟩ := key
    have h3' : HCs h1'.tab (fun a => q a) rest cs ∨ True := .inr trivial
    have hq : ∀ {cs : List Cmd} {rest : List PV}, HCs h.tab q rest cs → HCs h1'.tab q rest cs := by
      intro cs
      induction cs with
      | nil => intro rest hh; exact hh
      | cons y cs ih =>
        rintro rest ⟨e, r2, q1, q2, q3⟩
        refine ⟨e, r2, q1, ?_, ih q3⟩
        rcases q2 with q2 | ⟨a, own, p1, p2, p3, p4⟩
        · exact .inl q2
        · obtain ⟨own', p5⟩ := k4 _ _ _ p3
          exact .inr ⟨a, own', p1, p2, p5, p4⟩
    obtain ⟨h2', l1, l2, l3, l4⟩ := frz_cmds (n := n) (hq h3)
    have ei : ∀ (y : Int) (h : H), frzM (n + 2) (.i .i64 y) h = some (.i .i64 y, h) := fun y h => frzM_pl1 (by omega) rfl
    refine ⟨h2', ?_, l2.trans k2, fun b hb => (l3 b hb).trans (k3 b hb), fun b xs own e => ?_⟩
    · rw [h1, flat_cmds_cons]
      exact mapH_cons (ei _ _) (mapH_cons k1 (mapH_cons (ei _ _) (mapH_cons (ei _ _) (mapH_cons (ei _ _) l1))))
    · obtain ⟨o1, e1⟩ := k4 _ _ _ e
      exact l4 _ _ _ e1
theorem rows_cmds : ∀ cs : List Cmd, rowsL 5 cs.length (flatL (cmds cs)) = cmds cs
  | [] => rfl
  | x :: cs => by
    rw [flat_cmds_cons]
    simp only [List.length_cons, rowsL, List.take_succ_cons, List.take_zero, List.drop_succ_cons, List.drop_zero, rows_cmds cs]
    rfl
theorem frz_out {n id : Nat} {own : Bool} {q : Nat → Prop} {cs : List Cmd} {cells : List PV} {h : H} (hg : h.tab.get id = some (.cells cells own)) (hc : HCs h.tab q cells cs) (hq : ¬ q id) :
    ∃ h', frzM (n + 3) (.sl id 0 cs.length 5 false) h = some (.fl false 5 (cmds cs), h') ∧ (∀ b, ¬ q b → b ≠ id → h'.tab.get b = h.tab.get b) := by
  cases cs with
  | nil => exact ⟨h, rfl, fun _ _ _ => rfl⟩
  | cons x cs =>
    obtain ⟨h1, k1, k2, k3, k4⟩ := frz_cmds (n := n) hc
    have hl := hc.len
    refine ⟨⟨h1.next, h1.tab.set (.cells cells false) id⟩, ?_, fun b hb hi => by simp only [T.get_set, if_neg hi]; exact k3 b hb⟩
    unfold frzM
    have hz : Nat.beq (x :: cs).length 0 = false := rfl
    have htk : takeX ((x :: cs).length * 5) (List.drop 0 cells) = some cells := by rw [← hl, List.drop_zero]; exact takeX_all _
    have hg1 : h1.tab.get id = some (.cells cells own) := by rw [k3 id hq]; exact hg
    simp only [hz, cond_false, bnd, rd, H.get, hg, htk, ofO, ret, k1, Go.Pe.demote, hg1, wr, H.put]
    have hr : Go.Pe.rows 5 (x :: cs).length (flatL (cmds (x :: cs))) = cmds (x :: cs) := by
      unfold Go.Pe.rows
      rw [show Nat.beq 5 1 = false from rfl]
      exact rows_cmds (x :: cs)
    rw [hr]
/-- commands as they must be -/
def CmdOk (x : Cmd) : Prop := x.ok ∧ x.es.length ≤ 3
theorem z23 : zeroOf Try.prog 23 = some [.fl true 0 []] := by kernel_rfl
attribute [go_sem] z23 Try.underlying56
section
variable {bb : Bool} {zz : Nat} {l : List Int}
def OutOk (t : T PO) (N : Nat) (out : PV) (cs : List Cmd) : Prop := (out = .fl true 0 [] ∧ cs = []) ∨ (∃ id cells, out = .sl id 0 cs.length 5 false ∧ 1030 ≤ id ∧ id < N ∧ t.get id = some (.cells cells true) ∧ HCs t (fun a => 1030 ≤ a ∧ a < N ∧ a ≠ id) cells cs)
theorem Fr.del {n b : Nat} {t : T PO} (f : Fr ⟨n, t⟩) : Fr ⟨n, t.del b⟩ := fun c hc => by
  simp only at hc
  rw [T.get_del]
  split
  · rfl
  · exact f c hc
def Grown (t : T PO) (N j : Nat) (out : PV) : Prop := ∃ cs : List Cmd, cs.length = j ∧ (∀ x ∈ cs, CmdOk x) ∧ OutOk t N out cs
theorem grow0 {t : T PO} {N id : Nat} {kd c s k : Int} (h : t.get id = some (.cells [.i .i64 kd, .fl true 0 [], .i .i64 c, .i .i64 s, .i .i64 k] true)) (h1 : 1030 ≤ id) (h2 : id < N) : Grown t N 1 (.sl id 0 1 5 false) := by
  refine ⟨[⟨kd, true, 0, [], c, s, k⟩], rfl, fun x hx => ?_, .inr ⟨id, _, rfl, h1, h2, h, _, _, rfl, .inl ⟨rfl, rfl, rfl, rfl⟩, rfl⟩⟩
  rw [List.mem_singleton] at hx
  subst hx
  exact ⟨⟨rfl, fun _ => rfl, by simp⟩, by simp⟩
theorem grow1 {t : T PO} {N id a : Nat} {kd c s k : Int} (es : List Int) {own : Bool} {m : Nat} (h : t.get id = some (.cells [.i .i64 kd, .sl a 0 m 1 true, .i .i64 c, .i .i64 s, .i .i64 k] true)) (ha : t.get a = some (.cells (ints es) own)) (hm : es.length = m) (hm3 : Nat.ble es.length 3 = true) (h1 : 1030 ≤ id) (h2 : id < N) (h3 : 1030 ≤ a) (h4 : a < N) (h5 : a ≠ id) : Grown t N 1 (.sl id 0 1 5 false) := by
  subst hm
  refine ⟨[⟨kd, false, 1, es, c, s, k⟩], rfl, fun x hx => ?_, .inr ⟨id, _, rfl, h1, h2, h, _, _, rfl, .inr ⟨a, own, rfl, ⟨h3, h4, h5⟩, ha, rfl, rfl⟩, rfl⟩⟩
  rw [List.mem_singleton] at hx
  subst hx
  have := Nat.le_of_ble_eq_true hm3
  exact ⟨⟨rfl, fun h => (by cases h), show es.length < 1000000 by omega⟩, this⟩
theorem grow2 {t t' : T PO} {N N' id id' : Nat} {kd c s k : Int} {cells : List PV} {cs : List Cmd} (hok : ∀ x ∈ cs, CmdOk x) (hc : HCs t (fun a => 1030 ≤ a ∧ a < N ∧ a ≠ id) cells cs)
    (hm : ∀ a, 1030 ≤ a → a < N → a ≠ id → (a < N' ∧ a ≠ id') ∧ t'.get a = t.get a) {m j : Nat} (hl : cs.length + 1 = m) (hj : m = j)
    (h : t'.get id' = some (.cells (cells ++ [.i .i64 kd, .fl true 0 [], .i .i64 c, .i .i64 s, .i .i64 k]) true)) (h1 : 1030 ≤ id') (h2 : id' < N') : Grown t' N' j (.sl id' 0 m 5 false) := by
  subst hj
  refine ⟨cs ++ [⟨kd, true, 0, [], c, s, k⟩], by simp [hl], fun x hx => ?_, .inr ⟨id', _, by simp [hl], h1, h2, h, HCs.append (x := ⟨kd, true, 0, [], c, s, k⟩) (.inl ⟨rfl, rfl, rfl, rfl⟩) (HCs.mono (fun a ⟨g1, g2, g3⟩ => ?_) hc)⟩⟩
  · rcases List.mem_append.1 hx with hx | hx
    · exact hok x hx
    · rw [List.mem_singleton] at hx
      subst hx
      exact ⟨⟨rfl, fun _ => rfl, by simp⟩, by simp⟩
  · obtain ⟨⟨q1, q2⟩, q3⟩ := hm a g1 g2 g3
    exact ⟨⟨g1, q1, q2⟩, q3⟩
theorem grow3 {t t' : T PO} {N N' id id' : Nat} {kd c s k : Int} {cells : List PV} {cs : List Cmd} (hok : ∀ x ∈ cs, CmdOk x) (hc : HCs t (fun a => 1030 ≤ a ∧ a < N ∧ a ≠ id) cells cs)
    (hm : ∀ a, 1030 ≤ a → a < N → a ≠ id → (a < N' ∧ a ≠ id') ∧ t'.get a = t.get a) {m j : Nat} (hl : cs.length + 1 = m) (hj : m = j) (es : List Int) {own : Bool} {a q : Nat}
    (h : t'.get id' = some (.cells (cells ++ [.i .i64 kd, .sl a 0 q 1 true, .i .i64 c, .i .i64 s, .i .i64 k]) true)) (ha : t'.get a = some (.cells (ints es) own)) (hq : es.length = q) (hq3 : Nat.ble es.length 3 = true) (h1 : 1030 ≤ id') (h2 : id' < N') (h3 : 1030 ≤ a) (h4 : a < N') (h5 : a ≠ id') : Grown t' N' j (.sl id' 0 m 5 false) := by
  subst hq
  subst hj
  refine ⟨cs ++ [⟨kd, false, 1, es, c, s, k⟩], by simp [hl], fun x hx => ?_, .inr ⟨id', _, by simp [hl], h1, h2, h, HCs.append (x := ⟨kd, false, 1, es, c, s, k⟩) (.inr ⟨a, own, rfl, ⟨h3, h4, h5⟩, ha, rfl, rfl⟩) (HCs.mono (fun a ⟨g1, g2, g3⟩ => ?_) hc)⟩⟩
  · rcases List.mem_append.1 hx with hx | hx
    · exact hok x hx
    · rw [List.mem_singleton] at hx
      subst hx
      have := Nat.le_of_ble_eq_true hq3
      exact ⟨⟨rfl, fun h => (by cases h), show es.length < 1000000 by omega⟩, this⟩
  · obtain ⟨⟨q1, q2⟩, q3⟩ := hm a g1 g2 g3
    exact ⟨⟨g1, q1, q2⟩, q3⟩
theorem round {t : T PO} {N n j a' : Nat} {out : PV} (hjn : j < n) (hg : Grown t N (j + 1) out) (ha : a' ≤ 10 * (j + 1)) (hf : Fr ⟨N, t⟩) (hN : 1030 ≤ N) :
    ∃ j_1, j_1 < n - j ∧ ∃ (j_2 at_ : Nat) (o : PV) (cs : List Cmd), j_1 = n - j_2 ∧ j_2 ≤ n ∧ at_ ≤ 10 * j_2 ∧ cs.length = j_2 ∧ (∀ x ∈ cs, CmdOk x) ∧ OutOk t N o cs ∧ some out = some o ∧ some (PV.i .i64 ((j + 1 : Nat) : Int)) = some (.i .i64 (j_2 : Int)) ∧
      some (PO.cells [.fl bb zz (ints l), .i .i64 (a' : Int)] true) = some (.cells [.fl bb zz (ints l), .i .i64 (at_ : Int)] true) ∧ Fr ⟨N, t⟩ ∧ 1030 ≤ N := by
  obtain ⟨cs, h1, h2, h3⟩ := hg
  exact ⟨n - (j + 1), by omega, j + 1, a', out, cs, rfl, by omega, ha, h1, h2, h3, rfl, rfl, rfl, hf, hN⟩
theorem ints_lit {xs : List Int} : ints xs = xs.map (PV.i .i64) := rfl
theorem get_del_ne {t : T PO} {j k : Nat} (h : j ≠ k) : (t.del k).get j = t.get j := by rw [T.get_del, if_neg h]
theorem pk5 {x : Int} (h : 0 ≤ x ∧ x < 7) : (pk [.i .i64 0, .i .i64 0, .i .i64 1, .i .i64 1, .i .i64 2, .i .i64 3, .i .i64 4] x = .i .i64 0 ∨ pk [.i .i64 0, .i .i64 0, .i .i64 1, .i .i64 1, .i .i64 2, .i .i64 3, .i .i64 4] x = .i .i64 1 ∨ pk [.i .i64 0, .i .i64 0, .i .i64 1, .i .i64 1, .i .i64 2, .i .i64 3, .i .i64 4] x = .i .i64 2) ∨
    (pk [.i .i64 0, .i .i64 0, .i .i64 1, .i .i64 1, .i .i64 2, .i .i64 3, .i .i64 4] x = .i .i64 3 ∨ pk [.i .i64 0, .i .i64 0, .i .i64 1, .i .i64 1, .i .i64 2, .i .i64 3, .i .i64 4] x = .i .i64 4) := by
  have : x = 0 ∨ x = 1 ∨ x = 2 ∨ x = 3 ∨ x = 4 ∨ x = 5 ∨ x = 6 := by omega
  rcases this with rfl | rfl | rfl | rfl | rfl | rfl | rfl
  · exact .inl (.inl rfl)
  · exact .inl (.inl rfl)
  · exact .inl (.inr (.inl rfl))
  · exact .inl (.inr (.inl rfl))
  · exact .inl (.inr (.inr rfl))
  · exact .inr (.inl rfl)
  · exact .inr (.inr rfl)
end
end Go.Proofs.Ytbpcpcldmmfaeaa
