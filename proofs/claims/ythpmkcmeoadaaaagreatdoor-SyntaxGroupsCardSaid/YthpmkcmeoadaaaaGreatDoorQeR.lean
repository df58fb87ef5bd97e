/- How a value and a heap of the evaluation lie in a world. -/
import Derived.Test.YthpmkcmeoadaaaaGreatDoorQeE
import Derived.Laws.Entries
import Derived.Laws.Cells
import Derived.Laws.IdiomCopy
import Derived.Laws.Append
namespace Go.Pe
open HM
set_option linter.unusedVariables false

/-- where a block lies: the world's block, the first cell, one behind the last cell that may be used -/
abbrev Fz := Nat → Option (Array Value)
/-- where the blocks lie; which of the world's blocks stay what they are, and their cells; the program's variables that are known -/
structure Emb (G : T PO) where
  at_ : Nat → Option (Nat × Nat × Nat)
  fz : Fz
variable {G : T PO}
instance : CoeFun (Emb G) fun _ => Nat → Option (Nat × Nat × Nat) := ⟨Emb.at_⟩
mutual
/-- a value that refers to nothing but what stays -/
def FR (fz : Fz) : PV → Value → Prop
  | .b x, v => v = .bool x
  | .i k n, v => v = .int k n
  | .s l, v => ∃ s, v = .string s ∧ bytesOf s = l
  | .nilp, v => v = .pointer none
  | .p _ _, _ => False
  | .sl _ _ _ _ _, _ => False
  | .agg l, v => ∃ vs : List Value, v = .agg vs.toArray ∧ FRs fz l vs
  | .tup l, v => ∃ vs : List Value, v = .tuple vs.toArray ∧ FRs fz l vs
  | .nilf, v => v = .nilFunc
  | .fn f l, v => ∃ vs : List Value, v = .func (.func f) #[] vs.toArray ∧ FRs fz l vs
  | .nili, v => v = .nilIface
  | .ifc t x, v => ∃ y, v = .iface t y ∧ FR fz x y
  | .nilm, v => v = .map none
  | .m _, _ => False
  | .fl b z es, v => (b = true ∧ es = [] ∧ v = .slice none 0 0) ∨ (b = false ∧ ∃ a cap, v = .slice (some a) es.length cap ∧ es.length ≤ cap ∧ (es ≠ [] → ∃ c d vs, fz c = some vs ∧ a = ⟨c, d, none⟩ ∧ FRl fz z vs es d))
  | .fp z es i o, v => ∃ c d vs, fz c = some vs ∧ v = .pointer (some ⟨c, d + i * z + o, none⟩) ∧ i < es.length ∧ FRl fz z vs es d
def FRs (fz : Fz) : List PV → List Value → Prop
  | [], vs => vs = []
  | x :: xs, vs => ∃ y ys, vs = y :: ys ∧ FR fz x y ∧ FRs fz xs ys
/-- elements of z cells each, from the cell d on -/
def FRl (fz : Fz) (z : Nat) (vs : Array Value) : List PV → Nat → Prop
  | [], _ => True
  | e :: es, d => (∃ u, FR fz e u ∧ u.cells.size = z ∧ e.cells.all PV.one = true ∧ ∀ (j : Nat) v, u.cells[j]? = some v → vs[d + j]? = some v) ∧ FRl fz z vs es (d + z)
end
mutual
def VR (ρ : Emb G) : PV → Value → Prop
  | .b x, v => v = .bool x
  | .i k n, v => v = .int k n
  | .s l, v => ∃ s, v = .string s ∧ bytesOf s = l
  | .nilp, v => v = .pointer none
  | .p b o, v => ∃ c d m, ρ b = some (c, d, m) ∧ v = .pointer (some ⟨c, d + o, none⟩)
  | .sl b o n z tg, v => ∃ a cap, v = .slice (some a) n cap ∧ n ≤ cap ∧ (tg = true → cap = n) ∧ (0 < cap → ∃ c d m, ρ b = some (c, d, m) ∧ a = ⟨c, d + o, none⟩ ∧ d + o + cap * z ≤ m)
  | .agg l, v => ∃ vs : List Value, v = .agg vs.toArray ∧ VRs ρ l vs
  | .tup l, v => ∃ vs : List Value, v = .tuple vs.toArray ∧ VRs ρ l vs
  | .nilf, v => v = .nilFunc
  | .fn f l, v => ∃ vs : List Value, v = .func (.func f) #[] vs.toArray ∧ VRs ρ l vs
  | .nili, v => v = .nilIface
  | .ifc t x, v => ∃ y, v = .iface t y ∧ VR ρ x y
  | .nilm, v => v = .map none
  | .m b, v => ∃ c d m, ρ b = some (c, d, m) ∧ v = .map (some c)
  | .fl b z es, v => FR ρ.fz (.fl b z es) v
  | .fp z es i o, v => FR ρ.fz (.fp z es i o) v
def VRs (ρ : Emb G) : List PV → List Value → Prop
  | [], vs => vs = []
  | x :: xs, vs => ∃ y ys, vs = y :: ys ∧ VR ρ x y ∧ VRs ρ xs ys
end
def FLe (fz fz' : Fz) : Prop := ∀ c v, fz c = some v → fz' c = some v
structure ELe (ρ ρ' : Emb G) : Prop where
  at_ : ∀ b x, ρ b = some x → ρ' b = some x
  fz : FLe ρ.fz ρ'.fz
instance {ρ ρ' : Emb G} : CoeFun (ELe ρ ρ') (fun _ => ∀ b x, ρ b = some x → ρ' b = some x) := ⟨ELe.at_⟩
theorem ELe.refl (ρ : Emb G) : ELe ρ ρ := ⟨fun _ _ h => h, fun _ _ h => h⟩
theorem ELe.trans {a b c : Emb G} (h : ELe a b) (k : ELe b c) : ELe a c := ⟨fun x y e => k x y (h x y e), fun x y e => k.fz x y (h.fz x y e)⟩
section
variable {fz fz' : Fz}
mutual
theorem FR.mono (hle : FLe fz fz') : ∀ {x : PV} {v : Value}, FR fz x v → FR fz' x v
  | .b _, _, h => h
  | .i _ _, _, h => h
  | .s _, _, h => h
  | .nilp, _, h => h
  | .p _ _, _, h => h
  | .sl _ _ _ _ _, _, h => h
  | .agg _, _, ⟨vs, e, h⟩ => ⟨vs, e, FRs.mono hle h⟩
  | .tup _, _, ⟨vs, e, h⟩ => ⟨vs, e, FRs.mono hle h⟩
  | .nilf, _, h => h
  | .fn _ _, _, ⟨vs, e, h⟩ => ⟨vs, e, FRs.mono hle h⟩
  | .nili, _, h => h
  | .ifc _ _, _, ⟨y, e, h⟩ => ⟨y, e, FR.mono hle h⟩
  | .nilm, _, h => h
  | .m _, _, h => h
  | .fl b z es, _, h => h.imp (fun h => h) fun ⟨h0, a, cap, e, h1, h2⟩ => ⟨h0, a, cap, e, h1, fun hn => let ⟨c, d, vs, h3, h4, h5⟩ := h2 hn; ⟨c, d, vs, hle _ _ h3, h4, FRl.mono hle h5⟩⟩
  | .fp z es i o, _, ⟨c, d, vs, h3, h4, h5, h6⟩ => ⟨c, d, vs, hle _ _ h3, h4, h5, FRl.mono hle h6⟩
theorem FRs.mono (hle : FLe fz fz') : ∀ {l : List PV} {vs : List Value}, FRs fz l vs → FRs fz' l vs
  | [], _, h => h
  | _ :: _, _, ⟨y, ys, e, h, hs⟩ => ⟨y, ys, e, FR.mono hle h, FRs.mono hle hs⟩
theorem FRl.mono (hle : FLe fz fz') {z : Nat} {vs : Array Value} : ∀ {es : List PV} {d : Nat}, FRl fz z vs es d → FRl fz' z vs es d
  | [], _, _ => trivial
  | e :: es, _, ⟨⟨u, h1, h2⟩, hs⟩ => ⟨⟨u, FR.mono hle h1, h2⟩, FRl.mono hle hs⟩
end
theorem FRl.get {z : Nat} {vs : Array Value} : ∀ {es : List PV} {d i : Nat} {e : PV}, FRl fz z vs es d → es[i]? = some e → ∃ u, FR fz e u ∧ u.cells.size = z ∧ e.cells.all PV.one = true ∧ ∀ (j : Nat) v, u.cells[j]? = some v → vs[d + i * z + j]? = some v
  | [], _, _, _, _, h => by simp at h
  | x :: es, d, 0, e, ⟨⟨u, h1, h2, h3, h4⟩, _⟩, hx => by
    simp only [List.getElem?_cons_zero, Option.some.injEq] at hx
    subst hx
    exact ⟨u, h1, h2, h3, fun j v hj => by simpa using h4 j v hj⟩
  | x :: es, d, i + 1, e, ⟨_, hs⟩, hx => by
    simp only [List.getElem?_cons_succ] at hx
    obtain ⟨u, h1, h2, h3, h4⟩ := FRl.get hs hx
    exact ⟨u, h1, h2, h3, fun j v hj => by rw [← h4 j v hj]; congr 1; rw [Nat.add_mul]; omega⟩
theorem FRl.drop {z : Nat} {vs : Array Value} : ∀ {n : Nat} {es : List PV} {d : Nat}, FRl fz z vs es d → FRl fz z vs (es.drop n) (d + n * z)
  | 0, es, d, h => by simpa using h
  | n + 1, [], d, h => trivial
  | n + 1, x :: es, d, ⟨_, hs⟩ => by
    have := FRl.drop (n := n) hs
    rw [show d + (n + 1) * z = d + z + n * z by rw [Nat.add_mul]; omega]
    exact this
theorem FRl.take {z : Nat} {vs : Array Value} : ∀ {n : Nat} {es : List PV} {d : Nat}, FRl fz z vs es d → FRl fz z vs (es.take n) d
  | 0, es, d, h => by simp [FRl]
  | n + 1, [], d, h => trivial
  | n + 1, x :: es, d, ⟨h, hs⟩ => ⟨h, FRl.take (n := n) hs⟩
theorem FRs.length : ∀ {l : List PV} {vs : List Value}, FRs fz l vs → vs.length = l.length
  | [], _, h => by rw [show _ = [] from h]; rfl
  | _ :: _, _, ⟨_, _, e, _, hs⟩ => by rw [e]; simp [FRs.length hs]
theorem FRs.append : ∀ {l : List PV} {vs : List Value} {k : List PV} {us : List Value}, FRs fz l vs → FRs fz k us → FRs fz (l ++ k) (vs ++ us)
  | [], _, _, _, h, hk => by rw [show _ = [] from h]; exact hk
  | _ :: _, _, _, _, ⟨y, ys, e, h, hs⟩, hk => by rw [e]; exact ⟨y, _, rfl, h, FRs.append hs hk⟩
theorem FR.cells {x : PV} {v : Value} (h : FR fz x v) : FRs fz x.cells v.cells.toList := by
  cases x
  case agg l => obtain ⟨vs, rfl, hs⟩ := h; simpa [PV.cells, Value.cells] using hs
  case fl =>
    rcases h with ⟨h0, h1, rfl⟩ | ⟨h0, a, cap, rfl, h1⟩
    · exact ⟨_, _, rfl, .inl ⟨h0, h1, rfl⟩, rfl⟩
    · exact ⟨_, _, rfl, .inr ⟨h0, a, cap, rfl, h1⟩, rfl⟩
  all_goals
    simp only [PV.cells]
    have hv : v.cells = #[v] := by
      first
        | (simp only [FR] at h; done)
        | (simp only [FR] at h; subst h; rfl)
        | (obtain ⟨s, rfl, _⟩ := h; rfl)
        | (obtain ⟨_, _, rfl, _⟩ := h; rfl)
        | (obtain ⟨s, rfl, _⟩ := h; rfl)
        | (obtain ⟨_, _, rfl, _⟩ := h; rfl)
        | (obtain ⟨_, _, _, _, rfl, _⟩ := h; rfl)
    rw [hv]
    exact ⟨_, _, rfl, h, rfl⟩
theorem FRl.flat {z : Nat} {vs : Array Value} : ∀ {es : List PV} {d : Nat}, FRl fz z vs es d → ∃ us, FRs fz (flatL es) us ∧ us.length = es.length * z ∧ (flatL es).all PV.one = true ∧ ∀ (j : Nat) v, us[j]? = some v → vs[d + j]? = some v
  | [], d, _ => ⟨[], rfl, by simp, rfl, fun j v h => by simp at h⟩
  | e :: es, d, ⟨⟨u, h1, h2, h3, h4⟩, hs⟩ => by
    obtain ⟨us, g1, g2, g3, g4⟩ := FRl.flat hs
    refine ⟨u.cells.toList ++ us, FRs.append h1.cells g1, by simp [g2, h2, Nat.add_mul]; omega, by simp only [flatL, List.all_append, h3, g3, Bool.and_self], fun j v hj => ?_⟩
    rcases Nat.lt_or_ge j u.cells.toList.length with hlt | hge
    · rw [List.getElem?_append_left hlt] at hj
      exact h4 j v (by simpa using hj)
    · rw [List.getElem?_append_right hge] at hj
      simp only [Array.length_toList, h2] at hge hj
      have := g4 _ v hj
      rwa [show d + z + (j - z) = d + j by omega] at this
end
mutual
theorem FR.vr {ρ : Emb G} : ∀ {x : PV} {v : Value}, FR ρ.fz x v → VR ρ x v
  | .b _, _, h => h
  | .i _ _, _, h => h
  | .s _, _, h => h
  | .nilp, _, h => h
  | .p _ _, _, h => h.elim
  | .sl _ _ _ _ _, _, h => h.elim
  | .agg _, _, ⟨vs, e, h⟩ => ⟨vs, e, FRs.vr h⟩
  | .tup _, _, ⟨vs, e, h⟩ => ⟨vs, e, FRs.vr h⟩
  | .nilf, _, h => h
  | .fn _ _, _, ⟨vs, e, h⟩ => ⟨vs, e, FRs.vr h⟩
  | .nili, _, h => h
  | .ifc _ _, _, ⟨y, e, h⟩ => ⟨y, e, FR.vr h⟩
  | .nilm, _, h => h
  | .m _, _, h => h.elim
  | .fl b z es, _, h => h
  | .fp z es i o, _, h => h
theorem FRs.vr {ρ : Emb G} : ∀ {l : List PV} {vs : List Value}, FRs ρ.fz l vs → VRs ρ l vs
  | [], _, h => h
  | _ :: _, _, ⟨y, ys, e, h, hs⟩ => ⟨y, ys, e, FR.vr h, FRs.vr hs⟩
end

section
variable {ρ ρ' : Emb G}
mutual
theorem VR.mono (hle : ELe ρ ρ') : ∀ {x : PV} {v : Value}, VR ρ x v → VR ρ' x v
  | .b _, _, h => h
  | .i _ _, _, h => h
  | .s _, _, h => h
  | .nilp, _, h => h
  | .p _ _, _, ⟨c, d, m, h, e⟩ => ⟨c, d, m, hle _ _ h, e⟩
  | .sl _ _ _ _ _, _, ⟨a, cap, e, h1, h2, h3⟩ => ⟨a, cap, e, h1, h2, fun hc => let ⟨c, d, m, h, e⟩ := h3 hc; ⟨c, d, m, hle _ _ h, e⟩⟩
  | .agg _, _, ⟨vs, e, h⟩ => ⟨vs, e, VRs.mono hle h⟩
  | .tup _, _, ⟨vs, e, h⟩ => ⟨vs, e, VRs.mono hle h⟩
  | .nilf, _, h => h
  | .fn _ _, _, ⟨vs, e, h⟩ => ⟨vs, e, VRs.mono hle h⟩
  | .nili, _, h => h
  | .ifc _ _, _, ⟨y, e, h⟩ => ⟨y, e, VR.mono hle h⟩
  | .nilm, _, h => h
  | .m _, _, ⟨c, d, m, h, e⟩ => ⟨c, d, m, hle _ _ h, e⟩
  | .fl b z es, _, h => FR.mono hle.fz (x := .fl b z es) h
  | .fp z es i o, _, h => FR.mono hle.fz (x := .fp z es i o) h
theorem VRs.mono (hle : ELe ρ ρ') : ∀ {l : List PV} {vs : List Value}, VRs ρ l vs → VRs ρ' l vs
  | [], _, h => h
  | _ :: _, _, ⟨y, ys, e, h, hs⟩ => ⟨y, ys, e, VR.mono hle h, VRs.mono hle hs⟩
end
theorem VRs.nil : VRs ρ [] [] := rfl
theorem VRs.cons {x : PV} {v : Value} {l : List PV} {vs : List Value} (h : VR ρ x v) (hs : VRs ρ l vs) : VRs ρ (x :: l) (v :: vs) := ⟨v, vs, rfl, h, hs⟩
theorem VRs.length : ∀ {l : List PV} {vs : List Value}, VRs ρ l vs → vs.length = l.length
  | [], _, h => by rw [show _ = [] from h]; rfl
  | _ :: _, _, ⟨_, _, e, _, hs⟩ => by rw [e]; simp [VRs.length hs]
theorem VRs.get : ∀ {l : List PV} {vs : List Value} {i : Nat} {x : PV}, VRs ρ l vs → l[i]? = some x → ∃ v, vs[i]? = some v ∧ VR ρ x v
  | [], _, i, _, _, h => by simp at h
  | x :: l, _, 0, _, ⟨y, ys, e, h, _⟩, hx => by
    simp only [List.getElem?_cons_zero, Option.some.injEq] at hx
    subst hx; subst e
    exact ⟨y, rfl, h⟩
  | x :: l, _, i + 1, _, ⟨y, ys, e, _, hs⟩, hx => by
    simp only [List.getElem?_cons_succ] at hx
    subst e
    obtain ⟨v, h1, h2⟩ := VRs.get hs hx
    exact ⟨v, by simpa using h1, h2⟩
theorem VRs.append : ∀ {l : List PV} {vs : List Value} {k : List PV} {us : List Value}, VRs ρ l vs → VRs ρ k us → VRs ρ (l ++ k) (vs ++ us)
  | [], _, _, _, h, hk => by rw [show _ = [] from h]; exact hk
  | _ :: _, _, _, _, ⟨y, ys, e, h, hs⟩, hk => by rw [e]; exact VRs.cons h (VRs.append hs hk)
theorem VRs.of_get : ∀ {l : List PV} {vs : List Value}, vs.length = l.length → (∀ (i : Nat) x v, l[i]? = some x → vs[i]? = some v → VR ρ x v) → VRs ρ l vs
  | [], vs, hl, _ => by
    have : vs = [] := by simpa using hl
    exact this
  | x :: l, [], hl, _ => by simp at hl
  | x :: l, v :: vs, hl, h => VRs.cons (h 0 x v rfl rfl) (VRs.of_get (by simpa using hl) fun i x' v' hx hv => h (i + 1) x' v' (by simpa using hx) (by simpa using hv))
theorem VR.cells {x : PV} {v : Value} (h : VR ρ x v) : VRs ρ x.cells v.cells.toList := by
  cases x
  case agg l => obtain ⟨vs, rfl, hs⟩ := h; simpa [PV.cells, Value.cells] using hs
  case fl =>
    rcases h with ⟨h0, h1, rfl⟩ | ⟨h0, a, cap, rfl, h1⟩
    · exact VRs.cons (.inl ⟨h0, h1, rfl⟩) VRs.nil
    · exact VRs.cons (.inr ⟨h0, a, cap, rfl, h1⟩) VRs.nil
  all_goals
    simp only [PV.cells]
    have hv : v.cells = #[v] := by
      simp only [VR, FR] at h
      first
        | (subst h; rfl)
        | (obtain ⟨s, rfl, _⟩ := h; rfl)
        | (obtain ⟨_, _, rfl, _⟩ := h; rfl)
        | (obtain ⟨_, _, _, _, rfl⟩ := h; rfl)
        | (obtain ⟨_, _, _, _, rfl, _⟩ := h; rfl)
    rw [hv]
    exact VRs.cons h VRs.nil
theorem VR.oneCell {x : PV} {v : Value} (h : VR ρ x v) (h1 : x.one = true) : v.oneCell' = true := by
  cases x <;> simp only [PV.one, Bool.false_eq_true] at h1 <;> simp only [VR, FR] at h
  case fl => rcases h with ⟨h0, h1, rfl⟩ | ⟨h0, a, cap, rfl, h1⟩ <;> rfl
  all_goals first
    | (subst h; rfl)
    | (obtain ⟨s, rfl, _⟩ := h; rfl)
    | (obtain ⟨_, _, rfl, _⟩ := h; rfl)
    | (obtain ⟨_, _, _, _, rfl⟩ := h; rfl)
    | (obtain ⟨_, _, _, _, rfl, _⟩ := h; rfl)

theorem vr_nil : VR ρ (.fl true 0 []) (.slice none 0 0) := .inl ⟨rfl, rfl, rfl⟩
theorem vr_ofV1 {v : Value} {x : PV} (h : ofV1 v = some x) : VR ρ x v ∧ x.one = true := by
  unfold ofV1 at h
  split at h
  case h_9 f a b =>
    cases ha : a.isEmpty && b.isEmpty with
    | false => rw [ha] at h; simp at h
    | true =>
      rw [ha] at h
      simp only [cond_true, Option.some.injEq] at h
      subst h
      simp only [Bool.and_eq_true, Array.isEmpty_iff] at ha
      obtain ⟨rfl, rfl⟩ := ha
      exact ⟨⟨[], rfl, VRs.nil⟩, rfl⟩
  all_goals first
    | (simp only [Option.some.injEq] at h; subst h; first | exact ⟨rfl, rfl⟩ | exact ⟨⟨_, rfl, rfl⟩, rfl⟩ | exact ⟨vr_nil, rfl⟩)
    | simp at h
theorem vrs_ofV1 : ∀ {l : List Value} {xs : List PV}, mapO ofV1 l = some xs → VRs ρ xs l ∧ xs.all PV.one = true
  | [], xs, h => by simp only [mapO, Option.some.injEq] at h; subst h; exact ⟨rfl, rfl⟩
  | v :: l, xs, h => by
    simp only [mapO] at h
    cases h1 : ofV1 v with
    | none => rw [h1] at h; simp at h
    | some x =>
      rw [h1] at h
      cases h2 : mapO ofV1 l with
      | none => rw [h2] at h; simp at h
      | some ys =>
        rw [h2] at h
        simp only [Option.some.injEq] at h
        subst h
        have ⟨a, b⟩ := vr_ofV1 (ρ := ρ) h1
        have ⟨c, d⟩ := vrs_ofV1 h2
        exact ⟨VRs.cons a c, by simp only [List.all_cons, b, d, Bool.and_self]⟩
theorem vr_ofV {v : Value} {x : PV} (h : ofV v = some x) : VR ρ x v := by
  unfold ofV at h
  split at h
  · rename_i cs
    cases h1 : mapO ofV1 cs.toList with
    | none => rw [h1] at h; simp at h
    | some l =>
      rw [h1] at h
      simp only [Option.some.injEq] at h
      subst h
      exact ⟨cs.toList, by simp, (vrs_ofV1 h1).1⟩
  · rename_i cs
    split at h
    · rename_i hc
      simp only [Option.some.injEq] at h
      subst h
      refine ⟨[], ?_, VRs.nil⟩
      have : cs = #[] := by simpa using hc
      rw [this]
    · simp at h
  · exact (vr_ofV1 h).1
end

def PO.own : PO → Bool
  | .cells _ o => o
  | .map _ => true
def MR (ρ : Emb G) : List (PV × PV) → List MapEntry → Prop
  | [], l => l = []
  | (k, v) :: es, l => ∃ e l', l = e :: l' ∧ VR ρ k e.key ∧ VR ρ v e.val ∧ MR ρ es l'
def OR (ρ : Emb G) (w : World) : PO → Nat → Nat → Nat → Prop
  | .cells cs own, c, d, m => ∃ vs e fz, w.heap[c]? = some (.cells vs e fz) ∧ (∀ (i : Nat) x, cs[i]? = some x → x.one = true ∧ ∃ v, vs[d + i]? = some v ∧ VR ρ x v) ∧
      (own = true → d + cs.length ≤ m ∧ m ≤ vs.size ∧ ∀ j, d ≤ j → j < m → ¬ (fz.1 ≤ j ∧ j < fz.2))
  | .map es, c, _, _ => ∃ ents clock, w.heap[c]? = some (.map ents clock) ∧ MR ρ es ents.toList
def OwnR (ρ : Emb G) (h : H) (c : Nat) : Prop := ∃ b o d m, h.get b = some o ∧ o.own = true ∧ ρ b = some (c, d, m)
structure Rel (ρ : Emb G) (h : H) (w : World) : Prop where
  glob : ∀ g, g < 1024 → ∃ m, ρ g = some (g, 0, m)
  low : 1024 ≤ h.next
  dom : ∀ b, h.next ≤ b → ρ b = none
  obj : ∀ b o, h.get b = some o → ∃ c d m, ρ b = some (c, d, m) ∧ OR ρ w o c d m
  inj : ∀ b b' o o' c d m d' m', h.get b = some o → o.own = true → h.get b' = some o' → ρ b = some (c, d, m) → ρ b' = some (c, d', m') → b = b'
  fzok : ∀ c vs, ρ.fz c = some vs → (∃ e z, w.heap[c]? = some (.cells vs e z)) ∧ ¬ OwnR ρ h c
  glok : ∀ b o, G.get b = some o → b < 1024 ∧ ∃ cs vs, o = .cells cs false ∧ ρ.fz b = some vs ∧ ∀ (i : Nat) x, cs[i]? = some x → x.one = true ∧ ∃ v, vs[i]? = some v ∧ FR ρ.fz x v
  rofz : ∀ b cs c d m, h.get b = some (.cells cs false) → ρ b = some (c, d, m) → ∃ vs, ρ.fz c = some vs
/-- what has become of the world: 'may' says which blocks of the evaluation may have got a place -/
structure Stp (may : Nat → Prop) (ρ : Emb G) (h : H) (w : World) (ρ' : Emb G) (h' : H) (w' : World) : Prop where
  ext : ELe ρ ρ'
  new : ∀ b, b < h.next → ρ b = none → may b ∨ ρ' b = none
  frame : ∀ c, c < w.heap.size → ¬ OwnR ρ h c → w'.heap[c]? = w.heap[c]?
  size : w.heap.size ≤ w'.heap.size
  own : ∀ c, OwnR ρ' h' c → w.heap.size ≤ c ∨ OwnR ρ h c
  next : h.next ≤ h'.next
  os : w'.os = w.os
  tape : w'.tape = w.tape
  output : w'.output = w.output
  fzo : ∀ c vs, ρ'.fz c = some vs → ρ.fz c = some vs ∨ OwnR ρ h c ∨ w.heap.size ≤ c
theorem Stp.refl (may : Nat → Prop) (ρ : Emb G) (h : H) (w : World) : Stp may ρ h w ρ h w :=
  ⟨ELe.refl _, fun _ _ e => .inr e, fun _ _ _ => rfl, Nat.le_refl _, fun _ h => .inr h, Nat.le_refl _, rfl, rfl, rfl, fun _ _ h => .inl h⟩
theorem Stp.trans {may may' : Nat → Prop} {ρ ρ1 ρ2 : Emb G} {h h1 h2 : H} {w w1 w2 : World} (s : Stp may ρ h w ρ1 h1 w1) (t : Stp may' ρ1 h1 w1 ρ2 h2 w2) :
    Stp (fun b => may b ∨ may' b) ρ h w ρ2 h2 w2 where
  ext := s.ext.trans t.ext
  new := fun b hb e => by
    rcases s.new b hb e with h | h
    · exact .inl (.inl h)
    · rcases t.new b (Nat.lt_of_lt_of_le hb s.next) h with k | k
      · exact .inl (.inr k)
      · exact .inr k
  frame := fun c hc hn => by
    rw [t.frame c (Nat.lt_of_lt_of_le hc s.size) (fun ho => ?_), s.frame c hc hn]
    rcases s.own c ho with k | k
    · omega
    · exact hn k
  size := Nat.le_trans s.size t.size
  own := fun c hc => by
    rcases t.own c hc with k | k
    · exact .inl (Nat.le_trans s.size k)
    · exact s.own c k
  next := Nat.le_trans s.next t.next
  os := t.os.trans s.os
  tape := t.tape.trans s.tape
  output := t.output.trans s.output
  fzo := fun c vs hc => by
    rcases t.fzo c vs hc with k | k | k
    · exact s.fzo c vs k
    · rcases s.own c k with k | k
      · exact .inr (.inr k)
      · exact .inr (.inl k)
    · exact .inr (.inr (Nat.le_trans s.size k))
theorem Stp.weaken {may may' : Nat → Prop} {ρ ρ1 : Emb G} {h h1 : H} {w w1 : World} (s : Stp may ρ h w ρ1 h1 w1) (hm : ∀ b, b < h.next → may b → may' b) : Stp may' ρ h w ρ1 h1 w1 :=
  { s with new := fun b hb e => (s.new b hb e).imp (hm b hb) fun x => x }
end Go.Pe
