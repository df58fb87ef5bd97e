/- The finite maps' laws; what an evaluation makes of a heap stays what it is when a block that nobody has looked at is laid ahead. -/
import Derived.Test.YthpmkcmeoadaaaaGreatDoorQeB
namespace Go.Pe
open HM

section
variable {α : Type}
theorem key_cases (k : Nat) : k = 0 ∨ (∃ m, k = 2 * m + 1 ∧ Nat.beq k 0 = false ∧ Nat.beq (Nat.mod k 2) 1 = true ∧ Nat.div k 2 = m) ∨ (∃ m, k = 2 * m + 2 ∧ Nat.beq k 0 = false ∧ Nat.beq (Nat.mod k 2) 1 = false ∧ Nat.pred (Nat.div k 2) = m) := by
  rcases Nat.eq_zero_or_pos k with h | h
  · exact .inl h
  · have hz : Nat.beq k 0 = false := by
      cases k with
      | zero => omega
      | succ k => rfl
    have h1 : Nat.mod k 2 = k % 2 := rfl
    have h2 : Nat.div k 2 = k / 2 := rfl
    rcases Nat.mod_two_eq_zero_or_one k with h0 | h0
    · refine .inr (.inr ⟨k / 2 - 1, by omega, hz, ?_, ?_⟩)
      · rw [h1, h0]; rfl
      · rw [h2]; rfl
    · refine .inr (.inl ⟨k / 2, by omega, hz, ?_, h2⟩)
      rw [h1, h0]; rfl

theorem T.get_zero (l : T α) (v : Option α) (r : T α) : (T.n l v r).get 0 = v := rfl
theorem T.get_odd (l : T α) (v : Option α) (r : T α) (m : Nat) : (T.n l v r).get (2 * m + 1) = l.get m := by
  rcases key_cases (2 * m + 1) with h | ⟨m', h, h1, h2, h3⟩ | ⟨m', h, _⟩
  · omega
  · simp only [T.get, h1, h2, h3, cond_true, cond_false]; congr 1; omega
  · omega
theorem T.get_even (l : T α) (v : Option α) (r : T α) (m : Nat) : (T.n l v r).get (2 * m + 2) = r.get m := by
  rcases key_cases (2 * m + 2) with h | ⟨m', h, _⟩ | ⟨m', h, h1, h2, h3⟩
  · omega
  · omega
  · simp only [T.get, h1, h2, h3, cond_false]; congr 1; omega
theorem T.set_zero (v : α) (l : T α) (u : Option α) (r : T α) : T.set v (.n l u r) 0 = .n l (some v) r := rfl
theorem T.set_odd (v : α) (l : T α) (u : Option α) (r : T α) (m : Nat) : T.set v (.n l u r) (2 * m + 1) = .n (T.set v l m) u r := by
  rcases key_cases (2 * m + 1) with h | ⟨m', h, h1, h2, h3⟩ | ⟨m', h, _⟩
  · omega
  · simp only [T.set, h1, h2, h3, cond_true, cond_false]; congr 2; omega
  · omega
theorem T.set_even (v : α) (l : T α) (u : Option α) (r : T α) (m : Nat) : T.set v (.n l u r) (2 * m + 2) = .n l u (T.set v r m) := by
  rcases key_cases (2 * m + 2) with h | ⟨m', h, _⟩ | ⟨m', h, h1, h2, h3⟩
  · omega
  · omega
  · simp only [T.set, h1, h2, h3, cond_false]; congr 2; omega
theorem T.del_zero (l : T α) (u : Option α) (r : T α) : T.del (.n l u r) 0 = .n l none r := rfl
theorem T.del_odd (l : T α) (u : Option α) (r : T α) (m : Nat) : T.del (.n l u r) (2 * m + 1) = .n (T.del l m) u r := by
  rcases key_cases (2 * m + 1) with h | ⟨m', h, h1, h2, h3⟩ | ⟨m', h, _⟩
  · omega
  · simp only [T.del, h1, h2, h3, cond_true, cond_false]; congr 2; omega
  · omega
theorem T.del_even (l : T α) (u : Option α) (r : T α) (m : Nat) : T.del (.n l u r) (2 * m + 2) = .n l u (T.del r m) := by
  rcases key_cases (2 * m + 2) with h | ⟨m', h, _⟩ | ⟨m', h, h1, h2, h3⟩
  · omega
  · omega
  · simp only [T.del, h1, h2, h3, cond_false]; congr 2; omega

theorem T.single_zero (v : α) (f : Nat) : T.single v f 0 = .n .e (some v) .e := by cases f <;> rfl
theorem T.single_odd (v : α) (f m : Nat) : T.single v (f + 1) (2 * m + 1) = .n (T.single v f m) none .e := by
  rcases key_cases (2 * m + 1) with h | ⟨m', h, h1, h2, h3⟩ | ⟨m', h, _⟩
  · omega
  · obtain rfl : m = m' := by omega
    simp only [T.single, h1, h2, h3, cond_true, cond_false]
  · omega
theorem T.single_even (v : α) (f m : Nat) : T.single v (f + 1) (2 * m + 2) = .n .e none (T.single v f m) := by
  rcases key_cases (2 * m + 2) with h | ⟨m', h, _⟩ | ⟨m', h, h1, h2, h3⟩
  · omega
  · omega
  · obtain rfl : m = m' := by omega
    have : T.single v (f + 1) (2 * m + 2) = (bif Nat.beq (2 * m + 2) 0 then .n .e (some v) .e else bif Nat.beq (Nat.mod (2 * m + 2) 2) 1 then .n (T.single v f (Nat.div (2 * m + 2) 2)) none .e else .n .e none (T.single v f (Nat.pred (Nat.div (2 * m + 2) 2)))) := rfl
    rw [this, h1, h2, h3]; rfl
theorem T.single_fuel (v : α) : ∀ n f k, k < n → k ≤ f → T.single v f k = T.single v k k := by
  intro n
  induction n with
  | zero => intro f k h; omega
  | succ n ih =>
    intro f k hn h
    rcases key_cases k with rfl | ⟨m, rfl, _⟩ | ⟨m, rfl, _⟩
    · rw [T.single_zero, T.single_zero]
    · obtain ⟨f, rfl⟩ : ∃ g, f = g + 1 := ⟨f - 1, by omega⟩
      rw [T.single_odd, T.single_odd, ih f m (by omega) (by omega), ih (2 * m) m (by omega) (by omega)]
    · obtain ⟨f, rfl⟩ : ∃ g, f = g + 1 := ⟨f - 1, by omega⟩
      rw [T.single_even, ih f m (by omega) (by omega)]
      rw [show T.single v (2 * m + 2) (2 * m + 2) = .n .e none (T.single v (2 * m + 1) m) from T.single_even v (2 * m + 1) m, ih (2 * m + 1) m (by omega) (by omega)]
theorem T.set_e_zero (v : α) : T.set v .e 0 = .n .e (some v) .e := rfl
theorem T.set_e_odd (v : α) (m : Nat) : T.set v .e (2 * m + 1) = .n (T.set v .e m) none .e := by
  show T.single v (2 * m + 1) (2 * m + 1) = _
  rw [T.single_odd, T.single_fuel v (m + 1) (2 * m) m (by omega) (by omega)]; rfl
theorem T.set_e_even (v : α) (m : Nat) : T.set v .e (2 * m + 2) = .n .e none (T.set v .e m) := by
  rw [show T.set v .e (2 * m + 2) = .n .e none (T.single v (2 * m + 1) m) from T.single_even v (2 * m + 1) m, T.single_fuel v (m + 1) (2 * m + 1) m (by omega) (by omega)]; rfl

theorem key3 (k : Nat) : k = 0 ∨ (∃ m, k = 2 * m + 1) ∨ (∃ m, k = 2 * m + 2) := by
  rcases key_cases k with h | ⟨m, h, _⟩ | ⟨m, h, _⟩
  · exact .inl h
  · exact .inr (.inl ⟨m, h⟩)
  · exact .inr (.inr ⟨m, h⟩)

theorem T.get_set_e (v : α) : ∀ (n k j : Nat), k < n → (T.set v .e k).get j = if j = k then some v else none := by
  intro n
  induction n with
  | zero => intro k j h; omega
  | succ n ih =>
    intro k j hk
    rcases key3 k with rfl | ⟨m, rfl⟩ | ⟨m, rfl⟩
    · rw [T.set_e_zero]
      rcases key3 j with rfl | ⟨i, rfl⟩ | ⟨i, rfl⟩
      · rfl
      · rw [T.get_odd, if_neg (by omega)]; rfl
      · rw [T.get_even, if_neg (by omega)]; rfl
    · rw [T.set_e_odd]
      rcases key3 j with rfl | ⟨i, rfl⟩ | ⟨i, rfl⟩
      · rw [if_neg (by omega)]; rfl
      · rw [T.get_odd, ih m i (by omega)]
        by_cases h : i = m
        · rw [if_pos h, if_pos (by omega)]
        · rw [if_neg h, if_neg (by omega)]
      · rw [T.get_even, if_neg (by omega)]; rfl
    · rw [T.set_e_even]
      rcases key3 j with rfl | ⟨i, rfl⟩ | ⟨i, rfl⟩
      · rw [if_neg (by omega)]; rfl
      · rw [T.get_odd, if_neg (by omega)]; rfl
      · rw [T.get_even, ih m i (by omega)]
        by_cases h : i = m
        · rw [if_pos h, if_pos (by omega)]
        · rw [if_neg h, if_neg (by omega)]
theorem T.get_set (v : α) (t : T α) : ∀ (k j : Nat), (T.set v t k).get j = if j = k then some v else t.get j := by
  induction t with
  | e => intro k j; rw [T.get_set_e v (k + 1) k j (by omega)]; rfl
  | n l u r ihl ihr =>
    intro k j
    rcases key3 k with rfl | ⟨m, rfl⟩ | ⟨m, rfl⟩
    · rw [T.set_zero]
      rcases key3 j with rfl | ⟨i, rfl⟩ | ⟨i, rfl⟩
      · rfl
      · rw [T.get_odd, T.get_odd, if_neg (by omega)]
      · rw [T.get_even, T.get_even, if_neg (by omega)]
    · rw [T.set_odd]
      rcases key3 j with rfl | ⟨i, rfl⟩ | ⟨i, rfl⟩
      · rw [if_neg (by omega)]; rfl
      · rw [T.get_odd, T.get_odd, ihl]
        by_cases h : i = m
        · rw [if_pos h, if_pos (by omega)]
        · rw [if_neg h, if_neg (by omega)]
      · rw [T.get_even, T.get_even, if_neg (by omega)]
    · rw [T.set_even]
      rcases key3 j with rfl | ⟨i, rfl⟩ | ⟨i, rfl⟩
      · rw [if_neg (by omega)]; rfl
      · rw [T.get_odd, T.get_odd, if_neg (by omega)]
      · rw [T.get_even, T.get_even, ihr]
        by_cases h : i = m
        · rw [if_pos h, if_pos (by omega)]
        · rw [if_neg h, if_neg (by omega)]
theorem T.get_del (t : T α) : ∀ (k j : Nat), (T.del t k).get j = if j = k then none else t.get j := by
  induction t with
  | e => intro k j; simp [T.del, T.get]
  | n l u r ihl ihr =>
    intro k j
    rcases key3 k with rfl | ⟨m, rfl⟩ | ⟨m, rfl⟩
    · rw [T.del_zero]
      rcases key3 j with rfl | ⟨i, rfl⟩ | ⟨i, rfl⟩
      · rfl
      · rw [T.get_odd, T.get_odd, if_neg (by omega)]
      · rw [T.get_even, T.get_even, if_neg (by omega)]
    · rw [T.del_odd]
      rcases key3 j with rfl | ⟨i, rfl⟩ | ⟨i, rfl⟩
      · rw [if_neg (by omega)]; rfl
      · rw [T.get_odd, T.get_odd, ihl]
        by_cases h : i = m
        · rw [if_pos h, if_pos (by omega)]
        · rw [if_neg h, if_neg (by omega)]
      · rw [T.get_even, T.get_even, if_neg (by omega)]
    · rw [T.del_even]
      rcases key3 j with rfl | ⟨i, rfl⟩ | ⟨i, rfl⟩
      · rw [if_neg (by omega)]; rfl
      · rw [T.get_odd, T.get_odd, if_neg (by omega)]
      · rw [T.get_even, T.get_even, ihr]
        by_cases h : i = m
        · rw [if_pos h, if_pos (by omega)]
        · rw [if_neg h, if_neg (by omega)]

theorem T.set_set_e (v u : α) : ∀ (n k j : Nat), k < n → j ≠ k → T.set u (T.set v .e k) j = T.set v (T.set u .e j) k := by
  intro n
  induction n with
  | zero => intro k j h; omega
  | succ n ih =>
    intro k j hk hne
    rcases key3 k with rfl | ⟨m, rfl⟩ | ⟨m, rfl⟩ <;> rcases key3 j with rfl | ⟨i, rfl⟩ | ⟨i, rfl⟩
    all_goals (try simp only [T.set_e_zero, T.set_e_odd, T.set_e_even, T.set_zero, T.set_odd, T.set_even])
    · exact absurd rfl hne
    · rw [ih m i (by omega) (by omega)]
    · rw [ih m i (by omega) (by omega)]
theorem T.set_set (v u : α) (t : T α) : ∀ (k j : Nat), j ≠ k → T.set u (T.set v t k) j = T.set v (T.set u t j) k := by
  induction t with
  | e => intro k j h; exact T.set_set_e v u (k + 1) k j (by omega) h
  | n l w r ihl ihr =>
    intro k j hne
    rcases key3 k with rfl | ⟨m, rfl⟩ | ⟨m, rfl⟩ <;> rcases key3 j with rfl | ⟨i, rfl⟩ | ⟨i, rfl⟩
    all_goals (try simp only [T.set_zero, T.set_odd, T.set_even])
    · exact absurd rfl hne
    · rw [ihl m i (by omega)]
    · rw [ihr m i (by omega)]
theorem T.del_set_e (v : α) : ∀ (n k j : Nat), k < n → j ≠ k → T.del (T.set v .e k) j = T.set v .e k := by
  intro n
  induction n with
  | zero => intro k j h; omega
  | succ n ih =>
    intro k j hk hne
    rcases key3 k with rfl | ⟨m, rfl⟩ | ⟨m, rfl⟩ <;> rcases key3 j with rfl | ⟨i, rfl⟩ | ⟨i, rfl⟩
    all_goals (try simp only [T.set_e_zero, T.set_e_odd, T.set_e_even, T.del_zero, T.del_odd, T.del_even])
    · exact absurd rfl hne
    · rfl
    · rfl
    · rw [ih m i (by omega) (by omega)]
    · rfl
    · rfl
    · rw [ih m i (by omega) (by omega)]
theorem T.del_set (v : α) (t : T α) : ∀ (k j : Nat), j ≠ k → T.del (T.set v t k) j = T.set v (T.del t j) k := by
  induction t with
  | e => intro k j h; rw [T.del_set_e v (k + 1) k j (by omega) h]; rfl
  | n l w r ihl ihr =>
    intro k j hne
    rcases key3 k with rfl | ⟨m, rfl⟩ | ⟨m, rfl⟩ <;> rcases key3 j with rfl | ⟨i, rfl⟩ | ⟨i, rfl⟩
    all_goals (try simp only [T.set_zero, T.set_odd, T.set_even, T.del_zero, T.del_odd, T.del_even])
    · exact absurd rfl hne
    · rw [ihl m i (by omega)]
    · rw [ihr m i (by omega)]
end

theorem H.get_put (h : H) (b : Nat) (o : PO) (j : Nat) : (h.put b o).get j = if j = b then some o else h.get j := T.get_set o h.tab b j
theorem H.get_del (h : H) (b j : Nat) : (h.del b).get j = if j = b then none else h.get j := T.get_del h.tab b j
theorem H.put_put (h : H) (a b : Nat) (x y : PO) (hne : b ≠ a) : (h.put a x).put b y = (h.put b y).put a x := by
  simp only [H.put]; rw [T.set_set x y h.tab a b hne]
theorem H.del_put (h : H) (a b : Nat) (x : PO) (hne : b ≠ a) : (h.put a x).del b = (h.del b).put a x := by
  simp only [H.put, H.del]; rw [T.del_set x h.tab a b hne]

/-- 'm' commutes with laying ahead a block that is reserved and not yet laid (but 'own', its own block) -/
def Mono {α : Type} (own : Option Nat) (m : HM α) : Prop :=
  ∀ h a h', m h = some (a, h') → h.next ≤ h'.next ∧ ∀ id o, id < h.next → some id ≠ own → h.get id = none →
    m (h.put id o) = some (a, h'.put id o) ∧ h'.get id = none

section
variable {α β : Type} {own : Option Nat}
theorem Mono.ret (a : α) : Mono own (HM.ret a) := by
  intro h a' h' e
  simp only [HM.ret, Option.some.injEq, Prod.mk.injEq] at e
  obtain ⟨rfl, rfl⟩ := e
  exact ⟨Nat.le_refl _, fun id o _ _ hg => ⟨rfl, hg⟩⟩
theorem Mono.no : Mono own (HM.no : HM α) := fun _ _ _ e => by simp [HM.no] at e
theorem Mono.ofO (x : Option α) : Mono own (HM.ofO x) := by
  cases x with
  | none => exact Mono.no
  | some a => exact Mono.ret a
theorem Mono.bnd {m : HM α} {f : α → HM β} (hm : Mono own m) (hf : ∀ a, Mono own (f a)) : Mono own (HM.bnd m f) := by
  intro h b h2 e
  simp only [HM.bnd] at e
  cases hmh : m h with
  | none => rw [hmh] at e; simp at e
  | some r =>
    obtain ⟨a, h1⟩ := r
    rw [hmh] at e
    have ⟨n1, p1⟩ := hm _ _ _ hmh
    have ⟨n2, p2⟩ := hf a _ _ _ e
    refine ⟨Nat.le_trans n1 n2, fun id o hi hne hg => ?_⟩
    have ⟨q1, g1⟩ := p1 id o hi hne hg
    have ⟨q2, g2⟩ := p2 id o (Nat.lt_of_lt_of_le hi n1) hne g1
    refine ⟨?_, g2⟩
    simp only [HM.bnd, q1, q2]
theorem Mono.rd (b : Nat) : Mono own (HM.rd b) := by
  intro h a h' e
  simp only [HM.rd] at e
  cases hb : h.get b with
  | none => rw [hb] at e; simp at e
  | some o' =>
    rw [hb] at e
    simp only [Option.some.injEq, Prod.mk.injEq] at e
    obtain ⟨rfl, rfl⟩ := e
    refine ⟨Nat.le_refl _, fun id o _ _ hg => ⟨?_, hg⟩⟩
    have hne : b ≠ id := fun he => by rw [he, hg] at hb; simp at hb
    simp only [HM.rd, H.get_put, if_neg hne, hb]
theorem Mono.wr (b : Nat) (x : PO) : Mono own (HM.wr b x) := by
  intro h a h' e
  simp only [HM.wr] at e
  cases hb : h.get b with
  | none => rw [hb] at e; simp at e
  | some o' =>
    rw [hb] at e
    injection e with e; injection e with _ e2; subst e2; cases a
    refine ⟨Nat.le_refl _, fun id o _ _ hg => ?_⟩
    have hne : b ≠ id := fun he => by rw [he, hg] at hb; simp at hb
    refine ⟨?_, by rw [H.get_put, if_neg (Ne.symm hne)]; exact hg⟩
    simp only [HM.wr, H.get_put, if_neg hne, hb]
    rw [H.put_put _ _ _ _ _ hne]
theorem Mono.kill (b : Nat) : Mono own (HM.kill b) := by
  intro h a h' e
  simp only [HM.kill] at e
  cases hb : h.get b with
  | none => rw [hb] at e; simp at e
  | some o' =>
    rw [hb] at e
    injection e with e; injection e with _ e2; subst e2; cases a
    refine ⟨Nat.le_refl _, fun id o _ _ hg => ?_⟩
    have hne : b ≠ id := fun he => by rw [he, hg] at hb; simp at hb
    refine ⟨?_, by rw [H.get_del, if_neg (Ne.symm hne)]; exact hg⟩
    simp only [HM.kill, H.get_put, if_neg hne, hb]
    rw [H.del_put _ _ _ _ hne]
theorem Mono.new (b : Nat) (x : PO) (hown : own = some b) : Mono own (HM.new b x) := by
  intro h a h' e
  simp only [HM.new] at e
  cases hb : h.get b with
  | some o' => rw [hb] at e; simp at e
  | none =>
    rw [hb] at e
    injection e with e; injection e with _ e2; subst e2; cases a
    refine ⟨Nat.le_refl _, fun id o _ hne hg => ?_⟩
    have hne' : b ≠ id := fun he => hne (by rw [hown, he])
    refine ⟨?_, by rw [H.get_put, if_neg (Ne.symm hne')]; exact hg⟩
    simp only [HM.new, H.get_put, if_neg hne', hb]
    rw [H.put_put _ _ _ _ _ hne']
theorem Mono.cond {c : Bool} {x y : HM α} (hx : Mono own x) (hy : Mono own y) : Mono own (bif c then x else y) := by cases c <;> assumption
end
end Go.Pe
