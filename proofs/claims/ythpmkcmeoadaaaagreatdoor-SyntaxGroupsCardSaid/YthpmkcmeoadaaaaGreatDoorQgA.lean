/- The quick evaluator: trees, lists and numbers as the kernel likes them. -/
import Derived.Test.YthpmkcmeoadaaaaGreatDoorQfE
namespace Go.Pe
open HM
set_option linter.unusedVariables false
set_option linter.unusedSimpArgs false

/-- a look at a tree -/
noncomputable def T.getQ {α : Type} (t : T α) : Nat → Option α :=
  T.rec (motive := fun _ => Nat → Option α) (fun _ => none)
    (fun _ v _ ihl ihr k => Bool.rec (motive := fun _ => Option α) (Bool.rec (motive := fun _ => Option α) (ihr (Nat.div (Nat.sub k 1) 2)) (ihl (Nat.div (Nat.sub k 1) 2)) (Nat.beq (Nat.land k 1) 1)) v (Nat.beq k 0)) t
theorem land1 (k : Nat) : Nat.land k 1 = k % 2 := by
  show k &&& 1 = k % 2
  exact Nat.and_one_is_mod k
theorem T.getQ_eq {α : Type} : ∀ (t : T α) (k : Nat), t.getQ k = t.get k := by
  intro t
  induction t with
  | e => intro k; rfl
  | n l v r ihl ihr =>
    intro k
    have h0 : T.getQ (.n l v r) k = Bool.rec (motive := fun _ => Option α) (Bool.rec (motive := fun _ => Option α) (r.getQ (Nat.div (Nat.sub k 1) 2)) (l.getQ (Nat.div (Nat.sub k 1) 2)) (Nat.beq (Nat.land k 1) 1)) v (Nat.beq k 0) := rfl
    rw [h0, ihl, ihr]
    rcases key3 k with rfl | ⟨m, rfl⟩ | ⟨m, rfl⟩
    · rfl
    · rw [T.get_odd]
      have h1 : Nat.beq (2 * m + 1) 0 = false := by
        cases h : Nat.beq (2 * m + 1) 0 with
        | false => rfl
        | true => have := Nat.eq_of_beq_eq_true h; omega
      have h2 : Nat.land (2 * m + 1) 1 = 1 := by rw [land1]; omega
      have h3 : Nat.div (Nat.sub (2 * m + 1) 1) 2 = m := by show (2 * m + 1 - 1) / 2 = m; omega
      rw [h1, h2, h3]
      rfl
    · rw [T.get_even]
      have h1 : Nat.beq (2 * m + 2) 0 = false := by
        cases h : Nat.beq (2 * m + 2) 0 with
        | false => rfl
        | true => have := Nat.eq_of_beq_eq_true h; omega
      have h2 : Nat.land (2 * m + 2) 1 = 0 := by rw [land1]; omega
      have h3 : Nat.div (Nat.sub (2 * m + 2) 1) 2 = m := by show (2 * m + 2 - 1) / 2 = m; omega
      rw [h1, h2, h3]
      rfl
/-- the way to a place of a tree -/
inductive R where
  | z
  | l (p : R)
  | r (p : R)
def pth : Nat → Nat → R
  | 0, _ => .z
  | f + 1, k => bif Nat.beq k 0 then .z else bif Nat.beq (Nat.land k 1) 1 then .l (pth f (Nat.div (Nat.sub k 1) 2)) else .r (pth f (Nat.div (Nat.sub k 1) 2))
def T.lf {α : Type} : T α → T α
  | .e => .e
  | .n l _ _ => l
def T.rt {α : Type} : T α → T α
  | .e => .e
  | .n _ _ r => r
def T.vl {α : Type} : T α → Option α
  | .e => none
  | .n _ v _ => v
noncomputable def T.lfQ {α : Type} (t : T α) : T α := T.rec (motive := fun _ => T α) .e (fun l _ _ _ _ => l) t
noncomputable def T.rtQ {α : Type} (t : T α) : T α := T.rec (motive := fun _ => T α) .e (fun _ _ r _ _ => r) t
noncomputable def T.vlQ {α : Type} (t : T α) : Option α := T.rec (motive := fun _ => Option α) none (fun _ v _ _ _ => v) t
theorem T.lfQ_eq {α : Type} (t : T α) : t.lfQ = t.lf := by cases t <;> rfl
theorem T.rtQ_eq {α : Type} (t : T α) : t.rtQ = t.rt := by cases t <;> rfl
theorem T.vlQ_eq {α : Type} (t : T α) : t.vlQ = t.vl := by cases t <;> rfl
noncomputable def getP {α : Type} (p : R) : T α → Option α := R.rec (motive := fun _ => T α → Option α) (fun t => t.vlQ) (fun _ ih t => ih t.lfQ) (fun _ ih t => ih t.rtQ) p
noncomputable def setP {α : Type} (v : α) (p : R) : T α → T α := R.rec (motive := fun _ => T α → T α) (fun t => .n t.lfQ (some v) t.rtQ) (fun _ ih t => .n (ih t.lfQ) t.vlQ t.rtQ) (fun _ ih t => .n t.lfQ t.vlQ (ih t.rtQ)) p
theorem beq_ne {a b : Nat} (h : a ≠ b) : Nat.beq a b = false := by
  cases hq : Nat.beq a b with
  | false => rfl
  | true => exact absurd (Nat.eq_of_beq_eq_true hq) h
theorem pth_zero (f : Nat) : pth f 0 = .z := by cases f <;> rfl
theorem pth_odd (f m : Nat) : pth (f + 1) (2 * m + 1) = .l (pth f m) := by
  show (bif Nat.beq (2 * m + 1) 0 then _ else _) = _
  rw [beq_ne (by omega), land1, show (2 * m + 1) % 2 = 1 by omega, show Nat.div (Nat.sub (2 * m + 1) 1) 2 = m by show (2 * m + 1 - 1) / 2 = m; omega]
  rfl
theorem pth_even (f m : Nat) : pth (f + 1) (2 * m + 2) = .r (pth f m) := by
  show (bif Nat.beq (2 * m + 2) 0 then _ else _) = _
  rw [beq_ne (by omega), land1, show (2 * m + 2) % 2 = 0 by omega, show Nat.div (Nat.sub (2 * m + 2) 1) 2 = m by show (2 * m + 2 - 1) / 2 = m; omega]
  rfl
theorem getP_eq {α : Type} : ∀ (f k : Nat) (t : T α), k < 2 ^ f → getP (pth f k) t = t.get k := by
  intro f
  induction f with
  | zero => intro k t h; have : k = 0 := by simpa using h
            subst this; cases t <;> rfl
  | succ f ih =>
    intro k t h
    rcases key3 k with rfl | ⟨m, rfl⟩ | ⟨m, rfl⟩
    · cases t <;> rfl
    · rw [pth_odd]
      show getP (pth f m) t.lfQ = _
      rw [ih m _ (by rw [Nat.pow_succ] at h; omega), T.lfQ_eq]
      cases t with
      | e => rfl
      | n l v r => rw [T.get_odd]; rfl
    · rw [pth_even]
      show getP (pth f m) t.rtQ = _
      rw [ih m _ (by rw [Nat.pow_succ] at h; omega), T.rtQ_eq]
      cases t with
      | e => rfl
      | n l v r => rw [T.get_even]; rfl
theorem setP_eq {α : Type} (v : α) : ∀ (f k : Nat) (t : T α), k < 2 ^ f → setP v (pth f k) t = t.set v k := by
  intro f
  induction f with
  | zero => intro k t h; have : k = 0 := by simpa using h
            subst this; cases t <;> rfl
  | succ f ih =>
    intro k t h
    rcases key3 k with rfl | ⟨m, rfl⟩ | ⟨m, rfl⟩
    · cases t <;> rfl
    · rw [pth_odd]
      show T.n (setP v (pth f m) t.lfQ) t.vlQ t.rtQ = _
      rw [ih m _ (by rw [Nat.pow_succ] at h; omega), T.lfQ_eq, T.vlQ_eq, T.rtQ_eq]
      cases t with
      | e => rw [T.set_e_odd]; rfl
      | n l u r => rw [T.set_odd]; rfl
    · rw [pth_even]
      show T.n t.lfQ t.vlQ (setP v (pth f m) t.rtQ) = _
      rw [ih m _ (by rw [Nat.pow_succ] at h; omega), T.lfQ_eq, T.vlQ_eq, T.rtQ_eq]
      cases t with
      | e => rw [T.set_e_even]; rfl
      | n l u r => rw [T.set_even]; rfl
/-- a tree is written -/
noncomputable def T.setQ {α : Type} (v : α) (t : T α) (k : Nat) : T α := Bool.rec (motive := fun _ => T α) (t.set v k) (setP v (pth 40 k) t) (Nat.blt k 1099511627776)
theorem T.setQ_eq {α : Type} (v : α) (t : T α) (k : Nat) : T.setQ v t k = t.set v k := by
  unfold T.setQ
  cases h : Nat.blt k 1099511627776 with
  | false => rfl
  | true =>
    have : k < 1099511627776 := by simpa [Nat.blt_eq] using h
    exact setP_eq v 40 k t this
noncomputable def T.delQ {α : Type} (t : T α) : Nat → T α :=
  T.rec (motive := fun _ => Nat → T α) (fun _ => .e)
    (fun l v r ihl ihr k => Bool.rec (motive := fun _ => T α) (Bool.rec (motive := fun _ => T α) (.n l v (ihr (Nat.div (Nat.sub k 1) 2))) (.n (ihl (Nat.div (Nat.sub k 1) 2)) v r) (Nat.beq (Nat.land k 1) 1)) (.n l none r) (Nat.beq k 0)) t
theorem T.delQ_eq {α : Type} : ∀ (t : T α) (k : Nat), t.delQ k = t.del k := by
  intro t
  induction t with
  | e => intro k; rfl
  | n l v r ihl ihr =>
    intro k
    have h0 : T.delQ (.n l v r) k = Bool.rec (motive := fun _ => T α) (Bool.rec (motive := fun _ => T α) (.n l v (r.delQ (Nat.div (Nat.sub k 1) 2))) (.n (l.delQ (Nat.div (Nat.sub k 1) 2)) v r) (Nat.beq (Nat.land k 1) 1)) (.n l none r) (Nat.beq k 0) := rfl
    rw [h0, ihl, ihr]
    rcases key3 k with rfl | ⟨m, rfl⟩ | ⟨m, rfl⟩
    · rw [T.del_zero]; rfl
    · rw [T.del_odd, beq_ne (show 2 * m + 1 ≠ 0 by omega), land1, show (2 * m + 1) % 2 = 1 by omega, show Nat.div (Nat.sub (2 * m + 1) 1) 2 = m by show (2 * m + 1 - 1) / 2 = m; omega]
      rfl
    · rw [T.del_even, beq_ne (show 2 * m + 2 ≠ 0 by omega), land1, show (2 * m + 2) % 2 = 0 by omega, show Nat.div (Nat.sub (2 * m + 2) 1) 2 = m by show (2 * m + 2 - 1) / 2 = m; omega]
      rfl

/-- lists -/
noncomputable def nthQ {α : Type} (l : List α) : Nat → Option α :=
  List.rec (motive := fun _ => Nat → Option α) (fun _ => none) (fun x _ ih k => Bool.rec (motive := fun _ => Option α) (ih (Nat.sub k 1)) (some x) (Nat.beq k 0)) l
theorem nthQ_eq {α : Type} : ∀ (l : List α) (k : Nat), nthQ l k = l[k]?
  | [], k => by simp [nthQ]
  | x :: xs, 0 => rfl
  | x :: xs, k + 1 => by
    have : nthQ (x :: xs) (k + 1) = nthQ xs (Nat.sub (k + 1) 1) := rfl
    rw [this, show Nat.sub (k + 1) 1 = k from rfl, nthQ_eq xs k]
    simp
noncomputable def dropQ {α : Type} (l : List α) : Nat → List α :=
  List.rec (motive := fun _ => Nat → List α) (fun _ => []) (fun x xs ih k => Bool.rec (motive := fun _ => List α) (ih (Nat.sub k 1)) (x :: xs) (Nat.beq k 0)) l
theorem dropQ_eq {α : Type} : ∀ (l : List α) (k : Nat), dropQ l k = l.drop k
  | [], k => by simp [dropQ]
  | x :: xs, 0 => rfl
  | x :: xs, k + 1 => by
    have : dropQ (x :: xs) (k + 1) = dropQ xs (Nat.sub (k + 1) 1) := rfl
    rw [this, show Nat.sub (k + 1) 1 = k from rfl, dropQ_eq xs k]
    simp
noncomputable def takeQ (l : List PV) : Nat → Option (List PV) :=
  List.rec (motive := fun _ => Nat → Option (List PV)) (fun k => Bool.rec (motive := fun _ => Option (List PV)) none (some []) (Nat.beq k 0))
    (fun x _ ih k => Bool.rec (motive := fun _ => Option (List PV)) (Option.rec (motive := fun _ => Option (List PV)) none (fun r => some (x :: r)) (ih (Nat.sub k 1))) (some []) (Nat.beq k 0)) l
theorem takeQ_eq : ∀ (l : List PV) (k : Nat), takeQ l k = takeX k l
  | [], 0 => rfl
  | [], k + 1 => rfl
  | x :: xs, 0 => rfl
  | x :: xs, k + 1 => by
    have : takeQ (x :: xs) (k + 1) = Option.rec (motive := fun _ => Option (List PV)) none (fun r => some (x :: r)) (takeQ xs (Nat.sub (k + 1) 1)) := rfl
    rw [this, show Nat.sub (k + 1) 1 = k from rfl, takeQ_eq xs k, takeX]
    cases takeX k xs <;> rfl
/-- the length of a list, a number each time -/
noncomputable def lenQ {α : Type} (l : List α) : Nat := List.rec (motive := fun _ => Nat) 0 (fun _ _ ih => Nat.add ih 1) l
theorem lenQ_eq {α : Type} : ∀ l : List α, lenQ l = l.length
  | [] => rfl
  | _ :: xs => by
    show lenQ xs + 1 = _
    rw [lenQ_eq xs]; rfl
/-- numbers -/
def ieq : Int → Int → Bool
  | .ofNat a, .ofNat b => Nat.beq a b
  | .negSucc a, .negSucc b => Nat.beq a b
  | _, _ => false
def ilt : Int → Int → Bool
  | .ofNat a, .ofNat b => Nat.blt a b
  | .negSucc a, .negSucc b => Nat.blt b a
  | .negSucc _, .ofNat _ => true
  | .ofNat _, .negSucc _ => false
def ile : Int → Int → Bool
  | .ofNat a, .ofNat b => Nat.ble a b
  | .negSucc a, .negSucc b => Nat.ble b a
  | .negSucc _, .ofNat _ => true
  | .ofNat _, .negSucc _ => false
theorem ieq_eq (a b : Int) : ieq a b = decide (a = b) := by
  cases a <;> cases b <;> simp only [ieq]
  · rename_i a b
    by_cases h : a = b
    · subst h; simp
    · rw [beq_ne h]; simp; omega
  · simp
  · simp
  · rename_i a b
    by_cases h : a = b
    · subst h; simp
    · rw [beq_ne h]; simp; omega
theorem ilt_eq (a b : Int) : ilt a b = decide (a < b) := by
  rw [Bool.eq_iff_iff, decide_eq_true_iff]
  cases a <;> cases b <;> simp only [ilt, Nat.blt_eq] <;> (try simp) <;> omega
theorem ile_eq (a b : Int) : ile a b = decide (a ≤ b) := by
  rw [Bool.eq_iff_iff, decide_eq_true_iff]
  cases a <;> cases b <;> simp only [ile, Nat.ble_eq] <;> (try simp) <;> omega
def in64 : Int → Bool
  | .ofNat a => Nat.blt a 9223372036854775808
  | .negSucc a => Nat.blt a 9223372036854775808
theorem in64_eq (n : Int) : in64 n = inI64 n := by
  rw [Bool.eq_iff_iff]
  unfold inI64
  rw [Bool.and_eq_true, decide_eq_true_iff, decide_eq_true_iff]
  cases n with
  | ofNat a =>
    simp only [in64, Nat.blt_eq]
    rw [show Int.ofNat a = (a : Int) from rfl]
    omega
  | negSucc a =>
    simp only [in64, Nat.blt_eq]
    rw [Int.negSucc_eq]
    omega
def kc : IntKind → Nat
  | .i8 => 0 | .i16 => 1 | .i32 => 2 | .i64 => 3 | .u8 => 4 | .u16 => 5 | .u32 => 6 | .u64 => 7
theorem kc_eq (a b : IntKind) : Nat.beq (kc a) (kc b) = decide (a = b) := by cases a <;> cases b <;> rfl
def wrapQ (k : IntKind) (n : Int) : Int := match k with
  | .i64 => bif in64 n then n else k.wrap n
  | _ => k.wrap n
theorem wrapQ_eq (k : IntKind) (n : Int) : wrapQ k n = wrapF k n := by
  cases k <;> simp only [wrapQ, wrapF, in64_eq]
end Go.Pe
