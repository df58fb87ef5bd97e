/- A region in whatever order; code; calls. -/
import Derived.Test.YthpmkcmeoadaaaaGreatDoorQeZf
namespace Go.Pe
open HM
variable {G : T PO}
set_option linter.unusedVariables false
set_option linter.unusedSimpArgs false

section
theorem memB_iff {x : Nat} : ∀ {l : List Nat}, memB x l = true ↔ x ∈ l
  | [] => by simp [memB]
  | y :: ys => by
    simp only [memB, Bool.or_eq_true, List.mem_cons, memB_iff (l := ys)]
    constructor
    · rintro (h | h)
      · exact .inl (Nat.eq_of_beq_eq_true h)
      · exact .inr h
    · rintro (rfl | h)
      · exact .inl (Nat.beq_refl x)
      · exact .inr h
theorem nodupB_iff : ∀ {l : List Nat}, nodupB l = true → l.Nodup
  | [], _ => List.nodup_nil
  | x :: xs, h => by
    simp only [nodupB, Bool.and_eq_true, List.all_eq_true] at h
    refine List.nodup_cons.2 ⟨fun hm => ?_, nodupB_iff h.2⟩
    have := h.1 x hm
    simp at this
theorem fold_mask (ms : List Nat) : ∀ (es : List Nat) (s j : Nat), (es.foldl (fun s e => s ||| (2 ^ e ||| ms.getD e 0)) s).testBit j = true ↔ s.testBit j = true ∨ ∃ e ∈ es, e = j ∨ (ms.getD e 0).testBit j = true
  | [], s, j => by simp
  | e :: es, s, j => by
    simp only [List.foldl_cons]
    rw [fold_mask ms es]
    simp only [Nat.testBit_or, Bool.or_eq_true, Nat.testBit_two_pow, decide_eq_true_eq, List.mem_cons]
    constructor
    · rintro ((h | h | h) | ⟨e', h1, h2⟩)
      · exact .inl h
      · exact .inr ⟨e, .inl rfl, .inl h⟩
      · exact .inr ⟨e, .inl rfl, .inr h⟩
      · exact .inr ⟨e', .inr h1, h2⟩
    · rintro (h | ⟨e', rfl | h1, h2⟩)
      · exact .inl (.inl h)
      · exact .inl (.inr h2)
      · exact .inr ⟨e', h1, h2⟩
theorem masksOk_get {ms : List Nat} {n : Nat} : ∀ {os : List Oper} {i k : Nat} {o : Oper}, masksOk ms n os i = true → os[k]? = some o →
    (∀ j, (ms.getD (i + k) 0).testBit j = true ↔ ∃ e ∈ edgesOf o, e = j ∨ (ms.getD e 0).testBit j = true) ∧ ∀ e ∈ edgesOf o, e < n ∧ e ≠ i + k
  | [], i, k, o, _, h => by simp at h
  | o' :: os, i, 0, o, hm, h => by
    simp only [List.getElem?_cons_zero, Option.some.injEq] at h
    subst h
    simp only [masksOk, Bool.and_eq_true, List.all_eq_true] at hm
    refine ⟨fun j => ?_, fun e he => ?_⟩
    · have h1 := Nat.eq_of_beq_eq_true hm.1.1
      rw [Nat.add_zero, h1, fold_mask]
      simp
    · have := hm.1.2 e he
      simp only [Bool.not_eq_true', Nat.blt_eq] at this
      exact ⟨this.1, fun h => by have h2 := this.2; rw [h] at h2; simp at h2⟩
  | o' :: os, i, k + 1, o, hm, h => by
    simp only [masksOk, Bool.and_eq_true] at hm
    simp only [List.getElem?_cons_succ] at h
    have := masksOk_get (i := i + 1) (k := k) hm.2 h
    rwa [show i + 1 + k = i + (k + 1) by omega] at this
theorem pairsOk_split {P : Program} {ops : Array Oper} {ms : List Nat} : ∀ {A B : List Nat}, pairsOk P ops ms (A ++ B) = true → (∀ y ∈ A, ∀ x ∈ B, pairOk P ops ms y x = true) ∧ pairsOk P ops ms A = true ∧ pairsOk P ops ms B = true
  | [], B, h => ⟨fun y hy => by simp at hy, rfl, h⟩
  | a :: A, B, h => by
    simp only [List.cons_append, pairsOk, Bool.and_eq_true, List.all_append, List.all_eq_true] at h
    obtain ⟨h1, h2, h3⟩ := pairsOk_split h.2
    refine ⟨fun y hy x hx => ?_, ?_, h3⟩
    · rcases List.mem_cons.1 hy with rfl | hy
      · exact h.1.2 x hx
      · exact h1 y hy x hx
    · simp only [pairsOk, Bool.and_eq_true, List.all_eq_true]
      exact ⟨h.1.1, h2⟩
theorem pairsOk_join {P : Program} {ops : Array Oper} {ms : List Nat} : ∀ {A B : List Nat}, (∀ y ∈ A, ∀ x ∈ B, pairOk P ops ms y x = true) → pairsOk P ops ms A = true → pairsOk P ops ms B = true → pairsOk P ops ms (A ++ B) = true
  | [], B, _, _, h => h
  | a :: A, B, h, hA, hB => by
    simp only [pairsOk, Bool.and_eq_true, List.all_eq_true] at hA
    simp only [List.cons_append, pairsOk, Bool.and_eq_true, List.all_append, List.all_eq_true]
    exact ⟨⟨hA.1, fun x hx => h a (by simp) x hx⟩, pairsOk_join (fun y hy x hx => h y (by simp [hy]) x hx) hA.2 hB⟩
end

section
variable {P : Program} {call : FuncId → List PV → HM PV} {nt : Nat} {ops : Array Oper} {base : Nat} {Q : Exit → Act → World → Prop} {ms : List Nat}
theorem sim_runC (hcs : CallSim G P call) (hmo : ∀ f l, Mono none (call f l)) (hmk : masksOk ms ops.size ops.toList 0 = true) : ∀ (fuel : Nat) {C : List Nat} {listed : Array Bool} {ρ : Emb G} {h : H} {w : World} {tm tm' : T PV} {a : Act} {h' : H} {sn : List (Nat × H)},
    C.length = fuel → C.Nodup → pairsOk P ops ms C = true → listed.size = ops.size → (∀ j, j ∈ C ↔ j < ops.size ∧ listed[j]? = some false) →
    (∀ k, listed[k]? = some true → ∀ j, (ms.getD k 0).testBit j = true → listed[j]? = some true) →
    TmR ρ nt tm a.tmps → Rel ρ h w → base + ops.size ≤ h.next → (∀ j ∈ C, ρ (base + j) = none) → runC P call nt ops base ms C tm h sn = some (tm', h') →
    (∀ ρ' (a' : Act) w', TmR ρ' nt tm' a'.tmps → a'.defers = a.defers → Rel ρ' h' w' → Stp (fun b => base ≤ b) ρ h w ρ' h' w' → Q .normal a' w') → wpAny P .any ops Q fuel listed a w := by
  intro fuel
  have ready_iff : ∀ {listed : Array Bool} {i : Nat}, listed.size = ops.size → (i ∈ Region.ready .any ops listed ↔ i < ops.size ∧ listed[i]? = some false ∧ ∃ o, ops[i]? = some o ∧ ∀ e ∈ edgesOf o, listed[e]? = some true) := by
    intro listed i hsz
    unfold Region.ready
    simp only [List.mem_filter, List.mem_range, Bool.and_eq_true, Bool.not_eq_true']
    constructor
    · rintro ⟨h1, h2, h3⟩
      have hlt : i < listed.size := by rw [hsz]; exact h1
      rw [Array.getD_eq_getD_getElem?, Array.getElem?_eq_getElem hlt, Option.getD_some] at h2
      cases ho : ops[i]? with
      | none => rw [ho] at h3; simp at h3
      | some o =>
        rw [ho] at h3
        simp only [Option.map_some, Option.getD_some, Array.all_eq_true'] at h3
        refine ⟨h1, by rw [Array.getElem?_eq_getElem hlt, h2], o, rfl, fun e he => ?_⟩
        unfold edgesOf at he
        obtain ⟨ed, hed, rfl⟩ := List.mem_map.1 he
        rw [List.mem_filter] at hed
        have := h3 ed (by simpa using hed.1)
        rw [hed.2] at this
        simp only [Bool.not_true, Bool.false_or] at this
        rw [Array.getD_eq_getD_getElem?] at this
        cases hl : listed[ed.on]? with
        | none => rw [hl] at this; simp at this
        | some b => rw [hl] at this; simp only [Option.getD_some] at this; rw [this]
    · rintro ⟨h1, h2, o, ho, h3⟩
      refine ⟨h1, ?_, ?_⟩
      · rw [Array.getD_eq_getD_getElem?, h2]; rfl
      · rw [ho]
        simp only [Option.map_some, Option.getD_some, Array.all_eq_true']
        intro ed hed
        cases hb : Region.binds .any ed with
        | false => rfl
        | true =>
          have := h3 ed.on (List.mem_map.2 ⟨ed, List.mem_filter.2 ⟨by simpa using hed, hb⟩, rfl⟩)
          rw [Array.getD_eq_getD_getElem?, this]; rfl
  induction fuel with
  | zero =>
    intro C listed ρ h w tm tm' a h' sn hlen hnd hpk hsz hmem hcl ht hr hlim hnone e hQ
    have hC : C = [] := by simpa using hlen
    subst hC
    simp only [runC, Option.some.injEq, Prod.mk.injEq] at e
    obtain ⟨rfl, rfl⟩ := e
    refine ⟨?_, hQ ρ a w ht rfl hr (Stp.refl _ _ _ _)⟩
    rw [List.eq_nil_iff_forall_not_mem]
    intro i hi
    obtain ⟨h1, h2, _⟩ := (ready_iff hsz).1 hi
    have := (hmem i).2 ⟨h1, h2⟩
    simp at this
  | succ fuel ih =>
    intro C listed ρ h w tm tm' a h' sn hlen hnd hpk hsz hmem hcl ht hr hlim hnone e hQ
    have all_ops : ∀ i, i < ops.size → ∃ o, ops[i]? = some o := fun i hi => ⟨_, Array.getElem?_eq_getElem hi⟩
    have listed_of : ∀ j, j < ops.size → j ∉ C → listed[j]? = some true := fun j hj hn => by
      have hlt : j < listed.size := by rw [hsz]; exact hj
      rw [Array.getElem?_eq_getElem hlt]
      cases hb : listed[j] with
      | true => rfl
      | false => exact absurd ((hmem j).2 ⟨hj, by rw [Array.getElem?_eq_getElem hlt, hb]⟩) hn
    refine ⟨fun hnil => ?_, fun i hi => ?_⟩
    · exfalso
      cases C with
      | nil => simp at hlen
      | cons i0 C' =>
        obtain ⟨hi0, hl0⟩ := (hmem i0).1 (by simp)
        obtain ⟨o, ho⟩ := all_ops i0 hi0
        have hmg := masksOk_get (k := i0) hmk (by simpa using ho)
        have : i0 ∈ Region.ready .any ops listed := (ready_iff hsz).2 ⟨hi0, hl0, o, ho, fun ed hed => by
          obtain ⟨h1, h2⟩ := hmg.2 ed hed
          refine listed_of ed h1 fun hin => ?_
          rcases List.mem_cons.1 hin with rfl | hin
          · exact h2 (by omega)
          · simp only [pairsOk, Bool.and_eq_true, List.all_eq_true] at hpk
            have hp := hpk.1 ed hin
            obtain ⟨oe, hoe⟩ := all_ops ed h1
            unfold pairOk at hp
            rw [ho, hoe] at hp
            simp only [Bool.and_eq_true, Bool.not_eq_true'] at hp
            have hb := (hmg.1 ed).2 ⟨ed, hed, .inl rfl⟩
            rw [Nat.zero_add] at hb
            rw [hb] at hp
            simp at hp⟩
        rw [hnil] at this
        simp at this
    · obtain ⟨hi1, hi2, o, ho, hed⟩ := (ready_iff hsz).1 hi
      have hiC := (hmem i).2 ⟨hi1, hi2⟩
      obtain ⟨A, B, rfl⟩ := List.append_of_mem hiC
      have hmg := masksOk_get (k := i) hmk (by simpa using ho)
      have hmask : ∀ j, (ms.getD i 0).testBit j = true → listed[j]? = some true := fun j hj => by
        have := (hmg.1 j).1 (by rw [Nat.zero_add]; exact hj)
        obtain ⟨ed, he1, he2⟩ := this
        rcases he2 with rfl | he2
        · exact hed _ he1
        · exact hcl ed (hed _ he1) j he2
      obtain ⟨p1, p2, p3⟩ := pairsOk_split hpk
      have hnd' := List.nodup_append.1 hnd
      have hnd2 := List.nodup_cons.1 hnd'.2.1
      have hgi : h.get (base + i) = none := by
        rcases hh : h.get (base + i) with _ | oo
        · rfl
        · obtain ⟨c1, d1, m1, hρ1, _⟩ := hr.obj (base + i) oo hh
          rw [hnone i (by simp)] at hρ1; cases hρ1
      have e' := bubble hmo ho A (fun y hy => ⟨p1 y hy i (by simp), fun hyi => hnd'.2.2 y hy i (by simp) hyi, by
        cases hb : (ms.getD i 0).testBit y with
        | false => rfl
        | true =>
          have h1 := hmask y hb
          have h2 := ((hmem y).1 (by simp [hy])).2
          rw [h1] at h2; cases h2⟩) hlim hgi e
      obtain ⟨hck, tm1, h1, hs, e1⟩ := runC_cons ho e'
      refine sim_opVal hcs ho ht hr (by omega) (hnone i (by simp)) hs _ fun ρ1 a1 w1 ht1 hd1 hr1 hst1 => ?_
      simp only [pairsOk, Bool.and_eq_true, List.all_eq_true] at p3
      have hget : ∀ j, (listed.setIfInBounds i true)[j]? = if j = i then some true else listed[j]? := fun j => by
        by_cases hj : j = i
        · subst hj
          rw [if_pos rfl, Array.getElem?_setIfInBounds_self_of_lt (by rw [hsz]; exact hi1)]
        · rw [if_neg hj, Array.getElem?_setIfInBounds_ne (Ne.symm hj)]
      refine ih (C := A ++ B) ?_ ?_ ?_ (by simpa using hsz) (fun j => ?_) (fun k hk j hj => ?_) ht1 hr1 (Nat.le_trans hlim hst1.next) (fun j hj => ?_) e1 fun ρ' a' w' ht' hd' hr' hst' => ?_
      · simp only [List.length_append, List.length_cons] at hlen ⊢; omega
      · exact List.nodup_append.2 ⟨hnd'.1, hnd2.2, fun x hx y hy => hnd'.2.2 x hx y (by simp [hy])⟩
      · exact pairsOk_join (fun y hy x hx => p1 y hy x (by simp [hx])) p2 p3.2
      · rw [hget]
        have hj := hmem j
        simp only [List.mem_append, List.mem_cons] at hj ⊢
        by_cases hji : j = i
        · subst hji
          rw [if_pos rfl]
          constructor
          · rintro (h | h)
            · exact absurd rfl (hnd'.2.2 _ h _ (by simp))
            · exact absurd h hnd2.1
          · rintro ⟨_, h⟩; cases h
        · rw [if_neg hji, ← hj]
          constructor
          · rintro (h | h)
            · exact .inl h
            · exact .inr (.inr h)
          · rintro (h | h | h)
            · exact .inl h
            · exact absurd h hji
            · exact .inr h
      · rw [hget] at hk ⊢
        by_cases hji : j = i
        · rw [if_pos hji]
        · rw [if_neg hji]
          by_cases hki : k = i
          · subst hki; exact hmask j hj
          · rw [if_neg hki] at hk
            exact hcl k hk j hj
      · have hjC : j ∈ A ++ i :: B := by
          simp only [List.mem_append, List.mem_cons] at hj ⊢
          rcases hj with h | h
          · exact .inl h
          · exact .inr (.inr h)
        have hjs := ((hmem j).1 hjC).1
        rcases hst1.new (base + j) (by omega) (hnone j hjC) with h3 | h3
        · have : j = i := by omega
          subst this
          rcases List.mem_append.1 hj with h | h
          · exact absurd rfl (hnd'.2.2 _ h _ (by simp))
          · exact absurd h hnd2.1
        · exact h3
      · exact hQ ρ' a' w' ht' (hd'.trans hd1) hr' ((hst1.trans hst').weaken fun b _ hb => by
          rcases hb with rfl | hb
          · omega
          · exact hb)

theorem Rel.reserve {ρ : Emb G} {h : H} {w : World} (hr : Rel ρ h w) (n : Nat) : Rel ρ ⟨h.next + n, h.tab⟩ w := ⟨hr.glob, Nat.le_trans hr.low (by simp), fun b hb => hr.dom b (by simp only at hb; omega), hr.obj, hr.inj, hr.fzok, hr.glok, hr.rofz⟩
theorem Stp.of_reserve {ρ ρ' : Emb G} {h h' : H} {w w' : World} {n : Nat} (s : Stp (fun b => h.next ≤ b) ρ ⟨h.next + n, h.tab⟩ w ρ' h' w') : Stp (fun _ => False) ρ h w ρ' h' w' where
  ext := s.ext
  new := fun b hb e => by
    rcases s.new b (by simp only; omega) e with h1 | h1
    · omega
    · exact .inr h1
  frame := s.frame
  size := s.size
  own := s.own
  next := by have := s.next; simp only at this; omega
  os := s.os
  tape := s.tape
  output := s.output
  fzo := s.fzo
/-- a region -/
theorem sim_regionV (hcs : CallSim G P call) (hmo : ∀ f l, Mono none (call f l)) {id : Nat} {draw : Bool} {ρ : Emb G} {h : H} {w : World} {tm tm' : T PV} {a : Act} {h' : H} (ht : TmR ρ nt tm a.tmps) (hr : Rel ρ h w)
    (e : regionV P call nt ops draw tm h = some (tm', h'))
    (hQ : ∀ ρ' (a' : Act) w', TmR ρ' nt tm' a'.tmps → a'.defers = a.defers → Rel ρ' h' w' → Stp (fun _ => False) ρ h w ρ' h' w' → Q .normal a' w') : (Code.region id ops draw).wp P Q a w := by
  unfold regionV at e
  cases draw with
  | false =>
    simp only [cond_false] at e
    refine wp_region ?_
    have := sim_runT hcs ops.toList 0 (Q := Q) rfl ht (hr.reserve ops.size) (by simp) (fun j _ hj => hr.dom _ (by omega)) e fun ρ' a' w' ht' hd' hr' hst' => hQ ρ' a' w' ht' hd' hr' hst'.of_reserve
    rw [Array.length_toList] at this
    rwa [List.range_eq_range']
  | true =>
    simp only [cond_true] at e
    cases hk : okR P ops (masks ops) (canon P ops.toList (masks ops) ops.size (List.range ops.size)) with
    | false => rw [hk] at e; simp at e
    | true =>
      rw [hk] at e
      simp only [cond_true] at e
      unfold okR at hk
      simp only [Bool.and_eq_true] at hk
      obtain ⟨⟨⟨hm, hmk⟩, hperm⟩, hpk⟩ := hk
      unfold permOk at hperm
      simp only [Bool.and_eq_true, List.all_eq_true] at hperm
      obtain ⟨⟨⟨p1, p2⟩, p3⟩, p4⟩ := hperm
      refine wp_region_any hm ?_
      refine sim_runC hcs hmo hmk ops.size (Nat.eq_of_beq_eq_true p1) (nodupB_iff p2) hpk (by simp) (fun j => ?_) (fun k hk' => ?_) ht ((hr.drew).reserve ops.size) (by simp) (fun j hj => hr.dom _ (by omega)) e fun ρ' a' w' ht' hd' hr' hst' => ?_
      · constructor
        · intro hj
          have hlt : j < ops.size := by simpa [Nat.blt_eq] using p3 j hj
          exact ⟨hlt, by simp [hlt]⟩
        · rintro ⟨hj, _⟩
          exact memB_iff.1 (p4 j (List.mem_range.2 hj))
      · exfalso
        rw [Array.getElem?_replicate] at hk'
        split at hk'
        · cases hk'
        · cases hk'
      · exact hQ ρ' a' w' ht' hd' hr' (Stp.drew hst'.of_reserve)
end
end Go.Pe
