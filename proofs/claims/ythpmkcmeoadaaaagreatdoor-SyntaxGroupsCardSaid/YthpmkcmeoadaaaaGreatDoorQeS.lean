/- Reading, writing and making blocks: the evaluation's step is the world's. -/
import Derived.Test.YthpmkcmeoadaaaaGreatDoorQeR
namespace Go.Pe
open HM
variable {G : T PO}
set_option linter.unusedVariables false
set_option linter.unusedSimpArgs false

section
variable {α β : Type}
theorem bnd_some {m : HM α} {f : α → HM β} {h h2 : H} {b : β} (e : HM.bnd m f h = some (b, h2)) : ∃ a h1, m h = some (a, h1) ∧ f a h1 = some (b, h2) := by
  simp only [HM.bnd] at e
  cases hm : m h with
  | none => rw [hm] at e; simp at e
  | some r => obtain ⟨a, h1⟩ := r; rw [hm] at e; exact ⟨a, h1, rfl, e⟩
theorem ret_some {a b : α} {h h' : H} (e : HM.ret a h = some (b, h')) : a = b ∧ h = h' := by
  simp only [HM.ret, Option.some.injEq, Prod.mk.injEq] at e
  exact e
theorem no_some {b : α} {h h' : H} (e : (HM.no : HM α) h = some (b, h')) : False := by simp [HM.no] at e
theorem ofO_some {x : Option α} {b : α} {h h' : H} (e : HM.ofO x h = some (b, h')) :  x = some b ∧ h = h' := by
  cases x with
  | none => exact (no_some (h := h) e).elim
  | some a => obtain ⟨rfl, rfl⟩ := ret_some e; exact ⟨rfl, rfl⟩
theorem rd_some {b : Nat} {o : PO} {h h' : H} (e : HM.rd b h = some (o, h')) : h.get b = some o ∧ h = h' := by
  simp only [HM.rd] at e
  cases hg : h.get b with
  | none => rw [hg] at e; simp at e
  | some r =>
    rw [hg] at e
    simp only [Option.some.injEq, Prod.mk.injEq] at e
    exact ⟨by rw [e.1], e.2⟩
theorem wr_some {b : Nat} {o : PO} {u : Unit} {h h' : H} (e : HM.wr b o h = some (u, h')) : (∃ x, h.get b = some x) ∧ h.put b o = h' := by
  simp only [HM.wr] at e
  cases hg : h.get b with
  | none => rw [hg] at e; simp at e
  | some r =>
    rw [hg] at e
    injection e with e
    injection e with _ e
    exact ⟨⟨r, rfl⟩, e⟩
theorem kill_some {b : Nat} {u : Unit} {h h' : H} (e : HM.kill b h = some (u, h')) : (∃ x, h.get b = some x) ∧ h.del b = h' := by
  simp only [HM.kill] at e
  cases hg : h.get b with
  | none => rw [hg] at e; simp at e
  | some r =>
    rw [hg] at e
    injection e with e
    injection e with _ e
    exact ⟨⟨r, rfl⟩, e⟩
theorem new_some {b : Nat} {o : PO} {u : Unit} {h h' : H} (e : HM.new b o h = some (u, h')) : h.get b = none ∧ h.put b o = h' := by
  simp only [HM.new] at e
  cases hg : h.get b with
  | some r => rw [hg] at e; simp at e
  | none =>
    rw [hg] at e
    injection e with e
    injection e with _ e
    exact ⟨rfl, e⟩
theorem cond_some {c : Bool} {x y : HM α} {h h' : H} {b : α} (e : (bif c then x else y) h = some (b, h')) : (c = true ∧ x h = some (b, h')) ∨ (c = false ∧ y h = some (b, h')) := by
  cases c
  · exact .inr ⟨rfl, e⟩
  · exact .inl ⟨rfl, e⟩
theorem cond_no {c : Bool} {x : HM α} {h h' : H} {b : α} (e : (bif c then x else HM.no) h = some (b, h')) : c = true ∧ x h = some (b, h') := by
  rcases cond_some e with h | ⟨_, h⟩
  · exact h
  · exact (no_some h).elim
end

section
variable {ρ ρ' : Emb G} {h : H} {w w' : World} {P : Program}
theorem MR.mono (hle : ELe ρ ρ') : ∀ {es : List (PV × PV)} {l : List MapEntry}, MR ρ es l → MR ρ' es l
  | [], _, hm => hm
  | (_, _) :: _, _, ⟨e, l', h1, h2, h3, h4⟩ => ⟨e, l', h1, h2.mono hle, h3.mono hle, MR.mono hle h4⟩
theorem OR.keep {o : PO} {c d m : Nat} (ho : OR ρ w o c d m) (hle : ELe ρ ρ') (hw : w'.heap[c]? = w.heap[c]?) : OR ρ' w' o c d m := by
  cases o with
  | cells cs own =>
    obtain ⟨vs, e, fz, h1, h2, h3⟩ := ho
    refine ⟨vs, e, fz, by rw [hw]; exact h1, fun i x hx => ?_, h3⟩
    obtain ⟨ho, v, hv, hr⟩ := h2 i x hx
    exact ⟨ho, v, hv, hr.mono hle⟩
  | map es =>
    obtain ⟨ents, clock, h1, h2⟩ := ho
    exact ⟨ents, clock, by rw [hw]; exact h1, h2.mono hle⟩
theorem OR.some {o : PO} {c d m : Nat} (ho : OR ρ w o c d m) : c < w.heap.size := by
  have : w.heap[c]? ≠ none := by
    cases o with
    | cells cs own => obtain ⟨vs, e, fz, h1, _⟩ := ho; rw [h1]; simp
    | map es => obtain ⟨ents, clock, h1, _⟩ := ho; rw [h1]; simp
  rcases Nat.lt_or_ge c w.heap.size with hc | hc
  · exact hc
  · exact absurd (Array.getElem?_eq_none hc) this

theorem takeX_get : ∀ {n : Nat} {l r : List PV}, takeX n l = some r → r.length = n ∧ ∀ i, i < n → r[i]? = l[i]?
  | 0, l, r, e => by simp only [takeX, Option.some.injEq] at e; subst e; exact ⟨rfl, fun i hi => by omega⟩
  | n + 1, [], r, e => by simp [takeX] at e
  | n + 1, x :: xs, r, e => by
    simp only [takeX] at e
    cases h1 : takeX n xs with
    | none => rw [h1] at e; simp at e
    | some q =>
      rw [h1] at e
      simp only [Option.some.injEq] at e
      subst e
      obtain ⟨a, b⟩ := takeX_get h1
      refine ⟨by simp [a], fun i hi => ?_⟩
      cases i with
      | zero => rfl
      | succ i => simpa using b i (by omega)
/-- cells that are read -/
theorem sim_rdCells {b o n : Nat} {l : List PV} {h' : H} (hr : Rel ρ h w) (e : rdCells b o n h = some (l, h')) :
    h' = h ∧ l.length = n ∧ l.all PV.one = true ∧ ∃ c d m us, ρ b = some (c, d, m) ∧ VRs ρ l us ∧ (∀ (j : Nat) v, us[j]? = some v → w.cell? ((⟨c, d + o, none⟩ : Addr).add j) = some v) := by
  unfold rdCells at e
  simp only [HM.bnd, HM.rd] at e
  cases hg : h.get b with
  | none => rw [hg] at e; simp at e
  | some ob =>
    rw [hg] at e
    cases ob with
    | map es => simp [HM.no] at e
    | cells cs own =>
      simp only at e
      cases ht : takeX n (cs.drop o) with
      | none => rw [ht] at e; simp [HM.ofO, HM.no] at e
      | some r =>
        rw [ht] at e
        simp only [HM.ofO, HM.ret, Option.some.injEq, Prod.mk.injEq] at e
        obtain ⟨rfl, rfl⟩ := e
        obtain ⟨hlen, hget⟩ := takeX_get ht
        obtain ⟨c, d, m, hρ, vs, et, fz, hh, hc, _⟩ := hr.obj b _ hg
        have hx : ∀ (i : Nat) x, r[i]? = some x → x.one = true ∧ ∃ v, vs[d + o + i]? = some v ∧ VR ρ x v := fun i x hx => by
          have hi : i < n := by
            rw [← hlen]
            rcases Nat.lt_or_ge i r.length with h1 | h1
            · exact h1
            · rw [List.getElem?_eq_none h1] at hx; simp at hx
          rw [hget i hi, List.getElem?_drop] at hx
          have := hc (o + i) x hx
          rwa [show d + (o + i) = d + o + i by omega] at this
        refine ⟨rfl, hlen, ?_, c, d, m, (List.range n).map (fun i => vs.getD (d + o + i) undef), hρ, ?_, ?_⟩
        · rw [List.all_eq_true]
          intro x hxm
          obtain ⟨i, hi⟩ := List.getElem?_of_mem hxm
          exact (hx i x hi).1
        · refine VRs.of_get (by simp [hlen]) fun i x v hxi hv => ?_
          obtain ⟨_, u, hu, hvr⟩ := hx i x hxi
          have hi : i < n := by
            rcases Nat.lt_or_ge i n with h1 | h1
            · exact h1
            · rw [List.getElem?_eq_none (by simpa using h1)] at hv; simp at hv
          simp only [List.getElem?_map, List.getElem?_range hi, Option.map_some, Option.some.injEq] at hv
          rw [← hv]
          simp only [Array.getD_eq_getD_getElem?, hu, Option.getD_some]
          exact hvr
        · intro j v hv
          have hj : j < n := by
            rcases Nat.lt_or_ge j n with h1 | h1
            · exact h1
            · rw [List.getElem?_eq_none (by simpa using h1)] at hv; simp at hv
          simp only [List.getElem?_map, List.getElem?_range hj, Option.map_some, Option.some.injEq] at hv
          obtain ⟨x, hxj⟩ : ∃ x, r[j]? = some x := ⟨_, List.getElem?_eq_getElem (by omega)⟩
          obtain ⟨_, u, hu, _⟩ := hx j x hxj
          simp only [Array.getD_eq_getD_getElem?, hu, Option.getD_some] at hv
          subst hv
          have hadd : (⟨c, d + o, none⟩ : Addr).add j = ⟨c, d + o + j, none⟩ := by unfold Addr.add; split <;> simp_all
          rw [hadd]
          simp only [World.cell?, hh, Option.isSome_none, Bool.false_eq_true, if_false]
          exact hu

theorem overlay_get : ∀ {vs c r : List PV}, overlay vs c = some r → r.length = c.length ∧ vs.length ≤ c.length ∧ ∀ (i : Nat), r[i]? = if i < vs.length then vs[i]? else c[i]?
  | [], c, r, e => by simp only [overlay, Option.some.injEq] at e; subst e; exact ⟨rfl, by simp, fun i => by simp⟩
  | v :: vs, [], r, e => by simp [overlay] at e
  | v :: vs, x :: c, r, e => by
    simp only [overlay] at e
    cases h1 : overlay vs c with
    | none => rw [h1] at e; simp at e
    | some q =>
      rw [h1] at e
      simp only [Option.some.injEq] at e
      subst e
      obtain ⟨a, b, g⟩ := overlay_get h1
      refine ⟨by simp [a], by simpa using b, fun i => ?_⟩
      cases i with
      | zero => simp
      | succ i => simpa using g i
theorem putL_get {vs : List PV} : ∀ {o : Nat} {c r : List PV}, putL vs o c = some r → r.length = c.length ∧ o + vs.length ≤ c.length ∧ ∀ (i : Nat), r[i]? = if o ≤ i ∧ i < o + vs.length then vs[i - o]? else c[i]?
  | 0, c, r, e => by
    have e' : overlay vs c = some r := by cases c <;> exact e
    obtain ⟨a, b, g⟩ := overlay_get e'
    refine ⟨a, by omega, fun i => ?_⟩
    rw [g i]; simp
  | o + 1, [], r, e => by simp [putL] at e
  | o + 1, x :: c, r, e => by
    simp only [putL] at e
    cases h1 : putL vs o c with
    | none => rw [h1] at e; simp at e
    | some q =>
      rw [h1] at e
      simp only [Option.some.injEq] at e
      subst e
      obtain ⟨a, b, g⟩ := putL_get h1
      refine ⟨by simp [a], by simp; omega, fun i => ?_⟩
      cases i with
      | zero => rw [if_neg (by omega)]; rfl
      | succ i =>
        simp only [List.getElem?_cons_succ]
        rw [g i]
        by_cases hc : o ≤ i ∧ i < o + vs.length
        · rw [if_pos hc, if_pos (by omega), show i + 1 - (o + 1) = i - o by omega]
        · rw [if_neg hc, if_neg (by omega)]

theorem heap_setCell_same (w : World) (c i : Nat) (v : Value) {vs : Array Value} {e : TypeId} {fz : Nat × Nat} (hh : w.heap[c]? = some (.cells vs e fz)) :
    (w.setCell ⟨c, i, none⟩ v).heap[c]? = some (.cells (vs.setIfInBounds i v) e fz) := by
  simp [World.setCell, Array.getElem?_modify, hh]
theorem heap_setCell_other (w : World) (c c' i : Nat) (v : Value) (hne : c' ≠ c) : (w.setCell ⟨c, i, none⟩ v).heap[c']? = w.heap[c']? := by
  simp [World.setCell, Array.getElem?_modify, Ne.symm hne]
theorem setCells_heap (c : Nat) : ∀ (us : List Value) (o : Nat) (w : World) {vs : Array Value} {e : TypeId} {fz : Nat × Nat}, w.heap[c]? = some (.cells vs e fz) → o + us.length ≤ vs.size →
    ∃ vs', (w.setCells c o us).heap[c]? = some (.cells vs' e fz) ∧ vs'.size = vs.size ∧ (∀ (i : Nat), vs'[i]? = if o ≤ i ∧ i < o + us.length then us[i - o]? else vs[i]?) ∧
      (∀ c', c' ≠ c → (w.setCells c o us).heap[c']? = w.heap[c']?) ∧ (w.setCells c o us).heap.size = w.heap.size ∧ (w.setCells c o us).os = w.os ∧ (w.setCells c o us).tape = w.tape ∧ (w.setCells c o us).output = w.output
  | [], o, w, vs, e, fz, hh, _ => ⟨vs, hh, rfl, fun i => by rw [if_neg (by simp)], fun _ _ => rfl, rfl, rfl, rfl, rfl⟩
  | u :: us, o, w, vs, e, fz, hh, hsz => by
    have h1 := heap_setCell_same w c o u hh
    obtain ⟨vs', g1, g2, g3, g4, g5, g6, g7, g8⟩ := setCells_heap c us (o + 1) (w.setCell ⟨c, o, none⟩ u) h1 (by simp at hsz ⊢; omega)
    refine ⟨vs', g1, by simpa using g2, fun i => ?_, fun c' hc' => by rw [World.setCells, g4 c' hc']; exact heap_setCell_other w c c' o u hc', ?_, ?_, ?_, ?_⟩
    · rw [g3 i]
      simp only [List.length_cons]
      by_cases hi : i = o
      · subst hi
        rw [if_neg (by omega), if_pos (by omega)]
        simp only [List.length_cons] at hsz
        simp [show i < vs.size by omega]
      · by_cases hc : o + 1 ≤ i ∧ i < o + 1 + us.length
        · rw [if_pos hc, if_pos (by omega), show i - o = (i - (o + 1)) + 1 by omega, List.getElem?_cons_succ]
        · rw [if_neg hc, if_neg (by omega), Array.getElem?_setIfInBounds_ne (by omega)]
    · rw [World.setCells, g5]; simp [World.setCell]
    · rw [World.setCells, g6]; rfl
    · rw [World.setCells, g7]; rfl
    · rw [World.setCells, g8]; rfl

theorem Rel.own_c {b : Nat} {o : PO} {c d m : Nat} (hb : h.get b = some o) (ho : o.own = true) (hρ : ρ b = some (c, d, m)) : OwnR ρ h c := ⟨b, o, d, m, hb, ho, hρ⟩

/-- a block of the evaluation's own is written -/
theorem Rel.upd (hr : Rel ρ h w) {b c d m : Nat} {ob ob' : PO} (hb : h.get b = some ob) (hown : ob.own = true) (hown' : ob'.own = true) (hρ : ρ b = some (c, d, m))
    (hoth : ∀ c', c' ≠ c → w'.heap[c']? = w.heap[c']?) (hsz : w'.heap.size = w.heap.size) (hor : OR ρ w' ob' c d m)
    (hos : w'.os = w.os) (htp : w'.tape = w.tape) (hout : w'.output = w.output) (may : Nat → Prop) :
    Rel ρ (h.put b ob') w' ∧ Stp may ρ h w ρ (h.put b ob') w' := by
  have hgp : ∀ j, (h.put b ob').get j = if j = b then some ob' else h.get j := fun j => H.get_put h b ob' j
  have hown2 : ∀ c1, OwnR ρ (h.put b ob') c1 → OwnR ρ h c1 := fun c1 ⟨x, ox, d1, m1, hx, ho, h1⟩ => by
    rw [hgp] at hx
    by_cases hxb : x = b
    · subst hxb; exact ⟨x, ob, d1, m1, hb, hown, h1⟩
    · rw [if_neg hxb] at hx; exact ⟨x, ox, d1, m1, hx, ho, h1⟩
  refine ⟨⟨hr.glob, hr.low, hr.dom, fun j o hj => ?_, fun j j' o o' c1 d1 m1 d2 m2 hj ho hj' h1 h2 => ?_, fun c1 vs hc1 => ?_, hr.glok, fun x cs c1 d1 m1 hx h1 => ?_⟩, ⟨ELe.refl _, fun _ _ e => .inr e, fun c1 hc1 hn => hoth c1 fun e => hn (by rw [e]; exact ⟨b, ob, d, m, hb, hown, hρ⟩), Nat.le_of_eq hsz.symm, fun c1 hc1 => ?_, Nat.le_refl _, hos, htp, hout, fun _ _ h => .inl h⟩⟩
  · rw [hgp] at hj
    by_cases hjb : j = b
    · rw [if_pos hjb] at hj
      simp only [Option.some.injEq] at hj
      subst hj; subst hjb
      exact ⟨c, d, m, hρ, hor⟩
    · rw [if_neg hjb] at hj
      obtain ⟨c1, d1, m1, h1, h2⟩ := hr.obj j o hj
      refine ⟨c1, d1, m1, h1, h2.keep (ELe.refl _) (hoth c1 fun e => ?_)⟩
      subst e
      exact hjb (hr.inj b j ob o c1 d m d1 m1 hb hown hj hρ h1).symm
  · have old : ∀ {x : Nat} {ox : PO}, (h.put b ob').get x = some ox → ∃ oy, h.get x = some oy ∧ (ox.own = true → oy.own = true) := fun {x ox} hx => by
      rw [hgp] at hx
      by_cases hxb : x = b
      · subst hxb; exact ⟨ob, hb, fun _ => hown⟩
      · rw [if_neg hxb] at hx; exact ⟨ox, hx, fun e => e⟩
    obtain ⟨oy, hy, hyo⟩ := old hj
    obtain ⟨oy', hy', _⟩ := old hj'
    exact hr.inj j j' oy oy' c1 d1 m1 d2 m2 hy (hyo ho) hy' h1 h2
  · obtain ⟨⟨e, z, h1⟩, h2⟩ := hr.fzok c1 vs hc1
    refine ⟨⟨e, z, ?_⟩, fun ho => h2 (hown2 c1 ho)⟩
    rw [hoth c1 fun e => h2 (by rw [e]; exact ⟨b, ob, d, m, hb, hown, hρ⟩)]; exact h1
  · rw [hgp] at hx
    by_cases hxb : x = b
    · rw [if_pos hxb] at hx
      simp only [Option.some.injEq] at hx
      subst hx
      cases hown'
    · rw [if_neg hxb] at hx
      exact hr.rofz x cs c1 d1 m1 hx h1
  · obtain ⟨x, ox, d1, m1, hx, ho, h1⟩ := hc1
    rw [hgp] at hx
    by_cases hxb : x = b
    · subst hxb; exact .inr ⟨x, ob, d1, m1, hb, hown, h1⟩
    · rw [if_neg hxb] at hx; exact .inr ⟨x, ox, d1, m1, hx, ho, h1⟩

/-- cells that are written -/
theorem sim_wrCells {b o : Nat} {l : List PV} {h' : H} {r : Unit} {us : List Value} (hr : Rel ρ h w) (e : wrCells b o l h = some (r, h')) (hl : VRs ρ l us) (may : Nat → Prop) :
    ∃ c d m, ρ b = some (c, d, m) ∧ (storeCells ⟨c, d + o, none⟩ us).run P w = .ok () (w.setCells c (d + o) us) ∧ Rel ρ h' (w.setCells c (d + o) us) ∧ Stp may ρ h w ρ h' (w.setCells c (d + o) us) := by
  unfold wrCells at e
  obtain ⟨ob, _, e1, e2⟩ := bnd_some e
  obtain ⟨hg, rfl⟩ := rd_some e1
  cases ob with
  | map es => exact (no_some e2).elim
  | cells cs own =>
      cases own with
      | false => exact (no_some e2).elim
      | true =>
            obtain ⟨h1, e3⟩ := cond_no e2
            obtain ⟨cs', _, e4, e5⟩ := bnd_some e3
            obtain ⟨hp, rfl⟩ := ofO_some e4
            obtain ⟨_, rfl⟩ := wr_some e5
            obtain ⟨hlen, hfit, hget⟩ := putL_get hp
            obtain ⟨c, d, m, hρ, vs, et, fz, hh, hc, hw⟩ := hr.obj b _ hg
            obtain ⟨w1, w2, w3⟩ := hw rfl
            have hul := hl.length
            obtain ⟨vs', g1, g2, g3, g4, g5, g6, g7, g8⟩ := setCells_heap c us (d + o) w hh (by omega)
            have hone : ∀ v ∈ us, v.oneCell' = true := fun v hv => by
              obtain ⟨i, hi⟩ := List.getElem?_of_mem hv
              have hil : i < us.length := by
                rcases Nat.lt_or_ge i us.length with h1 | h1
                · exact h1
                · rw [List.getElem?_eq_none h1] at hi; simp at hi
              obtain ⟨x, hx⟩ : ∃ x, l[i]? = some x := ⟨_, List.getElem?_eq_getElem (by omega)⟩
              obtain ⟨v', hv', hr'⟩ := hl.get hx
              rw [hi] at hv'
              simp only [Option.some.injEq] at hv'
              subst hv'
              exact hr'.oneCell (List.all_eq_true.1 h1 x (List.mem_of_getElem? hx))
            have hrun := run_storeCells_cells (P := P) c (d + o) us 0 w (fun j hj => by
                simp only [World.cell?, hh, Option.isSome_none, Bool.false_eq_true, if_false]
                rw [Array.getElem?_eq_getElem (by omega)]; rfl) (fun j hj => by
                simp only [World.frozen?, hh]
                have := w3 (d + o + j) (by omega) (by omega)
                simp only [Nat.add_zero]
                by_cases h1 : fz.1 ≤ d + o + j
                · have : ¬ d + o + j < fz.2 := fun h2 => this ⟨h1, h2⟩
                  simp [this]
                · simp [h1]) hone
            have hup := hr.upd (w' := w.setCells c (d + o) us) (ob' := .cells cs' true) hg rfl rfl hρ g4 g5 ⟨vs', et, fz, g1, fun i x hx => ?_, fun _ => ⟨by omega, by omega, w3⟩⟩ g6 g7 g8 may
            · exact ⟨c, d, m, hρ, hrun, hup.1, hup.2⟩
            · rw [hget i] at hx
              rw [g3 (d + i)]
              by_cases hi : o ≤ i ∧ i < o + l.length
              · rw [if_pos hi] at hx
                rw [if_pos (by omega), show d + i - (d + o) = i - o by omega]
                obtain ⟨v, hv, hvr⟩ := hl.get hx
                exact ⟨List.all_eq_true.1 h1 x (List.mem_of_getElem? hx), v, hv, hvr⟩
              · rw [if_neg hi] at hx
                rw [if_neg (by omega)]
                exact hc i x hx

/-- the embedding, one block more -/
def Emb.add (ρ : Emb G) (id : Nat) (x : Nat × Nat × Nat) : Emb G := { ρ with at_ := fun b => if b = id then some x else ρ b }
theorem Emb.le_add {id : Nat} {x : Nat × Nat × Nat} (h : ρ id = none) : ELe ρ (ρ.add id x) := ⟨fun b y hb => by
  unfold Emb.add
  by_cases e : b = id
  · rw [e, h] at hb; simp at hb
  · simp only [if_neg e]; exact hb, fun _ _ h => h⟩
theorem Rel.fz_lt (hr : Rel ρ h w) {c : Nat} {vs : Array Value} (hc : ρ.fz c = some vs) : c < w.heap.size := by
  obtain ⟨⟨e, z, h1⟩, _⟩ := hr.fzok c vs hc
  rcases Nat.lt_or_ge c w.heap.size with h | h
  · exact h
  · rw [Array.getElem?_eq_none h] at h1; simp at h1
/-- a new block -/
theorem Rel.fresh (hr : Rel ρ h w) {id : Nat} (hid : id < h.next) (hρ : ρ id = none) (hg : h.get id = none) (ob : PO) (obj : Obj) (m : Nat)
    (hor : ∀ ρ', ELe ρ ρ' → OR ρ' (w.alloc obj) ob w.heap.size 0 m) (hob : ob.own = true := by rfl) :
    Rel (ρ.add id (w.heap.size, 0, m)) (h.put id ob) (w.alloc obj) ∧ Stp (fun b => b = id) ρ h w (ρ.add id (w.heap.size, 0, m)) (h.put id ob) (w.alloc obj) := by
  have hle := Emb.le_add (x := (w.heap.size, 0, m)) hρ
  have hgp : ∀ j, (h.put id ob).get j = if j = id then some ob else h.get j := fun j => H.get_put h id ob j
  have hnew : (ρ.add id (w.heap.size, 0, m)) id = some (w.heap.size, 0, m) := by simp [Emb.add]
  have hold : ∀ {b}, b ≠ id → (ρ.add id (w.heap.size, 0, m)) b = ρ b := fun hb => by simp [Emb.add, hb]
  have heap_old : ∀ c, c < w.heap.size → (w.alloc obj).heap[c]? = w.heap[c]? := fun c hc => by
    show (w.heap.push obj)[c]? = _
    rw [Array.getElem?_push_lt hc, Array.getElem?_eq_getElem hc]
  refine ⟨⟨fun g hg' => (hr.glob g hg').imp fun m h => hle _ _ h, hr.low, fun b hb => ?_, fun b o hb => ?_, fun b b' o o' c d1 m1 d2 m2 hb ho hb' h1 h2 => ?_, fun c vs hc => ?_, hr.glok, fun x cs c1 d1 m1 hx h1 => ?_⟩,
    ⟨hle, fun b _ e => ?_, fun c hc _ => heap_old c hc, by show _ ≤ (w.heap.push obj).size; simp, fun c hc => ?_, Nat.le_refl _, rfl, rfl, rfl, fun _ _ h => .inl h⟩⟩
  · have : b ≠ id := fun e => by
      have : h.next ≤ b := hb
      omega
    rw [hold this]; exact hr.dom b hb
  · rw [hgp] at hb
    by_cases e : b = id
    · rw [if_pos e] at hb
      simp only [Option.some.injEq] at hb
      subst hb; subst e
      exact ⟨_, _, _, hnew, hor _ hle⟩
    · rw [if_neg e] at hb
      obtain ⟨c, d, m', h1, h2⟩ := hr.obj b o hb
      exact ⟨c, d, m', by rw [hold e]; exact h1, h2.keep hle (heap_old c h2.some)⟩
  · have lt_of : ∀ {x : Nat} {ox : PO} {d m : Nat}, x ≠ id → (h.put id ob).get x = some ox → (ρ.add id (w.heap.size, 0, m)) x = some (c, d, m) → c < w.heap.size := fun {x ox d m'} hx hgx hρx => by
      rw [hgp, if_neg hx] at hgx
      obtain ⟨c', d', m'', h1, h2⟩ := hr.obj x ox hgx
      rw [show (ρ.add id (w.heap.size, 0, m')) x = ρ x from by simp [Emb.add, hx], h1] at hρx
      simp only [Option.some.injEq, Prod.mk.injEq] at hρx
      rw [← hρx.1]
      exact h2.some
    by_cases e : b = id <;> by_cases e' : b' = id
    · rw [e, e']
    · subst e
      rw [hnew] at h1
      simp only [Option.some.injEq, Prod.mk.injEq] at h1
      rw [hgp, if_neg e'] at hb'
      obtain ⟨c', d', m'', h3, h4⟩ := hr.obj b' o' hb'
      rw [hold e', h3] at h2
      simp only [Option.some.injEq, Prod.mk.injEq] at h2
      have := h4.some
      omega
    · subst e'
      rw [hnew] at h2
      simp only [Option.some.injEq, Prod.mk.injEq] at h2
      rw [hgp, if_neg e] at hb
      obtain ⟨c', d', m'', h3, h4⟩ := hr.obj b o hb
      rw [hold e, h3] at h1
      simp only [Option.some.injEq, Prod.mk.injEq] at h1
      have := h4.some
      omega
    · rw [hgp, if_neg e] at hb
      rw [hgp, if_neg e'] at hb'
      rw [hold e] at h1
      rw [hold e'] at h2
      exact hr.inj b b' o o' c d1 m1 d2 m2 hb ho hb' h1 h2
  · obtain ⟨⟨e, z, h1⟩, h2⟩ := hr.fzok c vs hc
    have hlt := hr.fz_lt hc
    refine ⟨⟨e, z, by rw [heap_old c hlt]; exact h1⟩, fun ⟨x, ox, d1, m1, hx, ho, hρx⟩ => ?_⟩
    by_cases hxi : x = id
    · subst hxi
      rw [hnew] at hρx
      simp only [Option.some.injEq, Prod.mk.injEq] at hρx
      omega
    · rw [hgp, if_neg hxi] at hx
      rw [hold hxi] at hρx
      exact h2 ⟨x, ox, d1, m1, hx, ho, hρx⟩
  · rw [hgp] at hx
    by_cases hxi : x = id
    · rw [if_pos hxi] at hx
      simp only [Option.some.injEq] at hx
      subst hx
      cases hob
    · rw [if_neg hxi] at hx
      rw [hold hxi] at h1
      exact hr.rofz x cs c1 d1 m1 hx h1
  · by_cases hb : b = id
    · exact .inl hb
    · right; rw [hold hb]; exact e
  · obtain ⟨b, o, d, m', hb, ho, h1⟩ := hc
    by_cases e : b = id
    · subst e
      rw [hnew] at h1
      simp only [Option.some.injEq, Prod.mk.injEq] at h1
      exact .inl (by omega)
    · rw [hgp, if_neg e] at hb
      rw [hold e] at h1
      exact .inr ⟨b, o, d, m', hb, ho, h1⟩
/-- a new row of cells -/
theorem Rel.freshCells (hr : Rel ρ h w) {id : Nat} (hid : id < h.next) (hρ : ρ id = none) (hg : h.get id = none) {l : List PV} {us : List Value} (hl : VRs ρ l us) (h1 : l.all PV.one = true)
    (vs : Array Value) (t : TypeId) (m : Nat) (hm : l.length ≤ m) (hm' : m ≤ vs.size) (hvs : ∀ (i : Nat) v, us[i]? = some v → vs[i]? = some v) (own : Bool) (fz : Nat × Nat) (hfz : ∀ j, j < m → ¬ (fz.1 ≤ j ∧ j < fz.2)) (ho : own = true := by rfl) :
    Rel (ρ.add id (w.heap.size, 0, m)) (h.put id (.cells l own)) (w.alloc (.cells vs t fz)) ∧ Stp (fun b => b = id) ρ h w (ρ.add id (w.heap.size, 0, m)) (h.put id (.cells l own)) (w.alloc (.cells vs t fz)) := by
  refine hr.fresh hid hρ hg _ _ m (fun ρ' hle => ⟨vs, t, fz, ?_, fun i x hx => ?_, fun _ => ⟨by omega, hm', fun j _ hj => hfz j hj⟩⟩) ?_
  · show (w.heap.push _)[w.heap.size]? = _
    rw [Array.getElem?_push_size]
  · obtain ⟨v, hv, hvr⟩ := hl.get hx
    refine ⟨List.all_eq_true.1 h1 x (List.mem_of_getElem? hx), v, ?_, hvr.mono hle⟩
    rw [Nat.zero_add]
    exact hvs i v hv
  · exact ho
end
end Go.Pe
