/- Appending, copying, converting: the evaluation's step is the world's. -/
import Derived.Test.YthpmkcmeoadaaaaGreatDoorQeY
namespace Go.Pe
open HM
variable {G : T PO}
set_option linter.unusedVariables false
set_option linter.unusedSimpArgs false

section
variable {ρ ρ' : Emb G} {P : Program} {h : H} {w w' : World}
theorem Rel.drew (hr : Rel ρ h w) : Rel ρ h w.drew := ⟨hr.glob, hr.low, hr.dom, fun b o hb => by
  obtain ⟨c, d, m, h1, h2⟩ := hr.obj b o hb
  exact ⟨c, d, m, h1, h2.keep (ELe.refl _) rfl⟩, hr.inj, hr.fzok, hr.glok, hr.rofz⟩
theorem Stp.drew {may : Nat → Prop} {h' : H} (s : Stp may ρ h w.drew ρ' h' w') : Stp may ρ h w ρ' h' w' :=
  ⟨s.ext, s.new, s.frame, s.size, s.own, s.next, s.os, s.tape, s.output, s.fzo⟩
/-- a block is given up -/
theorem Rel.del (hr : Rel ρ h w) (b : Nat) (may : Nat → Prop) : Rel ρ (h.del b) w ∧ Stp may ρ h w ρ (h.del b) w := by
  have old : ∀ {x : Nat} {ox : PO}, (h.del b).get x = some ox → h.get x = some ox := fun {x ox} hx => by
    rw [H.get_del] at hx
    split at hx
    · simp at hx
    · exact hx
  exact ⟨⟨hr.glob, hr.low, hr.dom, fun x o hx => hr.obj x o (old hx), fun x x' o o' c d m d' m' h1 h2 h3 h4 h5 => hr.inj x x' o o' c d m d' m' (old h1) h2 (old h3) h4 h5,
    fun c vs hc => ⟨(hr.fzok c vs hc).1, fun ⟨x, o, d, m, h1, h2, h3⟩ => (hr.fzok c vs hc).2 ⟨x, o, d, m, old h1, h2, h3⟩⟩, hr.glok, fun x cs c d m hx h1 => hr.rofz x cs c d m (old hx) h1⟩,
    ⟨ELe.refl _, fun _ _ e => .inr e, fun _ _ _ => rfl, Nat.le_refl _, fun c ⟨x, o, d, m, h1, h2, h3⟩ => .inr ⟨x, o, d, m, old h1, h2, h3⟩, Nat.le_refl _, rfl, rfl, rfl, fun _ _ h => .inl h⟩⟩
/-- a block takes another's place -/
theorem Rel.move (hr : Rel ρ h w) {b id c d m d' m' : Nat} {ob ob' : PO} (hb : h.get b = some ob) (hown : ob.own = true) (hρb : ρ b = some (c, d, m)) (hid : id < h.next) (hρ : ρ id = none)
    (hg : h.get id = none) (hoth : ∀ c', c' ≠ c → w'.heap[c']? = w.heap[c']?) (hsz : w'.heap.size = w.heap.size) (hor : ∀ ρ', ELe ρ ρ' → OR ρ' w' ob' c d' m')
    (hos : w'.os = w.os) (htp : w'.tape = w.tape) (hout : w'.output = w.output) (hob : ob'.own = true := by rfl) :
    Rel (ρ.add id (c, d', m')) ((h.del b).put id ob') w' ∧ Stp (fun x => x = id) ρ h w (ρ.add id (c, d', m')) ((h.del b).put id ob') w' := by
  have hle := Emb.le_add (x := (c, d', m')) hρ
  have hne : b ≠ id := fun e => by rw [e, hg] at hb; simp at hb
  have hgp : ∀ j, ((h.del b).put id ob').get j = if j = id then some ob' else if j = b then none else h.get j := fun j => by rw [H.get_put, H.get_del]
  have hnew : (ρ.add id (c, d', m')) id = some (c, d', m') := by simp [Emb.add]
  have hold : ∀ {b}, b ≠ id → (ρ.add id (c, d', m')) b = ρ b := fun hb => by simp [Emb.add, hb]
  have old : ∀ {x : Nat} {ox : PO}, x ≠ id → ((h.del b).put id ob').get x = some ox → x ≠ b ∧ h.get x = some ox := fun {x ox} hx hgx => by
    rw [hgp, if_neg hx] at hgx
    split at hgx
    · simp at hgx
    · rename_i hxb; exact ⟨hxb, hgx⟩
  have nc : ∀ {x : Nat} {ox : PO} {d1 m1 : Nat}, x ≠ id → ((h.del b).put id ob').get x = some ox → ρ x = some (c, d1, m1) → False := fun {x ox d1 m1} hx hgx hρx => by
    obtain ⟨hxb, hgx'⟩ := old hx hgx
    exact hxb (hr.inj b x ob ox c d m d1 m1 hb hown hgx' hρb hρx).symm
  refine ⟨⟨fun g hg' => (hr.glob g hg').imp fun m h => hle _ _ h, hr.low, fun x hx => ?_, fun x o hx => ?_, fun x x' o o' c1 d1 m1 d2 m2 hx ho hx' h1 h2 => ?_, fun c1 vs hc1 => ?_, hr.glok, fun x cs c1 d1 m1 hx h1 => ?_⟩,
    ⟨hle, fun x _ e => ?_, fun c1 hc1 hn => hoth c1 fun e => hn (by rw [e]; exact ⟨b, ob, d, m, hb, hown, hρb⟩), Nat.le_of_eq hsz.symm, fun c1 hc1 => ?_, Nat.le_refl _, hos, htp, hout, fun _ _ h => .inl h⟩⟩
  · have hxi : x ≠ id := fun e => by
      have : h.next ≤ x := hx
      omega
    rw [hold hxi]; exact hr.dom x hx
  · by_cases e : x = id
    · subst e
      rw [hgp, if_pos rfl] at hx
      simp only [Option.some.injEq] at hx
      subst hx
      exact ⟨_, _, _, hnew, hor _ hle⟩
    · obtain ⟨hxb, hx'⟩ := old e hx
      obtain ⟨c1, d1, m1, h1, h2⟩ := hr.obj x o hx'
      refine ⟨c1, d1, m1, by rw [hold e]; exact h1, h2.keep hle (hoth c1 fun ec => ?_)⟩
      subst ec
      exact nc e hx h1
  · by_cases e : x = id <;> by_cases e' : x' = id
    · rw [e, e']
    · subst e
      rw [hnew] at h1
      simp only [Option.some.injEq, Prod.mk.injEq] at h1
      rw [hold e'] at h2
      obtain ⟨rfl, _⟩ := h1
      exact (nc e' hx' h2).elim
    · subst e'
      rw [hnew] at h2
      simp only [Option.some.injEq, Prod.mk.injEq] at h2
      rw [hold e] at h1
      obtain ⟨rfl, _⟩ := h2
      exact (nc e hx h1).elim
    · rw [hold e] at h1
      rw [hold e'] at h2
      exact hr.inj x x' o o' c1 d1 m1 d2 m2 (old e hx).2 ho (old e' hx').2 h1 h2
  · obtain ⟨⟨et, z, h1⟩, h2⟩ := hr.fzok c1 vs hc1
    refine ⟨⟨et, z, ?_⟩, fun ⟨x, ox, d1, m1, hx, ho, h3⟩ => h2 ?_⟩
    · rw [hoth c1 fun ec => h2 (by rw [ec]; exact ⟨b, ob, d, m, hb, hown, hρb⟩)]; exact h1
    · by_cases e : x = id
      · subst e
        rw [hnew] at h3
        simp only [Option.some.injEq, Prod.mk.injEq] at h3
        rw [← h3.1]
        exact ⟨b, ob, d, m, hb, hown, hρb⟩
      · rw [hold e] at h3
        exact ⟨x, ox, d1, m1, (old e hx).2, ho, h3⟩
  · by_cases e : x = id
    · subst e
      rw [hgp, if_pos rfl] at hx
      simp only [Option.some.injEq] at hx
      subst hx
      cases hob
    · rw [hold e] at h1
      exact hr.rofz x cs c1 d1 m1 (old e hx).2 h1
  · by_cases hxi : x = id
    · exact .inl hxi
    · right; rw [hold hxi]; exact e
  · obtain ⟨x, o, d1, m1, hx, ho, h1⟩ := hc1
    by_cases e : x = id
    · subst e
      rw [hnew] at h1
      simp only [Option.some.injEq, Prod.mk.injEq] at h1
      rw [← h1.1]
      exact .inr ⟨b, ob, d, m, hb, hown, hρb⟩
    · rw [hold e] at h1
      exact .inr ⟨x, o, d1, m1, (old e hx).2, ho, h1⟩

/-- append, where a new row is made -/
theorem run_append_new {t tx ty e : TypeId} {i : TypeInfo} {z : Value} {dx : TypeDesc} (ht : P.underlying t = some (.slice e)) (htx : P.underlying tx = some dx) (hdx : ∀ k, dx ≠ .int k) (hi : P.info? e = some i) (hz : i.zero = some z)
    {base : Option Addr} {sLen sCap n : Nat} {x : Value} {olds news : Array Value} (hlen : (Builtin.lenOf x).run P w = .ok n w) (holds : (Builtin.firstCells i.size sLen (.slice base sLen sCap)).run P w.drew = .ok olds w.drew)
    (hnews : (Builtin.firstCells i.size n x).run P w.drew = .ok news w.drew)
    (hg : sCap < sLen + n) (h63 : ((sLen + n : Nat) : Int) ≤ 9223372036854775807) (hfit : Builtin.nextslicecap (sLen + n) sCap * i.bytes ≤ 281474976710656) :
    (Builtin.append_ #[t, tx] ty #[.slice base sLen sCap, x]).run P w =
      .ok (.slice (some ⟨w.heap.size, 0, none⟩) (sLen + n) (grownCap w (sLen + n) sCap e))
        (w.drew.alloc (.cells (olds ++ news ++ Builtin.zeroCells z.cells (grownCap w (sLen + n) sCap e - (sLen + n))) e)) := by
  have hn : ¬ (sLen + n ≤ sCap) := by omega
  have h63' : ¬ (9223372036854775807 < ((sLen : Int) + (n : Int))) := by omega
  have h48' : ¬ (281474976710656 < Builtin.nextslicecap (sLen + n) sCap * i.bytes) := by omega
  have hzeros' : (match dx with | .int _ => true | _ => false) = false := by cases dx <;> first | rfl | exact absurd rfl (hdx _)
  simp [Builtin.append_, run_underlying ht, run_underlying htx, hzeros', sizeOf, typeInfo, zeroValue, hi, hz, hlen, hn, h63', h48', Question.forced, hnews, holds, newRow, grownCap]
/-- append, where there is room -/
theorem run_append_in {t tx ty e : TypeId} {i : TypeInfo} {dx : TypeDesc} (ht : P.underlying t = some (.slice e)) (htx : P.underlying tx = some dx) (hdx : ∀ k, dx ≠ .int k) (hi : P.info? e = some i)
    {base : Option Addr} {sLen sCap n : Nat} {x : Value} {news : Array Value} (hlen : (Builtin.lenOf x).run P w = .ok n w) (hnews : (Builtin.firstCells i.size n x).run P w = .ok news w) (hg : sLen + n ≤ sCap)
    (hst : ∀ a, base = some a → (storeCells (a.add (sLen * i.size)) news.toList).run P w = .ok () w') (hno : base = none → w' = w) :
    (Builtin.append_ #[t, tx] ty #[.slice base sLen sCap, x]).run P w = .ok (.slice base (sLen + n) sCap) w' := by
  have hzeros' : (match dx with | .int _ => true | _ => false) = false := by cases dx <;> first | rfl | exact absurd rfl (hdx _)
  cases base with
  | none =>
    rw [hno rfl]
    simp [Builtin.append_, run_underlying ht, run_underlying htx, hzeros', sizeOf, typeInfo, hi, hlen, hg, hnews]
  | some a => simp [Builtin.append_, run_underlying ht, run_underlying htx, hzeros', sizeOf, typeInfo, hi, hlen, hg, hnews, hst a rfl]

/-- what an append brings -/
theorem sim_newCells {z : Nat} {x : PV} {n : Nat} {l : List PV} {h' : H} {vx : Value} (hr : Rel ρ h w) (e : newCells z x h = some ((n, l), h')) (hx : VR ρ x vx) :
    h' = h ∧ (Builtin.lenOf vx).run P w = .ok n w ∧ ∃ us : List Value, VRs ρ l us ∧ ∀ w1 : World, (∀ c : Nat, w1.heap[c]? = w.heap[c]?) → (Builtin.firstCells z n vx).run P w1 = .ok us.toArray w1 := by
  unfold newCells at e
  split at e
  · obtain ⟨hz, e1⟩ := cond_no e
    obtain ⟨e2, rfl⟩ := ret_some e1
    simp only [Prod.mk.injEq] at e2
    obtain ⟨rfl, rfl⟩ := e2
    obtain ⟨s, rfl, rfl⟩ := hx
    refine ⟨rfl, by rw [bytesOf_length]; rfl, s.data.toList.map (fun b => Value.int .u8 b.toNat), ?_, fun w1 _ => ?_⟩
    · refine VRs.of_get (by simp [bytesOf]) fun i x v hx hv => ?_
      simp only [bytesOf, List.map_map, List.getElem?_map] at hx hv
      cases hb : s.data.toList[i]? with
      | none => rw [hb] at hx; simp at hx
      | some b =>
        rw [hb] at hx hv
        simp only [Option.map_some, Option.some.injEq] at hx hv
        subst hx; subst hv
        rfl
    · rw [bytesOf_length]
      have : s.extract 0 s.size = s := by
        cases s with
        | mk d => simp [ByteArray.ext_iff, ByteArray.data_extract, ByteArray.size]
      simp only [Builtin.firstCells, this, Sem.run_pure]
      congr 1
      apply Array.ext'
      simp
  · rename_i b o n' z' tg
    obtain ⟨a, cap, rfl, hcap, htg, hadr⟩ := hx
    rcases cond_some e with ⟨h0, e1⟩ | ⟨h0, e1⟩
    · obtain ⟨e2, rfl⟩ := ret_some e1
      simp only [Prod.mk.injEq] at e2
      obtain ⟨rfl, rfl⟩ := e2
      have hn0 := Nat.eq_of_beq_eq_true h0
      subst hn0
      exact ⟨rfl, rfl, [], rfl, fun w1 _ => by simp [Builtin.firstCells, loadCells, loadCellsFrom]⟩
    · obtain ⟨hz, e2⟩ := cond_no e1
      obtain rfl := Nat.eq_of_beq_eq_true hz
      obtain ⟨l', h1, e3, e4⟩ := bnd_some e2
      obtain ⟨e5, rfl⟩ := ret_some e4
      simp only [Prod.mk.injEq] at e5
      obtain ⟨rfl, rfl⟩ := e5
      obtain ⟨rfl, hlen, hone, c, d, m, us, hρ, hvs, hcells⟩ := sim_rdCells hr e3
      have hpos : 0 < cap := by
        have : n' ≠ 0 := fun e => by rw [e] at h0; simp at h0
        omega
      obtain ⟨c', d', m', hρ', ha, _⟩ := hadr hpos
      rw [hρ] at hρ'
      simp only [Option.some.injEq, Prod.mk.injEq] at hρ'
      obtain ⟨rfl, rfl, rfl⟩ := hρ'
      subst ha
      refine ⟨rfl, rfl, us, hvs, fun w1 hw1 => ?_⟩
      have hul : us.length = n' * z := by rw [hvs.length, hlen]
      have := run_loadCells_list (P := P) w1 ⟨c, d + o, none⟩ us fun j v hv => by
        have hc := hcells j v hv
        unfold World.cell? at hc ⊢
        rw [hw1]; exact hc
      rw [hul] at this
      exact this
  · rename_i nb z' es
    obtain ⟨hz, e1⟩ := cond_no e
    obtain ⟨e2, rfl⟩ := ret_some e1
    simp only [Prod.mk.injEq] at e2
    obtain ⟨rfl, rfl⟩ := e2
    rcases hx with ⟨rfl, rfl, rfl⟩ | ⟨rfl, a, cap, rfl, hcap, hadr⟩
    · exact ⟨rfl, rfl, [], rfl, fun w1 _ => rfl⟩
    simp only [Bool.false_or] at hz
    obtain rfl := Nat.eq_of_beq_eq_true hz
    refine ⟨rfl, rfl, ?_⟩
    by_cases hes : es = []
    · subst hes
      exact ⟨[], rfl, fun w1 _ => by simp [Builtin.firstCells, loadCells, loadCellsFrom]⟩
    · obtain ⟨c, d, vs, hf, rfl, hl⟩ := hadr hes
      obtain ⟨us, g1, g2, g3, g4⟩ := hl.flat
      refine ⟨us, g1.vr, fun w1 hw1 => ?_⟩
      obtain ⟨⟨et, fz', hh⟩, _⟩ := hr.fzok c vs hf
      have := run_loadCells_list (P := P) w1 ⟨c, d, none⟩ us fun j v hv => by
        have hadd : (⟨c, d, none⟩ : Addr).add j = ⟨c, d + j, none⟩ := by unfold Addr.add; split <;> simp_all
        rw [hadd]
        simp only [World.cell?, hw1, hh, Option.isSome_none, Bool.false_eq_true, if_false]
        exact g4 j v hv
      rw [g2] at this
      exact this
  · exact (no_some e).elim
end
end Go.Pe
