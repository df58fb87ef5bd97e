/- Append: the evaluation's step is the world's. -/
import Derived.Test.YthpmkcmeoadaaaaGreatDoorQeZ
namespace Go.Pe
open HM
variable {G : T PO}
set_option linter.unusedVariables false
set_option linter.unusedSimpArgs false

section
variable {ρ ρ' : Emb G} {P : Program} {h : H} {w w' : World}
theorem grownCap_ge (w : World) (need old : Nat) (e : TypeId) : need ≤ grownCap w need old e := by
  simp only [grownCap, Question.cut]; omega
/-- the new row of an append -/
theorem sim_grown (hr : Rel ρ h w) {id : Nat} (hid : id < h.next) (hρ : ρ id = none) (hg : h.get id = none) {l : List PV} {us : List Value} (hl : VRs ρ l us) (h1 : l.all PV.one = true)
    {z need cap : Nat} {zc : Array Value} {e : TypeId} (hlen : l.length = need * z) (hz : zc.size = z) (hcap : need ≤ cap) :
    ∃ ρ', VR ρ' (.sl id 0 need z false) (.slice (some ⟨w.heap.size, 0, none⟩) need cap) ∧
      Rel ρ' (h.put id (.cells l true)) (w.drew.alloc (.cells (us.toArray ++ Builtin.zeroCells zc (cap - need)) e)) ∧
      Stp (fun b => b = id) ρ h w ρ' (h.put id (.cells l true)) (w.drew.alloc (.cells (us.toArray ++ Builtin.zeroCells zc (cap - need)) e)) := by
  have hul := hl.length
  have hsz : (us.toArray ++ Builtin.zeroCells zc (cap - need)).size = cap * z := by
    rw [Array.size_append, size_zeroCells, hz]
    simp only [List.size_toArray]
    rw [hul, hlen, ← Nat.add_mul]
    congr 1; omega
  have hle : need * z ≤ cap * z := Nat.mul_le_mul_right _ hcap
  have hf := (hr.drew).freshCells hid hρ hg hl h1 (us.toArray ++ Builtin.zeroCells zc (cap - need)) e (cap * z) (by omega) (by omega) (fun i v hv => by
    have hi : i < us.length := by
      rcases Nat.lt_or_ge i us.length with h1 | h1
      · exact h1
      · rw [List.getElem?_eq_none h1] at hv; simp at hv
    rw [Array.getElem?_append_left (by simpa using hi)]
    simpa using hv) true (0, 0) (fun j hj => by omega)
  exact ⟨_, ⟨_, _, rfl, hcap, fun h => by simp at h, fun _ => ⟨_, 0, cap * z, by simp only [Emb.add, if_true]; rfl, rfl, by omega⟩⟩, hf.1, hf.2.drew⟩
/-- append in place -/
theorem sim_inplace (hr : Rel ρ h w) {b id o : Nat} {c d m : Nat} {cs : List PV} (hb : h.get b = some (.cells cs true)) (hρb : ρ b = some (c, d, m)) (hid : id < h.next) (hρ : ρ id = none) (hg : h.get id = none)
    {l k : List PV} {ls us : List Value} (hl : VRs ρ l ls) (hl1 : l.all PV.one = true) (hk : VRs ρ k us) (hk1 : k.all PV.one = true) (hfit : d + o + (l.length + k.length) ≤ m)
    (hls : ∀ (j : Nat) v, ls[j]? = some v → w.cell? ((⟨c, d + o, none⟩ : Addr).add j) = some v) :
    (storeCells ⟨c, d + o + l.length, none⟩ us).run P w = .ok () (w.setCells c (d + o + l.length) us) ∧
      Rel (ρ.add id (c, d + o, m)) ((h.del b).put id (.cells (l ++ k) true)) (w.setCells c (d + o + l.length) us) ∧
      Stp (fun x => x = id) ρ h w (ρ.add id (c, d + o, m)) ((h.del b).put id (.cells (l ++ k) true)) (w.setCells c (d + o + l.length) us) := by
  obtain ⟨c', d', m', hρ', vs, et, fz, hh, hc, hw⟩ := hr.obj b _ hb
  rw [hρb] at hρ'
  simp only [Option.some.injEq, Prod.mk.injEq] at hρ'
  obtain ⟨rfl, rfl, rfl⟩ := hρ'
  obtain ⟨w1, w2, w3⟩ := hw rfl
  have hul := hk.length
  have hll := hl.length
  obtain ⟨vs', g1, g2, g3, g4, g5, g6, g7, g8⟩ := setCells_heap c us (d + o + l.length) w hh (by omega)
  have hone : ∀ v ∈ us, v.oneCell' = true := fun v hv => by
    obtain ⟨i, hi⟩ := List.getElem?_of_mem hv
    have hil : i < us.length := by
      rcases Nat.lt_or_ge i us.length with h1 | h1
      · exact h1
      · rw [List.getElem?_eq_none h1] at hi; simp at hi
    obtain ⟨x, hx⟩ : ∃ x, k[i]? = some x := ⟨_, List.getElem?_eq_getElem (by omega)⟩
    obtain ⟨v', hv', hr'⟩ := hk.get hx
    rw [hi] at hv'
    simp only [Option.some.injEq] at hv'
    subst hv'
    exact hr'.oneCell (List.all_eq_true.1 hk1 x (List.mem_of_getElem? hx))
  have hrun := run_storeCells_cells (P := P) c (d + o + l.length) us 0 w (fun j hj => by
      simp only [World.cell?, hh, Option.isSome_none, Bool.false_eq_true, if_false]
      rw [Array.getElem?_eq_getElem (by omega)]; rfl) (fun j hj => by
      simp only [World.frozen?, hh]
      have := w3 (d + o + l.length + j) (by omega) (by omega)
      simp only [Nat.add_zero]
      by_cases h1 : fz.1 ≤ d + o + l.length + j
      · have : ¬ d + o + l.length + j < fz.2 := fun h2 => this ⟨h1, h2⟩
        simp [this]
      · simp [h1]) hone
  have hmv := hr.move (w' := w.setCells c (d + o + l.length) us) (ob' := .cells (l ++ k) true) (d' := d + o) (m' := m) hb rfl hρb hid hρ hg g4 g5
    (fun ρ' hle => ⟨vs', et, fz, g1, fun i x hx => ?_, fun _ => ⟨by simp; omega, by omega, fun j h1 h2 => w3 j (by omega) h2⟩⟩) g6 g7 g8
  · exact ⟨hrun, hmv.1, hmv.2⟩
  · rw [g3 (d + o + i)]
    by_cases hi : i < l.length
    · rw [List.getElem?_append_left hi] at hx
      rw [if_neg (by omega)]
      obtain ⟨v, hv, hvr⟩ := hl.get hx
      have hcv := hls i v hv
      have hadd : (⟨c, d + o, none⟩ : Addr).add i = ⟨c, d + o + i, none⟩ := by unfold Addr.add; split <;> simp_all
      rw [hadd] at hcv
      simp only [World.cell?, hh, Option.isSome_none, Bool.false_eq_true, if_false] at hcv
      exact ⟨List.all_eq_true.1 hl1 x (List.mem_of_getElem? hx), v, hcv, hvr.mono hle⟩
    · rw [List.getElem?_append_right (by omega)] at hx
      have hik : i - l.length < k.length := by
        rcases Nat.lt_or_ge (i - l.length) k.length with h1 | h1
        · exact h1
        · rw [List.getElem?_eq_none h1] at hx; simp at hx
      rw [if_pos (by omega), show d + o + i - (d + o + l.length) = i - l.length by omega]
      obtain ⟨v, hv, hvr⟩ := hk.get hx
      exact ⟨List.all_eq_true.1 hk1 x (List.mem_of_getElem? hx), v, hv, hvr.mono hle⟩
theorem cells_first {a : Addr} {us : List Value} {k z n cap : Nat} (hl : us.length = n * z) {w1 : World} (hc : ∀ (j : Nat) v, us[j]? = some v → w1.cell? (a.add j) = some v) :
    (Builtin.firstCells z n (.slice (some a) k cap)).run P w1 = .ok us.toArray w1 := by
  have := run_loadCells_list (P := P) w1 a us hc
  rw [hl] at this
  exact this
theorem sim_appendV {t tx ty : TypeId} {id : Nat} {s x v : PV} {h' : H} {vs vx : Value} {dx : TypeDesc} (hr : Rel ρ h w) (hid : id < h.next) (hρ : ρ id = none) (e : appendV P t id s x h = some (v, h'))
    (hs : VR ρ s vs) (hx : VR ρ x vx) (htx : P.underlying tx = some dx) (hdx : ∀ k, dx ≠ .int k) :
    ∃ ρ' w' rv, (Builtin.append_ #[t, tx] ty #[vs, vx]).run P w = .ok rv w' ∧ VR ρ' v rv ∧ Rel ρ' h' w' ∧ Stp (fun b => b = id) ρ h w ρ' h' w' := by
  unfold appendV at e
  cases he : elemT P t with
  | none => rw [he] at e; exact (no_some e).elim
  | some et =>
    rw [he] at e
    simp only at e
    have hu := elemT_some he
    obtain ⟨z, by_, zs, hz, hby, hzo⟩ : ∃ z by_ zs, szOf P et = some z ∧ bytesT P et = some by_ ∧ zeroOf P et = some zs := by
      cases hz : szOf P et with
      | none => rw [hz] at e; exact (no_some e).elim
      | some z =>
        cases hby : bytesT P et with
        | none => rw [hz, hby] at e; exact (no_some e).elim
        | some by_ =>
          cases hzo : zeroOf P et with
          | none => rw [hz, hby, hzo] at e; exact (no_some e).elim
          | some zs => exact ⟨_, _, _, rfl, rfl, rfl⟩
    rw [hz, hby, hzo] at e
    simp only at e
    obtain ⟨i, hi, hiz⟩ := szOf_some hz
    obtain ⟨i', hi', hib⟩ := bytesT_some hby
    obtain rfl : i = i' := by rw [hi] at hi'; exact Option.some.inj hi'
    obtain ⟨i', zv, hi', hzi, hzc⟩ := zeroOf_some hzo
    obtain rfl : i = i' := by rw [hi] at hi'; exact Option.some.inj hi'
    rcases cond_some e with ⟨_, e⟩ | ⟨hc0, e1⟩
    · exact (no_some e).elim
    simp only [Bool.or_eq_false_iff] at hc0
    have hzl : zs.length = z := Nat.eq_of_beq_eq_true (by simpa using hc0.2)
    have hz0 : 0 < z := by
      have := hc0.1.1
      rcases Nat.eq_zero_or_pos z with h | h
      · rw [h] at this; simp at this
      · exact h
    have hb0 : 0 < by_ := by
      have := hc0.1.2
      rcases Nat.eq_zero_or_pos by_ with h | h
      · rw [h] at this; simp at this
      · exact h
    have hzsz : zv.cells.size = z := by have := (vrs_ofV1 (ρ := ρ) hzc).1.length; simp at this; omega
    obtain ⟨⟨n, k⟩, h1, e2, e3⟩ := bnd_some e1
    obtain ⟨rfl, hlen, us, hus, hfirst⟩ := sim_newCells (P := P) hr e2 hx
    obtain ⟨hcnd, e4⟩ := cond_no e3
    simp only [Bool.and_eq_true] at hcnd
    have hk1 := hcnd.1
    have hkl : k.length = n * z := Nat.eq_of_beq_eq_true hcnd.2
    have hul := hus.length
    have hfirst0 := hfirst w (fun _ => rfl)
    have hfirstd := hfirst w.drew (fun _ => rfl)
    subst hiz
    -- the bounds that a growing append asks
    have fits : ∀ {sLen sCap : Nat}, room ((sLen + n) * by_) = true → sCap < sLen + n → ((sLen + n : Nat) : Int) ≤ 9223372036854775807 ∧ Builtin.nextslicecap (sLen + n) sCap * i.bytes ≤ 281474976710656 := fun {sLen sCap} hrm hlt => by
      have hrm' := Nat.le_of_ble_eq_true hrm
      refine ⟨?_, growslice_fits hlt (by rw [hib]; exact hrm')⟩
      have : (sLen + n) * 1 ≤ (sLen + n) * by_ := Nat.mul_le_mul_left _ hb0
      omega
    split at e4
    · -- onto nil
      obtain rfl := VR.nil_inv hs
      rcases cond_some e4 with ⟨hn0, e5⟩ | ⟨hn0, e5⟩
      · obtain ⟨rfl, rfl⟩ := ret_some e5
        obtain rfl := Nat.eq_of_beq_eq_true hn0
        refine ⟨ρ, w, .slice none 0 0, ?_, vr_nil, hr, Stp.refl _ _ _ _⟩
        have := run_append_in (P := P) (w := w) (w' := w) (ty := ty) (base := none) (sLen := 0) (sCap := 0) hu htx hdx hi hlen hfirst0 (by omega) (fun a ha => by cases ha) (fun _ => rfl)
        exact this
      · obtain ⟨hrm, e6⟩ := cond_no e5
        obtain ⟨_, h2, e7, e8⟩ := bnd_some e6
        obtain ⟨hgi, rfl⟩ := new_some e7
        obtain ⟨rfl, rfl⟩ := ret_some e8
        have hnpos : 0 < n := by
          rcases Nat.eq_zero_or_pos n with h | h
          · rw [h] at hn0; simp at hn0
          · exact h
        obtain ⟨f1, f2⟩ := fits (sLen := 0) (sCap := 0) (by simpa using hrm) (by omega)
        have hrun := run_append_new (P := P) (w := w) (ty := ty) (base := none) (sLen := 0) (sCap := 0) (olds := #[]) hu htx hdx hi hzi hlen rfl hfirstd (by omega) f1 f2
        obtain ⟨ρ', g1, g2, g3⟩ := sim_grown (need := n) (cap := grownCap w (0 + n) 0 et) (zc := zv.cells) (e := et) hr hid hρ hgi hus hk1 hkl hzsz (by have := grownCap_ge w (0 + n) 0 et; omega)
        refine ⟨ρ', _, _, hrun, ?_, ?_, ?_⟩
        · simpa using g1
        · simpa using g2
        · simpa using g3
    · rename_i b o sn z' tg
      obtain ⟨hzz, e5⟩ := cond_no e4
      obtain rfl := Nat.eq_of_beq_eq_true hzz
      obtain ⟨a, cap, rfl, hcap, htg, hadr⟩ := hs
      rcases cond_some e5 with ⟨hn0, e6⟩ | ⟨hn0, e6⟩
      · obtain ⟨rfl, rfl⟩ := ret_some e6
        obtain rfl := Nat.eq_of_beq_eq_true hn0
        have husn : us = [] := by
          have : us.length = 0 := by rw [hul, hkl]; simp
          simpa using this
        refine ⟨ρ, w, .slice (some a) sn cap, ?_, ⟨a, cap, rfl, hcap, htg, hadr⟩, hr, Stp.refl _ _ _ _⟩
        have := run_append_in (P := P) (w := w) (w' := w) (ty := ty) (base := some a) (sLen := sn) (sCap := cap) hu htx hdx hi hlen hfirst0 (by omega) (fun a' ha => by rw [husn]; rfl) (fun hh => by cases hh)
        exact this
      · have hnpos : 0 < n := by
          rcases Nat.eq_zero_or_pos n with h | h
          · rw [h] at hn0; simp at hn0
          · exact h
        obtain ⟨hrm, e7⟩ := cond_no e6
        rcases cond_some e7 with ⟨hc1, e8⟩ | ⟨hc1, e8⟩
        · -- an empty slice without capacity
          simp only [Bool.and_eq_true] at hc1
          obtain rfl := Nat.eq_of_beq_eq_true hc1.1
          have hcap0 : cap = 0 := htg hc1.2
          subst hcap0
          obtain ⟨_, h2, e9, e10⟩ := bnd_some e8
          obtain ⟨hgi, rfl⟩ := new_some e9
          obtain ⟨rfl, rfl⟩ := ret_some e10
          obtain ⟨f1, f2⟩ := fits (sLen := 0) (sCap := 0) hrm (by omega)
          have hrun := run_append_new (P := P) (w := w) (ty := ty) (base := some a) (sLen := 0) (sCap := 0) (olds := #[]) hu htx hdx hi hzi hlen (by simp [Builtin.firstCells, loadCells, loadCellsFrom]) hfirstd (by omega) f1 f2
          obtain ⟨ρ', g1, g2, g3⟩ := sim_grown (need := n) (cap := grownCap w (0 + n) 0 et) (zc := zv.cells) (e := et) hr hid hρ hgi hus hk1 hkl hzsz (by have := grownCap_ge w (0 + n) 0 et; omega)
          refine ⟨ρ', _, _, hrun, ?_, ?_, ?_⟩
          · simpa using g1
          · simpa using g2
          · simpa using g3
        · obtain ⟨ob, h2, e9, e10⟩ := bnd_some e8
          obtain ⟨hgb, rfl⟩ := rd_some e9
          cases ob with
          | map es => exact (no_some e10).elim
          | cells cs own =>
            simp only at e10
            obtain ⟨l, h3, e11, e12⟩ := bnd_some e10
            obtain ⟨htk, rfl⟩ := ofO_some e11
            have hrdc : rdCells b o (sn * i.size) h1 = some (l, h1) := by
              unfold rdCells
              simp only [HM.bnd, HM.rd, hgb, htk, HM.ofO, HM.ret]
            obtain ⟨_, hll, hl1, c, d, m, ls, hρb, hls, hcells⟩ := sim_rdCells hr hrdc
            have hlsl := hls.length
            have hadr' : 0 < cap → a = ⟨c, d + o, none⟩ ∧ d + o + cap * i.size ≤ m := fun h0 => by
              obtain ⟨c', d', m', hρ', ha, hm'⟩ := hadr h0
              rw [hρb] at hρ'
              simp only [Option.some.injEq, Prod.mk.injEq] at hρ'
              obtain ⟨rfl, rfl, rfl⟩ := hρ'
              exact ⟨ha, hm'⟩
            have holds : ∀ w1 : World, (∀ c : Nat, w1.heap[c]? = w.heap[c]?) → (Builtin.firstCells i.size sn (.slice (some a) sn cap)).run P w1 = .ok ls.toArray w1 := fun w1 hw1 => by
              rcases Nat.eq_zero_or_pos cap with h0 | h0
              · have hs0 : sn = 0 := by omega
                have : ls = [] := by
                  have : ls.length = 0 := by rw [hlsl, hll, hs0]; simp
                  simpa using this
                rw [this, hs0]
                simp [Builtin.firstCells, loadCells, loadCellsFrom]
              · obtain ⟨rfl, _⟩ := hadr' h0
                refine cells_first (by rw [hlsl, hll]) fun j v hv => ?_
                have hc := hcells j v hv
                unfold World.cell? at hc ⊢
                rw [hw1]; exact hc
            have hlk : VRs ρ (l ++ k) (ls ++ us) := hls.append hus
            have hlk1 : (l ++ k).all PV.one = true := by rw [List.all_append, hl1, hk1]; rfl
            have hlkl : (l ++ k).length = (sn + n) * i.size := by rw [List.length_append, hll, hkl, Nat.add_mul]
            rcases cond_some e12 with ⟨htg', e13⟩ | ⟨htg', e13⟩
            · -- without capacity
              have hcapsn := htg htg'
              subst hcapsn
              obtain ⟨_, h2, e14, e15⟩ := bnd_some e13
              obtain ⟨hgi, rfl⟩ := new_some e14
              obtain ⟨rfl, rfl⟩ := ret_some e15
              obtain ⟨f1, f2⟩ := fits (sLen := cap) (sCap := cap) hrm (by omega)
              have hrun := run_append_new (P := P) (w := w) (ty := ty) (base := some a) (sLen := cap) (sCap := cap) hu htx hdx hi hzi hlen (holds w.drew fun _ => rfl) hfirstd (by omega) f1 f2
              obtain ⟨ρ', g1, g2, g3⟩ := sim_grown (need := cap + n) (cap := grownCap w (cap + n) cap et) (zc := zv.cells) (e := et) hr hid hρ hgi hlk hlk1 hlkl hzsz (grownCap_ge w (cap + n) cap et)
              refine ⟨ρ', _, _, hrun, g1, ?_, ?_⟩
              · simpa using g2
              · simpa using g3
            · obtain ⟨hown, e14⟩ := cond_no e13
              subst hown
              obtain ⟨_, h2, e15, e16⟩ := bnd_some e14
              obtain ⟨_, rfl⟩ := kill_some e15
              obtain ⟨_, h3, e17, e18⟩ := bnd_some e16
              obtain ⟨hgi, rfl⟩ := new_some e17
              obtain ⟨rfl, rfl⟩ := ret_some e18
              by_cases hroom : sn + n ≤ cap
              · -- in place
                obtain ⟨rfl, hm⟩ := hadr' (by omega)
                have hidb : h1.get id = none := by
                  rcases hh : h1.get id with _ | oo
                  · rfl
                  · obtain ⟨c1, d1, m1, hρ1, _⟩ := hr.obj id oo hh
                    rw [hρ] at hρ1; cases hρ1
                have hle : (sn + n) * i.size ≤ cap * i.size := Nat.mul_le_mul_right _ hroom
                obtain ⟨q1, q2, q3⟩ := sim_inplace (P := P) hr hgb hρb hid hρ hidb hls hl1 hus hk1 (by have := hlkl; rw [List.length_append] at this; omega) hcells
                refine ⟨_, _, _, run_append_in (P := P) (w := w) (ty := ty) (base := some ⟨c, d + o, none⟩) (sLen := sn) (sCap := cap) hu htx hdx hi hlen hfirst0 hroom (fun a' ha => ?_) (fun hh => by cases hh), ?_, q2, q3⟩
                · simp only [Option.some.injEq] at ha
                  subst ha
                  rw [← hll]
                  have hadd : (⟨c, d + o, none⟩ : Addr).add l.length = ⟨c, d + o + l.length, none⟩ := by unfold Addr.add; split <;> simp_all
                  rw [hadd]
                  exact q1
                · exact ⟨_, cap, rfl, hroom, fun h => by simp at h, fun _ => ⟨c, d + o, m, by simp only [Emb.add, if_true], rfl, by omega⟩⟩
              · -- a new row; the old one is given up
                obtain ⟨f1, f2⟩ := fits (sLen := sn) (sCap := cap) hrm (by omega)
                have hrun := run_append_new (P := P) (w := w) (ty := ty) (base := some a) (sLen := sn) (sCap := cap) hu htx hdx hi hzi hlen (holds w.drew fun _ => rfl) hfirstd (by omega) f1 f2
                obtain ⟨k1, k2⟩ := hr.del b (fun _ => False)
                obtain ⟨ρ', g1, g2, g3⟩ := sim_grown (need := sn + n) (cap := grownCap w (sn + n) cap et) (zc := zv.cells) (e := et) k1 hid hρ hgi hlk hlk1 hlkl hzsz (grownCap_ge w (sn + n) cap et)
                refine ⟨ρ', _, _, hrun, g1, ?_, ?_⟩
                · simpa using g2
                · have g4 := (k2.trans g3).weaken (may' := fun b => b = id) fun b _ hb => by
                    rcases hb with hb | hb
                    · exact hb.elim
                    · exact hb
                  simpa using g4
    · exact (no_some e4).elim
end
end Go.Pe
