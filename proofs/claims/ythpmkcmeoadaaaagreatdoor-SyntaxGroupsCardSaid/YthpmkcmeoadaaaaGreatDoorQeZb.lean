/- Copying, converting, maps: the evaluation's step is the world's. -/
import Derived.Test.YthpmkcmeoadaaaaGreatDoorQeZa
namespace Go.Pe
open HM
variable {G : T PO}
set_option linter.unusedVariables false
set_option linter.unusedSimpArgs false

section
variable {ρ ρ' : Emb G} {P : Program} {h : H} {w w' : World}
theorem rdCells_mk {b o n : Nat} {c : List PV} {own : Bool} {l : List PV} (hg : h.get b = some (.cells c own)) (ht : takeX n (c.drop o) = some l) : rdCells b o n h = some (l, h) := by
  unfold rdCells
  simp only [HM.bnd, HM.rd, hg, ht, HM.ofO, HM.ret]
theorem run_lenOf_slice (a : Option Addr) (n cap : Nat) : (Builtin.lenOf (.slice a n cap)).run P w = .ok n w := rfl
theorem vr_bytes (l : List Nat) (hl : ∀ c ∈ l, c < 256) : True := trivial
theorem vrs_bytes (s : List UInt8) : VRs ρ (s.map fun b => PV.i .u8 (Int.ofNat b.toNat)) (s.map fun b => Value.int .u8 b.toNat) := by
  induction s with
  | nil => rfl
  | cons b s ih => exact VRs.cons rfl ih
theorem map_bytesOf (s : ByteArray) : (bytesOf s).map (fun c => PV.i .u8 (Int.ofNat c)) = s.data.toList.map fun b => PV.i .u8 (Int.ofNat b.toNat) := by
  unfold bytesOf; rw [List.map_map]; rfl
theorem one_bytes (l : List Nat) : (l.map (fun c => PV.i .u8 (Int.ofNat c))).all PV.one = true := by
  rw [List.all_eq_true]
  intro x hx
  obtain ⟨c, _, rfl⟩ := List.mem_map.1 hx
  rfl
theorem first_string (s : ByteArray) (n : Nat) : (Builtin.firstCells 1 n (.string s)).run P w = .ok ((s.data.toList.take n).map fun b => Value.int .u8 b.toNat).toArray w := by
  simp only [Builtin.firstCells, Sem.run_pure]
  congr 1
  apply Array.ext'
  simp [ByteArray.data_extract, Array.toList_extract, List.extract_eq_take_drop]

theorem sim_copyV {t tx ty : TypeId} {d x v : PV} {h' : H} {vd vx : Value} (hr : Rel ρ h w) (e : copyV P t d x h = some (v, h')) (hd : VR ρ d vd) (hx : VR ρ x vx) (may : Nat → Prop) :
    ∃ w' rv, (Builtin.copy_ #[t, tx] ty #[vd, vx]).run P w = .ok rv w' ∧ VR ρ v rv ∧ Rel ρ h' w' ∧ Stp may ρ h w ρ h' w' := by
  unfold copyV at e
  cases he : elemT P t with
  | none => rw [he] at e; exact (no_some e).elim
  | some et =>
    rw [he] at e
    simp only at e
    cases hz : szOf P et with
    | none => rw [hz] at e; exact (no_some e).elim
    | some z =>
      rw [hz] at e
      simp only at e
      have hu := elemT_some he
      have hsz := fun {w : World} => run_sizeOf (P := P) (w := w) hz
      cases d
      case sl b o n z1 tg =>
        simp only at e
        obtain ⟨hzz, e1⟩ := cond_no e
        obtain rfl := Nat.eq_of_beq_eq_true hzz
        obtain ⟨a, cap, rfl, hcap, htg, hadr⟩ := hd
        -- writing k elements' cells at the destination's head
        have wr_ok : ∀ {l : List PV} {us : List Value} {h2 : H} {u : Unit}, wrCells b o l h = some (u, h2) → VRs ρ l us → l.length ≤ n * z →
            ∃ w', (storeCells a us).run P w = .ok () w' ∧ Rel ρ h2 w' ∧ Stp may ρ h w ρ h2 w' := fun {l us h2 u} ew hl hlen => by
          obtain ⟨c, d, m, hρ, hrun, q1, q2⟩ := sim_wrCells (P := P) hr ew hl may
          rcases Nat.eq_zero_or_pos cap with h0 | h0
          · have : us = [] := by
              have h1 := hl.length
              have : n = 0 := by omega
              rw [this] at hlen
              have : us.length = 0 := by omega
              simpa using this
            subst this
            exact ⟨w, rfl, q1, q2⟩
          · obtain ⟨c', d', m', hρ', ha, _⟩ := hadr h0
            rw [hρ] at hρ'
            simp only [Option.some.injEq, Prod.mk.injEq] at hρ'
            obtain ⟨rfl, rfl, rfl⟩ := hρ'
            subst ha
            exact ⟨_, hrun, q1, q2⟩
        cases x
        case s l =>
          simp only at e1
          obtain ⟨hz1, e2⟩ := cond_no e1
          obtain rfl := Nat.eq_of_beq_eq_true hz1
          obtain ⟨s, rfl, rfl⟩ := hx
          obtain ⟨u, h2, e3, e4⟩ := bnd_some e2
          obtain ⟨rfl, rfl⟩ := ret_some e4
          have hl : VRs ρ (((bytesOf s).take n).map fun c => PV.i .u8 (Int.ofNat c)) ((s.data.toList.take n).map fun b => Value.int .u8 b.toNat) := by
            have := vrs_bytes (ρ := ρ) (s.data.toList.take n)
            rw [List.map_take, List.map_take, ← map_bytesOf] at this
            rw [List.map_take, List.map_take]
            exact this
          obtain ⟨w', g1, g2, g3⟩ := wr_ok e3 hl (by simp; omega)
          have htk : s.data.toList.take (min s.size n) = s.data.toList.take n := by
            rcases Nat.le_total s.size n with h1 | h1
            · rw [Nat.min_eq_left h1, List.take_of_length_le (by rw [Array.length_toList]; exact Nat.le_refl _), List.take_of_length_le (by rw [Array.length_toList]; exact h1)]
            · rw [Nat.min_eq_right h1]
          refine ⟨w', goInt (min s.size n : Nat), ?_, by rw [bytesOf_length]; rfl, g2, g3⟩
          have hlen : (Builtin.lenOf (.string s)).run P w = .ok s.size w := rfl
          have hfst := first_string (P := P) (w := w) s (min s.size n)
          rw [htk] at hfst
          have hmin : Nat.min s.size n = min s.size n := rfl
          simp only [Builtin.copy_, Sem.run_bind, run_underlying hu, hlen, hsz, Result.andThen_ok, hmin, hfst, List.getElem?_toArray, List.getElem?_cons_zero, List.getElem?_cons_succ, g1, Sem.run_pure]
        case sl b2 o2 n2 z2 tg2 =>
          simp only at e1
          obtain ⟨hz2, e2⟩ := cond_no e1
          obtain rfl := Nat.eq_of_beq_eq_true hz2
          obtain ⟨a2, cap2, rfl, hcap2, htg2, hadr2⟩ := hx
          obtain ⟨l, h1, e3, e4⟩ := bnd_some e2
          obtain ⟨u, h2, e5, e6⟩ := bnd_some e4
          obtain ⟨rfl, rfl⟩ := ret_some e6
          obtain ⟨rfl, hll, hl1, c2, d2, m2, us, hρ2, hls, hcells⟩ := sim_rdCells hr e3
          obtain ⟨w', g1, g2, g3⟩ := wr_ok e5 hls (by rw [hll]; exact Nat.mul_le_mul_right _ (Nat.min_le_right _ _))
          have husl := hls.length
          have hfst : (Builtin.firstCells z (min n2 n) (.slice (some a2) n2 cap2)).run P w = .ok us.toArray w := by
            rcases Nat.eq_zero_or_pos cap2 with h0 | h0
            · have h2 : n2 = 0 := by omega
              have : us = [] := by
                have : us.length = 0 := by rw [husl, hll, h2]; simp
                simpa using this
              subst this
              rw [h2]
              simp [Builtin.firstCells, loadCells, loadCellsFrom]
            · obtain ⟨c', d', m', hρ', ha, _⟩ := hadr2 h0
              rw [hρ2] at hρ'
              simp only [Option.some.injEq, Prod.mk.injEq] at hρ'
              obtain ⟨rfl, rfl, rfl⟩ := hρ'
              subst ha
              exact cells_first (by rw [husl, hll]) hcells
          refine ⟨w', goInt (min n2 n : Nat), ?_, rfl, g2, g3⟩
          have hmin : Nat.min n2 n = min n2 n := rfl
          simp only [Builtin.copy_, Sem.run_bind, run_underlying hu, run_lenOf_slice, hsz, Result.andThen_ok, hmin, hfst, List.getElem?_toArray, List.getElem?_cons_zero, List.getElem?_cons_succ, g1, Sem.run_pure]
        case fl nb z2 es =>
          simp only at e1
          obtain ⟨hz2, e2⟩ := cond_no e1
          obtain ⟨u, h2, e5, e6⟩ := bnd_some e2
          obtain ⟨rfl, rfl⟩ := ret_some e6
          rcases hx with ⟨rfl, rfl, rfl⟩ | ⟨rfl, a2, cap2, rfl, hcap2, hadr2⟩
          · obtain ⟨w', g1, g2, g3⟩ := wr_ok (us := []) e5 (by simpa [flatL] using VRs.nil) (by simp [flatL])
            refine ⟨w', goInt (min 0 n : Nat), ?_, rfl, g2, g3⟩
            have hlen : (Builtin.lenOf (.slice none 0 0)).run P w = .ok 0 w := rfl
            have hmin : Nat.min 0 n = min 0 n := rfl
            have hfst : (Builtin.firstCells z (min 0 n) (.slice none 0 0)).run P w = .ok #[] w := by rw [Nat.zero_min]; rfl
            simp only [Builtin.copy_, Sem.run_bind, run_underlying hu, hlen, hsz, Result.andThen_ok, hmin, hfst, List.getElem?_toArray, List.getElem?_cons_zero, List.getElem?_cons_succ, g1, Sem.run_pure]
          simp only [Bool.false_or] at hz2
          obtain rfl := Nat.eq_of_beq_eq_true hz2
          obtain ⟨us, husl, hls, hfst⟩ : ∃ us : List Value, us.length = min es.length n * z ∧ VRs ρ (flatL (es.take n)) us ∧ (Builtin.firstCells z (min es.length n) (.slice (some a2) es.length cap2)).run P w = .ok us.toArray w := by
            by_cases hes : es = []
            · subst hes
              exact ⟨[], by simp, by simpa [flatL] using VRs.nil, by simp [Builtin.firstCells, loadCells, loadCellsFrom]⟩
            · obtain ⟨c, d', vs, hf, rfl, hl⟩ := hadr2 hes
              obtain ⟨us, q1, q2, q3, q4⟩ := (hl.take (n := n)).flat
              rw [List.length_take, Nat.min_comm] at q2
              obtain ⟨⟨et', fz', hh⟩, _⟩ := hr.fzok c vs hf
              refine ⟨us, q2, q1.vr, cells_first q2 fun j v hv => ?_⟩
              have hadd : (⟨c, d', none⟩ : Addr).add j = ⟨c, d' + j, none⟩ := by unfold Addr.add; split <;> simp_all
              rw [hadd]
              simp only [World.cell?, hh, Option.isSome_none, Bool.false_eq_true, if_false]
              exact q4 j v hv
          obtain ⟨w', g1, g2, g3⟩ := wr_ok e5 hls (by rw [← hls.length, husl]; exact Nat.mul_le_mul_right _ (Nat.min_le_right _ _))
          refine ⟨w', goInt (min es.length n : Nat), ?_, rfl, g2, g3⟩
          have hmin : Nat.min es.length n = min es.length n := rfl
          simp only [Builtin.copy_, Sem.run_bind, run_underlying hu, run_lenOf_slice, hsz, Result.andThen_ok, hmin, hfst, List.getElem?_toArray, List.getElem?_cons_zero, List.getElem?_cons_succ, g1, Sem.run_pure]
        all_goals exact (no_some e1).elim
      all_goals exact (no_some e).elim

/-- lengths -/
theorem sim_lenV {t ty : TypeId} {x v : PV} {h' : H} {vx : Value} (hr : Rel ρ h w) (e : lenV P t x h = some (v, h')) (hx : VR ρ x vx) :
    h' = h ∧ ∃ rv, (Builtin.len_ #[t] ty #[vx]).run P w = .ok rv w ∧ VR ρ v rv := by
  generalize hm : lenV P t x = mm at e
  unfold lenV at hm
  split at hm <;> subst hm
  · rename_i hu
    obtain ⟨rfl, rfl⟩ := ret_some e
    obtain ⟨s, rfl, rfl⟩ := hx
    exact ⟨rfl, _, by simp [Builtin.len_, run_underlying hu]; rfl, by rw [bytesOf_length]; rfl⟩
  · rename_i hu
    obtain ⟨rfl, rfl⟩ := ret_some e
    obtain ⟨a, cap, rfl, _⟩ := hx
    exact ⟨rfl, _, by simp [Builtin.len_, run_underlying hu]; rfl, rfl⟩
  · rename_i hu
    obtain ⟨rfl, rfl⟩ := ret_some e
    exact ⟨rfl, _, by simp [Builtin.len_, run_underlying hu]; rfl, rfl⟩
  · rename_i hu
    obtain ⟨rfl, rfl⟩ := ret_some e
    subst hx
    exact ⟨rfl, _, by simp [Builtin.len_, run_underlying hu]; rfl, rfl⟩
  · rename_i hu
    obtain ⟨ob, h1, e1, e2⟩ := bnd_some e
    obtain ⟨hg, rfl⟩ := rd_some e1
    cases ob with
    | cells c own => exact (no_some e2).elim
    | map es =>
      obtain ⟨rfl, rfl⟩ := ret_some e2
      obtain ⟨c, d, m, hρ, rfl⟩ := hx
      obtain ⟨c', d', m', hρ', ents, clock, hh, hm⟩ := hr.obj _ _ hg
      rw [hρ] at hρ'
      simp only [Option.some.injEq, Prod.mk.injEq] at hρ'
      obtain ⟨rfl, rfl, rfl⟩ := hρ'
      have hml : ∀ {es : List (PV × PV)} {l : List MapEntry}, MR ρ es l → l.length = es.length := by
        intro es
        induction es with
        | nil => intro l h; rw [show l = [] from h]; rfl
        | cons x xs ih => intro l ⟨e, l', he, _, _, hx⟩; rw [he]; simp [ih hx]
      have hlen := hml hm
      refine ⟨rfl, goInt ents.size, ?_, ?_⟩
      · have hgo : (getObj c).run P w = .ok (.map ents clock) w := by simp [getObj, Sem.run, hh]
        simp [Builtin.len_, run_underlying hu, hgo]
      · simp only [Array.length_toList] at hlen
        rw [← hlen]; rfl
  · rename_i hu
    obtain ⟨rfl, rfl⟩ := ret_some e
    rcases hx with ⟨rfl, rfl, rfl⟩ | ⟨rfl, a, cap, rfl, _⟩
    · exact ⟨rfl, _, by simp [Builtin.len_, run_underlying hu]; rfl, rfl⟩
    · exact ⟨rfl, _, by simp [Builtin.len_, run_underlying hu]; rfl, rfl⟩
  · exact (no_some e).elim

/-- converting -/
theorem fold_push : ∀ (l : List Int) (s : ByteArray), (l.foldl (fun r n => r.push (UInt8.ofNat n.toNat)) s).data.toList = s.data.toList ++ l.map (fun n => UInt8.ofNat n.toNat)
  | [], s => by simp
  | n :: l, s => by
    simp only [List.foldl_cons, List.map_cons]
    rw [fold_push l]
    simp [ByteArray.push]
theorem bytes_key : ∀ {l : List PV} {us : List Value} {r : List Nat}, VRs ρ l us → mapO byteOf l = some r →
    us = (r.map Int.ofNat).map (Value.int .u8) ∧ ∀ c ∈ r, c < 256 := by
  intro l
  induction l with
  | nil => intro us r hl hm; simp only [mapO, Option.some.injEq] at hm; subst hm; rw [show us = [] from hl]; exact ⟨rfl, fun c hc => by simp at hc⟩
  | cons x xs ih =>
    intro us r ⟨y, ys, he, hxy, hxs⟩ hm
    subst he
    simp only [mapO] at hm
    split at hm
    · rename_i c hc
      split at hm
      · rename_i rs hrs
        simp only [Option.some.injEq] at hm
        subst hm
        obtain ⟨i1, i2⟩ := ih hxs hrs
        unfold byteOf at hc
        split at hc
        · rename_i c'
          cases hb : Nat.blt c' 256 with
          | false => rw [hb] at hc; simp at hc
          | true =>
            rw [hb] at hc
            simp only [cond_true, Option.some.injEq] at hc
            subst hc
            have hlt : c' < 256 := by simpa [Nat.blt_eq] using hb
            refine ⟨by rw [show y = _ from hxy, i1]; rfl, fun c hc => ?_⟩
            rcases List.mem_cons.1 hc with h | h
            · rw [h]; exact hlt
            · exact i2 c h
        · simp at hc
      · simp at hm
    · simp at hm
theorem sim_convV {s d : TypeId} {id : Nat} {x v : PV} {h' : H} {vx : Value} (hr : Rel ρ h w) (hid : id < h.next) (hρ : ρ id = none) (e : convV P s d id x h = some (v, h')) (hx : VR ρ x vx) :
    ∃ ρ' w' rv, (convert s d vx).run P w = .ok rv w' ∧ VR ρ' v rv ∧ Rel ρ' h' w' ∧ Stp (fun b => b = id) ρ h w ρ' h' w' := by
  generalize hm : convV P s d id x = mm at e
  unfold convV at hm
  split at hm <;> subst hm
  · rename_i ds k hs hd
    obtain ⟨rfl, rfl⟩ := ret_some e
    subst hx
    refine ⟨ρ, w, _, ?_, by rw [wrapF_eq]; rfl, hr, Stp.refl _ _ _ _⟩
    simp only [convert, Sem.run_bind, run_underlying hs, run_underlying hd, Result.andThen_ok, Conv.intToInt, Sem.run_pure]
  · rename_i ds hs hd
    obtain ⟨rfl, rfl⟩ := ret_some e
    obtain ⟨bs, rfl, rfl⟩ := hx
    refine ⟨ρ, w, .string bs, ?_, ⟨bs, rfl, rfl⟩, hr, Stp.refl _ _ _ _⟩
    simp only [convert, Sem.run_bind, run_underlying hs, run_underlying hd, Result.andThen_ok, Sem.run_pure]
  · rename_i ds el l hs hd
    have hel : P.underlying el = some (.int .u8) := by
      cases hq : P.underlying el with
      | none => rw [hq] at e; exact (no_some e).elim
      | some dq =>
        rw [hq] at e
        cases dq
        case int k => cases k <;> first | rfl | exact (no_some e).elim
        all_goals exact (no_some e).elim
    rw [hel] at e
    simp only at e
    rcases cond_some e with ⟨_, e1⟩ | ⟨h0, e1⟩
    · exact (no_some e1).elim
    obtain ⟨u, h1, e2, e3⟩ := bnd_some e1
    obtain ⟨hgi, rfl⟩ := new_some e2
    obtain ⟨rfl, rfl⟩ := ret_some e3
    obtain ⟨bs, rfl, rfl⟩ := hx
    have hcg := grownCap_ge w bs.size 0 el
    generalize hcap : grownCap w bs.size 0 el = cap at hcg
    have hvs : ∀ (i : Nat) v, (bs.data.toList.map fun b => Value.int .u8 b.toNat)[i]? = some v → ((bs.data.map fun b => Value.int .u8 b.toNat) ++ Array.replicate (cap - bs.size) (.int .u8 0))[i]? = some v := fun i v hv => by
      have hi : i < bs.data.size := by
        rcases Nat.lt_or_ge i bs.data.size with h1 | h1
        · exact h1
        · rw [List.getElem?_eq_none (by simpa using h1)] at hv; simp at hv
      rw [Array.getElem?_append_left (by simpa using hi)]
      simpa using hv
    have hsz : ((bs.data.map fun b => Value.int .u8 b.toNat) ++ Array.replicate (cap - bs.size) (Value.int .u8 0)).size = cap := by
      simp only [Array.size_append, Array.size_map, Array.size_replicate]
      have : bs.data.size = bs.size := rfl
      omega
    have hl := vrs_bytes (ρ := ρ) bs.data.toList
    rw [← map_bytesOf] at hl
    have hf := (hr.drew).freshCells hid hρ hgi hl (one_bytes _) ((bs.data.map fun b => Value.int .u8 b.toNat) ++ Array.replicate (cap - bs.size) (.int .u8 0)) el cap (by simp [bytesOf_length]; exact hcg) (by omega) hvs true (cap, cap + 1) (fun j hj => by omega)
    refine ⟨_, w.drew.alloc (.cells ((bs.data.map fun b => Value.int .u8 b.toNat) ++ Array.replicate (cap - bs.size) (.int .u8 0)) el (cap, cap + 1)), .slice (some ⟨w.heap.size, 0, none⟩) bs.size cap, ?_, ?_, hf.1, hf.2.drew⟩
    · have hq : (Question.appendCap bs.size 0 el).forced = false := rfl
      simp only [convert, Sem.run_bind, run_underlying hs, run_underlying hd, Result.andThen_ok, run_underlying hel, Conv.stringToBytes, run_choose, hq, Bool.false_eq_true, if_false, newRow, run_newObj, markStringish, run_shape, Sem.run_pure]
      have hgc : (Question.appendCap bs.size 0 el).cut (w.tape w.drawn (.appendCap bs.size 0 el)) = cap := hcap
      rw [hgc]
      simp only [World.shape?, Array.getElem?_push_size, hsz, run_freeze, Result.andThen_ok, Sem.run_pure]
      congr 1
      unfold World.freeze World.alloc World.drew
      simp
      apply Array.ext
      · simp
      · intro i h1 h2
        simp only [Array.getElem_modify, Array.getElem_push]
        by_cases hi : i < w.heap.size
        · have : w.heap.size ≠ i := by omega
          simp [hi, this]
        · have : i = w.heap.size := by simp at h2; omega
          subst this
          simp
    · rw [bytesOf_length]
      exact ⟨_, cap, rfl, hcg, fun h => by simp at h, fun _ => ⟨_, 0, cap, by simp only [Emb.add, if_true]; rfl, rfl, by omega⟩⟩
  · rename_i x _ _ _ el hs hd hns
    have hel : P.underlying el = some (.int .u8) := by
      cases hq : P.underlying el with
      | none => rw [hq] at e; exact (no_some e).elim
      | some dq =>
        rw [hq] at e
        cases dq
        case int k => cases k <;> first | rfl | exact (no_some e).elim
        all_goals exact (no_some e).elim
    rw [hel] at e
    simp only at e
    cases x
    case sl b o n z tg =>
      simp only at e
      obtain ⟨a, cap, rfl, hcap, htg, hadr⟩ := hx
      rcases cond_some e with ⟨h0, e1⟩ | ⟨h0, e1⟩
      · obtain ⟨rfl, rfl⟩ := ret_some e1
        obtain rfl := Nat.eq_of_beq_eq_true h0
        refine ⟨ρ, w, .string .empty, ?_, ⟨_, rfl, rfl⟩, hr, Stp.refl _ _ _ _⟩
        have := run_bytesToString (P := P) w a 0 cap [] (by simp [loadCells, loadCellsFrom])
        simp only [convert, Sem.run_bind, run_underlying hs, run_underlying hd, Result.andThen_ok, run_underlying hel, this]
        rfl
      · obtain ⟨hz1, e2⟩ := cond_no e1
        obtain rfl := Nat.eq_of_beq_eq_true hz1
        obtain ⟨l, h1, e3, e4⟩ := bnd_some e2
        obtain ⟨rfl, hll, hl1, c, dd, m, us, hρb, hls, hcells⟩ := sim_rdCells hr e3
        obtain ⟨r, hm⟩ : ∃ r, mapO byteOf l = some r := by
          cases hm : mapO byteOf l with
          | none => rw [hm] at e4; exact (no_some e4).elim
          | some r => exact ⟨r, rfl⟩
        rw [hm] at e4
        simp only at e4
        obtain ⟨rfl, rfl⟩ := ret_some e4
        have hpos : 0 < cap := by
          have : n ≠ 0 := fun e => by rw [e] at h0; simp at h0
          omega
        obtain ⟨c', d', m', hρ', ha, _⟩ := hadr hpos
        rw [hρb] at hρ'
        simp only [Option.some.injEq, Prod.mk.injEq] at hρ'
        obtain ⟨rfl, rfl, rfl⟩ := hρ'
        subst ha
        obtain ⟨hus, hlt⟩ := bytes_key hls hm
        have hloads : (loadCells ⟨c, dd + o, none⟩ n).run P w = .ok ((r.map Int.ofNat).map (Value.int .u8)).toArray w := by
          have := run_loadCells_list (P := P) w ⟨c, dd + o, none⟩ us hcells
          rw [hls.length, hll] at this
          rw [this, hus]
        refine ⟨ρ, w, .string ((r.map Int.ofNat).foldl (fun r n => r.push (UInt8.ofNat n.toNat)) ByteArray.empty), ?_, ⟨_, rfl, ?_⟩, hr, Stp.refl _ _ _ _⟩
        · have := run_bytesToString (P := P) w ⟨c, dd + o, none⟩ n cap (r.map Int.ofNat) hloads
          simp only [convert, Sem.run_bind, run_underlying hs, run_underlying hd, Result.andThen_ok, run_underlying hel, this]
        · unfold bytesOf
          rw [fold_push]
          simp only [List.map_map]
          have : ByteArray.empty.data.toList = [] := rfl
          rw [this, List.nil_append, List.map_map]
          conv => rhs; rw [← List.map_id r]
          apply List.map_congr_left
          intro c hc
          simp only [Function.comp, _root_.id]
          have := hlt c hc
          simp only [Int.ofNat_eq_natCast, Int.toNat_natCast, UInt8.toNat_ofNat']
          exact Nat.mod_eq_of_lt (by omega)
    case fl nb z es =>
      simp only at e
      rcases hx with ⟨rfl, rfl, rfl⟩ | ⟨rfl, a, cap, rfl, hcap, hadr⟩
      · simp only [List.length_nil, Nat.beq_refl, cond_true] at e
        obtain ⟨rfl, rfl⟩ := ret_some e
        refine ⟨ρ, w, .string .empty, ?_, ⟨_, rfl, rfl⟩, hr, Stp.refl _ _ _ _⟩
        simp only [convert, Sem.run_bind, run_underlying hs, run_underlying hd, Result.andThen_ok, run_underlying hel, Conv.bytesToString, Sem.run_pure]
      rcases cond_some e with ⟨h0, e1⟩ | ⟨h0, e1⟩
      · obtain ⟨rfl, rfl⟩ := ret_some e1
        have h0' := Nat.eq_of_beq_eq_true h0
        refine ⟨ρ, w, .string .empty, ?_, ⟨_, rfl, rfl⟩, hr, Stp.refl _ _ _ _⟩
        have := run_bytesToString (P := P) w a 0 cap [] (by simp [loadCells, loadCellsFrom])
        rw [h0']
        simp only [convert, Sem.run_bind, run_underlying hs, run_underlying hd, Result.andThen_ok, run_underlying hel, this]
        rfl
      · obtain ⟨hz1, e2⟩ := cond_no e1
        obtain rfl := Nat.eq_of_beq_eq_true hz1
        have hes : es ≠ [] := fun h => by rw [h] at h0; simp at h0
        obtain ⟨c, dd, vs, hf, rfl, hl⟩ := hadr hes
        obtain ⟨us, q1, q2, q3, q4⟩ := hl.flat
        obtain ⟨r, hm⟩ : ∃ r, mapO byteOf (flatL es) = some r := by
          cases hm : mapO byteOf (flatL es) with
          | none => rw [hm] at e2; exact (no_some e2).elim
          | some r => exact ⟨r, rfl⟩
        rw [hm] at e2
        simp only at e2
        obtain ⟨rfl, rfl⟩ := ret_some e2
        obtain ⟨hus, hlt⟩ := bytes_key (ρ := ρ) q1.vr hm
        obtain ⟨⟨et', fz', hh⟩, _⟩ := hr.fzok c vs hf
        have hloads : (loadCells ⟨c, dd, none⟩ es.length).run P w = .ok ((r.map Int.ofNat).map (Value.int .u8)).toArray w := by
          have := run_loadCells_list (P := P) w ⟨c, dd, none⟩ us fun j v hv => by
            have hadd : (⟨c, dd, none⟩ : Addr).add j = ⟨c, dd + j, none⟩ := by unfold Addr.add; split <;> simp_all
            rw [hadd]
            simp only [World.cell?, hh, Option.isSome_none, Bool.false_eq_true, if_false]
            exact q4 j v hv
          rw [q2, Nat.mul_one] at this
          rw [this, hus]
        refine ⟨ρ, w, .string ((r.map Int.ofNat).foldl (fun r n => r.push (UInt8.ofNat n.toNat)) ByteArray.empty), ?_, ⟨_, rfl, ?_⟩, hr, Stp.refl _ _ _ _⟩
        · have := run_bytesToString (P := P) w ⟨c, dd, none⟩ es.length cap (r.map Int.ofNat) hloads
          simp only [convert, Sem.run_bind, run_underlying hs, run_underlying hd, Result.andThen_ok, run_underlying hel, this]
        · unfold bytesOf
          rw [fold_push]
          simp only [List.map_map]
          have : ByteArray.empty.data.toList = [] := rfl
          rw [this, List.nil_append, List.map_map]
          conv => rhs; rw [← List.map_id r]
          apply List.map_congr_left
          intro c hc
          simp only [Function.comp, _root_.id]
          have := hlt c hc
          simp only [Int.ofNat_eq_natCast, Int.toNat_natCast, UInt8.toNat_ofNat']
          exact Nat.mod_eq_of_lt (by omega)
    all_goals exact (no_some e).elim
  · exact (no_some e).elim
end
end Go.Pe
