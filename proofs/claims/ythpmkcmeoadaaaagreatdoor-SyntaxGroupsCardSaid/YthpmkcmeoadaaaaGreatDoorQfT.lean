/- The walk's words. -/
import Derived.Test.YthpmkcmeoadaaaaGreatDoorQfS
namespace Go.Pe
open HM
theorem nbeq_f {a b : Nat} (h : a ≠ b) : Nat.beq a b = false := by
  cases hq : Nat.beq a b with
  | false => rfl
  | true => exact absurd (Nat.eq_of_beq_eq_true hq) h
theorem bqt {b : Bool} : (b == true) = b := by cases b <;> rfl
theorem bqf {b : Bool} : (b == false) = !b := by cases b <;> rfl
attribute [go_sem ↓] prepL_nil prepL_none prepL_some dstL_0 dstL_s walk_nil walk_none walk_some prepD_nil prepD_none prepD_some prepP_nil prepG_none prepG_some walkD_nil walkD_none walkD_some bnd_obnd obnd_some Thn_nm Thn_ex Thn_rt Blk_nm Blk_rt Blk_eq evE_regS evE_seq evE_skip evE_ret evE_exit evE_scope evE_block evE_cond Fin_walk Fin_walkN
attribute [go_sem] R0_b R0_i R0_s R0_fl R0_is R0_tup_is R1_is pl pl1 PV.b.injEq PV.i.injEq
attribute [go_sem] obnd_some Cnd_b Blk_ne FinR_some resV one_
attribute [go_sem] WrP_some WrO_b WrO_ite WrO_iteO WrO_i WrO_s WrO_nilp WrO_p WrO_sl WrO_agg WrO_tup WrO_nilf WrO_fn WrO_nili WrO_ifc WrO_nilm WrO_m WrO_fl WrO_fp SplitB_t SplitB_f SplitP_t SplitP_f SplitB_d SplitB_n wantS
attribute [go_sem] Chk_t chkD snapD kdOf Kd.isEff touch tP tM tS execC execV builtinV mapO opnd obnd_none obnd_ite ofO_h ret_h no putT_lt putT_no args_ binV arith strV unV ofV ofV1 bytesOf
attribute [go_sem] ldT stT rdCells wrCells rd wr new H.get H.put takeX putL overlay partV fieldOf elemT one_b cells_b one_i cells_i one_s cells_s one_nilp cells_nilp one_p cells_p one_fl cells_fl one_fp cells_fp one_sl cells_sl one_nili cells_nili cells_agg buildV partsO partF placesO fillL buildS rep lenV sliceV convV rowX
attribute [go_sem] tget oset_same oset_ne get_e eqP_refl Nat.zero_ne_one Nat.one_ne_zero Nat.reduceLT Nat.reduceAdd Nat.reduceMul Nat.reduceSub Nat.reduceEqDiff Nat.reduceBEq Int.reduceEq Int.reduceLT Int.reduceLE Int.add_zero Int.reduceNeg Option.getD_some Option.getD_none Option.bind_some Option.map_some List.size_toArray List.length_cons List.length_nil List.toList_toArray
attribute [go_sem] List.getElem?_toArray List.getElem?_cons_zero List.getElem?_cons_succ List.drop_succ_cons List.drop_zero List.all_cons List.all_nil
attribute [go_sem] natIx_cast natIx_0 natIx_1 natIx_2 natIx_3 natIx_4 natIx_5 natIx_6 natIx_7 natIx_8 natIx_9 natIx_10 natIx_11 natIx_12 natIx_13 natIx_14 natIx_15 natIx_16 List.cons_append List.nil_append List.append_nil beq_iff_eq reduceCtorEq Array.isEmpty_empty List.isEmpty_toArray List.isEmpty_nil List.isEmpty_cons Bool.and_self Bool.and_true Bool.true_and Bool.and_false Bool.false_and Bool.or_true Bool.true_or Bool.or_false Bool.false_or Bool.not_true Bool.not_false beq_self_eq_true Nat.beq_refl decide_true decide_false Nat.zero_add Nat.add_zero blt_lt ble_le eq_self beq_tf beq_ft execV_pick pickO_b
attribute [go_sem] decide_eq_true_eq decide_eq_false_iff_not Bool.not_eq_true' Bool.not_eq_false' Bool.false_eq_true Bool.true_eq_false and_true true_and not_true_eq_false not_false_eq_true cond_true cond_false ne_eq bqt bqf Int.ofNat_eq_natCast
attribute [go_sem] prepP
attribute [go_sem 10] wrap_id
attribute [go_sem] kill H.del T.get_del Int.reduceAdd Int.reduceSub Int.reduceMul Int.zero_add Int.zero_sub Int.sub_zero Int.mul_one Int.one_mul Int.natCast_zero
attribute [go_sem] nbeq_f appendV newCells room flatL Nat.mul_one Nat.one_mul Nat.zero_mul Nat.mul_zero
end Go.Pe
