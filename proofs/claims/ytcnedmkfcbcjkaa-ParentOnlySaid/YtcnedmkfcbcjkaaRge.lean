/- WHAT IS LEFT OF FUNCTIONS' CODE when the evaluator has read it. Printed by a tool of this claim's writer; each line is checked. -/
import Derived.Test.YtcnedmkfcbcjkaaHd
namespace Go.Proofs.Ytcnedmkfcbcjkaa.Ra
open Go Go.Proofs.Try
set_option linter.unusedVariables false
noncomputable def ct_slices_ContainsFunc_int : CT := look [(93, .pure F_slices_IndexFunc_int), (57, .pure F_parent_Check_1)]
noncomputable def F_slices_ContainsFunc_int : List D → Option (D) := evPure tt vv ct_slices_ContainsFunc_int A_slices_ContainsFunc_int Try.f58
theorem ok_slices_ContainsFunc_int : OkPure prog 58 F_slices_ContainsFunc_int := okPure' mixed tt_ok vv_ok (ct_pure ok_slices_IndexFunc_int (ct_pure ok_parent_Check_1 ct_nil)) (by kernel_rfl) (by kernel_rfl) (by kernel_rfl)
theorem F_slices_ContainsFunc_int_eq (x0 : List D) : F_slices_ContainsFunc_int [D.sl x0, D.clo 57 []] =
  (F_slices_IndexFunc_int [D.sl x0, D.clo 57 []]).bind fun (y0 : D) => (binD BinOp.geq y0 (D.int IntKind.i64 0)).bind fun (y1 : D) => some (tupOf [y1]) := by kernel_rfl
noncomputable def ct_parent_Check : CT := look [(58, .pure F_slices_ContainsFunc_int), (60, .own 1 F_parent_thin_int), (59, .pure F_slices_Equal_int), (57, .pure F_parent_Check_1)]
noncomputable def F_parent_Check : List D → Option (D) := evPure tt vv ct_parent_Check A_parent_Check Try.f26
theorem ok_parent_Check : OkPure prog 26 F_parent_Check := okPure' mixed tt_ok vv_ok (ct_pure ok_slices_ContainsFunc_int (ct_own ok_parent_thin_int (ct_pure ok_slices_Equal_int (ct_pure ok_parent_Check_1 ct_nil)))) (by kernel_rfl) (by kernel_rfl) (by kernel_rfl)
theorem F_parent_Check_eq (x0_0 : List D) (x0_1 : List D) (x0_2 : List D) : F_parent_Check [D.agg [D.sl x0_0, D.sl x0_1, D.sl x0_2]] =
  bif ofN x0_0.length == 0 then some (D.int IntKind.i64 5)
else
  bif decide (ofN x0_0.length > 200) then some (D.int IntKind.i64 4)
  else
    bif decide (ofN x0_1.length > 200) then some (D.int IntKind.i64 4)
    else
      bif decide (ofN x0_2.length > 64) then some (D.int IntKind.i64 4)
      else
        (F_slices_ContainsFunc_int [D.sl x0_2, D.clo 57 []]).bind fun (y0 : D) =>
          y0.asBool.bind fun (b1 : Bool) =>
            bif b1 then some (D.int IntKind.i64 3)
            else
              (F_parent_thin_int [D.sl x0_2]).bind fun (xs2 : List D) =>
                (F_slices_Equal_int [D.sl xs2, D.sl x0_2]).bind fun (y3 : D) =>
                  (notD y3).bind fun (y4 : D) => y4.asBool.bind fun (b5 : Bool) => bif b5 then some (D.int IntKind.i64 8) else some (D.int IntKind.i64 0) := by kernel_rfl
noncomputable def ct_parent_Put : CT := look [(26, .pure F_parent_Check), (61, .own 1 F_slices_Clone_byte), (63, .own 1 F_wire_PutBytes), (62, .own 1 F_wire_PutNums)]
noncomputable def F_parent_Put : List D → Option (D) := evPure tt vv ct_parent_Put A_parent_Put Try.f28
theorem ok_parent_Put : OkPure prog 28 F_parent_Put := okPure' mixed tt_ok vv_ok (ct_pure ok_parent_Check (ct_own ok_slices_Clone_byte (ct_own ok_wire_PutBytes (ct_own ok_wire_PutNums ct_nil)))) (by kernel_rfl) (by kernel_rfl) (by kernel_rfl)
theorem F_parent_Put_eq (x0 : List D) (x1_0 : List D) (x1_1 : List D) (x1_2 : List D) : F_parent_Put [D.sl x0, D.agg [D.sl x1_0, D.sl x1_1, D.sl x1_2]] =
  (F_parent_Check [D.agg [D.sl x1_0, D.sl x1_1, D.sl x1_2]]).bind fun (y0 : D) =>
  (binD BinOp.neq y0 (D.int IntKind.i64 0)).bind fun (y1 : D) =>
    y1.asBool.bind fun (b2 : Bool) =>
      bif b2 then (F_slices_Clone_byte [D.sl x0]).bind fun (xs3 : List D) => some (D.sl xs3)
      else
        (F_wire_PutBytes [D.sl x0, D.sl x1_0]).bind fun (xs4 : List D) =>
          (F_wire_PutBytes [D.sl xs4, D.sl x1_1]).bind fun (xs5 : List D) => (F_wire_PutNums [D.sl xs5, D.sl x1_2]).bind fun (xs6 : List D) => some (D.sl xs6) := by kernel_rfl
noncomputable def ct_parent_Get : CT := look [(53, .pure F_wire_GetBytes), (54, .pure F_wire_GetNums), (26, .pure F_parent_Check)]
noncomputable def F_parent_Get : List D → Option (D) := evPure tt vv ct_parent_Get A_parent_Get Try.f23
theorem ok_parent_Get : OkPure prog 23 F_parent_Get := okPure' mixed tt_ok vv_ok (ct_pure ok_wire_GetBytes (ct_pure ok_wire_GetNums (ct_pure ok_parent_Check ct_nil))) (by kernel_rfl) (by kernel_rfl) (by kernel_rfl)
theorem F_parent_Get_eq (x0 : List D) : F_parent_Get [D.sl x0] =
  (F_wire_GetBytes [D.sl x0]).bind fun (y0 : D) =>
  (y0.ext 0).bind fun (y1 : D) =>
    (y0.ext 1).bind fun (y2 : D) =>
      (y0.ext 2).bind fun (y3 : D) =>
        bif
            match y1 with
            | D.any => false
            | D.tup ds => false
            | D.agg ds => false
            | x => true then
          (binD BinOp.neq y3 (D.int IntKind.i64 0)).bind fun (y4 : D) =>
            y4.asBool.bind fun (b5 : Bool) =>
              bif b5 then some (D.tup [D.agg [D.sl [], D.sl [], D.sl []], D.sl [], y3])
              else
                (F_wire_GetBytes [y2]).bind fun (y6 : D) =>
                  (y6.ext 0).bind fun (y7 : D) =>
                    (y6.ext 1).bind fun (y8 : D) =>
                      (y6.ext 2).bind fun (y9 : D) =>
                        bif
                            match y7 with
                            | D.any => false
                            | D.tup ds => false
                            | D.agg ds => false
                            | x => true then
                          (binD BinOp.neq y9 (D.int IntKind.i64 0)).bind fun (y10 : D) =>
                            y10.asBool.bind fun (b11 : Bool) =>
                              bif b11 then some (D.tup [D.agg [D.sl [], D.sl [], D.sl []], D.sl [], y9])
                              else
                                (F_wire_GetNums [y8]).bind fun (y12 : D) =>
                                  (y12.ext 0).bind fun (y13 : D) =>
                                    (y12.ext 1).bind fun (y14 : D) =>
                                      (y12.ext 2).bind fun (y15 : D) =>
                                        bif
                                            match y13 with
                                            | D.any => false
                                            | D.tup ds => false
                                            | D.agg ds => false
                                            | x => true then
                                          (binD BinOp.neq y15 (D.int IntKind.i64 0)).bind fun (y16 : D) =>
                                            y16.asBool.bind fun (b17 : Bool) =>
                                              bif b17 then some (D.tup [D.agg [D.sl [], D.sl [], D.sl []], D.sl [], y15])
                                              else
                                                (F_parent_Check [D.agg [y1, y7, y13]]).bind fun (y18 : D) =>
                                                  (binD BinOp.neq y18 (D.int IntKind.i64 0)).bind fun (y19 : D) =>
                                                    y19.asBool.bind fun (b20 : Bool) =>
                                                      bif b20 then some (D.tup [D.agg [D.sl [], D.sl [], D.sl []], D.sl [], y18])
                                                      else
                                                        bif decide (0 + (List.map V.d (explicit 3 [y1, y7, y13])).length ≤ [V.own 1128, V.own 1129, V.own 1130].length) then
                                                          some
                                                            (D.tup
                                                              [D.agg [[y1, y7, y13].getD 0 D.any, [y1, y7, y13].getD 1 D.any, [y1, y7, y13].getD 2 D.any], y14,
                                                                D.int IntKind.i64 0])
                                                        else none
                                        else none
                        else none
        else none := by kernel_rfl
noncomputable def ct_parent_Same : CT := look [(66, .pure F_bytes_Equal), (59, .pure F_slices_Equal_int)]
noncomputable def F_parent_Same : List D → Option (D) := evPure tt vv ct_parent_Same A_parent_Same Try.f30
theorem ok_parent_Same : OkPure prog 30 F_parent_Same := okPure' mixed tt_ok vv_ok (ct_pure ok_bytes_Equal (ct_pure ok_slices_Equal_int ct_nil)) (by kernel_rfl) (by kernel_rfl) (by kernel_rfl)
theorem F_parent_Same_eq (x0_0 : List D) (x0_1 : List D) (x0_2 : List D) (x1_0 : List D) (x1_1 : List D) (x1_2 : List D) : F_parent_Same [D.agg [D.sl x0_0, D.sl x0_1, D.sl x0_2], D.agg [D.sl x1_0, D.sl x1_1, D.sl x1_2]] =
  (F_bytes_Equal [D.sl x0_0, D.sl x1_0]).bind fun (y0 : D) =>
  y0.asBool.bind fun (b1 : Bool) =>
    bif b1 then
      (F_bytes_Equal [D.sl x0_1, D.sl x1_1]).bind fun (y2 : D) =>
        y2.asBool.bind fun (b3 : Bool) => bif b3 then (F_slices_Equal_int [D.sl x0_2, D.sl x1_2]).bind fun (y4 : D) => some (tupOf [y4]) else some (D.bool false)
    else some (D.bool false) := by kernel_rfl
noncomputable def ct_parent_Join : CT := look [(67, .own 1 F_slices_Clone_int), (60, .own 1 F_parent_thin_int)]
noncomputable def F_parent_Join : List D → Option (List D) := evOwn tt vv ct_parent_Join A_parent_Join 1 Try.f32
theorem ok_parent_Join : OkOwn prog 32 1 F_parent_Join := okOwn' mixed tt_ok vv_ok (ct_own ok_slices_Clone_int (ct_own ok_parent_thin_int ct_nil)) 1 (by kernel_rfl) (by kernel_rfl) (by kernel_rfl)
theorem F_parent_Join_eq (x0 : List D) (x1 : Int) : F_parent_Join [D.sl x0, D.int .i64 x1] =
  (F_slices_Clone_int [D.sl x0]).bind fun (xs0 : List D) =>
  bif ([D.int IntKind.i64 x1].all fun (x : D) => x.cells.length == 1) && true then
    bif decide ((xs0.length + [D.int IntKind.i64 x1].length) * 8 ≤ 140737488355328) then
      (F_parent_thin_int [D.sl (xs0 ++ [D.int IntKind.i64 x1])]).bind fun (xs1 : List D) => some xs1
    else none
  else none := by kernel_rfl
noncomputable def ct_law08_awake : CT := look [(23, .pure F_parent_Get), (28, .pure F_parent_Put), (30, .pure F_parent_Same), (26, .pure F_parent_Check), (32, .own 1 F_parent_Join), (31, .pure F_ref02_Ints), (34, .own 1 F_parent_Cut)]
noncomputable def F_law08_awake : List D → Option (D) := evPure tt vv ct_law08_awake A_law08_awake Try.f21
theorem ok_law08_awake : OkPure prog 21 F_law08_awake := okPure' mixed tt_ok vv_ok (ct_pure ok_parent_Get (ct_pure ok_parent_Put (ct_pure ok_parent_Same (ct_pure ok_parent_Check (ct_own ok_parent_Join (ct_pure ok_ref02_Ints (ct_own ok_parent_Cut ct_nil))))))) (by kernel_rfl) (by kernel_rfl) (by kernel_rfl)
theorem F_law08_awake_eq  : F_law08_awake [] =
  (F_parent_Get
      [D.sl [D.int IntKind.u8 1, D.int IntKind.u8 7, D.int IntKind.u8 0, D.int IntKind.u8 4, D.int IntKind.u8 0, D.int IntKind.u8 0, D.int IntKind.u8 0, D.int IntKind.u8 3]]).bind
  fun (y0 : D) =>
  (y0.ext 0).bind fun (y1 : D) =>
    (y0.ext 1).bind fun (y2 : D) =>
      (y0.ext 2).bind fun (y3 : D) =>
        (y1.aggN 3).bind fun (ds4 : List D) =>
          bif decide (0 + (List.map V.d (explicit 3 ds4)).length ≤ [V.own 1128, V.own 1129, V.own 1130].length) then
            (F_parent_Put [D.sl [], D.agg [D.sl [D.int IntKind.u8 7], D.sl [], D.sl [D.int IntKind.i64 3]]]).bind fun (y5 : D) =>
              (convD Conv.text y5).bind fun (y6 : D) =>
                (binD BinOp.eql y6 (D.str [1, 7, 0, 4, 0, 0, 0, 3])).bind fun (y7 : D) =>
                  y7.asBool.bind fun (b8 : Bool) =>
                    bif b8 then
                      (binD BinOp.eql y3 (D.int IntKind.i64 0)).bind fun (y9 : D) =>
                        y9.asBool.bind fun (b10 : Bool) =>
                          bif b10 then
                            (F_parent_Same
                                  [D.agg [ds4.getD 0 D.any, ds4.getD 1 D.any, ds4.getD 2 D.any], D.agg [D.sl [D.int IntKind.u8 7], D.sl [], D.sl [D.int IntKind.i64 3]]]).bind
                              fun (y11 : D) =>
                              y11.asBool.bind fun (b12 : Bool) =>
                                bif b12 then
                                  (F_parent_Check [D.agg [D.sl [D.int IntKind.u8 7], D.sl [], D.sl [D.int IntKind.i64 3]]]).bind fun (y13 : D) =>
                                    (binD BinOp.eql y13 (D.int IntKind.i64 0)).bind fun (y14 : D) =>
                                      y14.asBool.bind fun (b15 : Bool) =>
                                        bif b15 then
                                          (F_parent_Join [D.sl [D.int IntKind.i64 1, D.int IntKind.i64 5], D.int IntKind.i64 3]).bind fun (xs16 : List D) =>
                                            (F_ref02_Ints [D.sl xs16, D.sl [D.int IntKind.i64 1, D.int IntKind.i64 3, D.int IntKind.i64 5]]).bind fun (y17 : D) =>
                                              y17.asBool.bind fun (b18 : Bool) =>
                                                bif b18 then
                                                  (F_ref02_Ints [D.sl [D.int IntKind.i64 1, D.int IntKind.i64 5], D.sl [D.int IntKind.i64 1, D.int IntKind.i64 5]]).bind
                                                    fun (y19 : D) => some (tupOf [y19])
                                                else some (D.bool false)
                                        else some (D.bool false)
                                else some (D.bool false)
                          else some (D.bool false)
                    else some (D.bool false)
          else none := by kernel_rfl
noncomputable def ct_law08_ParentJoin : CT := look [(21, .pure F_law08_awake), (32, .own 1 F_parent_Join), (36, .pure F_ref08_Has), (34, .own 1 F_parent_Cut), (31, .pure F_ref02_Ints)]
noncomputable def G_law08_ParentJoin_0 (x0 : List D) (x1 : Int) (x2 : Int) (y0 : D) (v : Int) (v_1 : Bool) (xs1 : List D) : Option (D) := loopIn tt vv ct_law08_ParentJoin A_law08_ParentJoin Try.f7 [1, 1, 1, 1, 0, 1, 0] 0 (kPure tt Try.f7)
  {
  tmps :=
    [V.d (D.sl x0), V.d (D.int IntKind.i64 x1), V.d (D.int IntKind.i64 x2), V.d D.any, V.d D.any, V.d D.any, V.d D.any, V.d y0, V.own 8, V.d (D.int IntKind.i64 v), V.d D.any,
      V.d D.any, V.d D.any, V.d D.any, V.d D.any, V.d D.any, V.d D.any, V.d D.any, V.d D.any, V.d D.any, V.d D.any, V.d D.any, V.d D.any, V.d D.any, V.d D.any, V.d D.any,
      V.d D.any, V.d D.any, V.d D.any, V.d D.any, V.d D.any, V.d D.any, V.d D.any, V.d D.any, V.d D.any, V.d D.any, V.d D.any, V.d D.any, V.d D.any, V.d D.any, V.d D.any,
      V.d D.any, V.d D.any, V.d D.any, V.d D.any, V.d D.any, V.d D.any, V.d D.any, V.d D.any, V.d D.any, V.d D.any, V.d D.any, V.d D.any, V.d D.any, V.d D.any, V.d D.any,
      V.d D.any, V.d D.any, V.d D.any, V.d D.any, V.d D.any, V.d D.any, V.d D.any, V.d D.any, V.d D.any, V.d D.any, V.d D.any, V.d D.any, V.d D.any, V.d D.any, V.d D.any,
      V.d D.any, V.d D.any, V.d D.any, V.d D.any, V.d D.any, V.d D.any, V.d D.any, V.d D.any, V.d D.any, V.d D.any, V.d D.any, V.d D.any, V.d D.any, V.d D.any, V.d D.any,
      V.d D.any, V.d D.any, V.d D.any, V.d D.any, V.d D.any, V.d D.any, V.d D.any, V.d D.any, V.d D.any, V.d D.any, V.d D.any, V.d D.any, V.d D.any, V.d D.any, V.d D.any,
      V.d D.any, V.d D.any, V.d D.any, V.d D.any, V.d D.any, V.d D.any, V.d D.any, V.d D.any, V.d D.any, V.d D.any, V.d D.any, V.d D.any, V.d D.any, V.d D.any, V.d D.any,
      V.d D.any, V.d D.any, V.d D.any, V.d D.any, V.d D.any],
  boxes := [], toks := [{ id := 8, wr := v_1, sz := 1, xs := xs1 }] }
noncomputable def G_law08_ParentJoin_2 (x0 : List D) (x1 : Int) (x2 : Int) (y0 : D) (v : Int) (v_1 : Bool) (xs1 : List D) : Option (D) := loopIn tt vv ct_law08_ParentJoin A_law08_ParentJoin Try.f7 [1, 1, 1, 1, 1, 0, 1, 0] 2 (kPure tt Try.f7)
  {
  tmps :=
    [V.d (D.sl x0), V.d (D.int IntKind.i64 x1), V.d (D.int IntKind.i64 x2), V.d D.any, V.d D.any, V.d D.any, V.d D.any, V.d y0, V.own 8, V.d D.any, V.d (D.int IntKind.i64 v),
      V.d D.any, V.d D.any, V.d D.any, V.d D.any, V.d D.any, V.d D.any, V.d D.any, V.d D.any, V.d D.any, V.d D.any, V.d D.any, V.d D.any, V.d D.any, V.d D.any, V.d D.any,
      V.d D.any, V.d D.any, V.d D.any, V.d D.any, V.d D.any, V.d D.any, V.d D.any, V.d D.any, V.d D.any, V.d D.any, V.d D.any, V.d D.any, V.d D.any, V.d D.any, V.d D.any,
      V.d D.any, V.d D.any, V.d D.any, V.d D.any, V.d D.any, V.d D.any, V.d D.any, V.d D.any, V.d D.any, V.d D.any, V.d D.any, V.d D.any, V.d D.any, V.d D.any, V.d D.any,
      V.d D.any, V.d D.any, V.d D.any, V.d D.any, V.d D.any, V.d D.any, V.d D.any, V.d D.any, V.d D.any, V.d D.any, V.d D.any, V.d D.any, V.d D.any, V.d D.any, V.d D.any,
      V.d D.any, V.d D.any, V.d D.any, V.d D.any, V.d D.any, V.d D.any, V.d D.any, V.d D.any, V.d D.any, V.d D.any, V.d D.any, V.d D.any, V.d D.any, V.d D.any, V.d D.any,
      V.d D.any, V.d D.any, V.d D.any, V.d D.any, V.d D.any, V.d D.any, V.d D.any, V.d D.any, V.d D.any, V.d D.any, V.d D.any, V.d D.any, V.d D.any, V.d D.any, V.d D.any,
      V.d D.any, V.d D.any, V.d D.any, V.d D.any, V.d D.any, V.d D.any, V.d D.any, V.d D.any, V.d D.any, V.d D.any, V.d D.any, V.d D.any, V.d D.any, V.d D.any, V.d D.any,
      V.d D.any, V.d D.any, V.d D.any, V.d D.any, V.d D.any],
  boxes := [], toks := [{ id := 8, wr := v_1, sz := 1, xs := xs1 }] }
noncomputable def F_law08_ParentJoin : List D → Option (D) := evPure tt vv ct_law08_ParentJoin A_law08_ParentJoin Try.f7
theorem ok_law08_ParentJoin : OkPure prog 7 F_law08_ParentJoin := okPure' mixed tt_ok vv_ok (ct_pure ok_law08_awake (ct_own ok_parent_Join (ct_pure ok_ref08_Has (ct_own ok_parent_Cut (ct_pure ok_ref02_Ints ct_nil))))) (by kernel_rfl) (by kernel_rfl) (by kernel_rfl)
theorem F_law08_ParentJoin_eq (x0 : List D) (x1 : Int) (x2 : Int) : F_law08_ParentJoin [D.sl x0, D.int .i64 x1, D.int .i64 x2] =
  (F_law08_awake []).bind fun (y0 : D) =>
  bif decide (ofN x0.length > 100) then some (tupOf [y0])
  else (F_parent_Join [D.sl x0, D.int IntKind.i64 x1]).bind fun (xs1 : List D) => G_law08_ParentJoin_0 x0 x1 x2 y0 0 true xs1 := by kernel_rfl
theorem G_law08_ParentJoin_0_eq (x0 : List D) (x1 : Int) (x2 : Int) (y0 : D) (v : Int) (v_1 : Bool) (xs1 : List D) : G_law08_ParentJoin_0 x0 x1 x2 y0 v v_1 xs1 =
  bif decide (v < ofN xs1.length) then
  bif decide (v > 0) then
    bif decide (0 ≤ IntKind.i64.wrap (v - 1)) && decide (IntKind.i64.wrap (v - 1) < ofN xs1.length) then
      xs1[(IntKind.i64.wrap (v - 1)).toNat]?.bind fun (x0_1 : D) =>
        (D.ofCells false 1 (List.drop 0 x0_1.cells)).bind fun (y1 : D) =>
          bif decide (0 ≤ v) && decide (v < ofN xs1.length) then
            xs1[v.toNat]?.bind fun (x2_1 : D) =>
              (D.ofCells false 1 (List.drop 0 x2_1.cells)).bind fun (y3 : D) =>
                (binD BinOp.geq y1 y3).bind fun (y4 : D) =>
                  y4.asBool.bind fun (b5 : Bool) =>
                    bif b5 then some (D.bool false)
                    else
                      bif decide (0 ≤ v) && decide (v < ofN xs1.length) then
                        xs1[v.toNat]?.bind fun (x6 : D) =>
                          (D.ofCells false 1 (List.drop 0 x6.cells)).bind fun (y7 : D) =>
                            (binD BinOp.neq y7 (D.int IntKind.i64 x1)).bind fun (y8 : D) =>
                              y8.asBool.bind fun (b9 : Bool) =>
                                bif b9 then
                                  bif decide (0 ≤ v) && decide (v < ofN xs1.length) then
                                    xs1[v.toNat]?.bind fun (x10 : D) =>
                                      (D.ofCells false 1 (List.drop 0 x10.cells)).bind fun (y11 : D) =>
                                        (F_ref08_Has [D.sl x0, y11]).bind fun (y12 : D) =>
                                          (notD y12).bind fun (y13 : D) =>
                                            y13.asBool.bind fun (b14 : Bool) =>
                                              bif b14 then some (D.bool false) else G_law08_ParentJoin_0 x0 x1 x2 y0 (IntKind.i64.wrap (v + 1)) false xs1
                                  else none
                                else G_law08_ParentJoin_0 x0 x1 x2 y0 (IntKind.i64.wrap (v + 1)) false xs1
                      else none
          else none
    else none
  else
    bif decide (0 ≤ v) && decide (v < ofN xs1.length) then
      xs1[v.toNat]?.bind fun (x15 : D) =>
        (D.ofCells false 1 (List.drop 0 x15.cells)).bind fun (y16 : D) =>
          (binD BinOp.neq y16 (D.int IntKind.i64 x1)).bind fun (y17 : D) =>
            y17.asBool.bind fun (b18 : Bool) =>
              bif b18 then
                bif decide (0 ≤ v) && decide (v < ofN xs1.length) then
                  xs1[v.toNat]?.bind fun (x19 : D) =>
                    (D.ofCells false 1 (List.drop 0 x19.cells)).bind fun (y20 : D) =>
                      (F_ref08_Has [D.sl x0, y20]).bind fun (y21 : D) =>
                        (notD y21).bind fun (y22 : D) =>
                          y22.asBool.bind fun (b23 : Bool) => bif b23 then some (D.bool false) else G_law08_ParentJoin_0 x0 x1 x2 y0 (IntKind.i64.wrap (v + 1)) false xs1
                else none
              else G_law08_ParentJoin_0 x0 x1 x2 y0 (IntKind.i64.wrap (v + 1)) false xs1
    else none
else G_law08_ParentJoin_2 x0 x1 x2 y0 0 v_1 xs1 := (loopIn_eq ..).trans (by kernel_rfl)
theorem G_law08_ParentJoin_2_eq (x0 : List D) (x1 : Int) (x2 : Int) (y0 : D) (v : Int) (v_1 : Bool) (xs1 : List D) : G_law08_ParentJoin_2 x0 x1 x2 y0 v v_1 xs1 =
  bif decide (v < ofN x0.length) then
  (D.elemPtr 1 (D.sl x0) v).bind fun (y0_1 : D) =>
    (D.loadRo false 1 y0_1).bind fun (y1 : D) =>
      (F_ref08_Has [D.sl xs1, y1]).bind fun (y2 : D) =>
        (notD y2).bind fun (y3 : D) => y3.asBool.bind fun (b4 : Bool) => bif b4 then some (D.bool false) else G_law08_ParentJoin_2 x0 x1 x2 y0 (IntKind.i64.wrap (v + 1)) false xs1
else
  (F_parent_Cut [D.sl xs1, D.sl [D.int IntKind.i64 x1]]).bind fun (xs5 : List D) =>
    y0.asBool.bind fun (b6 : Bool) =>
      bif b6 then
        (F_ref08_Has [D.sl xs1, D.int IntKind.i64 x1]).bind fun (y7 : D) =>
          y7.asBool.bind fun (b8 : Bool) =>
            bif b8 then
              (F_ref08_Has [D.sl xs5, D.int IntKind.i64 x1]).bind fun (y9 : D) =>
                (notD y9).bind fun (y10 : D) =>
                  y10.asBool.bind fun (b11 : Bool) =>
                    bif b11 then
                      bif ofN xs5.length == IntKind.i64.wrap (ofN xs1.length - 1) then
                        (F_parent_Join [D.sl xs1, D.int IntKind.i64 x1]).bind fun (xs12 : List D) =>
                          (F_ref02_Ints [D.sl xs12, D.sl xs1]).bind fun (y13 : D) =>
                            y13.asBool.bind fun (b14 : Bool) =>
                              bif b14 then
                                (F_parent_Join [D.sl xs5, D.int IntKind.i64 x1]).bind fun (xs15 : List D) =>
                                  (F_ref02_Ints [D.sl xs15, D.sl xs1]).bind fun (y16 : D) =>
                                    y16.asBool.bind fun (b17 : Bool) =>
                                      bif b17 then
                                        (F_parent_Join [D.sl x0, D.int IntKind.i64 x1]).bind fun (xs18 : List D) =>
                                          (F_parent_Join [D.sl xs18, D.int IntKind.i64 x2]).bind fun (xs19 : List D) =>
                                            (F_parent_Join [D.sl x0, D.int IntKind.i64 x2]).bind fun (xs20 : List D) =>
                                              (F_parent_Join [D.sl xs20, D.int IntKind.i64 x1]).bind fun (xs21 : List D) =>
                                                (F_ref02_Ints [D.sl xs19, D.sl xs21]).bind fun (y22 : D) => some (tupOf [y22])
                                      else some (D.bool false)
                              else some (D.bool false)
                      else some (D.bool false)
                    else some (D.bool false)
            else some (D.bool false)
      else some (D.bool false) := (loopIn_eq ..).trans (by kernel_rfl)
noncomputable def ct_law08_ParentCuts : CT := look [(21, .pure F_law08_awake), (34, .own 1 F_parent_Cut), (36, .pure F_ref08_Has), (31, .pure F_ref02_Ints)]
noncomputable def G_law08_ParentCuts_0 (x0 : List D) (x1 : List D) (y0 : D) (v : Int) (v_1 : Int) (v_2 : Bool) (xs1 : List D) : Option (D) := loopIn tt vv ct_law08_ParentCuts A_law08_ParentCuts Try.f8 [1, 1, 1, 1, 1, 0, 1, 0] 0 (kPure tt Try.f8)
  {
  tmps :=
    [V.d (D.sl x0), V.d (D.sl x1), V.d D.any, V.d D.any, V.d D.any, V.d y0, V.own 6, V.d (D.int IntKind.i64 v), V.d (D.int IntKind.i64 v_1), V.d D.any, V.d D.any, V.d D.any,
      V.d D.any, V.d D.any, V.d D.any, V.d D.any, V.d D.any, V.d D.any, V.d D.any, V.d D.any, V.d D.any, V.d D.any, V.d D.any, V.d D.any, V.d D.any, V.d D.any, V.d D.any,
      V.d D.any, V.d D.any, V.d D.any, V.d D.any, V.d D.any, V.d D.any, V.d D.any, V.d D.any, V.d D.any, V.d D.any, V.d D.any, V.d D.any, V.d D.any, V.d D.any, V.d D.any,
      V.d D.any, V.d D.any, V.d D.any, V.d D.any, V.d D.any, V.d D.any, V.d D.any, V.d D.any, V.d D.any, V.d D.any, V.d D.any, V.d D.any, V.d D.any, V.d D.any, V.d D.any,
      V.d D.any, V.d D.any, V.d D.any, V.d D.any, V.d D.any, V.d D.any, V.d D.any, V.d D.any, V.d D.any, V.d D.any, V.d D.any, V.d D.any, V.d D.any, V.d D.any, V.d D.any,
      V.d D.any, V.d D.any, V.d D.any, V.d D.any, V.d D.any, V.d D.any],
  boxes := [], toks := [{ id := 6, wr := v_2, sz := 1, xs := xs1 }] }
noncomputable def F_law08_ParentCuts : List D → Option (D) := evPure tt vv ct_law08_ParentCuts A_law08_ParentCuts Try.f8
theorem ok_law08_ParentCuts : OkPure prog 8 F_law08_ParentCuts := okPure' mixed tt_ok vv_ok (ct_pure ok_law08_awake (ct_own ok_parent_Cut (ct_pure ok_ref08_Has (ct_pure ok_ref02_Ints ct_nil)))) (by kernel_rfl) (by kernel_rfl) (by kernel_rfl)
theorem F_law08_ParentCuts_eq (x0 : List D) (x1 : List D) : F_law08_ParentCuts [D.sl x0, D.sl x1] =
  (F_law08_awake []).bind fun (y0 : D) =>
  bif decide (ofN x0.length > 100) then some (tupOf [y0])
  else bif decide (ofN x1.length > 100) then some (tupOf [y0]) else (F_parent_Cut [D.sl x0, D.sl x1]).bind fun (xs1 : List D) => G_law08_ParentCuts_0 x0 x1 y0 0 0 true xs1 := by kernel_rfl
theorem G_law08_ParentCuts_0_eq (x0 : List D) (x1 : List D) (y0 : D) (v : Int) (v_1 : Int) (v_2 : Bool) (xs1 : List D) : G_law08_ParentCuts_0 x0 x1 y0 v v_1 v_2 xs1 =
  bif decide (v_1 < ofN x0.length) then
  (D.elemPtr 1 (D.sl x0) v_1).bind fun (y0_1 : D) =>
    (D.loadRo false 1 y0_1).bind fun (y1 : D) =>
      (F_ref08_Has [D.sl x1, y1]).bind fun (y2 : D) =>
        y2.asBool.bind fun (b3 : Bool) =>
          bif b3 then G_law08_ParentCuts_0 x0 x1 y0 v (IntKind.i64.wrap (v_1 + 1)) v_2 xs1
          else
            bif decide (v ≥ ofN xs1.length) then some (D.bool false)
            else
              bif decide (0 ≤ v) && decide (v < ofN xs1.length) then
                xs1[v.toNat]?.bind fun (x4 : D) =>
                  (D.ofCells false 1 (List.drop 0 x4.cells)).bind fun (y5 : D) =>
                    (D.elemPtr 1 (D.sl x0) v_1).bind fun (y6 : D) =>
                      (D.loadRo false 1 y6).bind fun (y7 : D) =>
                        (binD BinOp.neq y5 y7).bind fun (y8 : D) =>
                          y8.asBool.bind fun (b9 : Bool) =>
                            bif b9 then some (D.bool false) else G_law08_ParentCuts_0 x0 x1 y0 (IntKind.i64.wrap (v + 1)) (IntKind.i64.wrap (v_1 + 1)) false xs1
              else none
else
  y0.asBool.bind fun (b10 : Bool) =>
    bif b10 then
      bif v == ofN xs1.length then
        (F_parent_Cut [D.sl xs1, D.sl x1]).bind fun (xs11 : List D) =>
          (F_ref02_Ints [D.sl xs11, D.sl xs1]).bind fun (y12 : D) =>
            y12.asBool.bind fun (b13 : Bool) =>
              bif b13 then
                (F_parent_Cut [D.sl x0, D.sl []]).bind fun (xs14 : List D) =>
                  (F_ref02_Ints [D.sl xs14, D.sl x0]).bind fun (y15 : D) =>
                    y15.asBool.bind fun (b16 : Bool) =>
                      bif b16 then (F_parent_Cut [D.sl x0, D.sl x0]).bind fun (xs17 : List D) => some (D.bool (ofN xs17.length == 0)) else some (D.bool false)
              else some (D.bool false)
      else some (D.bool false)
    else some (D.bool false) := (loopIn_eq ..).trans (by kernel_rfl)
end Go.Proofs.Ytcnedmkfcbcjkaa.Ra
