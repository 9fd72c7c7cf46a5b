/- WHAT IS LEFT OF FUNCTIONS' CODE when the evaluator has read it. Printed by a tool of this claim's writer; each line is checked. -/
import Derived.Test.YtcnedmkfcbcjkaaRge
namespace Go.Proofs.Ytcnedmkfcbcjkaa.Ra
open Go Go.Proofs.Try
set_option linter.unusedVariables false
noncomputable def ct_law08_ParentIs : CT := look [(21, .pure F_law08_awake), (22, .pure F_ref08_Few), (23, .pure F_parent_Get), (24, .pure F_ref08_Get), (25, .pure F_ref08_Same), (26, .pure F_parent_Check), (27, .pure F_ref08_Check), (28, .pure F_parent_Put), (29, .pure F_ref08_Put), (30, .pure F_parent_Same), (32, .own 1 F_parent_Join), (33, .pure F_ref08_Join), (31, .pure F_ref02_Ints), (34, .own 1 F_parent_Cut), (35, .pure F_ref08_Cut)]
noncomputable def F_law08_ParentIs : List D → Option (D) := evPure tt vv ct_law08_ParentIs A_law08_ParentIs Try.f4
theorem ok_law08_ParentIs : OkPure prog 4 F_law08_ParentIs := okPure' mixed tt_ok vv_ok (ct_pure ok_law08_awake (ct_pure ok_ref08_Few (ct_pure ok_parent_Get (ct_pure ok_ref08_Get (ct_pure ok_ref08_Same (ct_pure ok_parent_Check (ct_pure ok_ref08_Check (ct_pure ok_parent_Put (ct_pure ok_ref08_Put (ct_pure ok_parent_Same (ct_own ok_parent_Join (ct_pure ok_ref08_Join (ct_pure ok_ref02_Ints (ct_own ok_parent_Cut (ct_pure ok_ref08_Cut ct_nil))))))))))))))) (by kernel_rfl) (by kernel_rfl) (by kernel_rfl)
theorem F_law08_ParentIs_eq (x0_0 : List D) (x0_1 : List D) (x0_2 : List D) (x1_0 : List D) (x1_1 : List D) (x1_2 : List D) (x2 : List D) (x3 : Int) : F_law08_ParentIs [D.agg [D.sl x0_0, D.sl x0_1, D.sl x0_2], D.agg [D.sl x1_0, D.sl x1_1, D.sl x1_2], D.sl x2, D.int .i64 x3] =
  (F_law08_awake []).bind fun (y0 : D) =>
  bif !decide (IntKind.i64.wrap (IntKind.i64.wrap (ofN x0_0.length + ofN x0_1.length) + ofN x0_2.length) ≤ 600) then some (tupOf [y0])
  else
    bif !decide (IntKind.i64.wrap (IntKind.i64.wrap (ofN x1_0.length + ofN x1_1.length) + ofN x1_2.length) ≤ 600) then some (tupOf [y0])
    else
      bif decide (ofN x2.length > 1000) then some (tupOf [y0])
      else
        (F_parent_Get [D.sl x2]).bind fun (y1 : D) =>
          (y1.ext 0).bind fun (y2 : D) =>
            (y1.ext 1).bind fun (y3 : D) =>
              (y1.ext 2).bind fun (y4 : D) =>
                (y2.aggN 3).bind fun (ds5 : List D) =>
                  bif decide (0 + (List.map V.d (explicit 3 ds5)).length ≤ [V.own 1640, V.own 1641, V.own 1642].length) then
                    (F_ref08_Get [D.sl x2]).bind fun (y6 : D) =>
                      (y6.ext 0).bind fun (y7 : D) =>
                        (y6.ext 1).bind fun (y8 : D) =>
                          (y6.ext 2).bind fun (y9 : D) =>
                            (y7.aggN 3).bind fun (ds10 : List D) =>
                              bif decide (0 + (List.map V.d (explicit 3 ds10)).length ≤ [V.own 1832, V.own 1833, V.own 1834].length) then
                                (F_ref08_Same [D.agg [ds5.getD 0 D.any, ds5.getD 1 D.any, ds5.getD 2 D.any], D.agg [ds10.getD 0 D.any, ds10.getD 1 D.any, ds10.getD 2 D.any]]).bind
                                  fun (y11 : D) =>
                                  (notD y11).bind fun (y12 : D) =>
                                    y12.asBool.bind fun (b13 : Bool) =>
                                      bif b13 then some (D.bool false)
                                      else
                                        (convD Conv.text y3).bind fun (y14 : D) =>
                                          (convD Conv.text y8).bind fun (y15 : D) =>
                                            (binD BinOp.neq y14 y15).bind fun (y16 : D) =>
                                              y16.asBool.bind fun (b17 : Bool) =>
                                                bif b17 then some (D.bool false)
                                                else
                                                  (binD BinOp.neq y4 y9).bind fun (y18 : D) =>
                                                    y18.asBool.bind fun (b19 : Bool) =>
                                                      bif b19 then some (D.bool false)
                                                      else
                                                        (F_parent_Check [D.agg [D.sl x0_0, D.sl x0_1, D.sl x0_2]]).bind fun (y20 : D) =>
                                                          (F_ref08_Check [D.agg [D.sl x0_0, D.sl x0_1, D.sl x0_2]]).bind fun (y21 : D) =>
                                                            (binD BinOp.neq y20 y21).bind fun (y22 : D) =>
                                                              y22.asBool.bind fun (b23 : Bool) =>
                                                                bif b23 then some (D.bool false)
                                                                else
                                                                  (F_parent_Put [D.sl x2, D.agg [D.sl x0_0, D.sl x0_1, D.sl x0_2]]).bind fun (y24 : D) =>
                                                                    (convD Conv.text y24).bind fun (y25 : D) =>
                                                                      (F_ref08_Put [D.sl x2, D.agg [D.sl x0_0, D.sl x0_1, D.sl x0_2]]).bind fun (y26 : D) =>
                                                                        (convD Conv.text y26).bind fun (y27 : D) =>
                                                                          (binD BinOp.neq y25 y27).bind fun (y28 : D) =>
                                                                            y28.asBool.bind fun (b29 : Bool) =>
                                                                              bif b29 then some (D.bool false)
                                                                              else
                                                                                y0.asBool.bind fun (b30 : Bool) =>
                                                                                  bif b30 then
                                                                                    (F_parent_Same
                                                                                          [D.agg [D.sl x0_0, D.sl x0_1, D.sl x0_2], D.agg [D.sl x1_0, D.sl x1_1, D.sl x1_2]]).bind
                                                                                      fun (y31 : D) =>
                                                                                      (F_ref08_Same
                                                                                            [D.agg [D.sl x0_0, D.sl x0_1, D.sl x0_2], D.agg [D.sl x1_0, D.sl x1_1, D.sl x1_2]]).bind
                                                                                        fun (y32 : D) =>
                                                                                        (boolD BinOp.eql y31 y32).bind fun (y33 : D) =>
                                                                                          y33.asBool.bind fun (b34 : Bool) =>
                                                                                            bif b34 then
                                                                                              (F_parent_Join [D.sl x0_2, D.int IntKind.i64 x3]).bind fun (xs35 : List D) =>
                                                                                                (F_ref08_Join [D.sl x0_2, D.int IntKind.i64 x3]).bind fun (y36 : D) =>
                                                                                                  (F_ref02_Ints [D.sl xs35, y36]).bind fun (y37 : D) =>
                                                                                                    y37.asBool.bind fun (b38 : Bool) =>
                                                                                                      bif b38 then
                                                                                                        (F_parent_Cut [D.sl x0_2, D.sl x1_2]).bind fun (xs39 : List D) =>
                                                                                                          (F_ref08_Cut [D.sl x0_2, D.sl x1_2]).bind fun (y40 : D) =>
                                                                                                            (F_ref02_Ints [D.sl xs39, y40]).bind fun (y41 : D) => some (tupOf [y41])
                                                                                                      else some (D.bool false)
                                                                                            else some (D.bool false)
                                                                                  else some (D.bool false)
                              else none
                  else none := by kernel_rfl
end Go.Proofs.Ytcnedmkfcbcjkaa.Ra
