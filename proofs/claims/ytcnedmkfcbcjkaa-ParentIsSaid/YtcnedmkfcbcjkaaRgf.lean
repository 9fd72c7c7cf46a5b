/- WHAT IS LEFT OF FUNCTIONS' CODE when the evaluator has read it. Printed by a tool of this claim's writer; each line is checked. -/
import Derived.Test.YtcnedmkfcbcjkaaRge
namespace Go.Proofs.Ytcnedmkfcbcjkaa.Ra
open Go Go.Proofs.Try
set_option linter.unusedVariables false
noncomputable def ct_law08_ParentOnly : CT := look [(21, .pure F_law08_awake), (23, .pure F_parent_Get), (30, .pure F_parent_Same), (26, .pure F_parent_Check), (28, .pure F_parent_Put)]
noncomputable def F_law08_ParentOnly : List D → Option (D) := evPure tt vv ct_law08_ParentOnly A_law08_ParentOnly Try.f6
theorem ok_law08_ParentOnly : OkPure prog 6 F_law08_ParentOnly := okPure' mixed tt_ok vv_ok (ct_pure ok_law08_awake (ct_pure ok_parent_Get (ct_pure ok_parent_Same (ct_pure ok_parent_Check (ct_pure ok_parent_Put ct_nil))))) (by kernel_rfl) (by kernel_rfl) (by kernel_rfl)
theorem F_law08_ParentOnly_eq (x0 : List D) : F_law08_ParentOnly [D.sl x0] =
  (F_law08_awake []).bind fun (y0 : D) =>
  bif decide (ofN x0.length > 1000) then some (tupOf [y0])
  else
    (F_parent_Get [D.sl x0]).bind fun (y1 : D) =>
      (y1.ext 0).bind fun (y2 : D) =>
        (y1.ext 1).bind fun (y3 : D) =>
          (y1.ext 2).bind fun (y4 : D) =>
            (y2.aggN 3).bind fun (ds5 : List D) =>
              bif decide (0 + (List.map V.d (explicit 3 ds5)).length ≤ [V.own 1256, V.own 1257, V.own 1258].length) then
                (binD BinOp.neq y4 (D.int IntKind.i64 0)).bind fun (y6 : D) =>
                  y6.asBool.bind fun (b7 : Bool) =>
                    bif b7 then
                      y0.asBool.bind fun (b8 : Bool) =>
                        bif b8 then
                          (F_parent_Same [D.agg [ds5.getD 0 D.any, ds5.getD 1 D.any, ds5.getD 2 D.any], D.agg [D.sl [], D.sl [], D.sl []]]).bind fun (y9 : D) =>
                            y9.asBool.bind fun (b10 : Bool) =>
                              bif b10 then (Option.map (fun (xs : List D) => xs.length) y3.elems).bind fun (n11 : Nat) => some (D.bool (ofN n11 == 0)) else some (D.bool false)
                        else some (D.bool false)
                    else
                      y0.asBool.bind fun (b12 : Bool) =>
                        bif b12 then
                          (F_parent_Check [D.agg [ds5.getD 0 D.any, ds5.getD 1 D.any, ds5.getD 2 D.any]]).bind fun (y13 : D) =>
                            (binD BinOp.eql y13 (D.int IntKind.i64 0)).bind fun (y14 : D) =>
                              y14.asBool.bind fun (b15 : Bool) =>
                                bif b15 then
                                  (F_parent_Put [D.sl [], D.agg [ds5.getD 0 D.any, ds5.getD 1 D.any, ds5.getD 2 D.any]]).bind fun (y16 : D) =>
                                    (convD Conv.text y16).bind fun (y17 : D) =>
                                      (convD Conv.text y3).bind fun (y18 : D) =>
                                        (binD BinOp.add y17 y18).bind fun (y19 : D) =>
                                          (convD Conv.text (D.sl x0)).bind fun (y20 : D) => (binD BinOp.eql y19 y20).bind fun (y21 : D) => some (tupOf [y21])
                                else some (D.bool false)
                        else some (D.bool false)
              else none := by kernel_rfl
noncomputable def ct_law08_ParentBack : CT := look [(21, .pure F_law08_awake), (22, .pure F_ref08_Few), (28, .pure F_parent_Put), (26, .pure F_parent_Check), (23, .pure F_parent_Get), (25, .pure F_ref08_Same)]
noncomputable def F_law08_ParentBack : List D → Option (D) := evPure tt vv ct_law08_ParentBack A_law08_ParentBack Try.f5
theorem ok_law08_ParentBack : OkPure prog 5 F_law08_ParentBack := okPure' mixed tt_ok vv_ok (ct_pure ok_law08_awake (ct_pure ok_ref08_Few (ct_pure ok_parent_Put (ct_pure ok_parent_Check (ct_pure ok_parent_Get (ct_pure ok_ref08_Same ct_nil)))))) (by kernel_rfl) (by kernel_rfl) (by kernel_rfl)
theorem F_law08_ParentBack_eq (x0_0 : List D) (x0_1 : List D) (x0_2 : List D) (x1 : List D) (x2 : Int) : F_law08_ParentBack [D.agg [D.sl x0_0, D.sl x0_1, D.sl x0_2], D.sl x1, D.int .i64 x2] =
  (F_law08_awake []).bind fun (y0 : D) =>
  bif !decide (IntKind.i64.wrap (IntKind.i64.wrap (ofN x0_0.length + ofN x0_1.length) + ofN x0_2.length) ≤ 600) then some (tupOf [y0])
  else
    bif decide (ofN x1.length > 1000) then some (tupOf [y0])
    else
      (F_parent_Put [D.sl [], D.agg [D.sl x0_0, D.sl x0_1, D.sl x0_2]]).bind fun (y1 : D) =>
        (F_parent_Check [D.agg [D.sl x0_0, D.sl x0_1, D.sl x0_2]]).bind fun (y2 : D) =>
          (binD BinOp.neq y2 (D.int IntKind.i64 0)).bind fun (y3 : D) =>
            y3.asBool.bind fun (b4 : Bool) =>
              bif b4 then
                y0.asBool.bind fun (b5 : Bool) =>
                  bif b5 then (Option.map (fun (xs : List D) => xs.length) y1.elems).bind fun (n6 : Nat) => some (D.bool (ofN n6 == 0)) else some (D.bool false)
              else
                (Option.map (fun (xs : List D) => xs.length) y1.elems).bind fun (n7 : Nat) =>
                  bif ofN n7 == 0 then some (D.bool false)
                  else
                    (match y1 with
                        | D.sl xs => some xs
                        | x => none).bind
                      fun (ys8 : List D) =>
                      bif (ys8.all fun (x : D) => x.cells.length == 1) && true then
                        bif decide ((0 + ys8.length) * 1 ≤ 140737488355328) then
                          bif (x1.all fun (x : D) => x.cells.length == 1) && true then
                            bif decide ((([] ++ ys8).length + x1.length) * 1 ≤ 140737488355328) then
                              (F_parent_Get [D.sl ([] ++ ys8 ++ x1)]).bind fun (y9 : D) =>
                                (y9.ext 0).bind fun (y10 : D) =>
                                  (y9.ext 1).bind fun (y11 : D) =>
                                    (y9.ext 2).bind fun (y12 : D) =>
                                      (y10.aggN 3).bind fun (ds13 : List D) =>
                                        bif decide (0 + (List.map V.d (explicit 3 ds13)).length ≤ [V.own 1640, V.own 1641, V.own 1642].length) then
                                          (Option.map (fun (xs : List D) => xs.length) y1.elems).bind fun (n14 : Nat) =>
                                            (binD BinOp.rem
                                                  (D.int IntKind.i64 (IntKind.i64.wrap (ofN (BitVec.ofInt IntKind.i64.bits x2 &&& BitVec.ofInt IntKind.i64.bits 65535).toNat)))
                                                  (D.int IntKind.i64 (ofN n14))).bind
                                              fun (y15 : D) =>
                                              (Option.map (fun (xs : List D) => xs.length) y1.elems).bind fun (n16 : Nat) =>
                                                (Option.map (fun (x : IntKind × Int) => x.snd) y15.asInt).bind fun (h17 : Int) =>
                                                  (D.cut 1 0 h17 y1).bind fun (y18 : D) =>
                                                    (F_parent_Get [y18]).bind fun (y19 : D) =>
                                                      (y19.ext 0).bind fun (y20 : D) =>
                                                        (y19.ext 1).bind fun (y21 : D) =>
                                                          (y19.ext 2).bind fun (y22 : D) =>
                                                            (y20.aggN 3).bind fun (ds23 : List D) =>
                                                              bif decide (0 + (List.map V.d (explicit 3 ds23)).length ≤ [V.own 1832, V.own 1833, V.own 1834].length) then
                                                                y0.asBool.bind fun (b24 : Bool) =>
                                                                  bif b24 then
                                                                    (binD BinOp.eql y12 (D.int IntKind.i64 0)).bind fun (y25 : D) =>
                                                                      y25.asBool.bind fun (b26 : Bool) =>
                                                                        bif b26 then
                                                                          (F_ref08_Same
                                                                                [D.agg [ds13.getD 0 D.any, ds13.getD 1 D.any, ds13.getD 2 D.any],
                                                                                  D.agg [D.sl x0_0, D.sl x0_1, D.sl x0_2]]).bind
                                                                            fun (y27 : D) =>
                                                                            y27.asBool.bind fun (b28 : Bool) =>
                                                                              bif b28 then
                                                                                (convD Conv.text y11).bind fun (y29 : D) =>
                                                                                  (convD Conv.text (D.sl x1)).bind fun (y30 : D) =>
                                                                                    (binD BinOp.eql y29 y30).bind fun (y31 : D) =>
                                                                                      y31.asBool.bind fun (b32 : Bool) =>
                                                                                        bif b32 then
                                                                                          (binD BinOp.eql y22 (D.int IntKind.i64 1)).bind fun (y33 : D) => some (tupOf [y33])
                                                                                        else some (D.bool false)
                                                                              else some (D.bool false)
                                                                        else some (D.bool false)
                                                                  else some (D.bool false)
                                                              else none
                                        else none
                            else none
                          else none
                        else none
                      else none := by kernel_rfl
end Go.Proofs.Ytcnedmkfcbcjkaa.Ra
