/- WHAT IS LEFT OF FUNCTIONS' CODE when the evaluator has read it. Printed by a tool of this claim's writer; each line is checked. -/
import Derived.Test.YtcnedmkfcbcjkaaRt
namespace Go.Proofs.Ytcnedmkfcbcjkaa.Ra
open Go Go.Proofs.Try
set_option linter.unusedVariables false
noncomputable def ct_ref08_Has : CT := look []
noncomputable def G_ref08_Has_0 (x0 : List D) (x1 : Int) (v : Int) : Option (D) := loopIn tt vv ct_ref08_Has A_ref08_Has Try.f36 [1, 0, 1, 0] 0 (kPure tt Try.f36)
  {
  tmps :=
    [V.d (D.sl x0), V.d (D.int IntKind.i64 x1), V.d D.any, V.d D.any, V.d D.any, V.d (D.int IntKind.i64 v), V.d D.any, V.d D.any, V.d D.any, V.d D.any, V.d D.any, V.d D.any,
      V.d D.any, V.d D.any, V.d D.any, V.d D.any, V.d D.any, V.d D.any],
  boxes := [], toks := [] }
noncomputable def F_ref08_Has : List D → Option (D) := evPure tt vv ct_ref08_Has A_ref08_Has Try.f36
theorem ok_ref08_Has : OkPure prog 36 F_ref08_Has := okPure' mixed tt_ok vv_ok ct_nil (by kernel_rfl) (by kernel_rfl) (by kernel_rfl)
theorem F_ref08_Has_eq (x0 : List D) (x1 : Int) : F_ref08_Has [D.sl x0, D.int .i64 x1] =
  G_ref08_Has_0 x0 x1 0 := by kernel_rfl
theorem G_ref08_Has_0_eq (x0 : List D) (x1 : Int) (v : Int) : G_ref08_Has_0 x0 x1 v =
  bif decide (v < ofN x0.length) then
  (D.elemPtr 1 (D.sl x0) v).bind fun (y0 : D) =>
    (D.loadRo false 1 y0).bind fun (y1 : D) =>
      (binD BinOp.eql y1 (D.int IntKind.i64 x1)).bind fun (y2 : D) =>
        y2.asBool.bind fun (b3 : Bool) => bif b3 then some (D.bool true) else G_ref08_Has_0 x0 x1 (IntKind.i64.wrap (v + 1))
else some (D.bool false) := (loopIn_eq ..).trans (by kernel_rfl)
noncomputable def ct_ref02_Ints : CT := look []
noncomputable def G_ref02_Ints_0 (x0 : List D) (x1 : List D) (v : Int) : Option (D) := loopIn tt vv ct_ref02_Ints A_ref02_Ints Try.f31 [1, 1, 0, 1, 0] 0 (kPure tt Try.f31)
  {
  tmps :=
    [V.d (D.sl x0), V.d (D.sl x1), V.d D.any, V.d D.any, V.d D.any, V.d (D.int IntKind.i64 v), V.d D.any, V.d D.any, V.d D.any, V.d D.any, V.d D.any, V.d D.any, V.d D.any,
      V.d D.any, V.d D.any, V.d D.any, V.d D.any, V.d D.any, V.d D.any, V.d D.any, V.d D.any, V.d D.any, V.d D.any, V.d D.any, V.d D.any, V.d D.any],
  boxes := [], toks := [] }
noncomputable def F_ref02_Ints : List D → Option (D) := evPure tt vv ct_ref02_Ints A_ref02_Ints Try.f31
theorem ok_ref02_Ints : OkPure prog 31 F_ref02_Ints := okPure' mixed tt_ok vv_ok ct_nil (by kernel_rfl) (by kernel_rfl) (by kernel_rfl)
theorem F_ref02_Ints_eq (x0 : List D) (x1 : List D) : F_ref02_Ints [D.sl x0, D.sl x1] =
  bif ofN x0.length != ofN x1.length then some (D.bool false) else G_ref02_Ints_0 x0 x1 0 := by kernel_rfl
theorem G_ref02_Ints_0_eq (x0 : List D) (x1 : List D) (v : Int) : G_ref02_Ints_0 x0 x1 v =
  bif decide (v < ofN x0.length) then
  (D.elemPtr 1 (D.sl x0) v).bind fun (y0 : D) =>
    (D.loadRo false 1 y0).bind fun (y1 : D) =>
      (D.elemPtr 1 (D.sl x1) v).bind fun (y2 : D) =>
        (D.loadRo false 1 y2).bind fun (y3 : D) =>
          (binD BinOp.neq y1 y3).bind fun (y4 : D) => y4.asBool.bind fun (b5 : Bool) => bif b5 then some (D.bool false) else G_ref02_Ints_0 x0 x1 (IntKind.i64.wrap (v + 1))
else some (D.bool true) := (loopIn_eq ..).trans (by kernel_rfl)
noncomputable def ct_ref08_Check : CT := look []
noncomputable def G_ref08_Check_0 (v : Int) (x0_0 : List D) (x0_1 : List D) (x0_2 : List D) : Option (D) := loopIn tt vv ct_ref08_Check A_ref08_Check Try.f27 [1, 1, 1, 0, 1, 0] 0 (kPure tt Try.f27)
  {
  tmps :=
    [V.d D.any, V.box 1 0, V.d D.any, V.d (D.int IntKind.i64 v), V.d D.any, V.d D.any, V.d D.any, V.d D.any, V.d D.any, V.d D.any, V.d D.any, V.d D.any, V.d D.any, V.d D.any,
      V.d D.any, V.d D.any, V.d D.any, V.d D.any, V.d D.any, V.d D.any, V.d D.any, V.d D.any, V.d D.any, V.d D.any, V.d D.any, V.d D.any, V.d D.any, V.d D.any, V.d D.any,
      V.d D.any, V.d D.any, V.d D.any, V.d D.any, V.d D.any, V.d D.any, V.d D.any, V.d D.any, V.d D.any, V.d D.any, V.d D.any, V.d D.any, V.d D.any, V.d D.any, V.d D.any,
      V.d D.any, V.d D.any, V.d D.any, V.d D.any, V.d D.any, V.d D.any, V.d D.any, V.d D.any, V.d D.any, V.d D.any, V.d D.any, V.d D.any, V.d D.any, V.d D.any, V.d D.any,
      V.d D.any, V.d D.any, V.d D.any, V.d D.any, V.d D.any, V.d D.any],
  boxes := [(1, [V.d (D.sl x0_0), V.d (D.sl x0_1), V.d (D.sl x0_2)])], toks := [] }
noncomputable def G_ref08_Check_2 (v : Int) (x0_0 : List D) (x0_1 : List D) (x0_2 : List D) : Option (D) := loopIn tt vv ct_ref08_Check A_ref08_Check Try.f27 [1, 1, 1, 1, 0, 1, 0] 2 (kPure tt Try.f27)
  {
  tmps :=
    [V.d D.any, V.box 1 0, V.d D.any, V.d D.any, V.d (D.int IntKind.i64 v), V.d D.any, V.d D.any, V.d D.any, V.d D.any, V.d D.any, V.d D.any, V.d D.any, V.d D.any, V.d D.any,
      V.d D.any, V.d D.any, V.d D.any, V.d D.any, V.d D.any, V.d D.any, V.d D.any, V.d D.any, V.d D.any, V.d D.any, V.d D.any, V.d D.any, V.d D.any, V.d D.any, V.d D.any,
      V.d D.any, V.d D.any, V.d D.any, V.d D.any, V.d D.any, V.d D.any, V.d D.any, V.d D.any, V.d D.any, V.d D.any, V.d D.any, V.d D.any, V.d D.any, V.d D.any, V.d D.any,
      V.d D.any, V.d D.any, V.d D.any, V.d D.any, V.d D.any, V.d D.any, V.d D.any, V.d D.any, V.d D.any, V.d D.any, V.d D.any, V.d D.any, V.d D.any, V.d D.any, V.d D.any,
      V.d D.any, V.d D.any, V.d D.any, V.d D.any, V.d D.any, V.d D.any],
  boxes := [(1, [V.d (D.sl x0_0), V.d (D.sl x0_1), V.d (D.sl x0_2)])], toks := [] }
noncomputable def F_ref08_Check : List D → Option (D) := evPure tt vv ct_ref08_Check A_ref08_Check Try.f27
theorem ok_ref08_Check : OkPure prog 27 F_ref08_Check := okPure' mixed tt_ok vv_ok ct_nil (by kernel_rfl) (by kernel_rfl) (by kernel_rfl)
theorem F_ref08_Check_eq (x0_0 : List D) (x0_1 : List D) (x0_2 : List D) : F_ref08_Check [D.agg [D.sl x0_0, D.sl x0_1, D.sl x0_2]] =
  bif ofN x0_0.length == 0 then some (D.int IntKind.i64 5)
else
  bif decide (ofN x0_0.length > 200) then some (D.int IntKind.i64 4)
  else
    bif decide (ofN x0_1.length > 200) then some (D.int IntKind.i64 4) else bif decide (ofN x0_2.length > 64) then some (D.int IntKind.i64 4) else G_ref08_Check_0 0 x0_0 x0_1 x0_2 := by kernel_rfl
theorem G_ref08_Check_0_eq (v : Int) (x0_0 : List D) (x0_1 : List D) (x0_2 : List D) : G_ref08_Check_0 v x0_0 x0_1 x0_2 =
  bif decide (v < ofN x0_2.length) then
  (D.elemPtr 1 (D.sl x0_2) v).bind fun (y0 : D) =>
    (D.loadRo false 1 y0).bind fun (y1 : D) =>
      (binD BinOp.lss y1 (D.int IntKind.i64 0)).bind fun (y2 : D) =>
        y2.asBool.bind fun (b3 : Bool) =>
          bif b3 then some (D.int IntKind.i64 3)
          else
            (D.elemPtr 1 (D.sl x0_2) v).bind fun (y4 : D) =>
              (D.loadRo false 1 y4).bind fun (y5 : D) =>
                (binD BinOp.gtr y5 (D.int IntKind.i64 63)).bind fun (y6 : D) =>
                  y6.asBool.bind fun (b7 : Bool) => bif b7 then some (D.int IntKind.i64 3) else G_ref08_Check_0 (IntKind.i64.wrap (v + 1)) x0_0 x0_1 x0_2
else G_ref08_Check_2 1 x0_0 x0_1 x0_2 := (loopIn_eq ..).trans (by kernel_rfl)
theorem G_ref08_Check_2_eq (v : Int) (x0_0 : List D) (x0_1 : List D) (x0_2 : List D) : G_ref08_Check_2 v x0_0 x0_1 x0_2 =
  bif decide (v < ofN x0_2.length) then
  (D.elemPtr 1 (D.sl x0_2) (IntKind.i64.wrap (v - 1))).bind fun (y0 : D) =>
    (D.loadRo false 1 y0).bind fun (y1 : D) =>
      (D.elemPtr 1 (D.sl x0_2) v).bind fun (y2 : D) =>
        (D.loadRo false 1 y2).bind fun (y3 : D) =>
          (binD BinOp.geq y1 y3).bind fun (y4 : D) =>
            y4.asBool.bind fun (b5 : Bool) => bif b5 then some (D.int IntKind.i64 8) else G_ref08_Check_2 (IntKind.i64.wrap (v + 1)) x0_0 x0_1 x0_2
else some (D.int IntKind.i64 0) := (loopIn_eq ..).trans (by kernel_rfl)
noncomputable def ct_ref08_Join : CT := look [(36, .pure F_ref08_Has)]
noncomputable def G_ref08_Join_0 (v : List D) (v_3 : Bool) (v_1 : List D) : Option (D) := loopIn tt vv ct_ref08_Join A_ref08_Join Try.f33 [1, 1, 1, 1, 0, 0] 0 (kPure tt Try.f33)
  {
  tmps :=
    [V.d D.any, V.d D.any, V.d D.any, V.d D.any, V.d D.any, V.own 5, V.own 6, V.d D.any, V.d D.any, V.d D.any, V.d D.any, V.d D.any, V.d D.any, V.d D.any, V.d D.any, V.d D.any,
      V.d D.any, V.d D.any, V.d D.any, V.d D.any, V.d D.any, V.d D.any, V.d D.any, V.d D.any, V.d D.any, V.d D.any, V.d D.any, V.d D.any, V.d D.any, V.d D.any, V.d D.any,
      V.d D.any, V.d D.any, V.d D.any, V.d D.any, V.d D.any, V.d D.any, V.d D.any, V.d D.any, V.d D.any, V.d D.any, V.d D.any, V.d D.any, V.d D.any, V.d D.any, V.d D.any,
      V.d D.any, V.d D.any, V.d D.any, V.d D.any, V.d D.any, V.d D.any, V.d D.any, V.d D.any, V.d D.any, V.d D.any, V.d D.any, V.d D.any, V.d D.any],
  boxes := [], toks := [{ id := 5, wr := true, sz := 1, xs := v }, { id := 6, wr := v_3, sz := 1, xs := v_1 }] }
noncomputable def G_ref08_Join_2 (y6 : D) (v : Bool) (v_1 : Int) (v_2 : List D) (v_3 : Bool) (v_1_1 : List D) : Option (D) := loopIn tt vv ct_ref08_Join A_ref08_Join Try.f33 [1, 1, 1, 1, 0, 0, 0, 1, 0, 1, 1, 0, 1, 0] 2 (kPure tt Try.f33)
  {
  tmps :=
    [V.d D.any, V.d D.any, V.d D.any, V.d D.any, V.d D.any, V.own 5, V.own 6, V.d y6, V.d (D.bool v), V.d (D.int IntKind.i64 v_1), V.d D.any, V.d D.any, V.d D.any, V.d D.any,
      V.d D.any, V.d D.any, V.d D.any, V.d D.any, V.d D.any, V.d D.any, V.d D.any, V.d D.any, V.d D.any, V.d D.any, V.d D.any, V.d D.any, V.d D.any, V.d D.any, V.d D.any,
      V.d D.any, V.d D.any, V.d D.any, V.d D.any, V.d D.any, V.d D.any, V.d D.any, V.d D.any, V.d D.any, V.d D.any, V.d D.any, V.d D.any, V.d D.any, V.d D.any, V.d D.any,
      V.d D.any, V.d D.any, V.d D.any, V.d D.any, V.d D.any, V.d D.any, V.d D.any, V.d D.any, V.d D.any, V.d D.any, V.d D.any, V.d D.any, V.d D.any, V.d D.any, V.d D.any],
  boxes := [], toks := [{ id := 5, wr := true, sz := 1, xs := v_2 }, { id := 6, wr := v_3, sz := 1, xs := v_1_1 }] }
noncomputable def F_ref08_Join : List D → Option (D) := evPure tt vv ct_ref08_Join A_ref08_Join Try.f33
theorem ok_ref08_Join : OkPure prog 33 F_ref08_Join := okPure' mixed tt_ok vv_ok (ct_pure ok_ref08_Has ct_nil) (by kernel_rfl) (by kernel_rfl) (by kernel_rfl)
theorem F_ref08_Join_eq (x0 : List D) (x1 : Int) : F_ref08_Join [D.sl x0, D.int .i64 x1] =
  bif (x0.all fun (x : D) => x.cells.length == 1) && true then
  bif decide ((0 + x0.length) * 8 ≤ 140737488355328) then
    bif ([D.int IntKind.i64 x1].all fun (x : D) => x.cells.length == 1) && true then
      bif decide ((([] ++ x0).length + [D.int IntKind.i64 x1].length) * 8 ≤ 140737488355328) then G_ref08_Join_0 ([] ++ x0 ++ [D.int IntKind.i64 x1]) true [] else none
    else none
  else none
else none := by kernel_rfl
theorem G_ref08_Join_0_eq (v : List D) (v_3 : Bool) (v_1 : List D) : G_ref08_Join_0 v v_3 v_1 =
  bif decide (ofN v_1.length < ofN v.length) then G_ref08_Join_2 (D.int IntKind.i64 0) false 0 v v_3 v_1 else some (D.sl v_1) := (loopIn_eq ..).trans (by kernel_rfl)
theorem G_ref08_Join_2_eq (y6 : D) (v : Bool) (v_1 : Int) (v_2 : List D) (v_3 : Bool) (v_1_1 : List D) : G_ref08_Join_2 y6 v v_1 v_2 v_3 v_1_1 =
  bif decide (v_1 < ofN v_2.length) then
  bif decide (0 ≤ v_1) && decide (v_1 < ofN v_2.length) then
    v_2[v_1.toNat]?.bind fun (x0 : D) =>
      (D.ofCells false 1 (List.drop 0 x0.cells)).bind fun (y1 : D) =>
        (F_ref08_Has [D.sl v_1_1, y1]).bind fun (y2 : D) =>
          (notD y2).bind fun (y3 : D) =>
            y3.asBool.bind fun (b4 : Bool) =>
              bif b4 then
                bif !v then
                  bif decide (0 ≤ v_1) && decide (v_1 < ofN v_2.length) then
                    v_2[v_1.toNat]?.bind fun (x5 : D) =>
                      (D.ofCells false 1 (List.drop 0 x5.cells)).bind fun (y6 : D) => G_ref08_Join_2 y6 true (IntKind.i64.wrap (v_1 + 1)) v_2 false v_1_1
                  else none
                else
                  bif decide (0 ≤ v_1) && decide (v_1 < ofN v_2.length) then
                    v_2[v_1.toNat]?.bind fun (x7 : D) =>
                      (D.ofCells false 1 (List.drop 0 x7.cells)).bind fun (y8 : D) =>
                        (binD BinOp.lss y8 y6).bind fun (y9 : D) =>
                          y9.asBool.bind fun (b10 : Bool) =>
                            bif b10 then
                              bif decide (0 ≤ v_1) && decide (v_1 < ofN v_2.length) then
                                v_2[v_1.toNat]?.bind fun (x11 : D) =>
                                  (D.ofCells false 1 (List.drop 0 x11.cells)).bind fun (y12 : D) => G_ref08_Join_2 y12 true (IntKind.i64.wrap (v_1 + 1)) v_2 false v_1_1
                              else none
                            else G_ref08_Join_2 y6 v (IntKind.i64.wrap (v_1 + 1)) v_2 false v_1_1
                  else none
              else G_ref08_Join_2 y6 v (IntKind.i64.wrap (v_1 + 1)) v_2 false v_1_1
  else none
else
  bif !v then some (D.sl v_1_1)
  else
    bif
        (match y6 with
          | D.any => false
          | D.tup ds => false
          | D.agg ds => ds.length == 1
          | x => 1 == 1) &&
          true then
      bif ([y6].all fun (x : D) => x.cells.length == 1) && true then
        bif decide ((v_1_1.length + [y6].length) * 8 ≤ 140737488355328) then G_ref08_Join_0 v_2 v_3 (v_1_1 ++ [y6]) else none
      else none
    else none := (loopIn_eq ..).trans (by kernel_rfl)
noncomputable def ct_ref08_Cut : CT := look [(36, .pure F_ref08_Has)]
noncomputable def G_ref08_Cut_0 (x0 : List D) (x1 : List D) (v : Int) (v_1 : List D) : Option (D) := loopIn tt vv ct_ref08_Cut A_ref08_Cut Try.f35 [1, 1, 0, 1, 0] 0 (kPure tt Try.f35)
  {
  tmps :=
    [V.d (D.sl x0), V.d (D.sl x1), V.d D.any, V.d D.any, V.d D.any, V.own 5, V.d (D.int IntKind.i64 v), V.d D.any, V.d D.any, V.d D.any, V.d D.any, V.d D.any, V.d D.any, V.d D.any,
      V.d D.any, V.d D.any, V.d D.any, V.d D.any, V.d D.any, V.d D.any, V.d D.any, V.d D.any, V.d D.any, V.d D.any, V.d D.any, V.d D.any, V.d D.any, V.d D.any],
  boxes := [], toks := [{ id := 5, wr := true, sz := 1, xs := v_1 }] }
noncomputable def F_ref08_Cut : List D → Option (D) := evPure tt vv ct_ref08_Cut A_ref08_Cut Try.f35
theorem ok_ref08_Cut : OkPure prog 35 F_ref08_Cut := okPure' mixed tt_ok vv_ok (ct_pure ok_ref08_Has ct_nil) (by kernel_rfl) (by kernel_rfl) (by kernel_rfl)
theorem F_ref08_Cut_eq (x0 : List D) (x1 : List D) : F_ref08_Cut [D.sl x0, D.sl x1] =
  G_ref08_Cut_0 x0 x1 0 [] := by kernel_rfl
theorem G_ref08_Cut_0_eq (x0 : List D) (x1 : List D) (v : Int) (v_1 : List D) : G_ref08_Cut_0 x0 x1 v v_1 =
  bif decide (v < ofN x0.length) then
  (D.elemPtr 1 (D.sl x0) v).bind fun (y0 : D) =>
    (D.loadRo false 1 y0).bind fun (y1 : D) =>
      (F_ref08_Has [D.sl x1, y1]).bind fun (y2 : D) =>
        (notD y2).bind fun (y3 : D) =>
          y3.asBool.bind fun (b4 : Bool) =>
            bif b4 then
              (D.elemPtr 1 (D.sl x0) v).bind fun (y5 : D) =>
                (D.loadRo false 1 y5).bind fun (y6 : D) =>
                  bif
                      (match y6 with
                        | D.any => false
                        | D.tup ds => false
                        | D.agg ds => ds.length == 1
                        | x => 1 == 1) &&
                        true then
                    bif ([y6].all fun (x : D) => x.cells.length == 1) && true then
                      bif decide ((v_1.length + [y6].length) * 8 ≤ 140737488355328) then G_ref08_Cut_0 x0 x1 (IntKind.i64.wrap (v + 1)) (v_1 ++ [y6]) else none
                    else none
                  else none
            else G_ref08_Cut_0 x0 x1 (IntKind.i64.wrap (v + 1)) v_1
else some (D.sl v_1) := (loopIn_eq ..).trans (by kernel_rfl)
noncomputable def ct_ref08_Same : CT := look [(31, .pure F_ref02_Ints)]
noncomputable def F_ref08_Same : List D → Option (D) := evPure tt vv ct_ref08_Same A_ref08_Same Try.f25
theorem ok_ref08_Same : OkPure prog 25 F_ref08_Same := okPure' mixed tt_ok vv_ok (ct_pure ok_ref02_Ints ct_nil) (by kernel_rfl) (by kernel_rfl) (by kernel_rfl)
theorem F_ref08_Same_eq (x0_0 : List D) (x0_1 : List D) (x0_2 : List D) (x1_0 : List D) (x1_1 : List D) (x1_2 : List D) : F_ref08_Same [D.agg [D.sl x0_0, D.sl x0_1, D.sl x0_2], D.agg [D.sl x1_0, D.sl x1_1, D.sl x1_2]] =
  (convD Conv.text (D.sl x0_0)).bind fun (y0 : D) =>
  (convD Conv.text (D.sl x1_0)).bind fun (y1 : D) =>
    (binD BinOp.eql y0 y1).bind fun (y2 : D) =>
      y2.asBool.bind fun (b3 : Bool) =>
        bif b3 then
          (convD Conv.text (D.sl x0_1)).bind fun (y4 : D) =>
            (convD Conv.text (D.sl x1_1)).bind fun (y5 : D) =>
              (binD BinOp.eql y4 y5).bind fun (y6 : D) =>
                y6.asBool.bind fun (b7 : Bool) => bif b7 then (F_ref02_Ints [D.sl x0_2, D.sl x1_2]).bind fun (y8 : D) => some (tupOf [y8]) else some (D.bool false)
        else some (D.bool false) := by kernel_rfl
noncomputable def ct_ref01_Size : CT := look []
noncomputable def F_ref01_Size : List D → Option (D) := evPure tt vv ct_ref01_Size A_ref01_Size Try.f116
theorem ok_ref01_Size : OkPure prog 116 F_ref01_Size := okPure' mixed tt_ok vv_ok ct_nil (by kernel_rfl) (by kernel_rfl) (by kernel_rfl)
theorem F_ref01_Size_eq (x0 : Int) : F_ref01_Size [D.int .i64 x0] =
  bif decide (x0 < 0) then some (D.int IntKind.i64 0)
else
  bif decide (x0 > 1073741823) then some (D.int IntKind.i64 0)
  else bif decide (x0 ≤ 63) then some (D.int IntKind.i64 1) else bif decide (x0 ≤ 16383) then some (D.int IntKind.i64 2) else some (D.int IntKind.i64 4) := by kernel_rfl
noncomputable def ct_ref02_count : CT := look []
noncomputable def F_ref02_count : List D → Option (D) := evPure tt vv ct_ref02_count A_ref02_count Try.f117
theorem ok_ref02_count : OkPure prog 117 F_ref02_count := okPure' mixed tt_ok vv_ok ct_nil (by kernel_rfl) (by kernel_rfl) (by kernel_rfl)
theorem F_ref02_count_eq (x0 : Int) : F_ref02_count [D.int .i64 x0] =
  some (D.int IntKind.i64 (if 4 < if x0 < 1 then 1 else x0 then 4 else if x0 < 1 then 1 else x0)) := by kernel_rfl
noncomputable def ct_ref01_Get : CT := look [(116, .pure F_ref01_Size)]
noncomputable def G_ref01_Get_0 (x0 : List D) (v : Int) (y7 : D) (v_1 : Int) : Option (D) := loopIn tt vv ct_ref01_Get A_ref01_Get Try.f91 [1, 1, 1, 1, 1, 1, 0, 1, 0] 0 (kPure tt Try.f91)
  {
  tmps :=
    [V.d (D.sl x0), V.d D.any, V.d D.any, V.d D.any, V.d D.any, V.d (D.int IntKind.i64 v), V.d y7, V.d (D.int IntKind.i64 v_1), V.d D.any, V.d D.any, V.d D.any, V.d D.any,
      V.d D.any, V.d D.any, V.d D.any, V.d D.any, V.d D.any, V.d D.any, V.d D.any, V.d D.any, V.d D.any, V.d D.any, V.d D.any, V.d D.any, V.d D.any, V.d D.any, V.d D.any,
      V.d D.any, V.d D.any, V.d D.any, V.d D.any, V.d D.any, V.d D.any, V.d D.any, V.d D.any, V.d D.any, V.d D.any, V.d D.any, V.d D.any, V.d D.any, V.d D.any, V.d D.any,
      V.d D.any, V.d D.any, V.d D.any, V.d D.any, V.d D.any, V.d D.any, V.d D.any, V.d D.any, V.d D.any, V.d D.any, V.d D.any],
  boxes := [], toks := [] }
noncomputable def F_ref01_Get : List D → Option (D) := evPure tt vv ct_ref01_Get A_ref01_Get Try.f91
theorem ok_ref01_Get : OkPure prog 91 F_ref01_Get := okPure' mixed tt_ok vv_ok (ct_pure ok_ref01_Size ct_nil) (by kernel_rfl) (by kernel_rfl) (by kernel_rfl)
theorem F_ref01_Get_eq (x0 : List D) : F_ref01_Get [D.sl x0] =
  bif ofN x0.length == 0 then some (D.tup [D.int IntKind.i64 0, D.sl [], D.int IntKind.i64 1])
else
  (D.elemPtr 1 (D.sl x0) 0).bind fun (y0 : D) =>
    (D.loadRo false 1 y0).bind fun (y1 : D) =>
      (binD BinOp.lss y1 (D.int IntKind.u8 64)).bind fun (y2 : D) =>
        y2.asBool.bind fun (b3 : Bool) =>
          bif b3 then
            bif decide (ofN x0.length < 1) then some (D.tup [D.int IntKind.i64 0, D.sl [], D.int IntKind.i64 1])
            else
              (D.elemPtr 1 (D.sl x0) 0).bind fun (y4 : D) =>
                (D.loadRo false 1 y4).bind fun (y5 : D) =>
                  (convD (Conv.int IntKind.i64) y5).bind fun (y6 : D) => (binD BinOp.rem y6 (D.int IntKind.i64 64)).bind fun (y7 : D) => G_ref01_Get_0 x0 1 y7 1
          else
            (D.elemPtr 1 (D.sl x0) 0).bind fun (y8 : D) =>
              (D.loadRo false 1 y8).bind fun (y9 : D) =>
                (binD BinOp.lss y9 (D.int IntKind.u8 128)).bind fun (y10 : D) =>
                  y10.asBool.bind fun (b11 : Bool) =>
                    bif b11 then
                      bif decide (ofN x0.length < 2) then some (D.tup [D.int IntKind.i64 0, D.sl [], D.int IntKind.i64 1])
                      else
                        (D.elemPtr 1 (D.sl x0) 0).bind fun (y12 : D) =>
                          (D.loadRo false 1 y12).bind fun (y13 : D) =>
                            (convD (Conv.int IntKind.i64) y13).bind fun (y14 : D) => (binD BinOp.rem y14 (D.int IntKind.i64 64)).bind fun (y15 : D) => G_ref01_Get_0 x0 2 y15 1
                    else
                      (D.elemPtr 1 (D.sl x0) 0).bind fun (y16 : D) =>
                        (D.loadRo false 1 y16).bind fun (y17 : D) =>
                          (binD BinOp.geq y17 (D.int IntKind.u8 192)).bind fun (y18 : D) =>
                            y18.asBool.bind fun (b19 : Bool) =>
                              bif b19 then some (D.tup [D.int IntKind.i64 0, D.sl [], D.int IntKind.i64 2])
                              else
                                bif decide (ofN x0.length < 4) then some (D.tup [D.int IntKind.i64 0, D.sl [], D.int IntKind.i64 1])
                                else
                                  (D.elemPtr 1 (D.sl x0) 0).bind fun (y20 : D) =>
                                    (D.loadRo false 1 y20).bind fun (y21 : D) =>
                                      (convD (Conv.int IntKind.i64) y21).bind fun (y22 : D) =>
                                        (binD BinOp.rem y22 (D.int IntKind.i64 64)).bind fun (y23 : D) => G_ref01_Get_0 x0 4 y23 1 := by kernel_rfl
theorem G_ref01_Get_0_eq (x0 : List D) (v : Int) (y7 : D) (v_1 : Int) : G_ref01_Get_0 x0 v y7 v_1 =
  bif decide (v_1 < v) then
  (binD BinOp.mul y7 (D.int IntKind.i64 256)).bind fun (y0 : D) =>
    (D.elemPtr 1 (D.sl x0) v_1).bind fun (y1 : D) =>
      (D.loadRo false 1 y1).bind fun (y2 : D) =>
        (convD (Conv.int IntKind.i64) y2).bind fun (y3 : D) => (binD BinOp.add y0 y3).bind fun (y4 : D) => G_ref01_Get_0 x0 v y4 (IntKind.i64.wrap (v_1 + 1))
else
  (F_ref01_Size [y7]).bind fun (y5 : D) =>
    (binD BinOp.neq y5 (D.int IntKind.i64 v)).bind fun (y6 : D) =>
      y6.asBool.bind fun (b7 : Bool) =>
        bif b7 then some (D.tup [D.int IntKind.i64 0, D.sl [], D.int IntKind.i64 2])
        else (D.cut 1 v (ofN x0.length) (D.sl x0)).bind fun (y8 : D) => some (D.tup [y7, y8, D.int IntKind.i64 0]) := (loopIn_eq ..).trans (by kernel_rfl)
noncomputable def ct_ref01_Put : CT := look [(116, .pure F_ref01_Size)]
noncomputable def F_ref01_Put : List D → Option (List D) := evOwn tt vv ct_ref01_Put A_ref01_Put 1 Try.f98
theorem ok_ref01_Put : OkOwn prog 98 1 F_ref01_Put := okOwn' mixed tt_ok vv_ok (ct_pure ok_ref01_Size ct_nil) 1 (by kernel_rfl) (by kernel_rfl) (by kernel_rfl)
theorem F_ref01_Put_eq (x0 : List D) (x1 : Int) : F_ref01_Put [D.sl x0, D.int .i64 x1] =
  bif (x0.all fun (x : D) => x.cells.length == 1) && true then
  bif decide ((0 + x0.length) * 1 ≤ 140737488355328) then
    (F_ref01_Size [D.int IntKind.i64 x1]).bind fun (y0 : D) =>
      (binD BinOp.eql y0 (D.int IntKind.i64 1)).bind fun (y1 : D) =>
        y1.asBool.bind fun (b2 : Bool) =>
          bif b2 then
            bif ([D.int IntKind.u8 (IntKind.u8.wrap x1)].all fun (x : D) => x.cells.length == 1) && true then
              bif decide ((([] ++ x0).length + [D.int IntKind.u8 (IntKind.u8.wrap x1)].length) * 1 ≤ 140737488355328) then
                some ([] ++ x0 ++ [D.int IntKind.u8 (IntKind.u8.wrap x1)])
              else none
            else none
          else
            (binD BinOp.eql y0 (D.int IntKind.i64 2)).bind fun (y3 : D) =>
              y3.asBool.bind fun (b4 : Bool) =>
                bif b4 then
                  bif
                      decide
                        (1 <
                          ((List.replicate 2 (elemZero { kind := TK.one, size := 1, bytes := 1, zero := [Z.d (D.int IntKind.u8 0)] })).set 0
                              (D.int IntKind.u8 (IntKind.u8.wrap (IntKind.i64.wrap (64 + IntKind.i64.wrap (x1.tdiv 256)))))).length) then
                    bif
                        ([D.int IntKind.u8 (IntKind.u8.wrap (IntKind.i64.wrap (64 + IntKind.i64.wrap (x1.tdiv 256)))), D.int IntKind.u8 (IntKind.u8.wrap (x1.tmod 256))].all
                            fun (x : D) => x.cells.length == 1) &&
                          true then
                      bif
                          decide
                            ((([] ++ x0).length +
                                  [D.int IntKind.u8 (IntKind.u8.wrap (IntKind.i64.wrap (64 + IntKind.i64.wrap (x1.tdiv 256)))),
                                      D.int IntKind.u8 (IntKind.u8.wrap (x1.tmod 256))].length) *
                                1 ≤
                              140737488355328) then
                        some
                          ([] ++ x0 ++
                            [D.int IntKind.u8 (IntKind.u8.wrap (IntKind.i64.wrap (64 + IntKind.i64.wrap (x1.tdiv 256)))), D.int IntKind.u8 (IntKind.u8.wrap (x1.tmod 256))])
                      else none
                    else none
                  else none
                else
                  (binD BinOp.eql y0 (D.int IntKind.i64 4)).bind fun (y5 : D) =>
                    y5.asBool.bind fun (b6 : Bool) =>
                      bif b6 then
                        bif
                            decide
                              (1 <
                                ((List.replicate 4 (elemZero { kind := TK.one, size := 1, bytes := 1, zero := [Z.d (D.int IntKind.u8 0)] })).set 0
                                    (D.int IntKind.u8 (IntKind.u8.wrap (IntKind.i64.wrap (128 + IntKind.i64.wrap (x1.tdiv 16777216)))))).length) then
                          bif
                              decide
                                (2 <
                                  (((List.replicate 4 (elemZero { kind := TK.one, size := 1, bytes := 1, zero := [Z.d (D.int IntKind.u8 0)] })).set 0
                                          (D.int IntKind.u8 (IntKind.u8.wrap (IntKind.i64.wrap (128 + IntKind.i64.wrap (x1.tdiv 16777216)))))).set
                                      1 (D.int IntKind.u8 (IntKind.u8.wrap ((IntKind.i64.wrap (x1.tdiv 65536)).tmod 256)))).length) then
                            bif
                                decide
                                  (3 <
                                    ((((List.replicate 4 (elemZero { kind := TK.one, size := 1, bytes := 1, zero := [Z.d (D.int IntKind.u8 0)] })).set 0
                                                (D.int IntKind.u8 (IntKind.u8.wrap (IntKind.i64.wrap (128 + IntKind.i64.wrap (x1.tdiv 16777216)))))).set
                                            1 (D.int IntKind.u8 (IntKind.u8.wrap ((IntKind.i64.wrap (x1.tdiv 65536)).tmod 256)))).set
                                        2 (D.int IntKind.u8 (IntKind.u8.wrap ((IntKind.i64.wrap (x1.tdiv 256)).tmod 256)))).length) then
                              bif
                                  ([D.int IntKind.u8 (IntKind.u8.wrap (IntKind.i64.wrap (128 + IntKind.i64.wrap (x1.tdiv 16777216)))),
                                          D.int IntKind.u8 (IntKind.u8.wrap ((IntKind.i64.wrap (x1.tdiv 65536)).tmod 256)),
                                          D.int IntKind.u8 (IntKind.u8.wrap ((IntKind.i64.wrap (x1.tdiv 256)).tmod 256)), D.int IntKind.u8 (IntKind.u8.wrap (x1.tmod 256))].all
                                      fun (x : D) => x.cells.length == 1) &&
                                    true then
                                bif
                                    decide
                                      ((([] ++ x0).length +
                                            [D.int IntKind.u8 (IntKind.u8.wrap (IntKind.i64.wrap (128 + IntKind.i64.wrap (x1.tdiv 16777216)))),
                                                D.int IntKind.u8 (IntKind.u8.wrap ((IntKind.i64.wrap (x1.tdiv 65536)).tmod 256)),
                                                D.int IntKind.u8 (IntKind.u8.wrap ((IntKind.i64.wrap (x1.tdiv 256)).tmod 256)),
                                                D.int IntKind.u8 (IntKind.u8.wrap (x1.tmod 256))].length) *
                                          1 ≤
                                        140737488355328) then
                                  some
                                    ([] ++ x0 ++
                                      [D.int IntKind.u8 (IntKind.u8.wrap (IntKind.i64.wrap (128 + IntKind.i64.wrap (x1.tdiv 16777216)))),
                                        D.int IntKind.u8 (IntKind.u8.wrap ((IntKind.i64.wrap (x1.tdiv 65536)).tmod 256)),
                                        D.int IntKind.u8 (IntKind.u8.wrap ((IntKind.i64.wrap (x1.tdiv 256)).tmod 256)), D.int IntKind.u8 (IntKind.u8.wrap (x1.tmod 256))])
                                else none
                              else none
                            else none
                          else none
                        else none
                      else some ([] ++ x0)
  else none
else none := by kernel_rfl
noncomputable def ct_ref02_GetNum : CT := look [(117, .pure F_ref02_count)]
noncomputable def G_ref02_GetNum_0 (x0 : List D) (y0 : D) (y8 : D) (v : Int) : Option (D) := loopIn tt vv ct_ref02_GetNum A_ref02_GetNum Try.f92 [1, 1, 1, 1, 0, 1, 0] 0 (kPure tt Try.f92)
  {
  tmps :=
    [V.d (D.sl x0), V.d D.any, V.d D.any, V.d D.any, V.d D.any, V.d D.any, V.d D.any, V.d y0, V.d y8, V.d (D.int IntKind.i64 v), V.d D.any, V.d D.any, V.d D.any, V.d D.any,
      V.d D.any, V.d D.any, V.d D.any, V.d D.any, V.d D.any, V.d D.any, V.d D.any, V.d D.any, V.d D.any, V.d D.any, V.d D.any, V.d D.any, V.d D.any, V.d D.any, V.d D.any,
      V.d D.any, V.d D.any, V.d D.any, V.d D.any],
  boxes := [], toks := [] }
noncomputable def F_ref02_GetNum : List D → Option (D) := evPure tt vv ct_ref02_GetNum A_ref02_GetNum Try.f92
theorem ok_ref02_GetNum : OkPure prog 92 F_ref02_GetNum := okPure' mixed tt_ok vv_ok (ct_pure ok_ref02_count ct_nil) (by kernel_rfl) (by kernel_rfl) (by kernel_rfl)
theorem F_ref02_GetNum_eq (x0 : List D) (x1 : Int) : F_ref02_GetNum [D.sl x0, D.int .i64 x1] =
  (F_ref02_count [D.int IntKind.i64 x1]).bind fun (y0 : D) =>
  (binD BinOp.lss (D.int IntKind.i64 (ofN x0.length)) y0).bind fun (y1 : D) =>
    y1.asBool.bind fun (b2 : Bool) => bif b2 then some (D.tup [D.int IntKind.i64 0, D.sl [], D.int IntKind.i64 1]) else G_ref02_GetNum_0 x0 y0 (D.int IntKind.i64 0) 0 := by kernel_rfl
theorem G_ref02_GetNum_0_eq (x0 : List D) (y0 : D) (y8 : D) (v : Int) : G_ref02_GetNum_0 x0 y0 y8 v =
  (binD BinOp.lss (D.int IntKind.i64 v) y0).bind fun (y0_1 : D) =>
  y0_1.asBool.bind fun (b1 : Bool) =>
    bif b1 then
      (binD BinOp.mul y8 (D.int IntKind.i64 256)).bind fun (y2 : D) =>
        (D.elemPtr 1 (D.sl x0) v).bind fun (y3 : D) =>
          (D.loadRo false 1 y3).bind fun (y4 : D) =>
            (convD (Conv.int IntKind.i64) y4).bind fun (y5 : D) => (binD BinOp.add y2 y5).bind fun (y6 : D) => G_ref02_GetNum_0 x0 y0 y6 (IntKind.i64.wrap (v + 1))
    else
      (Option.map (fun (x : IntKind × Int) => x.snd) y0.asInt).bind fun (l7 : Int) =>
        (D.cut 1 l7 (ofN x0.length) (D.sl x0)).bind fun (y8_1 : D) => some (D.tup [y8, y8_1, D.int IntKind.i64 0]) := (loopIn_eq ..).trans (by kernel_rfl)
noncomputable def ct_ref02_PutNum : CT := look [(117, .pure F_ref02_count)]
noncomputable def G_ref02_PutNum_0 (x1 : Int) (y1 : D) (v : List D) : Option (List D) := loopIn tt vv ct_ref02_PutNum A_ref02_PutNum Try.f99 [1, 1, 0, 1, 0] 0 (kOwn 1 Try.f99)
  {
  tmps :=
    [V.d D.any, V.d (D.int IntKind.i64 x1), V.d D.any, V.d D.any, V.d D.any, V.d D.any, V.d D.any, V.own 7, V.d y1, V.d D.any, V.d D.any, V.d D.any, V.d D.any, V.d D.any,
      V.d D.any, V.d D.any, V.d D.any, V.d D.any, V.d D.any, V.d D.any, V.d D.any, V.d D.any, V.d D.any, V.d D.any, V.d D.any, V.d D.any, V.d D.any, V.d D.any, V.d D.any,
      V.d D.any],
  boxes := [], toks := [{ id := 7, wr := true, sz := 1, xs := v }] }
noncomputable def F_ref02_PutNum : List D → Option (List D) := evOwn tt vv ct_ref02_PutNum A_ref02_PutNum 1 Try.f99
theorem ok_ref02_PutNum : OkOwn prog 99 1 F_ref02_PutNum := okOwn' mixed tt_ok vv_ok (ct_pure ok_ref02_count ct_nil) 1 (by kernel_rfl) (by kernel_rfl) (by kernel_rfl)
theorem F_ref02_PutNum_eq (x0 : List D) (x1 : Int) (x2 : Int) : F_ref02_PutNum [D.sl x0, D.int .i64 x1, D.int .i64 x2] =
  bif (x0.all fun (x : D) => x.cells.length == 1) && true then
  bif decide ((0 + x0.length) * 1 ≤ 140737488355328) then
    (F_ref02_count [D.int IntKind.i64 x2]).bind fun (y0 : D) => (binD BinOp.sub y0 (D.int IntKind.i64 1)).bind fun (y1 : D) => G_ref02_PutNum_0 x1 y1 ([] ++ x0)
  else none
else none := by kernel_rfl
theorem G_ref02_PutNum_0_eq (x1 : Int) (y1 : D) (v : List D) : G_ref02_PutNum_0 x1 y1 v =
  (binD BinOp.geq y1 (D.int IntKind.i64 0)).bind fun (y0 : D) =>
  y0.asBool.bind fun (b1 : Bool) =>
    bif b1 then
      (binD BinOp.mul (D.int IntKind.i64 8) y1).bind fun (y2 : D) =>
        (convD (Conv.int IntKind.u64) y2).bind fun (y3 : D) =>
          (binD BinOp.shr (D.int IntKind.i64 x1) y3).bind fun (y4 : D) =>
            (binD BinOp.and y4 (D.int IntKind.i64 255)).bind fun (y5 : D) =>
              (convD (Conv.int IntKind.u8) y5).bind fun (y6 : D) =>
                bif
                    (match y6 with
                      | D.any => false
                      | D.tup ds => false
                      | D.agg ds => ds.length == 1
                      | x => 1 == 1) &&
                      true then
                  bif ([y6].all fun (x : D) => x.cells.length == 1) && true then
                    bif decide ((v.length + [y6].length) * 1 ≤ 140737488355328) then
                      (binD BinOp.sub y1 (D.int IntKind.i64 1)).bind fun (y7 : D) => G_ref02_PutNum_0 x1 y7 (v ++ [y6])
                    else none
                  else none
                else none
    else some v := (loopIn_eq ..).trans (by kernel_rfl)
noncomputable def ct_ref02_GetBytes : CT := look [(91, .pure F_ref01_Get)]
noncomputable def F_ref02_GetBytes : List D → Option (D) := evPure tt vv ct_ref02_GetBytes A_ref02_GetBytes Try.f55
theorem ok_ref02_GetBytes : OkPure prog 55 F_ref02_GetBytes := okPure' mixed tt_ok vv_ok (ct_pure ok_ref01_Get ct_nil) (by kernel_rfl) (by kernel_rfl) (by kernel_rfl)
theorem F_ref02_GetBytes_eq (x0 : List D) : F_ref02_GetBytes [D.sl x0] =
  (F_ref01_Get [D.sl x0]).bind fun (y0 : D) =>
  (y0.ext 0).bind fun (y1 : D) =>
    (y0.ext 1).bind fun (y2 : D) =>
      (y0.ext 2).bind fun (y3 : D) =>
        (binD BinOp.neq y3 (D.int IntKind.i64 0)).bind fun (y4 : D) =>
          y4.asBool.bind fun (b5 : Bool) =>
            bif b5 then some (D.tup [D.sl [], D.sl [], y3])
            else
              (binD BinOp.gtr y1 (D.int IntKind.i64 1048576)).bind fun (y6 : D) =>
                y6.asBool.bind fun (b7 : Bool) =>
                  bif b7 then some (D.tup [D.sl [], D.sl [], D.int IntKind.i64 4])
                  else
                    (Option.map (fun (xs : List D) => xs.length) y2.elems).bind fun (n8 : Nat) =>
                      (binD BinOp.lss (D.int IntKind.i64 (ofN n8)) y1).bind fun (y9 : D) =>
                        y9.asBool.bind fun (b10 : Bool) =>
                          bif b10 then some (D.tup [D.sl [], D.sl [], D.int IntKind.i64 1])
                          else
                            (Option.map (fun (xs : List D) => xs.length) y2.elems).bind fun (n11 : Nat) =>
                              (Option.map (fun (x : IntKind × Int) => x.snd) y1.asInt).bind fun (h12 : Int) =>
                                (D.cut 1 0 h12 y2).bind fun (y13 : D) =>
                                  (Option.map (fun (xs : List D) => xs.length) y2.elems).bind fun (n14 : Nat) =>
                                    (Option.map (fun (x : IntKind × Int) => x.snd) y1.asInt).bind fun (l15 : Int) =>
                                      (D.cut 1 l15 (ofN n14) y2).bind fun (y16 : D) => some (D.tup [y13, y16, D.int IntKind.i64 0]) := by kernel_rfl
noncomputable def ct_ref02_GetNums : CT := look [(55, .pure F_ref02_GetBytes), (92, .pure F_ref02_GetNum)]
noncomputable def G_ref02_GetNums_0 (y1 : D) (y2 : D) (v : List D) : Option (D) := loopIn tt vv ct_ref02_GetNums A_ref02_GetNums Try.f56 [1, 1, 1, 1, 1, 0, 0] 0 (kPure tt Try.f56)
  {
  tmps :=
    [V.d D.any, V.d D.any, V.d D.any, V.d D.any, V.d D.any, V.d y1, V.d y2, V.d D.any, V.own 8, V.d D.any, V.d D.any, V.d D.any, V.d D.any, V.d D.any, V.d D.any, V.d D.any,
      V.d D.any, V.d D.any, V.d D.any, V.d D.any, V.d D.any, V.d D.any, V.d D.any, V.d D.any, V.d D.any, V.d D.any, V.d D.any, V.d D.any, V.d D.any, V.d D.any, V.d D.any,
      V.d D.any, V.d D.any, V.d D.any, V.d D.any, V.d D.any, V.d D.any, V.d D.any, V.d D.any, V.d D.any, V.d D.any],
  boxes := [], toks := [{ id := 8, wr := true, sz := 1, xs := v }] }
noncomputable def F_ref02_GetNums : List D → Option (D) := evPure tt vv ct_ref02_GetNums A_ref02_GetNums Try.f56
theorem ok_ref02_GetNums : OkPure prog 56 F_ref02_GetNums := okPure' mixed tt_ok vv_ok (ct_pure ok_ref02_GetBytes (ct_pure ok_ref02_GetNum ct_nil)) (by kernel_rfl) (by kernel_rfl) (by kernel_rfl)
theorem F_ref02_GetNums_eq (x0 : List D) : F_ref02_GetNums [D.sl x0] =
  (F_ref02_GetBytes [D.sl x0]).bind fun (y0 : D) =>
  (y0.ext 0).bind fun (y1 : D) =>
    (y0.ext 1).bind fun (y2 : D) =>
      (y0.ext 2).bind fun (y3 : D) =>
        (binD BinOp.neq y3 (D.int IntKind.i64 0)).bind fun (y4 : D) =>
          y4.asBool.bind fun (b5 : Bool) =>
            bif b5 then some (D.tup [D.sl [], D.sl [], y3])
            else
              (Option.map (fun (xs : List D) => xs.length) y1.elems).bind fun (n6 : Nat) =>
                bif (ofN n6).tmod 4 != 0 then some (D.tup [D.sl [], D.sl [], D.int IntKind.i64 2]) else G_ref02_GetNums_0 y1 y2 [] := by kernel_rfl
theorem G_ref02_GetNums_0_eq (y1 : D) (y2 : D) (v : List D) : G_ref02_GetNums_0 y1 y2 v =
  (Option.map (fun (xs : List D) => xs.length) y1.elems).bind fun (n0 : Nat) =>
  bif decide (ofN n0 > 0) then
    (F_ref02_GetNum [y1, D.int IntKind.i64 4]).bind fun (y1 : D) =>
      (y1.ext 0).bind fun (y2_1 : D) =>
        (y1.ext 1).bind fun (y3 : D) =>
          (y1.ext 2).bind fun (y4 : D) =>
            bif
                (match y2_1 with
                  | D.any => false
                  | D.tup ds => false
                  | D.agg ds => ds.length == 1
                  | x => 1 == 1) &&
                  true then
              bif ([y2_1].all fun (x : D) => x.cells.length == 1) && true then
                bif decide ((v.length + [y2_1].length) * 8 ≤ 140737488355328) then G_ref02_GetNums_0 y3 y2 (v ++ [y2_1]) else none
              else none
            else none
  else some (D.tup [D.sl v, y2, D.int IntKind.i64 0]) := (loopIn_eq ..).trans (by kernel_rfl)
noncomputable def ct_ref02_PutBytes : CT := look [(98, .own 1 F_ref01_Put)]
noncomputable def F_ref02_PutBytes : List D → Option (List D) := evOwn tt vv ct_ref02_PutBytes A_ref02_PutBytes 1 Try.f64
theorem ok_ref02_PutBytes : OkOwn prog 64 1 F_ref02_PutBytes := okOwn' mixed tt_ok vv_ok (ct_own ok_ref01_Put ct_nil) 1 (by kernel_rfl) (by kernel_rfl) (by kernel_rfl)
theorem F_ref02_PutBytes_eq (x0 : List D) (x1 : List D) : F_ref02_PutBytes [D.sl x0, D.sl x1] =
  bif (x0.all fun (x : D) => x.cells.length == 1) && true then
  bif decide ((0 + x0.length) * 1 ≤ 140737488355328) then
    bif decide (ofN x1.length > 1048576) then some ([] ++ x0)
    else
      (F_ref01_Put [D.sl ([] ++ x0), D.int IntKind.i64 (ofN x1.length)]).bind fun (xs0 : List D) =>
        bif (x1.all fun (x : D) => x.cells.length == 1) && true then bif decide ((xs0.length + x1.length) * 1 ≤ 140737488355328) then some (xs0 ++ x1) else none else none
  else none
else none := by kernel_rfl
noncomputable def ct_ref02_PutNums : CT := look [(99, .own 1 F_ref02_PutNum), (64, .own 1 F_ref02_PutBytes)]
noncomputable def G_ref02_PutNums_0 (x0 : List D) (x1 : List D) (v : Int) (xs2 : List D) : Option (List D) := loopIn tt vv ct_ref02_PutNums A_ref02_PutNums Try.f65 [1, 1, 0, 1, 0] 0 (kOwn 1 Try.f65)
  {
  tmps :=
    [V.d (D.sl x0), V.d (D.sl x1), V.d D.any, V.d D.any, V.d D.any, V.own 5, V.d (D.int IntKind.i64 v), V.d D.any, V.d D.any, V.d D.any, V.d D.any, V.d D.any, V.d D.any, V.d D.any,
      V.d D.any, V.d D.any, V.d D.any, V.d D.any, V.d D.any, V.d D.any, V.d D.any, V.d D.any],
  boxes := [], toks := [{ id := 5, wr := true, sz := 1, xs := xs2 }] }
noncomputable def F_ref02_PutNums : List D → Option (List D) := evOwn tt vv ct_ref02_PutNums A_ref02_PutNums 1 Try.f65
theorem ok_ref02_PutNums : OkOwn prog 65 1 F_ref02_PutNums := okOwn' mixed tt_ok vv_ok (ct_own ok_ref02_PutNum (ct_own ok_ref02_PutBytes ct_nil)) 1 (by kernel_rfl) (by kernel_rfl) (by kernel_rfl)
theorem F_ref02_PutNums_eq (x0 : List D) (x1 : List D) : F_ref02_PutNums [D.sl x0, D.sl x1] =
  G_ref02_PutNums_0 x0 x1 0 [] := by kernel_rfl
theorem G_ref02_PutNums_0_eq (x0 : List D) (x1 : List D) (v : Int) (xs2 : List D) : G_ref02_PutNums_0 x0 x1 v xs2 =
  bif decide (v < ofN x1.length) then
  (D.elemPtr 1 (D.sl x1) v).bind fun (y0 : D) =>
    (D.loadRo false 1 y0).bind fun (y1 : D) =>
      (F_ref02_PutNum [D.sl xs2, y1, D.int IntKind.i64 4]).bind fun (xs2 : List D) => G_ref02_PutNums_0 x0 x1 (IntKind.i64.wrap (v + 1)) xs2
else (F_ref02_PutBytes [D.sl x0, D.sl xs2]).bind fun (xs3 : List D) => some xs3 := (loopIn_eq ..).trans (by kernel_rfl)
noncomputable def ct_ref08_Get : CT := look [(55, .pure F_ref02_GetBytes), (56, .pure F_ref02_GetNums), (27, .pure F_ref08_Check)]
noncomputable def F_ref08_Get : List D → Option (D) := evPure tt vv ct_ref08_Get A_ref08_Get Try.f24
theorem ok_ref08_Get : OkPure prog 24 F_ref08_Get := okPure' mixed tt_ok vv_ok (ct_pure ok_ref02_GetBytes (ct_pure ok_ref02_GetNums (ct_pure ok_ref08_Check ct_nil))) (by kernel_rfl) (by kernel_rfl) (by kernel_rfl)
theorem F_ref08_Get_eq (x0 : List D) : F_ref08_Get [D.sl x0] =
  (F_ref02_GetBytes [D.sl x0]).bind fun (y0 : D) =>
  (y0.ext 0).bind fun (y1 : D) =>
    (y0.ext 1).bind fun (y2 : D) =>
      (y0.ext 2).bind fun (y3 : D) =>
        (binD BinOp.neq y3 (D.int IntKind.i64 0)).bind fun (y4 : D) =>
          y4.asBool.bind fun (b5 : Bool) =>
            bif b5 then some (D.tup [D.agg [D.sl [], D.sl [], D.sl []], D.sl [], y3])
            else
              (F_ref02_GetBytes [y2]).bind fun (y6 : D) =>
                (y6.ext 0).bind fun (y7 : D) =>
                  (y6.ext 1).bind fun (y8 : D) =>
                    (y6.ext 2).bind fun (y9 : D) =>
                      (binD BinOp.neq y9 (D.int IntKind.i64 0)).bind fun (y10 : D) =>
                        y10.asBool.bind fun (b11 : Bool) =>
                          bif b11 then some (D.tup [D.agg [D.sl [], D.sl [], D.sl []], D.sl [], y9])
                          else
                            (F_ref02_GetNums [y8]).bind fun (y12 : D) =>
                              (y12.ext 0).bind fun (y13 : D) =>
                                (y12.ext 1).bind fun (y14 : D) =>
                                  (y12.ext 2).bind fun (y15 : D) =>
                                    (binD BinOp.neq y15 (D.int IntKind.i64 0)).bind fun (y16 : D) =>
                                      y16.asBool.bind fun (b17 : Bool) =>
                                        bif b17 then some (D.tup [D.agg [D.sl [], D.sl [], D.sl []], D.sl [], y15])
                                        else
                                          bif
                                              (match y1 with
                                                | D.any => false
                                                | D.tup ds => false
                                                | D.agg ds => false
                                                | x => true) &&
                                                true then
                                            bif decide (1 + 1 ≤ ([Z.nl 1, Z.nl 1, Z.nl 1].set 0 (Z.d y1)).length) then
                                              bif
                                                  (match y7 with
                                                    | D.any => false
                                                    | D.tup ds => false
                                                    | D.agg ds => false
                                                    | x => true) &&
                                                    true then
                                                bif decide (2 + 1 ≤ (([Z.nl 1, Z.nl 1, Z.nl 1].set 0 (Z.d y1)).set 1 (Z.d y7)).length) then
                                                  bif
                                                      (match y13 with
                                                        | D.any => false
                                                        | D.tup ds => false
                                                        | D.agg ds => false
                                                        | x => true) &&
                                                        true then
                                                    (F_ref08_Check [D.agg [y1, y7, y13]]).bind fun (y18 : D) =>
                                                      (binD BinOp.neq y18 (D.int IntKind.i64 0)).bind fun (y19 : D) =>
                                                        y19.asBool.bind fun (b20 : Bool) =>
                                                          bif b20 then
                                                            (F_ref08_Check [D.agg [y1, y7, y13]]).bind fun (y21 : D) =>
                                                              some (D.tup [D.agg [D.sl [], D.sl [], D.sl []], D.sl [], y21])
                                                          else
                                                            bif decide (0 + (List.map V.d (explicit 3 [y1, y7, y13])).length ≤ [V.own 1128, V.own 1129, V.own 1130].length) then
                                                              some
                                                                (D.tup
                                                                  [D.agg [[y1, y7, y13].getD 0 D.any, [y1, y7, y13].getD 1 D.any, [y1, y7, y13].getD 2 D.any], y14,
                                                                    D.int IntKind.i64 0])
                                                            else none
                                                  else none
                                                else none
                                              else none
                                            else none
                                          else none := by kernel_rfl
noncomputable def ct_ref08_Put : CT := look [(27, .pure F_ref08_Check), (64, .own 1 F_ref02_PutBytes), (65, .own 1 F_ref02_PutNums)]
noncomputable def F_ref08_Put : List D → Option (D) := evPure tt vv ct_ref08_Put A_ref08_Put Try.f29
theorem ok_ref08_Put : OkPure prog 29 F_ref08_Put := okPure' mixed tt_ok vv_ok (ct_pure ok_ref08_Check (ct_own ok_ref02_PutBytes (ct_own ok_ref02_PutNums ct_nil))) (by kernel_rfl) (by kernel_rfl) (by kernel_rfl)
theorem F_ref08_Put_eq (x0 : List D) (x1_0 : List D) (x1_1 : List D) (x1_2 : List D) : F_ref08_Put [D.sl x0, D.agg [D.sl x1_0, D.sl x1_1, D.sl x1_2]] =
  bif (x0.all fun (x : D) => x.cells.length == 1) && true then
  bif decide ((0 + x0.length) * 1 ≤ 140737488355328) then
    (F_ref08_Check [D.agg [D.sl x1_0, D.sl x1_1, D.sl x1_2]]).bind fun (y0 : D) =>
      (binD BinOp.neq y0 (D.int IntKind.i64 0)).bind fun (y1 : D) =>
        y1.asBool.bind fun (b2 : Bool) =>
          bif b2 then some (D.sl ([] ++ x0))
          else
            (F_ref02_PutBytes [D.sl ([] ++ x0), D.sl x1_0]).bind fun (xs3 : List D) =>
              (F_ref02_PutBytes [D.sl xs3, D.sl x1_1]).bind fun (xs4 : List D) => (F_ref02_PutNums [D.sl xs4, D.sl x1_2]).bind fun (xs5 : List D) => some (D.sl xs5)
  else none
else none := by kernel_rfl
noncomputable def ct_ref08_Few : CT := look []
noncomputable def F_ref08_Few : List D → Option (D) := evPure tt vv ct_ref08_Few A_ref08_Few Try.f22
theorem ok_ref08_Few : OkPure prog 22 F_ref08_Few := okPure' mixed tt_ok vv_ok ct_nil (by kernel_rfl) (by kernel_rfl) (by kernel_rfl)
theorem F_ref08_Few_eq (x0_0 : List D) (x0_1 : List D) (x0_2 : List D) : F_ref08_Few [D.agg [D.sl x0_0, D.sl x0_1, D.sl x0_2]] =
  some (D.bool (decide (IntKind.i64.wrap (IntKind.i64.wrap (ofN x0_0.length + ofN x0_1.length) + ofN x0_2.length) ≤ 600))) := by kernel_rfl
noncomputable def ct_leaf_source : CT := look []
noncomputable def F_leaf_source : List D → Option (D) := evPure tt vv ct_leaf_source A_leaf_source Try.f106
theorem ok_leaf_source : OkPure prog 106 F_leaf_source := okPure' mixed tt_ok vv_ok ct_nil (by kernel_rfl) (by kernel_rfl) (by kernel_rfl)
theorem F_leaf_source_eq (x0 : Int) : F_leaf_source [D.int .i64 x0] =
  bif decide (x0 ≥ 1) then some (D.bool (decide (x0 ≤ 3))) else some (D.bool false) := by kernel_rfl
noncomputable def ct_wire_count : CT := look []
noncomputable def F_wire_count : List D → Option (D) := evPure tt vv ct_wire_count A_wire_count Try.f107
theorem ok_wire_count : OkPure prog 107 F_wire_count := okPure' mixed tt_ok vv_ok ct_nil (by kernel_rfl) (by kernel_rfl) (by kernel_rfl)
theorem F_wire_count_eq (x0 : Int) : F_wire_count [D.int .i64 x0] =
  some (D.int IntKind.i64 (if 1 < if 4 < x0 then 4 else x0 then if 4 < x0 then 4 else x0 else 1)) := by kernel_rfl
noncomputable def ct_varint_Size : CT := look []
noncomputable def F_varint_Size : List D → Option (D) := evPure tt vv ct_varint_Size A_varint_Size Try.f114
theorem ok_varint_Size : OkPure prog 114 F_varint_Size := okPure' mixed tt_ok vv_ok ct_nil (by kernel_rfl) (by kernel_rfl) (by kernel_rfl)
theorem F_varint_Size_eq (x0 : Int) : F_varint_Size [D.int .i64 x0] =
  bif decide (x0 < 0) then some (D.int IntKind.i64 0)
else
  bif decide (x0 > 1073741823) then some (D.int IntKind.i64 0)
  else bif decide (x0 < 64) then some (D.int IntKind.i64 1) else bif decide (x0 < 16384) then some (D.int IntKind.i64 2) else some (D.int IntKind.i64 4) := by kernel_rfl
noncomputable def ct_index_Whole : CT := look []
noncomputable def F_index_Whole : List D → Option (D) := evPure tt vv ct_index_Whole A_index_Whole Try.f85
theorem ok_index_Whole : OkPure prog 85 F_index_Whole := okPure' mixed tt_ok vv_ok ct_nil (by kernel_rfl) (by kernel_rfl) (by kernel_rfl)
theorem F_index_Whole_eq (x0 : Int) : F_index_Whole [D.int .i64 x0] =
  bif decide (x0 > 0) then
  bif decide (x0 ≤ 127) then some (D.bool (IntKind.i64.wrap (ofN (BitVec.ofInt IntKind.i64.bits x0 &&& BitVec.ofInt IntKind.i64.bits (IntKind.i64.wrap (x0 + 1))).toNat) == 0))
  else some (D.bool false)
else some (D.bool false) := by kernel_rfl
noncomputable def ct_shape_fits : CT := look []
noncomputable def F_shape_fits : List D → Option (D) := evPure tt vv ct_shape_fits A_shape_fits Try.f88
theorem ok_shape_fits : OkPure prog 88 F_shape_fits := okPure' mixed tt_ok vv_ok ct_nil (by kernel_rfl) (by kernel_rfl) (by kernel_rfl)
theorem F_shape_fits_eq (x0 : Int) (x1 : Int) : F_shape_fits [D.int .i64 x0, D.int .i64 x1] =
  bif x0.tmod 2 == 0 then some (D.bool (x1 != 2)) else some (D.bool (x1 != 1)) := by kernel_rfl
noncomputable def ct_cmp_isNaN_int : CT := look []
noncomputable def F_cmp_isNaN_int : List D → Option (D) := evPure tt vv ct_cmp_isNaN_int A_cmp_isNaN_int Try.f113
theorem ok_cmp_isNaN_int : OkPure prog 113 F_cmp_isNaN_int := okPure' mixed tt_ok vv_ok ct_nil (by kernel_rfl) (by kernel_rfl) (by kernel_rfl)
theorem F_cmp_isNaN_int_eq (x0 : Int) : F_cmp_isNaN_int [D.int .i64 x0] =
  some (D.bool (x0 != x0)) := by kernel_rfl
noncomputable def ct_slices_isNaN_int : CT := look []
noncomputable def F_slices_isNaN_int : List D → Option (D) := evPure tt vv ct_slices_isNaN_int A_slices_isNaN_int Try.f87
theorem ok_slices_isNaN_int : OkPure prog 87 F_slices_isNaN_int := okPure' mixed tt_ok vv_ok ct_nil (by kernel_rfl) (by kernel_rfl) (by kernel_rfl)
theorem F_slices_isNaN_int_eq (x0 : Int) : F_slices_isNaN_int [D.int .i64 x0] =
  some (D.bool (x0 != x0)) := by kernel_rfl
noncomputable def ct_cmp_Less_int : CT := look [(113, .pure F_cmp_isNaN_int)]
noncomputable def F_cmp_Less_int : List D → Option (D) := evPure tt vv ct_cmp_Less_int A_cmp_Less_int Try.f86
theorem ok_cmp_Less_int : OkPure prog 86 F_cmp_Less_int := okPure' mixed tt_ok vv_ok (ct_pure ok_cmp_isNaN_int ct_nil) (by kernel_rfl) (by kernel_rfl) (by kernel_rfl)
theorem F_cmp_Less_int_eq (x0 : Int) (x1 : Int) : F_cmp_Less_int [D.int .i64 x0, D.int .i64 x1] =
  (F_cmp_isNaN_int [D.int IntKind.i64 x0]).bind fun (y0 : D) =>
  y0.asBool.bind fun (b1 : Bool) =>
    bif b1 then
      (F_cmp_isNaN_int [D.int IntKind.i64 x1]).bind fun (y2 : D) =>
        (notD y2).bind fun (y3 : D) => y3.asBool.bind fun (b4 : Bool) => bif b4 then some (D.bool true) else some (D.bool (decide (x0 < x1)))
    else some (D.bool (decide (x0 < x1))) := by kernel_rfl
noncomputable def ct_slices_Equal_int : CT := look []
noncomputable def G_slices_Equal_int_0 (x0 : List D) (x1 : List D) (v : Int) (v_1 : Int) : Option (D) := loopIn tt vv ct_slices_Equal_int A_slices_Equal_int Try.f59 [1, 1, 0, 1, 0] 0 (kPure tt Try.f59)
  {
  tmps :=
    [V.d (D.sl x0), V.d (D.sl x1), V.d D.any, V.d D.any, V.d D.any, V.d D.any, V.d D.any, V.d D.any, V.d D.any, V.d D.any, V.d D.any, V.d D.any, V.d (D.int IntKind.i64 v),
      V.d (D.int IntKind.i64 v_1), V.d D.any, V.d D.any, V.d D.any, V.d D.any, V.d D.any, V.d D.any, V.d D.any, V.d D.any, V.d D.any, V.d D.any, V.d D.any, V.d D.any],
  boxes := [], toks := [] }
noncomputable def F_slices_Equal_int : List D → Option (D) := evPure tt vv ct_slices_Equal_int A_slices_Equal_int Try.f59
theorem ok_slices_Equal_int : OkPure prog 59 F_slices_Equal_int := okPure' mixed tt_ok vv_ok ct_nil (by kernel_rfl) (by kernel_rfl) (by kernel_rfl)
theorem F_slices_Equal_int_eq (x0 : List D) (x1 : List D) : F_slices_Equal_int [D.sl x0, D.sl x1] =
  bif ofN x0.length != ofN x1.length then some (D.bool false) else G_slices_Equal_int_0 x0 x1 (ofN x0.length) 0 := by kernel_rfl
theorem G_slices_Equal_int_0_eq (x0 : List D) (x1 : List D) (v : Int) (v_1 : Int) : G_slices_Equal_int_0 x0 x1 v v_1 =
  bif decide (v_1 < v) then
  (D.elemPtr 1 (D.sl x0) v_1).bind fun (y0 : D) =>
    (D.loadRo false 1 y0).bind fun (y1 : D) =>
      (D.elemPtr 1 (D.sl x1) v_1).bind fun (y2 : D) =>
        (D.loadRo false 1 y2).bind fun (y3 : D) =>
          (binD BinOp.neq y1 y3).bind fun (y4 : D) =>
            y4.asBool.bind fun (b5 : Bool) => bif b5 then some (D.bool false) else G_slices_Equal_int_0 x0 x1 v (IntKind.i64.wrap (v_1 + 1))
else some (D.bool true) := (loopIn_eq ..).trans (by kernel_rfl)
noncomputable def ct_bytes_Equal : CT := look []
noncomputable def F_bytes_Equal : List D → Option (D) := evPure tt vv ct_bytes_Equal A_bytes_Equal Try.f66
theorem ok_bytes_Equal : OkPure prog 66 F_bytes_Equal := okPure' mixed tt_ok vv_ok ct_nil (by kernel_rfl) (by kernel_rfl) (by kernel_rfl)
theorem F_bytes_Equal_eq (x0 : List D) (x1 : List D) : F_bytes_Equal [D.sl x0, D.sl x1] =
  (convD Conv.text (D.sl x0)).bind fun (y0 : D) => (convD Conv.text (D.sl x1)).bind fun (y1 : D) => (binD BinOp.eql y0 y1).bind fun (y2 : D) => some (tupOf [y2]) := by kernel_rfl
noncomputable def ct_slices_Index_int : CT := look []
noncomputable def G_slices_Index_int_0 (x0 : List D) (x1 : Int) (v : Int) (v_1 : Int) : Option (D) := loopIn tt vv ct_slices_Index_int A_slices_Index_int Try.f100 [1, 0, 1, 0] 0 (kPure tt Try.f100)
  {
  tmps :=
    [V.d (D.sl x0), V.d (D.int IntKind.i64 x1), V.d D.any, V.d D.any, V.d D.any, V.d D.any, V.d D.any, V.d (D.int IntKind.i64 v), V.d (D.int IntKind.i64 v_1), V.d D.any, V.d D.any,
      V.d D.any, V.d D.any, V.d D.any, V.d D.any, V.d D.any, V.d D.any, V.d D.any, V.d D.any],
  boxes := [], toks := [] }
noncomputable def F_slices_Index_int : List D → Option (D) := evPure tt vv ct_slices_Index_int A_slices_Index_int Try.f100
theorem ok_slices_Index_int : OkPure prog 100 F_slices_Index_int := okPure' mixed tt_ok vv_ok ct_nil (by kernel_rfl) (by kernel_rfl) (by kernel_rfl)
theorem F_slices_Index_int_eq (x0 : List D) (x1 : Int) : F_slices_Index_int [D.sl x0, D.int .i64 x1] =
  G_slices_Index_int_0 x0 x1 (ofN x0.length) 0 := by kernel_rfl
theorem G_slices_Index_int_0_eq (x0 : List D) (x1 : Int) (v : Int) (v_1 : Int) : G_slices_Index_int_0 x0 x1 v v_1 =
  bif decide (v_1 < v) then
  (D.elemPtr 1 (D.sl x0) v_1).bind fun (y0 : D) =>
    (D.loadRo false 1 y0).bind fun (y1 : D) =>
      (binD BinOp.eql (D.int IntKind.i64 x1) y1).bind fun (y2 : D) =>
        y2.asBool.bind fun (b3 : Bool) => bif b3 then some (D.int IntKind.i64 v_1) else G_slices_Index_int_0 x0 x1 v (IntKind.i64.wrap (v_1 + 1))
else some (D.int IntKind.i64 (-1)) := (loopIn_eq ..).trans (by kernel_rfl)
noncomputable def ct_slices_Contains_int : CT := look [(100, .pure F_slices_Index_int)]
noncomputable def F_slices_Contains_int : List D → Option (D) := evPure tt vv ct_slices_Contains_int A_slices_Contains_int Try.f70
theorem ok_slices_Contains_int : OkPure prog 70 F_slices_Contains_int := okPure' mixed tt_ok vv_ok (ct_pure ok_slices_Index_int ct_nil) (by kernel_rfl) (by kernel_rfl) (by kernel_rfl)
theorem F_slices_Contains_int_eq (x0 : List D) (x1 : Int) : F_slices_Contains_int [D.sl x0, D.int .i64 x1] =
  (F_slices_Index_int [D.sl x0, D.int IntKind.i64 x1]).bind fun (y0 : D) => (binD BinOp.geq y0 (D.int IntKind.i64 0)).bind fun (y1 : D) => some (tupOf [y1]) := by kernel_rfl
noncomputable def ct_parent_Cut_1 : CT := look [(70, .pure F_slices_Contains_int)]
noncomputable def F_parent_Cut_1 : List D → Option (D) := evPure tt vv ct_parent_Cut_1 A_parent_Cut_1 Try.f69
theorem ok_parent_Cut_1 : OkPure prog 69 F_parent_Cut_1 := okPure' mixed tt_ok vv_ok (ct_pure ok_slices_Contains_int ct_nil) (by kernel_rfl) (by kernel_rfl) (by kernel_rfl)
theorem F_parent_Cut_1_eq (x0 : Int) : F_parent_Cut_1 [D.int .i64 x0] =
  none := by kernel_rfl
noncomputable def ct_parent_Check_1 : CT := look []
noncomputable def F_parent_Check_1 : List D → Option (D) := evPure tt vv ct_parent_Check_1 A_parent_Check_1 Try.f57
theorem ok_parent_Check_1 : OkPure prog 57 F_parent_Check_1 := okPure' mixed tt_ok vv_ok ct_nil (by kernel_rfl) (by kernel_rfl) (by kernel_rfl)
theorem F_parent_Check_1_eq (x0 : Int) : F_parent_Check_1 [D.int .i64 x0] =
  bif decide (x0 < 0) then some (D.bool true) else some (D.bool (decide (x0 > 63))) := by kernel_rfl
noncomputable def ct_leaf_Check_1 : CT := look []
noncomputable def F_leaf_Check_1 : List D → Option (D) := evPure tt vv ct_leaf_Check_1 A_leaf_Check_1 Try.f104
theorem ok_leaf_Check_1 : OkPure prog 104 F_leaf_Check_1 := okPure' mixed tt_ok vv_ok ct_nil (by kernel_rfl) (by kernel_rfl) (by kernel_rfl)
theorem F_leaf_Check_1_eq (x0 : List D) : F_leaf_Check_1 [D.sl x0] =
  some (D.bool (decide (ofN x0.length > 200))) := by kernel_rfl
noncomputable def ct_varint_Get : CT := look [(114, .pure F_varint_Size)]
noncomputable def G_varint_Get_1 (x0 : List D) (y4 : D) (y12 : D) (y14 : D) (v : Int) (v_1 : Int) : Option (D) := loopIn tt vv ct_varint_Get A_varint_Get Try.f89 [1, 1, 1, 1, 1, 0, 1, 0] 1 (kPure tt Try.f89)
  {
  tmps :=
    [V.d (D.sl x0), V.d D.any, V.d D.any, V.d D.any, V.d D.any, V.d y4, V.d y12, V.d D.any, V.d D.any, V.d D.any, V.d D.any, V.d D.any, V.d D.any, V.d D.any, V.d D.any, V.d D.any,
      V.d D.any, V.d D.any, V.d D.any, V.d D.any, V.d D.any, V.d D.any, V.d D.any, V.d D.any, V.d D.any, V.d D.any, V.d D.any, V.d D.any, V.d D.any, V.d D.any, V.d D.any,
      V.d D.any, V.d D.any, V.d y14, V.d (D.int IntKind.i64 v), V.d (D.int IntKind.i64 v_1), V.d D.any, V.d D.any, V.d D.any, V.d D.any, V.d D.any, V.d D.any, V.d D.any, V.d D.any,
      V.d D.any, V.d D.any, V.d D.any, V.d D.any, V.d D.any, V.d D.any, V.d D.any, V.d D.any, V.d D.any],
  boxes := [], toks := [] }
noncomputable def F_varint_Get : List D → Option (D) := evPure tt vv ct_varint_Get A_varint_Get Try.f89
theorem ok_varint_Get : OkPure prog 89 F_varint_Get := okPure' mixed tt_ok vv_ok (ct_pure ok_varint_Size ct_nil) (by kernel_rfl) (by kernel_rfl) (by kernel_rfl)
theorem F_varint_Get_eq (x0 : List D) : F_varint_Get [D.sl x0] =
  bif ofN x0.length == 0 then some (D.tup [D.int IntKind.i64 0, D.sl [], D.int IntKind.i64 1])
else
  (D.elemPtr 1 (D.sl x0) 0).bind fun (y0 : D) =>
    (D.loadRo false 1 y0).bind fun (y1 : D) =>
      (binD BinOp.quo y1 (D.int IntKind.u8 64)).bind fun (y2 : D) =>
        y2.asInt.bind fun (z3 : IntKind × Int) =>
          (D.arrAt false 1 4 (D.agg [D.int IntKind.i64 1, D.int IntKind.i64 2, D.int IntKind.i64 4, D.int IntKind.i64 0]) z3.snd).bind fun (y4 : D) =>
            (binD BinOp.eql y4 (D.int IntKind.i64 0)).bind fun (y5 : D) =>
              y5.asBool.bind fun (b6 : Bool) =>
                bif b6 then some (D.tup [D.int IntKind.i64 0, D.sl [], D.int IntKind.i64 2])
                else
                  (binD BinOp.lss (D.int IntKind.i64 (ofN x0.length)) y4).bind fun (y7 : D) =>
                    y7.asBool.bind fun (b8 : Bool) =>
                      bif b8 then some (D.tup [D.int IntKind.i64 0, D.sl [], D.int IntKind.i64 1])
                      else
                        (D.elemPtr 1 (D.sl x0) 0).bind fun (y9 : D) =>
                          (D.loadRo false 1 y9).bind fun (y10 : D) =>
                            (binD BinOp.rem y10 (D.int IntKind.u8 64)).bind fun (y11 : D) =>
                              (convD (Conv.int IntKind.i64) y11).bind fun (y12 : D) =>
                                (Option.map (fun (x : IntKind × Int) => x.snd) y4.asInt).bind fun (h13 : Int) =>
                                  (D.cut 1 1 h13 (D.sl x0)).bind fun (y14 : D) =>
                                    (Option.map (fun (xs : List D) => xs.length) y14.elems).bind fun (n15 : Nat) => G_varint_Get_1 x0 y4 y12 y14 (ofN n15) 0 := by kernel_rfl
theorem G_varint_Get_1_eq (x0 : List D) (y4 : D) (y12 : D) (y14 : D) (v : Int) (v_1 : Int) : G_varint_Get_1 x0 y4 y12 y14 v v_1 =
  bif decide (v_1 < v) then
  (D.elemPtr 1 y14 v_1).bind fun (y0 : D) =>
    (D.loadRo false 1 y0).bind fun (y1 : D) =>
      (binD BinOp.shl y12 (D.int IntKind.u64 8)).bind fun (y2 : D) =>
        (convD (Conv.int IntKind.i64) y1).bind fun (y3 : D) => (binD BinOp.or y2 y3).bind fun (y4_1 : D) => G_varint_Get_1 x0 y4 y4_1 y14 v (IntKind.i64.wrap (v_1 + 1))
else
  (F_varint_Size [y12]).bind fun (y5 : D) =>
    (binD BinOp.neq y5 y4).bind fun (y6 : D) =>
      y6.asBool.bind fun (b7 : Bool) =>
        bif b7 then some (D.tup [D.int IntKind.i64 0, D.sl [], D.int IntKind.i64 2])
        else
          (Option.map (fun (x : IntKind × Int) => x.snd) y4.asInt).bind fun (l8 : Int) =>
            (D.cut 1 l8 (ofN x0.length) (D.sl x0)).bind fun (y9 : D) => some (D.tup [y12, y9, D.int IntKind.i64 0]) := (loopIn_eq ..).trans (by kernel_rfl)
noncomputable def ct_wire_GetBytes : CT := look [(89, .pure F_varint_Get)]
noncomputable def F_wire_GetBytes : List D → Option (D) := evPure tt vv ct_wire_GetBytes A_wire_GetBytes Try.f53
theorem ok_wire_GetBytes : OkPure prog 53 F_wire_GetBytes := okPure' mixed tt_ok vv_ok (ct_pure ok_varint_Get ct_nil) (by kernel_rfl) (by kernel_rfl) (by kernel_rfl)
theorem F_wire_GetBytes_eq (x0 : List D) : F_wire_GetBytes [D.sl x0] =
  (F_varint_Get [D.sl x0]).bind fun (y0 : D) =>
  (y0.ext 0).bind fun (y1 : D) =>
    (y0.ext 1).bind fun (y2 : D) =>
      (y0.ext 2).bind fun (y3 : D) =>
        (binD BinOp.neq y3 (D.int IntKind.i64 0)).bind fun (y4 : D) =>
          y4.asBool.bind fun (b5 : Bool) =>
            bif b5 then some (D.tup [D.sl [], D.sl [], y3])
            else
              (binD BinOp.gtr y1 (D.int IntKind.i64 1048576)).bind fun (y6 : D) =>
                y6.asBool.bind fun (b7 : Bool) =>
                  bif b7 then some (D.tup [D.sl [], D.sl [], D.int IntKind.i64 4])
                  else
                    (Option.map (fun (xs : List D) => xs.length) y2.elems).bind fun (n8 : Nat) =>
                      (binD BinOp.gtr y1 (D.int IntKind.i64 (ofN n8))).bind fun (y9 : D) =>
                        y9.asBool.bind fun (b10 : Bool) =>
                          bif b10 then some (D.tup [D.sl [], D.sl [], D.int IntKind.i64 1])
                          else
                            (Option.map (fun (xs : List D) => xs.length) y2.elems).bind fun (n11 : Nat) =>
                              (Option.map (fun (x : IntKind × Int) => x.snd) y1.asInt).bind fun (h12 : Int) =>
                                (y1.asInt.bind fun (m13 : IntKind × Int) => bif decide (h12 ≤ m13.snd) && decide (m13.snd ≤ ofN n11) && true then some PUnit.unit else none).bind
                                  fun (x14 : Unit) =>
                                  (D.cut 1 0 h12 y2).bind fun (y15 : D) =>
                                    (Option.map (fun (xs : List D) => xs.length) y2.elems).bind fun (n16 : Nat) =>
                                      (Option.map (fun (x : IntKind × Int) => x.snd) y1.asInt).bind fun (l17 : Int) =>
                                        (D.cut 1 l17 (ofN n16) y2).bind fun (y18 : D) => some (D.tup [y15, y18, D.int IntKind.i64 0]) := by kernel_rfl
noncomputable def ct_wire_GetNum : CT := look [(107, .pure F_wire_count)]
noncomputable def G_wire_GetNum_0 (x0 : List D) (y0 : D) (y8 : D) (v : Int) : Option (D) := loopIn tt vv ct_wire_GetNum A_wire_GetNum Try.f81 [1, 1, 1, 1, 0, 1, 0] 0 (kPure tt Try.f81)
  {
  tmps :=
    [V.d (D.sl x0), V.d y0, V.d D.any, V.d D.any, V.d D.any, V.d D.any, V.d D.any, V.d y8, V.d D.any, V.d D.any, V.d D.any, V.d D.any, V.d D.any, V.d D.any, V.d D.any, V.d y0,
      V.d (D.int IntKind.i64 v), V.d D.any, V.d D.any, V.d D.any, V.d D.any, V.d D.any, V.d D.any, V.d D.any, V.d D.any, V.d D.any, V.d D.any, V.d D.any, V.d D.any, V.d D.any,
      V.d D.any, V.d D.any],
  boxes := [], toks := [] }
noncomputable def F_wire_GetNum : List D → Option (D) := evPure tt vv ct_wire_GetNum A_wire_GetNum Try.f81
theorem ok_wire_GetNum : OkPure prog 81 F_wire_GetNum := okPure' mixed tt_ok vv_ok (ct_pure ok_wire_count ct_nil) (by kernel_rfl) (by kernel_rfl) (by kernel_rfl)
theorem F_wire_GetNum_eq (x0 : List D) (x1 : Int) : F_wire_GetNum [D.sl x0, D.int .i64 x1] =
  (F_wire_count [D.int IntKind.i64 x1]).bind fun (y0 : D) =>
  (binD BinOp.lss (D.int IntKind.i64 (ofN x0.length)) y0).bind fun (y1 : D) =>
    y1.asBool.bind fun (b2 : Bool) => bif b2 then some (D.tup [D.int IntKind.i64 0, D.sl [], D.int IntKind.i64 1]) else G_wire_GetNum_0 x0 y0 (D.int IntKind.i64 0) 0 := by kernel_rfl
theorem G_wire_GetNum_0_eq (x0 : List D) (y0 : D) (y8 : D) (v : Int) : G_wire_GetNum_0 x0 y0 y8 v =
  (binD BinOp.lss (D.int IntKind.i64 v) y0).bind fun (y0_1 : D) =>
  y0_1.asBool.bind fun (b1 : Bool) =>
    bif b1 then
      (binD BinOp.shl y8 (D.int IntKind.u64 8)).bind fun (y2 : D) =>
        (D.elemPtr 1 (D.sl x0) v).bind fun (y3 : D) =>
          (D.loadRo false 1 y3).bind fun (y4 : D) =>
            (convD (Conv.int IntKind.i64) y4).bind fun (y5 : D) => (binD BinOp.or y2 y5).bind fun (y6 : D) => G_wire_GetNum_0 x0 y0 y6 (IntKind.i64.wrap (v + 1))
    else
      (Option.map (fun (x : IntKind × Int) => x.snd) y0.asInt).bind fun (l7 : Int) =>
        (D.cut 1 l7 (ofN x0.length) (D.sl x0)).bind fun (y8_1 : D) => some (D.tup [y8, y8_1, D.int IntKind.i64 0]) := (loopIn_eq ..).trans (by kernel_rfl)
noncomputable def ct_wire_GetFlag : CT := look [(81, .pure F_wire_GetNum)]
noncomputable def F_wire_GetFlag : List D → Option (D) := evPure tt vv ct_wire_GetFlag A_wire_GetFlag Try.f80
theorem ok_wire_GetFlag : OkPure prog 80 F_wire_GetFlag := okPure' mixed tt_ok vv_ok (ct_pure ok_wire_GetNum ct_nil) (by kernel_rfl) (by kernel_rfl) (by kernel_rfl)
theorem F_wire_GetFlag_eq (x0 : List D) : F_wire_GetFlag [D.sl x0] =
  (F_wire_GetNum [D.sl x0, D.int IntKind.i64 1]).bind fun (y0 : D) =>
  (y0.ext 0).bind fun (y1 : D) =>
    (y0.ext 1).bind fun (y2 : D) =>
      (y0.ext 2).bind fun (y3 : D) =>
        (binD BinOp.neq y3 (D.int IntKind.i64 0)).bind fun (y4 : D) =>
          y4.asBool.bind fun (b5 : Bool) =>
            bif b5 then some (D.tup [D.bool false, D.sl [], y3])
            else
              (binD BinOp.gtr y1 (D.int IntKind.i64 1)).bind fun (y6 : D) =>
                y6.asBool.bind fun (b7 : Bool) =>
                  bif b7 then some (D.tup [D.bool false, D.sl [], D.int IntKind.i64 2])
                  else (binD BinOp.eql y1 (D.int IntKind.i64 1)).bind fun (y8 : D) => some (D.tup [y8, y2, D.int IntKind.i64 0]) := by kernel_rfl
noncomputable def ct_diff_may : CT := look [(85, .pure F_index_Whole)]
noncomputable def G_diff_may_0 (y4 : D) (x0_1 : List D) (v : Int) (v_1 : Int) (x0_0 : Int) (x0_2 : List D) : Option (D) := loopIn tt vv ct_diff_may A_diff_may Try.f48 [1, 1, 1, 0, 1, 0] 0 (kPure tt Try.f48)
  {
  tmps :=
    [V.d D.any, V.box 1 0, V.d D.any, V.d y4, V.d D.any, V.d D.any, V.d D.any, V.d D.any, V.d D.any, V.d D.any, V.d D.any, V.d D.any, V.d D.any, V.d D.any, V.d D.any, V.d D.any,
      V.d D.any, V.d D.any, V.d D.any, V.d D.any, V.d D.any, V.d D.any, V.d D.any, V.d D.any, V.d D.any, V.d (D.sl x0_1), V.d (D.int IntKind.i64 v), V.d (D.int IntKind.i64 v_1),
      V.d D.any, V.d D.any, V.d D.any, V.d D.any, V.d D.any, V.d D.any, V.d D.any, V.d D.any, V.d D.any, V.d D.any, V.d D.any, V.d D.any, V.d D.any, V.d D.any],
  boxes := [(1, [V.d (D.int IntKind.i64 x0_0), V.d (D.sl x0_1), V.d (D.sl x0_2)])], toks := [] }
noncomputable def F_diff_may : List D → Option (D) := evPure tt vv ct_diff_may A_diff_may Try.f48
theorem ok_diff_may : OkPure prog 48 F_diff_may := okPure' mixed tt_ok vv_ok (ct_pure ok_index_Whole ct_nil) (by kernel_rfl) (by kernel_rfl) (by kernel_rfl)
theorem F_diff_may_eq (x0_0 : Int) (x0_1 : List D) (x0_2 : List D) : F_diff_may [D.agg [D.int .i64 x0_0, D.sl x0_1, D.sl x0_2]] =
  bif x0_0 != 0 then
  (F_index_Whole [D.int IntKind.i64 x0_0]).bind fun (y0 : D) =>
    (notD y0).bind fun (y1 : D) =>
      y1.asBool.bind fun (b2 : Bool) =>
        bif b2 then some (D.bool false)
        else bif ofN x0_2.length != ofN x0_1.length then some (D.bool false) else G_diff_may_0 (D.int IntKind.i64 (-1)) x0_1 (ofN x0_1.length) 0 x0_0 x0_2
else bif ofN x0_2.length != ofN x0_1.length then some (D.bool false) else G_diff_may_0 (D.int IntKind.i64 (-1)) x0_1 (ofN x0_1.length) 0 x0_0 x0_2 := by kernel_rfl
theorem G_diff_may_0_eq (y4 : D) (x0_1 : List D) (v : Int) (v_1 : Int) (x0_0 : Int) (x0_2 : List D) : G_diff_may_0 y4 x0_1 v v_1 x0_0 x0_2 =
  bif decide (v_1 < v) then
  (D.elemPtr 1 (D.sl x0_1) v_1).bind fun (y0 : D) =>
    (D.loadRo false 1 y0).bind fun (y1 : D) =>
      (binD BinOp.leq y1 y4).bind fun (y2 : D) =>
        y2.asBool.bind fun (b3 : Bool) =>
          bif b3 then some (D.bool false)
          else
            (binD BinOp.geq y1 (D.int IntKind.i64 x0_0)).bind fun (y4 : D) =>
              y4.asBool.bind fun (b5 : Bool) => bif b5 then some (D.bool false) else G_diff_may_0 y1 x0_1 v (IntKind.i64.wrap (v_1 + 1)) x0_0 x0_2
else some (D.bool true) := (loopIn_eq ..).trans (by kernel_rfl)
noncomputable def ct_slices_BinarySearch_int : CT := look [(86, .pure F_cmp_Less_int), (87, .pure F_slices_isNaN_int)]
noncomputable def G_slices_BinarySearch_int_0 (x0 : List D) (x1 : Int) (v : Int) (v_1 : Int) (v_2 : Int) : Option (D) := loopIn tt vv ct_slices_BinarySearch_int A_slices_BinarySearch_int Try.f49 [1, 1, 1, 0, 0] 0 (kPure tt Try.f49)
  {
  tmps :=
    [V.d (D.sl x0), V.d (D.int IntKind.i64 x1), V.d D.any, V.d D.any, V.d D.any, V.d D.any, V.d (D.int IntKind.i64 v), V.d (D.int IntKind.i64 v_1), V.d (D.int IntKind.i64 v_2),
      V.d D.any, V.d D.any, V.d D.any, V.d D.any, V.d D.any, V.d D.any, V.d D.any, V.d D.any, V.d D.any, V.d D.any, V.d D.any, V.d D.any, V.d D.any, V.d D.any, V.d D.any,
      V.d D.any, V.d D.any, V.d D.any, V.d D.any, V.d D.any, V.d D.any, V.d D.any, V.d D.any, V.d D.any, V.d D.any, V.d D.any, V.d D.any, V.d D.any, V.d D.any, V.d D.any,
      V.d D.any, V.d D.any, V.d D.any, V.d D.any, V.d D.any, V.d D.any, V.d D.any, V.d D.any, V.d D.any, V.d D.any, V.d D.any, V.d D.any, V.d D.any, V.d D.any, V.d D.any],
  boxes := [], toks := [] }
noncomputable def F_slices_BinarySearch_int : List D → Option (D) := evPure tt vv ct_slices_BinarySearch_int A_slices_BinarySearch_int Try.f49
theorem ok_slices_BinarySearch_int : OkPure prog 49 F_slices_BinarySearch_int := okPure' mixed tt_ok vv_ok (ct_pure ok_cmp_Less_int (ct_pure ok_slices_isNaN_int ct_nil)) (by kernel_rfl) (by kernel_rfl) (by kernel_rfl)
theorem F_slices_BinarySearch_int_eq (x0 : List D) (x1 : Int) : F_slices_BinarySearch_int [D.sl x0, D.int .i64 x1] =
  G_slices_BinarySearch_int_0 x0 x1 (ofN x0.length) 0 (ofN x0.length) := by kernel_rfl
theorem G_slices_BinarySearch_int_0_eq (x0 : List D) (x1 : Int) (v : Int) (v_1 : Int) (v_2 : Int) : G_slices_BinarySearch_int_0 x0 x1 v v_1 v_2 =
  bif decide (v_1 < v_2) then
  (D.elemPtr 1 (D.sl x0) (IntKind.i64.wrap ((IntKind.u64.wrap (IntKind.i64.wrap (v_1 + v_2))).fdiv (2 ^ min (Int.toNat 1) IntKind.u64.bits)))).bind fun (y0 : D) =>
    (D.loadRo false 1 y0).bind fun (y1 : D) =>
      (F_cmp_Less_int [y1, D.int IntKind.i64 x1]).bind fun (y2 : D) =>
        y2.asBool.bind fun (b3 : Bool) =>
          bif b3 then
            G_slices_BinarySearch_int_0 x0 x1 v
              (IntKind.i64.wrap (IntKind.i64.wrap ((IntKind.u64.wrap (IntKind.i64.wrap (v_1 + v_2))).fdiv (2 ^ min (Int.toNat 1) IntKind.u64.bits)) + 1)) v_2
          else G_slices_BinarySearch_int_0 x0 x1 v v_1 (IntKind.i64.wrap ((IntKind.u64.wrap (IntKind.i64.wrap (v_1 + v_2))).fdiv (2 ^ min (Int.toNat 1) IntKind.u64.bits)))
else
  bif decide (v_1 < v) then
    (D.elemPtr 1 (D.sl x0) v_1).bind fun (y4 : D) =>
      (D.loadRo false 1 y4).bind fun (y5 : D) =>
        (binD BinOp.eql y5 (D.int IntKind.i64 x1)).bind fun (y6 : D) =>
          y6.asBool.bind fun (b7 : Bool) =>
            bif b7 then some (D.tup [D.int IntKind.i64 v_1, D.bool true])
            else
              (D.elemPtr 1 (D.sl x0) v_1).bind fun (y8 : D) =>
                (D.loadRo false 1 y8).bind fun (y9 : D) =>
                  (F_slices_isNaN_int [y9]).bind fun (y10 : D) =>
                    y10.asBool.bind fun (b11 : Bool) =>
                      bif b11 then (F_slices_isNaN_int [D.int IntKind.i64 x1]).bind fun (y12 : D) => some (D.tup [D.int IntKind.i64 v_1, y12])
                      else some (D.tup [D.int IntKind.i64 v_1, D.bool false])
  else some (D.tup [D.int IntKind.i64 v_1, D.bool false]) := (loopIn_eq ..).trans (by kernel_rfl)
noncomputable def ct_slices_IndexFunc_int : CT := look [(57, .pure F_parent_Check_1)]
noncomputable def G_slices_IndexFunc_int_0 (x0 : List D) (v : Int) (v_1 : Int) : Option (D) := loopIn tt vv ct_slices_IndexFunc_int A_slices_IndexFunc_int Try.f93 [1, 0, 1, 0] 0 (kPure tt Try.f93)
  {
  tmps :=
    [V.d (D.sl x0), V.d (D.clo 57 []), V.d D.any, V.d D.any, V.d D.any, V.d D.any, V.d D.any, V.d (D.int IntKind.i64 v), V.d (D.int IntKind.i64 v_1), V.d D.any, V.d D.any,
      V.d D.any, V.d D.any, V.d D.any, V.d D.any, V.d D.any, V.d D.any, V.d D.any, V.d D.any],
  boxes := [], toks := [] }
noncomputable def F_slices_IndexFunc_int : List D → Option (D) := evPure tt vv ct_slices_IndexFunc_int A_slices_IndexFunc_int Try.f93
theorem ok_slices_IndexFunc_int : OkPure prog 93 F_slices_IndexFunc_int := okPure' mixed tt_ok vv_ok (ct_pure ok_parent_Check_1 ct_nil) (by kernel_rfl) (by kernel_rfl) (by kernel_rfl)
theorem F_slices_IndexFunc_int_eq (x0 : List D) : F_slices_IndexFunc_int [D.sl x0, D.clo 57 []] =
  G_slices_IndexFunc_int_0 x0 (ofN x0.length) 0 := by kernel_rfl
theorem G_slices_IndexFunc_int_0_eq (x0 : List D) (v : Int) (v_1 : Int) : G_slices_IndexFunc_int_0 x0 v v_1 =
  bif decide (v_1 < v) then
  (D.elemPtr 1 (D.sl x0) v_1).bind fun (y0 : D) =>
    (D.loadRo false 1 y0).bind fun (y1 : D) =>
      (F_parent_Check_1 [y1]).bind fun (y2 : D) =>
        y2.asBool.bind fun (b3 : Bool) => bif b3 then some (D.int IntKind.i64 v_1) else G_slices_IndexFunc_int_0 x0 v (IntKind.i64.wrap (v_1 + 1))
else some (D.int IntKind.i64 (-1)) := (loopIn_eq ..).trans (by kernel_rfl)
end Go.Proofs.Ytcnedmkfcbcjkaa.Ra
