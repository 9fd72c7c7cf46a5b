/- WHAT IS LEFT OF FUNCTIONS' CODE when the evaluator has read it. Printed by a tool of this claim's writer; each line is checked. -/
import Derived.Test.YtcnedmkfcbcjkaaHx
namespace Go.Proofs.Ytcnedmkfcbcjkaa.Ra
open Go Go.Proofs.Try
set_option linter.unusedVariables false
noncomputable def ct_slices_AppendSeq_int : CT := look [(120, .seq F_slices_Values_int_1)]
noncomputable def G_slices_AppendSeq_int_r1 (items : List (List D)) (x0 : List D) (v : List D) : Option (List D) := itemsIn tt vv ct_slices_AppendSeq_int A_slices_AppendSeq_int Try.f122 [1, 0, 1, 0] (kOwn 1 Try.f122)
  [V.nil, V.d (D.clo 120 [D.ro [D.sl x0]]), V.box 2 0, V.undef, V.d D.any, V.undef, V.d (D.clo 120 [D.ro [D.sl x0]]), V.undef, V.undef, V.undef, V.undef, V.undef, V.undef]
  [2] [4, 1128] items [(2, [V.own 1128])] [{ id := 4, wr := true, sz := 1, xs := [] }, { id := 1128, wr := true, sz := 1, xs := v }]
noncomputable def F_slices_AppendSeq_int : List D → Option (List D) := evOwn tt vv ct_slices_AppendSeq_int A_slices_AppendSeq_int 1 Try.f122
theorem ok_slices_AppendSeq_int : OkOwn prog 122 1 F_slices_AppendSeq_int := okOwn' mixed tt_ok vv_ok (ct_seq ok_slices_Values_int_1 ct_nil) 1 (by kernel_rfl) (by kernel_rfl) (by kernel_rfl)
theorem F_slices_AppendSeq_int_eq (x0 : List D) : F_slices_AppendSeq_int [D.nils, D.clo 120 [D.ro [D.sl x0]]] =
  (F_slices_Values_int_1 [D.ro [D.sl x0]]).bind fun (items0 : List (List D)) =>
  bif
      ([{ dst := some 5, op := Op.assign (Operand.tmp 7), type := 3, pos := "iter.go:51", after := #[], guard := none }].all fun (o : Oper) =>
          match lays o with
          | some d => !(List.map (fun (x : Nat × List V) => x.fst) [(2, [V.own 1128])]).contains d
          | none => true) &&
        [{ dst := some 8, op := Op.load 23 (Operand.tmp 2), type := 23, pos := "iter.go:52", after := #[], guard := none },
              { dst := some 9, op := Op.move (Operand.tmp 5), type := 3, pos := "iter.go:52", after := #[], guard := none },
              { dst := some 10, op := Op.buildSlice 23 1 #[(0, Operand.tmp 9)], type := 23, pos := "iter.go:52", after := #[{ on := 1, ground := Ground.data }], guard := none },
              { dst := some 11, op := Op.call { callee := Callee.builtin Builtin.append, args := #[Operand.tmp 8, Operand.tmp 10], argTypes := #[23, 23] }, type := 23,
                pos := "iter.go:52", after := #[{ on := 0, ground := Ground.data }, { on := 2, ground := Ground.data }], guard := none },
              { dst := none, op := Op.store 23 (Operand.tmp 2) (Operand.tmp 11), type := 0, pos := "iter.go:52",
                after :=
                  #[{ on := 3, ground := Ground.data }, { on := 3, ground := Ground.chain }, { on := 0, ground := Ground.phase }, { on := 1, ground := Ground.phase },
                    { on := 2, ground := Ground.phase }, { on := 3, ground := Ground.phase }],
                guard := none }].all
          fun (o : Oper) =>
          match lays o with
          | some d => !(List.map (fun (x : Nat × List V) => x.fst) [(2, [V.own 1128])]).contains d
          | none => true then
    G_slices_AppendSeq_int_r1 items0 x0 []
  else none := by kernel_rfl
theorem G_slices_AppendSeq_int_r1_nil (x0 : List D) (v : List D) : G_slices_AppendSeq_int_r1 [] x0 v =
  some v := by kernel_rfl
theorem G_slices_AppendSeq_int_r1_cons (d0 : D) (rest : List (List D)) (x0 : List D) (v : List D) : G_slices_AppendSeq_int_r1 ([d0] :: rest) x0 v =
  bif
    (match d0 with
      | D.any => false
      | D.tup ds => false
      | D.agg ds => ds.length == 1
      | x => 1 == 1) &&
      true then
  bif ([d0].all fun (x : D) => x.cells.length == 1) && true then
    bif decide ((v.length + [d0].length) * 8 ≤ 140737488355328) then G_slices_AppendSeq_int_r1 rest x0 (v ++ [d0]) else none
  else none
else none := by kernel_rfl
noncomputable def ct_slices_Values_int : CT := look []
noncomputable def F_slices_Values_int : List D → Option (D) := evPure tt vv ct_slices_Values_int A_slices_Values_int Try.f96
theorem ok_slices_Values_int : OkPure prog 96 F_slices_Values_int := okPure' mixed tt_ok vv_ok ct_nil (by kernel_rfl) (by kernel_rfl) (by kernel_rfl)
theorem F_slices_Values_int_eq (x0 : List D) : F_slices_Values_int [D.sl x0] =
  some (D.clo 120 [D.ro [D.sl x0]]) := by kernel_rfl
noncomputable def ct_slices_Collect_int : CT := look [(122, .nown 1 F_slices_AppendSeq_int), (120, .seq F_slices_Values_int_1)]
noncomputable def F_slices_Collect_int : List D → Option (List D) := evOwn tt vv ct_slices_Collect_int A_slices_Collect_int 1 Try.f118
theorem ok_slices_Collect_int : OkOwn prog 118 1 F_slices_Collect_int := okOwn' mixed tt_ok vv_ok (ct_nown ok_slices_AppendSeq_int (ct_seq ok_slices_Values_int_1 ct_nil)) 1 (by kernel_rfl) (by kernel_rfl) (by kernel_rfl)
theorem F_slices_Collect_int_eq (x0 : List D) : F_slices_Collect_int [D.clo 120 [D.ro [D.sl x0]]] =
  (F_slices_AppendSeq_int [D.nils, D.clo 120 [D.ro [D.sl x0]]]).bind fun (xs0 : List D) => some xs0 := by kernel_rfl
noncomputable def ct_slices_Chunk_byte : CT := look []
noncomputable def F_slices_Chunk_byte : List D → Option (D) := evPure tt vv ct_slices_Chunk_byte A_slices_Chunk_byte Try.f90
theorem ok_slices_Chunk_byte : OkPure prog 90 F_slices_Chunk_byte := okPure' mixed tt_ok vv_ok ct_nil (by kernel_rfl) (by kernel_rfl) (by kernel_rfl)
theorem F_slices_Chunk_byte_eq (x0 : List D) (x1 : Int) : F_slices_Chunk_byte [D.sl x0, D.int .i64 x1] =
  bif decide (x1 < 1) then none else some (D.clo 115 [D.ro [D.sl x0], D.ro [D.int IntKind.i64 x1]]) := by kernel_rfl
noncomputable def ct_varint_Put : CT := look [(61, .own 1 F_slices_Clone_byte), (114, .pure F_varint_Size)]
noncomputable def F_varint_Put : List D → Option (List D) := evOwn tt vv ct_varint_Put A_varint_Put 1 Try.f97
theorem ok_varint_Put : OkOwn prog 97 1 F_varint_Put := okOwn' mixed tt_ok vv_ok (ct_own ok_slices_Clone_byte (ct_pure ok_varint_Size ct_nil)) 1 (by kernel_rfl) (by kernel_rfl) (by kernel_rfl)
theorem F_varint_Put_eq (x0 : List D) (x1 : Int) : F_varint_Put [D.sl x0, D.int .i64 x1] =
  (F_slices_Clone_byte [D.sl x0]).bind fun (xs0 : List D) =>
  (F_varint_Size [D.int IntKind.i64 x1]).bind fun (y1 : D) =>
    (binD BinOp.eql y1 (D.int IntKind.i64 4)).bind fun (y2 : D) =>
      y2.asBool.bind fun (b3 : Bool) =>
        bif b3 then
          bif
              decide
                (1 <
                  ((List.replicate 2 (elemZero { kind := TK.one, size := 1, bytes := 1, zero := [Z.d (D.int IntKind.u8 0)] })).set 0
                      (D.int IntKind.u8 (IntKind.u8.wrap (128 + IntKind.u8.wrap (x1.fdiv (2 ^ min (Int.toNat 24) IntKind.i64.bits)))))).length) then
            bif
                ([D.int IntKind.u8 (IntKind.u8.wrap (128 + IntKind.u8.wrap (x1.fdiv (2 ^ min (Int.toNat 24) IntKind.i64.bits)))),
                        D.int IntKind.u8 (IntKind.u8.wrap (x1.fdiv (2 ^ min (Int.toNat 16) IntKind.i64.bits)))].all
                    fun (x : D) => x.cells.length == 1) &&
                  true then
              bif
                  decide
                    ((xs0.length +
                          [D.int IntKind.u8 (IntKind.u8.wrap (128 + IntKind.u8.wrap (x1.fdiv (2 ^ min (Int.toNat 24) IntKind.i64.bits)))),
                              D.int IntKind.u8 (IntKind.u8.wrap (x1.fdiv (2 ^ min (Int.toNat 16) IntKind.i64.bits)))].length) *
                        1 ≤
                      140737488355328) then
                bif decide (x1 < 16384) then
                  bif
                      ([D.int IntKind.u8 (IntKind.u8.wrap (64 + IntKind.u8.wrap (x1.fdiv (2 ^ min (Int.toNat 8) IntKind.i64.bits))))].all fun (x : D) => x.cells.length == 1) &&
                        true then
                    bif
                        decide
                          (((xs0 ++
                                    [D.int IntKind.u8 (IntKind.u8.wrap (128 + IntKind.u8.wrap (x1.fdiv (2 ^ min (Int.toNat 24) IntKind.i64.bits)))),
                                      D.int IntKind.u8 (IntKind.u8.wrap (x1.fdiv (2 ^ min (Int.toNat 16) IntKind.i64.bits)))]).length +
                                [D.int IntKind.u8 (IntKind.u8.wrap (64 + IntKind.u8.wrap (x1.fdiv (2 ^ min (Int.toNat 8) IntKind.i64.bits))))].length) *
                              1 ≤
                            140737488355328) then
                      bif ([D.int IntKind.u8 (IntKind.u8.wrap x1)].all fun (x : D) => x.cells.length == 1) && true then
                        bif
                            decide
                              (((xs0 ++
                                          [D.int IntKind.u8 (IntKind.u8.wrap (128 + IntKind.u8.wrap (x1.fdiv (2 ^ min (Int.toNat 24) IntKind.i64.bits)))),
                                            D.int IntKind.u8 (IntKind.u8.wrap (x1.fdiv (2 ^ min (Int.toNat 16) IntKind.i64.bits)))] ++
                                        [D.int IntKind.u8 (IntKind.u8.wrap (64 + IntKind.u8.wrap (x1.fdiv (2 ^ min (Int.toNat 8) IntKind.i64.bits))))]).length +
                                    [D.int IntKind.u8 (IntKind.u8.wrap x1)].length) *
                                  1 ≤
                                140737488355328) then
                          some
                            (xs0 ++
                                  [D.int IntKind.u8 (IntKind.u8.wrap (128 + IntKind.u8.wrap (x1.fdiv (2 ^ min (Int.toNat 24) IntKind.i64.bits)))),
                                    D.int IntKind.u8 (IntKind.u8.wrap (x1.fdiv (2 ^ min (Int.toNat 16) IntKind.i64.bits)))] ++
                                [D.int IntKind.u8 (IntKind.u8.wrap (64 + IntKind.u8.wrap (x1.fdiv (2 ^ min (Int.toNat 8) IntKind.i64.bits))))] ++
                              [D.int IntKind.u8 (IntKind.u8.wrap x1)])
                        else none
                      else none
                    else none
                  else none
                else
                  bif
                      ([D.int IntKind.u8 (IntKind.u8.wrap (0 + IntKind.u8.wrap (x1.fdiv (2 ^ min (Int.toNat 8) IntKind.i64.bits))))].all fun (x : D) => x.cells.length == 1) &&
                        true then
                    bif
                        decide
                          (((xs0 ++
                                    [D.int IntKind.u8 (IntKind.u8.wrap (128 + IntKind.u8.wrap (x1.fdiv (2 ^ min (Int.toNat 24) IntKind.i64.bits)))),
                                      D.int IntKind.u8 (IntKind.u8.wrap (x1.fdiv (2 ^ min (Int.toNat 16) IntKind.i64.bits)))]).length +
                                [D.int IntKind.u8 (IntKind.u8.wrap (0 + IntKind.u8.wrap (x1.fdiv (2 ^ min (Int.toNat 8) IntKind.i64.bits))))].length) *
                              1 ≤
                            140737488355328) then
                      bif ([D.int IntKind.u8 (IntKind.u8.wrap x1)].all fun (x : D) => x.cells.length == 1) && true then
                        bif
                            decide
                              (((xs0 ++
                                          [D.int IntKind.u8 (IntKind.u8.wrap (128 + IntKind.u8.wrap (x1.fdiv (2 ^ min (Int.toNat 24) IntKind.i64.bits)))),
                                            D.int IntKind.u8 (IntKind.u8.wrap (x1.fdiv (2 ^ min (Int.toNat 16) IntKind.i64.bits)))] ++
                                        [D.int IntKind.u8 (IntKind.u8.wrap (0 + IntKind.u8.wrap (x1.fdiv (2 ^ min (Int.toNat 8) IntKind.i64.bits))))]).length +
                                    [D.int IntKind.u8 (IntKind.u8.wrap x1)].length) *
                                  1 ≤
                                140737488355328) then
                          some
                            (xs0 ++
                                  [D.int IntKind.u8 (IntKind.u8.wrap (128 + IntKind.u8.wrap (x1.fdiv (2 ^ min (Int.toNat 24) IntKind.i64.bits)))),
                                    D.int IntKind.u8 (IntKind.u8.wrap (x1.fdiv (2 ^ min (Int.toNat 16) IntKind.i64.bits)))] ++
                                [D.int IntKind.u8 (IntKind.u8.wrap (0 + IntKind.u8.wrap (x1.fdiv (2 ^ min (Int.toNat 8) IntKind.i64.bits))))] ++
                              [D.int IntKind.u8 (IntKind.u8.wrap x1)])
                        else none
                      else none
                    else none
                  else none
              else none
            else none
          else none
        else
          (binD BinOp.eql y1 (D.int IntKind.i64 2)).bind fun (y4 : D) =>
            y4.asBool.bind fun (b5 : Bool) =>
              bif b5 then
                bif decide (x1 < 16384) then
                  bif
                      ([D.int IntKind.u8 (IntKind.u8.wrap (64 + IntKind.u8.wrap (x1.fdiv (2 ^ min (Int.toNat 8) IntKind.i64.bits))))].all fun (x : D) => x.cells.length == 1) &&
                        true then
                    bif
                        decide
                          ((xs0.length + [D.int IntKind.u8 (IntKind.u8.wrap (64 + IntKind.u8.wrap (x1.fdiv (2 ^ min (Int.toNat 8) IntKind.i64.bits))))].length) * 1 ≤
                            140737488355328) then
                      bif ([D.int IntKind.u8 (IntKind.u8.wrap x1)].all fun (x : D) => x.cells.length == 1) && true then
                        bif
                            decide
                              (((xs0 ++ [D.int IntKind.u8 (IntKind.u8.wrap (64 + IntKind.u8.wrap (x1.fdiv (2 ^ min (Int.toNat 8) IntKind.i64.bits))))]).length +
                                    [D.int IntKind.u8 (IntKind.u8.wrap x1)].length) *
                                  1 ≤
                                140737488355328) then
                          some
                            (xs0 ++ [D.int IntKind.u8 (IntKind.u8.wrap (64 + IntKind.u8.wrap (x1.fdiv (2 ^ min (Int.toNat 8) IntKind.i64.bits))))] ++
                              [D.int IntKind.u8 (IntKind.u8.wrap x1)])
                        else none
                      else none
                    else none
                  else none
                else
                  bif
                      ([D.int IntKind.u8 (IntKind.u8.wrap (0 + IntKind.u8.wrap (x1.fdiv (2 ^ min (Int.toNat 8) IntKind.i64.bits))))].all fun (x : D) => x.cells.length == 1) &&
                        true then
                    bif
                        decide
                          ((xs0.length + [D.int IntKind.u8 (IntKind.u8.wrap (0 + IntKind.u8.wrap (x1.fdiv (2 ^ min (Int.toNat 8) IntKind.i64.bits))))].length) * 1 ≤
                            140737488355328) then
                      bif ([D.int IntKind.u8 (IntKind.u8.wrap x1)].all fun (x : D) => x.cells.length == 1) && true then
                        bif
                            decide
                              (((xs0 ++ [D.int IntKind.u8 (IntKind.u8.wrap (0 + IntKind.u8.wrap (x1.fdiv (2 ^ min (Int.toNat 8) IntKind.i64.bits))))]).length +
                                    [D.int IntKind.u8 (IntKind.u8.wrap x1)].length) *
                                  1 ≤
                                140737488355328) then
                          some
                            (xs0 ++ [D.int IntKind.u8 (IntKind.u8.wrap (0 + IntKind.u8.wrap (x1.fdiv (2 ^ min (Int.toNat 8) IntKind.i64.bits))))] ++
                              [D.int IntKind.u8 (IntKind.u8.wrap x1)])
                        else none
                      else none
                    else none
                  else none
              else
                (binD BinOp.eql y1 (D.int IntKind.i64 1)).bind fun (y6 : D) =>
                  y6.asBool.bind fun (b7 : Bool) =>
                    bif b7 then
                      bif ([D.int IntKind.u8 (IntKind.u8.wrap x1)].all fun (x : D) => x.cells.length == 1) && true then
                        bif decide ((xs0.length + [D.int IntKind.u8 (IntKind.u8.wrap x1)].length) * 1 ≤ 140737488355328) then some (xs0 ++ [D.int IntKind.u8 (IntKind.u8.wrap x1)])
                        else none
                      else none
                    else some xs0 := by kernel_rfl
noncomputable def ct_wire_PutNum : CT := look [(61, .own 1 F_slices_Clone_byte), (107, .pure F_wire_count)]
noncomputable def G_wire_PutNum_0 (x1 : Int) (v : Int) (v_1 : Int) (xs0 : List D) : Option (List D) := loopIn tt vv ct_wire_PutNum A_wire_PutNum Try.f84 [1, 1, 1, 0, 1, 0] 0 (kOwn 1 Try.f84)
  {
  tmps :=
    [V.d D.any, V.d (D.int IntKind.i64 x1), V.d (D.int IntKind.i64 v), V.d D.any, V.d D.any, V.d D.any, V.d D.any, V.own 7, V.d D.any, V.d D.any, V.d D.any, V.d D.any, V.d D.any,
      V.d (D.int IntKind.i64 v), V.d (D.int IntKind.i64 v_1), V.d D.any, V.d D.any, V.d D.any, V.d D.any, V.d D.any, V.d D.any, V.d D.any, V.d D.any, V.d D.any, V.d D.any,
      V.d D.any, V.d D.any, V.d D.any, V.d D.any, V.d D.any],
  boxes := [], toks := [{ id := 7, wr := true, sz := 1, xs := xs0 }] }
noncomputable def F_wire_PutNum : List D → Option (List D) := evOwn tt vv ct_wire_PutNum A_wire_PutNum 1 Try.f84
theorem ok_wire_PutNum : OkOwn prog 84 1 F_wire_PutNum := okOwn' mixed tt_ok vv_ok (ct_own ok_slices_Clone_byte (ct_pure ok_wire_count ct_nil)) 1 (by kernel_rfl) (by kernel_rfl) (by kernel_rfl)
theorem F_wire_PutNum_eq (x0 : List D) (x1 : Int) (x2 : Int) : F_wire_PutNum [D.sl x0, D.int .i64 x1, D.int .i64 x2] =
  (F_slices_Clone_byte [D.sl x0]).bind fun (xs0 : List D) => G_wire_PutNum_0 x1 (if 1 < if 4 < x2 then 4 else x2 then if 4 < x2 then 4 else x2 else 1) 0 xs0 := by kernel_rfl
theorem G_wire_PutNum_0_eq (x1 : Int) (v : Int) (v_1 : Int) (xs0 : List D) : G_wire_PutNum_0 x1 v v_1 xs0 =
  bif decide (v_1 < v) then
  (binD BinOp.shr (D.int IntKind.i64 x1) (D.int IntKind.i64 (IntKind.i64.wrap (8 * IntKind.i64.wrap (IntKind.i64.wrap (v - 1) - v_1))))).bind fun (y0 : D) =>
    (convD (Conv.int IntKind.u8) y0).bind fun (y1 : D) =>
      bif
          (match y1 with
            | D.any => false
            | D.tup ds => false
            | D.agg ds => ds.length == 1
            | x => 1 == 1) &&
            true then
        bif ([y1].all fun (x : D) => x.cells.length == 1) && true then
          bif decide ((xs0.length + [y1].length) * 1 ≤ 140737488355328) then G_wire_PutNum_0 x1 v (IntKind.i64.wrap (v_1 + 1)) (xs0 ++ [y1]) else none
        else none
      else none
else some xs0 := (loopIn_eq ..).trans (by kernel_rfl)
noncomputable def ct_wire_PutBytes : CT := look [(61, .own 1 F_slices_Clone_byte), (97, .own 1 F_varint_Put)]
noncomputable def F_wire_PutBytes : List D → Option (List D) := evOwn tt vv ct_wire_PutBytes A_wire_PutBytes 1 Try.f63
theorem ok_wire_PutBytes : OkOwn prog 63 1 F_wire_PutBytes := okOwn' mixed tt_ok vv_ok (ct_own ok_slices_Clone_byte (ct_own ok_varint_Put ct_nil)) 1 (by kernel_rfl) (by kernel_rfl) (by kernel_rfl)
theorem F_wire_PutBytes_eq (x0 : List D) (x1 : List D) : F_wire_PutBytes [D.sl x0, D.sl x1] =
  bif decide (ofN x1.length > 1048576) then (F_slices_Clone_byte [D.sl x0]).bind fun (xs0 : List D) => some xs0
else
  (F_varint_Put [D.sl x0, D.int IntKind.i64 (ofN x1.length)]).bind fun (xs1 : List D) =>
    bif (x1.all fun (x : D) => x.cells.length == 1) && true then bif decide ((xs1.length + x1.length) * 1 ≤ 140737488355328) then some (xs1 ++ x1) else none else none := by kernel_rfl
noncomputable def ct_wire_PutNums : CT := look [(84, .own 1 F_wire_PutNum), (63, .own 1 F_wire_PutBytes)]
noncomputable def G_wire_PutNums_0 (x0 : List D) (x1 : List D) (v : Int) (v_1 : Int) (xs2 : List D) : Option (List D) := loopIn tt vv ct_wire_PutNums A_wire_PutNums Try.f62 [1, 1, 0, 1, 0] 0 (kOwn 1 Try.f62)
  {
  tmps :=
    [V.d (D.sl x0), V.d D.any, V.d D.any, V.d D.any, V.d D.any, V.own 5, V.d D.any, V.d D.any, V.d (D.sl x1), V.d (D.int IntKind.i64 v), V.d (D.int IntKind.i64 v_1), V.d D.any,
      V.d D.any, V.d D.any, V.d D.any, V.d D.any, V.d D.any, V.d D.any, V.d D.any, V.d D.any, V.d D.any],
  boxes := [], toks := [{ id := 5, wr := true, sz := 1, xs := xs2 }] }
noncomputable def F_wire_PutNums : List D → Option (List D) := evOwn tt vv ct_wire_PutNums A_wire_PutNums 1 Try.f62
theorem ok_wire_PutNums : OkOwn prog 62 1 F_wire_PutNums := okOwn' mixed tt_ok vv_ok (ct_own ok_wire_PutNum (ct_own ok_wire_PutBytes ct_nil)) 1 (by kernel_rfl) (by kernel_rfl) (by kernel_rfl)
theorem F_wire_PutNums_eq (x0 : List D) (x1 : List D) : F_wire_PutNums [D.sl x0, D.sl x1] =
  G_wire_PutNums_0 x0 x1 (ofN x1.length) 0 [] := by kernel_rfl
theorem G_wire_PutNums_0_eq (x0 : List D) (x1 : List D) (v : Int) (v_1 : Int) (xs2 : List D) : G_wire_PutNums_0 x0 x1 v v_1 xs2 =
  bif decide (v_1 < v) then
  (D.elemPtr 1 (D.sl x1) v_1).bind fun (y0 : D) =>
    (D.loadRo false 1 y0).bind fun (y1 : D) =>
      (F_wire_PutNum [D.sl xs2, y1, D.int IntKind.i64 4]).bind fun (xs2 : List D) => G_wire_PutNums_0 x0 x1 v (IntKind.i64.wrap (v_1 + 1)) xs2
else (F_wire_PutBytes [D.sl x0, D.sl xs2]).bind fun (xs3 : List D) => some xs3 := (loopIn_eq ..).trans (by kernel_rfl)
end Go.Proofs.Ytcnedmkfcbcjkaa.Ra
